/- The abstract evaluator: each operation that it does stands for the model's own. Part 6: append, copy. -/
import Derived.Test.YtkmjbiabhpfbpaaGreatDoorAe8
namespace Go.Ae
open Go Go.RowKit
set_option linter.unusedSectionVars false
variable [Ask]

section
variable {P : Program} {G : Nat} {B : Kp} {em : Emb} {h : AHeap} {w : World}

theorem read0 {b off : Nat} {l : List Value} (hr : h.read b off 0 = some l) : l = [] := by
  unfold AHeap.read at hr
  split at hr
  · simp [readCells] at hr; exact hr
  · cases hr

theorem srcA_run (H : WRel G B em h w) {size most n : Nat} {x x' : Value} {l : List Value} (hs : srcA size most x h = some (n, l)) (hx : VRel em x x') :
    ∃ N l', (∀ w, (Builtin.lenOf x').run P w = .ok N w) ∧ n = Nat.min N most ∧ VsRel em l l' ∧ ∀ w' : World, (∀ a, w'.cell? a = w.cell? a) → (Builtin.firstCells size n x').run P w' = .ok l'.toArray w' := by
  unfold srcA at hs
  split at hs
  · rename_i a k c
    obtain ⟨l0, hl, e⟩ := Option.map_eq_some_iff.1 hs
    cases e
    rcases slice_inv hx with ⟨b, off, cb, co, cap, rfl, hat, _, _, _, rfl⟩ | ⟨b, off, A, cap, rfl, rfl, rfl, rfl⟩
    · obtain ⟨hlen, l', hrel, hget⟩ := H.read_at hl hat
      refine ⟨k, l', fun w => rfl, rfl, hrel, fun w' hw' => ?_⟩
      exact run_firstCells_some w' size _ _ _ _ l' (by rw [← hrel.length, hlen]) (fun j v hj => by rw [hw']; exact hget j v hj)
    · have h0 : Nat.min 0 most = 0 := Nat.zero_min _
      rw [h0, Nat.zero_mul] at hl
      have := read0 hl; subst this
      refine ⟨0, [], fun w => rfl, rfl, .nil, fun w' hw' => ?_⟩
      rw [h0]
      exact run_firstCells_some w' size 0 A 0 cap [] (by simp) (by simp)
  · rename_i k c
    obtain ⟨rfl, rfl, rfl⟩ := snil_inv hx
    cases hs
    exact ⟨0, [], fun w => rfl, rfl, .nil, fun w' _ => run_firstCells_none w' size _ 0 0⟩
  · rename_i s
    rw [Bool.cond_eq_ite] at hs
    split at hs
    · rename_i hsz
      have hsz : size = 1 := Nat.eq_of_beq_eq_true hsz
      subst hsz
      cases hs
      rw [string_inv hx]
      refine ⟨s.size, _, fun w => rfl, rfl, VsRel.map (em := em) _ _ _ (fun b _ => .int _ _), fun w' _ => ?_⟩
      have e : ((s.extract 0 (s.size.min most)).data.map fun (b : UInt8) => Value.int .u8 b.toNat) = ((s.extract 0 (s.size.min most)).data.toList.map fun (b : UInt8) => Value.int .u8 b.toNat).toArray := by
        apply Array.ext'; simp only [Array.toList_map]
      simp only [Builtin.firstCells, Sem.run_pure]
      exact congrArg (fun x => Result.ok x w') e
    · cases hs
  · cases hs

/-- The old cells are there, whatever is known of them. -/
theorem olds_there {a : Addr} : ∀ (k : Nat), (∀ j, j < k → (w.cell? (a.add j)).isSome = true) → ∃ l : List Value, l.length = k ∧ ∀ j v, l[j]? = some v → w.cell? (a.add j) = some v
  | 0, _ => ⟨[], rfl, by simp⟩
  | k + 1, hk => by
    obtain ⟨l, h1, h2⟩ := olds_there k fun j hj => hk j (by omega)
    obtain ⟨u, hu⟩ := Option.isSome_iff_exists.1 (hk k (by omega))
    refine ⟨l ++ [u], by simp [h1], ?_⟩
    intro j v hj
    by_cases hjk : j < k
    · rw [List.getElem?_append_left (by omega)] at hj; exact h2 j v hj
    · have : j = k := by
        have := (List.getElem?_eq_some_iff.1 hj).1
        simp [h1] at this; omega
      subst this
      rw [List.getElem?_append_right (by omega)] at hj
      simp [h1] at hj; subst hj; exact hu

theorem roomA_run {elem : TypeId} {need : Nat} (hr : roomA P elem need = true) : ∃ i, P.info? elem = some i ∧ need ≤ 1099511627776 ∧ need * i.bytes ≤ 140737488355328 := by
  unfold roomA at hr
  split at hr
  · rename_i i hi
    simp only [Bool.and_eq_true] at hr
    exact ⟨i, hi, Nat.le_of_ble_eq_true hr.1, Nat.le_of_ble_eq_true hr.2⟩
  · cases hr

theorem plainArg_run {xts : List TypeId} (hp : plainArg P xts = true) : xts[0]? = none ∨ ∃ xt d, xts[0]? = some xt ∧ P.underlying xt = some d ∧ ∀ k, d ≠ .int k := by
  unfold plainArg at hp
  split at hp
  · exact .inl rfl
  · rename_i xt rest
    split at hp
    · cases hp
    · rename_i d hno hu
      exact .inr ⟨xt, d, rfl, hu, fun k e => hno k e⟩
    · cases hp

set_option maxHeartbeats 2000000 in
/-- What append comes to, the source read. -/
theorem append_eq {st elem : TypeId} {xts : List TypeId} {argTypes : Array TypeId} {args : Array Value} {base : Option Addr} {len cap n size : Nat} {x : Value} {rest : List Value} {ty : TypeId} {l : List Value}
    (hat : argTypes.toList = st :: xts) (ha : args.toList = .slice base len cap :: x :: rest) (hu : P.underlying st = some (.slice elem)) (hsz : sizeA P elem = some size) (hp : plainArg P xts = true)
    (hlen : ∀ w, (Builtin.lenOf x).run P w = .ok n w) (hf : ∀ w' : World, (∀ a, w'.cell? a = w.cell? a) → (Builtin.firstCells size n x).run P w' = .ok l.toArray w') :
    (len + n ≤ cap → base = none → (Builtin.append_ argTypes ty args).run P w = .ok (.slice base (len + n) cap) w) ∧
    (len + n ≤ cap → ∀ a, base = some a → ∀ w2, (storeCells (a.add (len * size)) l).run P w = .ok () w2 → (Builtin.append_ argTypes ty args).run P w = .ok (.slice base (len + n) cap) w2) ∧
    (¬ (len + n ≤ cap) → ∀ (z : Value) (olds : List Value), zeroA P elem = some z → roomA P elem (len + n) = true → (∀ w' : World, (∀ a, w'.cell? a = w.cell? a) → (Builtin.firstCells size len (.slice base len cap)).run P w' = .ok olds.toArray w') →
      (Builtin.append_ argTypes ty args).run P w = .ok (.slice (some ⟨w.heap.size, 0, none⟩) (len + n) (grownCap w (len + n) cap elem))
        (w.drew.alloc (.cells (olds.toArray ++ (l.toArray ++ Builtin.zeroCells z.cells (grownCap w (len + n) cap elem - (len + n)))) elem))) := by
  have g0 : argTypes[0]? = some st := by rw [← Array.getElem?_toList, hat]; rfl
  have g1 : argTypes[1]? = xts[0]? := by rw [← Array.getElem?_toList, hat]; rfl
  have a0 : args[0]? = some (.slice base len cap) := by rw [← Array.getElem?_toList, ha]; rfl
  have a1 : args[1]? = some x := by rw [← Array.getElem?_toList, ha]; rfl
  refine ⟨?_, ?_, ?_⟩
  · intro hroom hb
    subst hb
    simp only [Builtin.append_, g0, g1, a0, a1, Sem.run_bind, run_underlying hu, Result.andThen_ok, sizeA_run hsz]
    rcases plainArg_run hp with hx1 | ⟨xt, d, hx1, hxu, hd⟩
    · rw [hx1]; simp [hlen, hroom, hf w (fun _ => rfl)]
    · rw [hx1]
      cases d <;> first | exact absurd rfl (hd _) | simp [run_underlying hxu, hlen, hroom, hf w (fun _ => rfl)]
  · intro hroom a hb w2 hst
    subst hb
    simp only [Builtin.append_, g0, g1, a0, a1, Sem.run_bind, run_underlying hu, Result.andThen_ok, sizeA_run hsz]
    rcases plainArg_run hp with hx1 | ⟨xt, d, hx1, hxu, hd⟩
    · rw [hx1]; simp [hlen, hroom, hf w (fun _ => rfl), hst]
    · rw [hx1]
      cases d <;> first | exact absurd rfl (hd _) | simp [run_underlying hxu, hlen, hroom, hf w (fun _ => rfl), hst]
  · intro hroom z olds hz hr ho
    obtain ⟨i, hi, hn, hbytes⟩ := roomA_run hr
    obtain ⟨hzr, _⟩ := zeroA_run hz
    have h63' : ¬ (9223372036854775807 < ((len : Int) + (n : Int))) := by omega
    have h48' : ¬ (281474976710656 < Builtin.nextslicecap (len + n) cap * i.bytes) := by
      have := growslice_fits (need := len + n) (old := cap) (bytes := i.bytes) (by omega) hbytes; omega
    have e1 : len + n - (len + n) = 0 := by omega
    simp only [Builtin.append_, g0, g1, a0, a1, Sem.run_bind, run_underlying hu, Result.andThen_ok, sizeA_run hsz]
    rcases plainArg_run hp with hx1 | ⟨xt, d, hx1, hxu, hd⟩
    · rw [hx1]; simp [hlen, hroom, run_typeInfo hi, h63', h48', Question.forced, hf w.drew (fun _ => rfl), ho w.drew (fun _ => rfl), hzr, newRow, grownCap]
    · rw [hx1]
      cases d <;> first | exact absurd rfl (hd _) | simp [run_underlying hxu, hlen, hroom, run_typeInfo hi, h63', h48', Question.forced, hf w.drew (fun _ => rfl), ho w.drew (fun _ => rfl), hzr, newRow, grownCap]

theorem zeroCells_size (z : Array Value) (n : Nat) : (Builtin.zeroCells z n).size = n * z.size := by simp [Builtin.zeroCells]

/-- Of the first n cells of a row: what stands there is known of those of which the heap knows. -/
theorem WRel.sub (H : WRel G B em h w) {h' : AHeap} (hn : h'.next = h.next) (hs : ∀ b o, h'.objs.get b = some o → h.objs.get b = some o) : WRel G B em h' w where
  dom b x hb := by rw [hn]; exact H.dom b x hb
  glob := H.glob
  base := H.base
  fix b c n z hb := H.fix b c n z (hs _ _ hb)
  cells b c n z ro hb := H.cells b c n z ro (hs _ _ hb)
  maps r es ck hr := H.maps r es ck (hs _ _ hr)
  iters r s p hr := H.iters r s p (hs _ _ hr)
  sep b c n z b2 c2 n2 z2 ro2 i j cb co co2 hb hb2 := H.sep b c n z b2 c2 n2 z2 ro2 i j cb co co2 (hs _ _ hb) (hs _ _ hb2)
  own r o r2 o2 cb co co2 hr hr2 := H.own r o r2 o2 cb co co2 (hs _ _ hr) (hs _ _ hr2)

structure AppOk (G : Nat) (B : Kp) (w : World) (em : Emb) (v : Value) (h' : AHeap) (run : Result Value) : Prop where
  ok : ∃ em' w' v', em.Le em' ∧ WRel G B em' h' w' ∧ Kept B w w' ∧ VRel em' v v' ∧ run = .ok v' w'

/-- A row grown into a new one; what is known of it in a tree. -/
theorem grow_new (H : WRel G B em h w) {elem : TypeId} {size need cap : Nat} {c : Tr Value} {k : Nat} {all zs : List Value} {run : Result Value}
    (hz : zs.length = (cap - need) * size) (hcap : need ≤ cap) (hlen : all.length = need * size) (hk : k = need * size)
    (hc : ∀ i v, c.get i = some v → i < k ∧ ∃ v', all[i]? = some v' ∧ VRel em v v') {arr : Array Value} (ha : arr.toList = all ++ zs)
    (hr : run = .ok (.slice (some ⟨w.heap.size, 0, none⟩) need cap) (w.drew.alloc (.cells arr elem))) :
    AppOk G B w em (.slice (some ⟨h.next, 0, none⟩) need (2 * need + 1)) (h.new (.cells c k size false)) run := by
  have hsz : arr.size = cap * size := by
    rw [← Array.length_toList, ha, List.length_append, hz, hlen, ← Nat.add_mul]; congr 1; omega
  have hg : Grew w (w.drew.alloc (.cells arr elem)) := Grew.drew_alloc w _
  obtain ⟨H', hle⟩ := (H.grew hg).add (o := .cells c k size false) (nb := w.heap.size) (ext := arr.size) (z := size) H.room (by simp) (fun b x co hb hat => absurd (H.lt hb hat) (Nat.lt_irrefl _))
    (by
      intro c' n z' ro e
      cases e
      have hcell : ∀ i, (w.drew.alloc (.cells arr elem)).cell? ⟨w.heap.size, i, none⟩ = arr[i]? := fun i => World.cell?_alloc_new w.drew arr elem i
      refine ⟨rfl, by rw [hsz, hk]; exact Nat.mul_le_mul_right _ hcap, ?_, fun i hi => ⟨by rw [hcell]; simp [hi], World.frozen?_alloc_new w.drew arr elem i⟩⟩
      intro i v hi
      obtain ⟨h1, v', h2, h3⟩ := hc i v hi
      refine ⟨h1, v', ?_, h3⟩
      rw [hcell, ← Array.getElem?_toList, ha, List.getElem?_append_left (List.getElem?_eq_some_iff.1 h2).1]
      exact h2)
    (by intro es ck e; cases e) (by intro s p e; cases e)
  refine ⟨_, _, _, hle, H', (Kept.refl _ _).drew.alloc H.base _, ?_, hr⟩
  have := VRel.slice (em := em.put h.next (w.heap.size, 0) arr.size size) (b := h.next) (cb := w.heap.size) (co := 0) (c := 2 * need + 1) (cap := cap) (len := need) 0 (by simp [Emb.put])
    (by unfold capRel; rw [if_neg (by omega)]; omega) hcap (by simp [Emb.put, hsz])
  simpa using this

end
end Go.Ae
