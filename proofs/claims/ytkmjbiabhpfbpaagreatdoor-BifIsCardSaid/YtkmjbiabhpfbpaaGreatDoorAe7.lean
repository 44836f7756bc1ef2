/- The abstract evaluator: each operation that it does stands for the model's own. Part 4: operators, conversions, slices, iterators, assertions. -/
import Derived.Test.YtkmjbiabhpfbpaaGreatDoorAe6
import Derived.Laws.IdiomStrings
import Derived.Laws.BytesString
namespace Go.Ae
open Go Go.RowKit
set_option linter.unusedSectionVars false
variable [Ask]

section
variable {P : Program} {G : Nat} {B : Kp} {em : Emb} {h : AHeap} {w : World} {ρ ρ' : Operand → Value} {o : Oper} {r : ORes}

theorem equal_run {t : TypeId} {x y : Value} {b : Bool} (w : World) (hr : (Op.equalIn (9999 + 1) t x y).run P w = .ok b w)
    (h1 : binOp .eql t x y = (do pure (.bool (← Op.equal t x y)))) (h2 : binOp .neq t x y = (do pure (.bool (!(← Op.equal t x y))))) :
    (binOp .eql t x y).run P w = .ok (.bool b) w ∧ (binOp .neq t x y).run P w = .ok (.bool (!b)) w := by
  have e : (Op.equal t x y).run P w = .ok b w := hr
  constructor
  · rw [h1]; simp only [Sem.run_bind, e, Result.andThen_ok, Sem.run_pure]
  · rw [h2]; simp only [Sem.run_bind, e, Result.andThen_ok, Sem.run_pure]

theorem eqA_run {op : BinOp} {t : TypeId} {ox oy : Operand} {x y x' y' : Value} {b : Bool} (he : eqA P t x y = some b) (hx : VRel em x x') (hy : VRel em y y') (w : World) :
    b = false ∧ eqGuard op t ox oy x' y' = pure () ∧ (binOp .eql t x' y').run P w = .ok (.bool false) w ∧ (binOp .neq t x' y').run P w = .ok (.bool true) w := by
  unfold eqA at he
  split at he
  · rename_i hu; cases he
    rw [pnil_inv hx]; obtain ⟨_, _, _, _, _, _, rfl⟩ := ptr_inv hy
    refine ⟨rfl, by cases op <;> rfl, equal_run (b := false) w ?_ rfl rfl⟩
    unfold Op.equalIn; simp [run_underlying hu]
  · rename_i hu; cases he
    rw [pnil_inv hy]; obtain ⟨_, _, _, _, _, _, rfl⟩ := ptr_inv hx
    refine ⟨rfl, by cases op <;> rfl, equal_run (b := false) w ?_ rfl rfl⟩
    unfold Op.equalIn; simp [run_underlying hu]
  · rename_i hu; cases he
    obtain ⟨rfl, rfl, rfl⟩ := snil_inv hx
    rcases slice_inv hy with ⟨_, _, _, _, _, _, _, _, _, _, rfl⟩ | ⟨_, _, _, _, _, _, _, rfl⟩
    all_goals
      refine ⟨rfl, by cases op <;> rfl, equal_run (b := false) w ?_ rfl rfl⟩
      unfold Op.equalIn; simp [run_underlying hu]
  · rename_i hu; cases he
    obtain ⟨rfl, rfl, rfl⟩ := snil_inv hy
    rcases slice_inv hx with ⟨_, _, _, _, _, _, _, _, _, _, rfl⟩ | ⟨_, _, _, _, _, _, _, rfl⟩
    all_goals
      refine ⟨rfl, by cases op <;> rfl, equal_run (b := false) w ?_ rfl rfl⟩
      unfold Op.equalIn; simp [run_underlying hu]
  · rename_i hu; cases he
    rw [mnil_inv hx]; obtain ⟨_, _, rfl⟩ := map_inv hy
    refine ⟨rfl, by cases op <;> rfl, equal_run (b := false) w ?_ rfl rfl⟩
    unfold Op.equalIn; simp [run_underlying hu]
  · rename_i hu; cases he
    rw [mnil_inv hy]; obtain ⟨_, _, rfl⟩ := map_inv hx
    refine ⟨rfl, by cases op <;> rfl, equal_run (b := false) w ?_ rfl rfl⟩
    unfold Op.equalIn; simp [run_underlying hu]
  · rename_i hu; cases he
    cases hx; obtain ⟨_, _, _, _, rfl⟩ := func_inv hy
    refine ⟨rfl, by cases op <;> rfl, equal_run (b := false) w ?_ rfl rfl⟩
    unfold Op.equalIn; simp [run_underlying hu]
  · rename_i hu; cases he
    cases hy; obtain ⟨_, _, _, _, rfl⟩ := func_inv hx
    refine ⟨rfl, by cases op <;> rfl, equal_run (b := false) w ?_ rfl rfl⟩
    unfold Op.equalIn; simp [run_underlying hu]
  · rename_i hu; cases he
    cases hx; obtain ⟨_, _, rfl⟩ := iface_inv hy
    refine ⟨rfl, by cases op <;> rfl, equal_run (b := false) w ?_ rfl rfl⟩
    unfold Op.equalIn; simp [run_underlying hu]
  · rename_i hu; cases he
    cases hy; obtain ⟨_, _, rfl⟩ := iface_inv hx
    refine ⟨rfl, by cases op <;> rfl, equal_run (b := false) w ?_ rfl rfl⟩
    unfold Op.equalIn; simp [run_underlying hu]
  · cases he

theorem op_binOp (H : WRel G B em h w) {op : BinOp} {t ty : TypeId} {x y : Operand} (ho : o.op = .binOp op t x y ty) (hx : VRel em (ρ x) (ρ' x)) (hy : VRel em (ρ y) (ρ' y)) (hop : opA0 P ρ o h = some r) :
    OpOk G B em h w ((execOp ρ' o).run P w) r := by
  simp only [opA0, ho] at hop
  rw [Bool.cond_eq_ite] at hop
  split at hop
  · rename_i hg
    simp only [Bool.and_eq_true] at hg
    have ex := groundKey_eq hx hg.1
    have ey := groundKey_eq hy hg.2
    obtain ⟨v, hv, hop⟩ := Option.bind_eq_some_iff.1 hop
    refine groundRes_ok H hop rfl ?_
    have := pureRun_run P _ _ hv w
    simp only [execOp, ho, ex, ey, Sem.run_bind] at this ⊢
    rw [this]; rfl
  · split at hop
    · obtain ⟨b, hb, rfl⟩ := Option.map_eq_some_iff.1 hop
      obtain ⟨rfl, h1, h2, _⟩ := eqA_run (op := .eql) (ox := x) (oy := y) hb hx hy w
      refine .here H (.bool _) ?_
      simp only [execOp, ho, h1, Sem.run_bind, Sem.run_pure, Result.andThen_ok, h2]
    · obtain ⟨b, hb, rfl⟩ := Option.map_eq_some_iff.1 hop
      obtain ⟨rfl, h1, _, h2⟩ := eqA_run (op := .neq) (ox := x) (oy := y) hb hx hy w
      refine .here H (.bool _) ?_
      simp only [execOp, ho, h1, Sem.run_bind, Sem.run_pure, Result.andThen_ok, h2]
      rfl
    · cases hop

theorem op_unOp (H : WRel G B em h w) {op : UnOp} {t : TypeId} {x : Operand} (ho : o.op = .unOp op t x) (hx : VRel em (ρ x) (ρ' x)) (hop : opA0 P ρ o h = some r) :
    OpOk G B em h w ((execOp ρ' o).run P w) r := by
  simp only [opA0, ho] at hop
  rw [Bool.cond_eq_ite] at hop
  split at hop
  · rename_i hg
    have ex := hx.ground hg
    obtain ⟨v, hv, hop⟩ := Option.bind_eq_some_iff.1 hop
    refine groundRes_ok H hop rfl ?_
    simp only [execOp, ho, ex, Sem.run_bind, pureRun_run P _ _ hv w, Result.andThen_ok]
    rfl
  · cases hop

theorem bytesA_ints {l : List Value} {bs : List UInt8} (hb : bytesA l = some bs) : ∃ ns : List Int, l = ns.map (Value.int .u8) ∧ bs = ns.map fun n => UInt8.ofNat n.toNat := by
  induction l generalizing bs with
  | nil => simp [bytesA] at hb; subst hb; exact ⟨[], rfl, rfl⟩
  | cons v l ih =>
    unfold bytesA at hb
    split at hb
    · rename_i heq; cases heq
    · rename_i n l' heq
      cases heq
      obtain ⟨bs', h1, rfl⟩ := Option.map_eq_some_iff.1 hb
      obtain ⟨ns, rfl, rfl⟩ := ih h1
      exact ⟨n :: ns, rfl, rfl⟩
    · cases hb
theorem ints_rel {ns : List Int} {k : IntKind} {l' : List Value} (hr : VsRel em (ns.map (Value.int k)) l') : l' = ns.map (Value.int k) :=
  hr.ground (by simp [Ae.ground])
theorem foldl_push (ns : List Int) : ∀ (b : ByteArray), ns.foldl (fun (r : ByteArray) n => r.push (UInt8.ofNat n.toNat)) b = ⟨b.data ++ (ns.map fun n => UInt8.ofNat n.toNat).toArray⟩ := by
  induction ns with
  | nil => intro b; simp
  | cons n ns ih => intro b; simp only [List.foldl_cons, ih]; simp [ByteArray.push]

theorem op_convert (H : WRel G B em h w) {src dst : TypeId} {x : Operand} (ho : o.op = .convert src dst x) (hx : VRel em (ρ x) (ρ' x)) (hop : opA0 P ρ o h = some r) :
    OpOk G B em h w ((execOp ρ' o).run P w) r := by
  simp only [opA0, ho] at hop
  split at hop
  · rename_i e s hs hd hv
    rw [hv] at hx
    split at hop
    · rename_i he
      cases hop
      have hrun := run_bytes_of_string (P := P) w src dst e s hs hd he
      have hb : (bytesRow s (grownCap w s.size 0 e)).toList = (s.data.toList.map fun (b : UInt8) => Value.int .u8 b.toNat) ++ (Array.replicate (grownCap w s.size 0 e - s.size) (Value.int .u8 0)).toList := by
        simp [bytesRow]
      have hsz : (bytesRow s (grownCap w s.size 0 e)).size = grownCap w s.size 0 e := by
        have := grownCap_ge w s.size 0 e
        have h1 : s.data.size = s.size := rfl
        simp [bytesRow]; omega
      generalize hA : bytesRow s (grownCap w s.size 0 e) = arr at hrun hb hsz
      have hge := grownCap_ge w s.size 0 e
      -- the row lies frozen behind its end alone
      have hg : Grew w (w.drew.alloc (.cells arr e (arr.size, arr.size + 1))) := Grew.drew_alloc w _
      have hcell : ∀ i, (w.drew.alloc (.cells arr e (arr.size, arr.size + 1))).cell? ⟨w.heap.size, i, none⟩ = arr[i]? := fun i => World.cell?_alloc_mark w.drew arr e _ i
      have hfr : ∀ i, i < arr.size → (w.drew.alloc (.cells arr e (arr.size, arr.size + 1))).frozen? ⟨w.heap.size, i, none⟩ = false := fun i hi => by
        have := World.frozen?_alloc_mark w.drew arr e arr.size (arr.size + 1) i
        rw [World.size_drew] at this
        rw [this]; simp; omega
      have hrel : VsRel em (s.data.toList.map fun (b : UInt8) => Value.int .u8 b.toNat) (s.data.toList.map fun (b : UInt8) => Value.int .u8 b.toNat) := VsRel.map _ _ _ fun b _ => .int _ _
      obtain ⟨H', hle⟩ := (H.grew hg).add (o := .cells (Tr.of (s.data.toList.map fun (b : UInt8) => Value.int .u8 b.toNat)) (s.data.toList.map fun (b : UInt8) => Value.int .u8 b.toNat).length 1 false)
        (nb := w.heap.size) (ext := arr.size) (z := 1) H.room (by simp) (fun b x co hb hat => absurd (H.lt hb hat) (Nat.lt_irrefl _))
        (by
          intro c n z' ro e'
          cases e'
          refine ⟨rfl, by rw [← Array.length_toList, hb]; simp, ?_, fun i hi => ⟨by rw [hcell]; simp [hi], hfr i hi⟩⟩
          intro i v hi
          rw [Tr.get_of] at hi
          have hlt := (List.getElem?_eq_some_iff.1 hi).1
          refine ⟨hlt, v, ?_, ?_⟩
          · rw [hcell, ← Array.getElem?_toList, hb, List.getElem?_append_left hlt]; exact hi
          · obtain ⟨v', h1, h2⟩ := hrel.get hi
            rw [hi] at h1; cases h1; exact h2)
        (by intro es ck e'; cases e') (by intro s p e'; cases e')
      refine .val hle H' ((Kept.refl _ _).drew.alloc H.base _) (v' := .slice (some ⟨w.heap.size, 0, none⟩) s.size (grownCap w s.size 0 e)) ?_ ?_
      · have := VRel.slice (em := em.put h.next (w.heap.size, 0) arr.size 1) (b := h.next) (cb := w.heap.size) (co := 0) (c := 2 * s.size + 1) (cap := grownCap w s.size 0 e) (len := s.size) 0 (by simp [Emb.put])
          (by unfold capRel; rw [if_neg (by omega)]; omega) hge (by simp [Emb.put]; omega)
        simpa using this
      · simp only [execOp, ho, string_inv hx, Sem.run_bind, hrun, Result.andThen_ok]
        rfl
    · cases hop
  · rename_i e a1 a2 hs hd hv
    rw [hv] at hx
    split at hop
    · rename_i he
      cases hop
      obtain ⟨rfl, rfl, ex⟩ := snil_inv hx
      refine .here H (.string _) ?_
      simp only [execOp, ho, ex, Sem.run_bind, run_convert_bytes_string w src dst e none 0 0 hs he hd, Conv.bytesToString, Sem.run_pure, Result.andThen_ok]
    · cases hop
  · rename_i e a len c hs hd hv
    rw [hv] at hx
    split at hop
    · rename_i he
      obtain ⟨l, hl, hop⟩ := Option.bind_eq_some_iff.1 hop
      obtain ⟨bs, hbs, rfl⟩ := Option.map_eq_some_iff.1 hop
      obtain ⟨ns, rfl, rfl⟩ := bytesA_ints hbs
      rcases slice_inv hx with ⟨b, off, cb, co, cap, rfl, hat, _, _, _, ex⟩ | ⟨b, off, A, cap, rfl, rfl, rfl, ex⟩
      · obtain ⟨hlen, l', hrel, hget⟩ := H.read_at hl hat
        have el := ints_rel hrel; subst el
        have hll := run_loadCells_list (P := P) w ⟨cb, co + off, none⟩ _ hget
        rw [hlen] at hll
        refine .here H (.string _) ?_
        simp only [execOp, ho, ex, Sem.run_bind, run_convert_bytes_string w src dst e _ _ _ hs he hd, run_bytesToString w _ _ _ ns hll, Result.andThen_ok]
        rw [foldl_push]
        simp
      · obtain ⟨cb, co, hat, hlen, _⟩ := H.read hl
        have : ns = [] := by simpa using hlen
        subst this
        refine .here H (.string _) ?_
        have hll : (loadCells A 0).run P w = .ok (([] : List Int).map (Value.int .u8)).toArray w := by simp [loadCells, loadCellsFrom]
        simp only [execOp, ho, ex, Sem.run_bind, run_convert_bytes_string w src dst e _ _ _ hs he hd, run_bytesToString w _ _ _ [] hll, Result.andThen_ok]
        rfl
    · cases hop
  · rename_i d1 d2 v hs hd hno1 hno2 hno3
    rw [Bool.cond_eq_ite] at hop
    split at hop
    · rename_i hg
      have ex := hx.ground hg
      obtain ⟨v', hv', hop⟩ := Option.bind_eq_some_iff.1 hop
      refine groundRes_ok H hop rfl ?_
      simp only [execOp, ho, ex, Sem.run_bind, pureRun_run P _ _ hv' w, Result.andThen_ok]
      rfl
    · cases hop
  · cases hop

theorem op_makeMap (H : WRel G B em h w) {t : TypeId} {x : Option Operand} (ho : o.op = .makeMap t x) (hx : ∀ y, x = some y → VRel em (ρ y) (ρ' y)) (hop : opA0 P ρ o h = some r) :
    OpOk G B em h w ((execOp ρ' o).run P w) r := by
  obtain ⟨H', hle⟩ := H.newMap
  have hv : VRel (em.put h.next (w.heap.size, 0) 0 0) (.map (some h.next)) (.map (some w.heap.size)) := .map (by simp [Emb.put])
  have hB : Kept B w (w.alloc (.map #[] 0)) := (Kept.refl _ _).alloc H.base _
  simp only [opA0, ho] at hop
  split at hop
  · cases hop
    refine .val hle H' hB hv ?_
    simp [execOp, ho, Instr.makeMap]
  · rename_i y
    split at hop
    · rename_i k e kd n hu hn
      cases hop
      have hy := hx y rfl
      rw [hn] at hy
      refine .val hle H' hB hv ?_
      simp [execOp, ho, Instr.makeMap, run_underlying hu, int_inv hy, asInt, asIntOf]
    · cases hop

theorem op_makeSlice (H : WRel G B em h w) {t : TypeId} {x y : Operand} (ho : o.op = .makeSlice t x y) (hx : VRel em (ρ x) (ρ' x)) (hy : VRel em (ρ y) (ρ' y)) (hop : opA0 P ρ o h = some r) :
    OpOk G B em h w ((execOp ρ' o).run P w) r := by
  simp only [opA0, ho] at hop
  split at hop
  · rename_i elem k1 l k2 c hu hxx hyy
    rw [hxx] at hx; rw [hyy] at hy
    obtain ⟨i, hi, hop⟩ := Option.bind_eq_some_iff.1 hop
    rw [Bool.cond_eq_ite] at hop
    split at hop
    · rename_i hc
      simp only [Bool.and_eq_true, decide_eq_true_eq, Bool.not_eq_true'] at hc
      obtain ⟨⟨⟨⟨h0, hlc⟩, hb⟩, hc40⟩, hs0⟩ := hc
      have hs : i.size ≠ 0 := fun e => by rw [e] at hs0; simp [Nat.beq] at hs0
      obtain ⟨z, hz, rfl⟩ := Option.map_eq_some_iff.1 hop
      obtain ⟨hzr, hg⟩ := zeroA_run hz
      have wl : IntKind.i64.wrap l = l := IntWalk.i64_in l (by omega)
      have wc : IntKind.i64.wrap c = c := IntWalk.i64_in c (by omega)
      have hrel : VsRel em ((Array.range (c.toNat * i.size)).map (z.cells[· % z.cells.size]!)).toList ((Array.range (c.toNat * i.size)).map (z.cells[· % z.cells.size]!)).toList := rep_rel (groundKey_refl (em := em) hg).cells _
      obtain ⟨em', h1, h2, h3, h4⟩ := new_slice (em := em) (h := h) (w := w) (elem := elem) (z := i.size) (c := 2 * c.toNat) (cap := c.toNat) (len := l.toNat) (rest := []) H hrel (arr := (Array.range (c.toNat * i.size)).map (z.cells[· % z.cells.size]!)) (List.append_nil _).symm
        (by unfold capRel; rw [if_pos (by omega)]; omega) (by omega) (by simp)
      refine .val h1 h2 h3 h4 ?_
      have n1 : ¬ (c < 0) := by omega
      have n2 : ¬ (2 ^ 48 < i.bytes * c) := by rw [Int.mul_comm]; omega
      have n3 : ¬ (l < 0) := by omega
      have n4 : ¬ (c < l) := by omega
      have hz0 : ((do pure (← zeroValue elem).cells) : Sem (Array Value)).run P w = .ok z.cells w := by simp [hzr]
      simp only [execOp, ho, int_inv hx, int_inv hy, Instr.makeSlice, Sem.run_bind, run_underlying hu, Result.andThen_ok, asInt, asIntOf, Sem.run_pure, run_typeInfo hi, wl, wc]
      simp only [gt_iff_lt, n1, n2, n3, n4, decide_false, Bool.or_self, Bool.false_eq_true, if_false, run_askRoom, Sem.run_bind, Result.andThen_ok, sizeOf, run_typeInfo hi, Sem.run_pure]
      by_cases hn : c.toNat * i.size = 0
      · simp [hn, newRow, Array.range_zero']
      · simp [hn, hzr, newRow]
    · cases hop
  · cases hop

end
end Go.Ae
