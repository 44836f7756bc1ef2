/- The abstract evaluator: each operation that it does stands for the model's own. Part 2: what an operation owes; the operations without maps, appends and calls. -/
import Derived.Test.YtkmjbiabhpfbpaaGreatDoorAe4
namespace Go.Ae
open Go Go.RowKit
set_option linter.unusedSectionVars false
variable [Ask]

structure DRel (em : Emb) (d d' : Deferred) : Prop where
  fn : ∃ fn cap cap', d.target = .fn fn cap ∧ d'.target = .fn fn cap' ∧ VsRel em cap.toList cap'.toList
  args : VsRel em d.args.toList d'.args.toList

inductive OpOk (G : Nat) (B : Kp) (em : Emb) (h : AHeap) (w : World) (run : Result Next) : ORes → Prop
  | val {em' : Emb} {h' : AHeap} {w' : World} {v v' : Value} : em.Le em' → WRel G B em' h' w' → Kept B w w' → VRel em' v v' → run = .ok (.value v') w' → OpOk G B em h w run (.val v h')
  | skip {em' : Emb} {h' : AHeap} {w' : World} : em.Le em' → WRel G B em' h' w' → Kept B w w' → run = .ok .skip w' → OpOk G B em h w run (.skip h')
  | dfr {d d' : Deferred} : DRel em d d' → run = .ok (.defer d') w → OpOk G B em h w run (.dfr d h)
  | enter {f : FuncId} {args args' : Array Value} : VsRel em args.toList args'.toList → run = .ok (.enter f args') w → OpOk G B em h w run (.enter f args h)
  | panic {v v' : Value} : VRel em v v' → run = .halt (.panic v') w → OpOk G B em h w run (.panic v h)

section
variable {P : Program} {G : Nat} {B : Kp} {em : Emb} {h : AHeap} {w : World} {run : Result Next}

/-- A value and nothing else. -/
theorem OpOk.here (H : WRel G B em h w) {v v' : Value} (hv : VRel em v v') (hr : run = .ok (.value v') w) : OpOk G B em h w run (.val v h) :=
  .val (.refl em) H (Kept.refl _ _) hv hr

theorem ptr_inv {a : Addr} {v' : Value} (r : VRel em (.pointer (some a)) v') : ∃ b off cb co, a = ⟨b, off, none⟩ ∧ em.at_ b = some (cb, co) ∧ v' = .pointer (some ⟨cb, co + off, none⟩) := by
  cases r with
  | ptr off hb => exact ⟨_, off, _, _, rfl, hb, rfl⟩
theorem slice_inv {a : Addr} {len c : Nat} {v' : Value} (r : VRel em (.slice (some a) len c) v') :
    (∃ b off cb co cap, a = ⟨b, off, none⟩ ∧ em.at_ b = some (cb, co) ∧ capRel c cap ∧ len ≤ cap ∧ off + cap * em.esz b ≤ em.ext b ∧ v' = .slice (some ⟨cb, co + off, none⟩) len cap) ∨
      (∃ b off A cap, a = ⟨b, off, none⟩ ∧ len = 0 ∧ c = 1 ∧ v' = .slice (some A) 0 cap) := by
  cases r with
  | slice off hb hc hl hx => exact .inl ⟨_, off, _, _, _, rfl, hb, hc, hl, hx, rfl⟩
  | sliceEnd b off A cap => exact .inr ⟨b, off, A, cap, rfl, rfl, rfl, rfl⟩
theorem snil_inv {len c : Nat} {v' : Value} (r : VRel em (.slice none len c) v') : len = 0 ∧ c = 0 ∧ v' = .slice none 0 0 := by
  cases r; exact ⟨rfl, rfl, rfl⟩
theorem map_inv {x : Nat} {v' : Value} (r : VRel em (.map (some x)) v') : ∃ cb, em.at_ x = some (cb, 0) ∧ v' = .map (some cb) := by
  cases r with
  | map hb => exact ⟨_, hb, rfl⟩
theorem iface_inv {t : TypeId} {v v' : Value} (r : VRel em (.iface t v) v') : ∃ u, VRel em v u ∧ v' = .iface t u := by
  cases r with
  | iface _ hv => exact ⟨_, hv, rfl⟩
theorem func_inv {fn : Fn} {a c : Array Value} {v' : Value} (r : VRel em (.func fn a c) v') : ∃ a' c', VsRel em a.toList a'.toList ∧ VsRel em c.toList c'.toList ∧ v' = .func fn a' c' := by
  cases r with
  | func _ ha hc => exact ⟨_, _, ha, hc, rfl⟩
theorem agg_inv {a : Array Value} {v' : Value} (r : VRel em (.agg a) v') : ∃ a', VsRel em a.toList a'.toList ∧ v' = .agg a' := by
  cases r with
  | agg ha => exact ⟨_, ha, rfl⟩
theorem tuple_inv {a : Array Value} {v' : Value} (r : VRel em (.tuple a) v') : ∃ a', VsRel em a.toList a'.toList ∧ v' = .tuple a' := by
  cases r with
  | tuple ha => exact ⟨_, ha, rfl⟩
theorem bool_inv {b : Bool} {v' : Value} (r : VRel em (.bool b) v') : v' = .bool b := by cases r; rfl
theorem int_inv {k : IntKind} {n : Int} {v' : Value} (r : VRel em (.int k n) v') : v' = .int k n := by cases r; rfl
theorem string_inv {s : ByteArray} {v' : Value} (r : VRel em (.string s) v') : v' = .string s := by cases r; rfl
theorem pnil_inv {v' : Value} (r : VRel em (.pointer none) v') : v' = .pointer none := by cases r; rfl
theorem mnil_inv {v' : Value} (r : VRel em (.map none) v') : v' = .map none := by cases r; rfl

theorem VRel.here (H : WRel G B em h w) : em.at_ h.next = none := H.fresh

/-- A new row's pointer. -/
theorem new_ptr (H : WRel G B em h w) {cs cs' : List Value} {arr : Array Value} {elem : TypeId} (hv : VsRel em cs cs') (ha : arr.toList = cs') (hr : run = .ok (.value (.pointer (some ⟨w.heap.size, 0, none⟩))) (w.alloc (.cells arr elem))) :
    OpOk G B em h w run (.val (.pointer (some ⟨h.next, 0, none⟩)) (newA 1 cs h)) := by
  obtain ⟨H', hle⟩ := H.newCells (arr := arr) (elem := elem) (z := 1) (rest := []) hv (by simp [ha])
  refine .val hle H' ((Kept.refl _ _).alloc H.base _) ?_ hr
  have := VRel.ptr (em := em.put h.next (w.heap.size, 0) arr.size 1) (b := h.next) (cb := w.heap.size) (co := 0) 0 (by simp [Emb.put])
  simpa using this

/-- A new row's slice: just its length, or it and more behind it. -/
theorem new_slice (H : WRel G B em h w) {cs cs' rest : List Value} {arr : Array Value} {elem : TypeId} {z len c cap : Nat} (hv : VsRel em cs cs') (ha : arr.toList = cs' ++ rest) (hc : capRel c cap) (hl : len ≤ cap)
    (hx : cap * z ≤ arr.size) : ∃ em', em.Le em' ∧ WRel G B em' (newA z cs h) (w.alloc (.cells arr elem)) ∧ Kept B w (w.alloc (.cells arr elem)) ∧
      VRel em' (.slice (some ⟨h.next, 0, none⟩) len c) (.slice (some ⟨w.heap.size, 0, none⟩) len cap) := by
  obtain ⟨H', hle⟩ := H.newCells (arr := arr) (elem := elem) (z := z) hv ha
  refine ⟨_, hle, H', (Kept.refl _ _).alloc H.base _, ?_⟩
  have := VRel.slice (em := em.put h.next (w.heap.size, 0) arr.size z) (b := h.next) (cb := w.heap.size) (co := 0) (c := c) (cap := cap) (len := len) 0 (by simp [Emb.put]) hc hl (by simp [Emb.put]; exact hx)
  simpa using this

theorem map_rel {ρ ρ' : Operand → Value} : ∀ {l : List Operand}, (∀ x ∈ l, VRel em (ρ x) (ρ' x)) → VsRel em (l.map ρ) (l.map ρ')
  | [], _ => .nil
  | x :: l, h => .cons (h x (by simp)) (map_rel fun y hy => h y (by simp [hy]))
theorem parts_rel {ρ ρ' : Operand → Value} : ∀ {l : List (Nat × Operand)}, (∀ x ∈ l, VRel em (ρ x.2) (ρ' x.2)) → PsRel em (l.map fun p => (p.1, ρ p.2)) (l.map fun p => (p.1, ρ' p.2))
  | [], _ => .nil
  | x :: l, h => .cons (h x (by simp)) (parts_rel fun y hy => h y (by simp [hy]))

theorem groundRes_ok (H : WRel G B em h w) {v v' : Value} {r : ORes} (hg : groundRes v h = some r) (hv : v' = v) (hr : run = .ok (.value v') w) : OpOk G B em h w run r := by
  unfold groundRes at hg
  cases e : ground v with
  | false => simp [e] at hg
  | true => simp [e] at hg; subst hg; subst hv; exact .here H (VRel.ground_refl e) hr

theorem boundA_run {v v' : Value} {most k y : Nat} {code : BoundsCode} (hb : boundA v most = some k) (r : VRel em v v') (hy : most ≤ y) (w : World) :
    (Instr.sliceBound v' y code).run P w = .ok k w ∧ k ≤ most := by
  unfold boundA at hb
  cases v <;> try (simp at hb; done)
  rename_i kd i
  simp only [Bool.cond_eq_ite, Bool.and_eq_true, decide_eq_true_eq] at hb
  split at hb
  · rename_i hc
    cases hb
    rw [int_inv r]
    refine ⟨?_, by omega⟩
    have : 0 ≤ i ∧ i ≤ (y : Int) := ⟨hc.1, by omega⟩
    simp [Instr.sliceBound, asIntOf, this]
  · cases hb

end
end Go.Ae
