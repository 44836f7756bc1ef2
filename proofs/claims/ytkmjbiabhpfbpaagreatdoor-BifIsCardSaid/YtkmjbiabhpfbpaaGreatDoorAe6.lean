/- The abstract evaluator: each operation that it does stands for the model's own. Part 3: the plain operations. -/
import Derived.Test.YtkmjbiabhpfbpaaGreatDoorAe5
namespace Go.Ae
open Go Go.RowKit
set_option linter.unusedSectionVars false
variable [Ask]

section
variable {P : Program} {G : Nat} {B : Kp} {em : Emb} {h : AHeap} {w : World} {ρ ρ' : Operand → Value} {o : Oper} {r : ORes}

theorem op_move (H : WRel G B em h w) {x : Operand} (ho : o.op = .move x ∨ o.op = .assign x) (hx : VRel em (ρ x) (ρ' x)) (hop : opA0 P ρ o h = some r) :
    OpOk G B em h w ((execOp ρ' o).run P w) r := by
  rcases ho with ho | ho <;>
  · simp only [opA0, ho] at hop
    cases hop
    exact .here H hx (by simp [execOp, ho])

theorem op_pick (H : WRel G B em h w) {c a b : Operand} (ho : o.op = .pick c a b) (hc : VRel em (ρ c) (ρ' c)) (ha : VRel em (ρ a) (ρ' a)) (hb : VRel em (ρ b) (ρ' b)) (hop : opA0 P ρ o h = some r) :
    OpOk G B em h w ((execOp ρ' o).run P w) r := by
  simp only [opA0, ho] at hop
  split at hop
  · rename_i t ht
    rw [ht] at hc
    cases hop
    refine .here H (v' := if t then ρ' a else ρ' b) ?_ (by simp [execOp, ho, bool_inv hc, asBool])
    cases t
    · exact hb
    · exact ha
  · cases hop

theorem op_alloc (H : WRel G B em h w) {e : TypeId} (ho : o.op = .alloc e) (hop : opA0 P ρ o h = some r) : OpOk G B em h w ((execOp ρ' o).run P w) r := by
  simp only [opA0, ho] at hop
  obtain ⟨z, hz, rfl⟩ := Option.map_eq_some_iff.1 hop
  obtain ⟨hr, hg⟩ := zeroA_run hz
  refine new_ptr H (arr := z.cells) (elem := e) (groundKey_refl hg).cells rfl ?_
  simp [execOp, ho, Instr.alloc, hr, newVar, newRow]

theorem op_box (H : WRel G B em h w) {e : TypeId} {x : Operand} (ho : o.op = .box e x) (hx : VRel em (ρ x) (ρ' x)) (hop : opA0 P ρ o h = some r) : OpOk G B em h w ((execOp ρ' o).run P w) r := by
  simp only [opA0, ho] at hop
  cases hop
  refine new_ptr H (arr := (ρ' x).cells) (elem := e) hx.cells rfl ?_
  simp [execOp, ho, Instr.box, newVar, newRow]

theorem fieldMapM {fs : Array Field} {l : List (Nat × Nat)} (hp : placesA P fs.toList = some l) (w : World) :
    (fs.mapM (m := Sem) fun f => do pure (f.offset, ← sizeOf f.type)).run P w = .ok l.toArray w := by
  rw [Array.mapM_eq_mapM_toList]
  simp only [Sem.run_map, placesA_run hp w, Result.andThen_ok]

theorem op_build (H : WRel G B em h w) {t : TypeId} {ps : Array (Nat × Operand)} (ho : o.op = .build t ps) (hx : ∀ x ∈ ps.toList, VRel em (ρ x.2) (ρ' x.2)) (hop : opA0 P ρ o h = some r) :
    OpOk G B em h w ((execOp ρ' o).run P w) r := by
  have hps := parts_rel (em := em) (ρ := ρ) (ρ' := ρ') hx
  have hl : (ps.map fun (x : Nat × Operand) => (x.1, ρ' x.2)).toList = ps.toList.map fun p => (p.1, ρ' p.2) := by simp
  simp only [opA0, ho] at hop
  split at hop
  · rename_i fields hu
    obtain ⟨z, hz, hop⟩ := Option.bind_eq_some_iff.1 hop
    obtain ⟨pl, hpl, hop⟩ := Option.bind_eq_some_iff.1 hop
    obtain ⟨cs, hcs, rfl⟩ := Option.map_eq_some_iff.1 hop
    obtain ⟨hr, hg⟩ := zeroA_run hz
    obtain ⟨cs', hcs', hrel⟩ := fill_rel _ hps (groundKey_refl (em := em) hg).cells hcs
    refine .here H (.agg hrel) ?_
    have e : (fun x : Nat => pl.toArray[x]?) = (fun x : Nat => pl[x]?) := by funext x; simp
    simp only [execOp, ho, Instr.build, Sem.run_bind, hr, Result.andThen_ok, run_underlying hu, fieldMapM hpl]
    simp only [hl, e, hcs']
    rfl
  · rename_i n elem hu
    obtain ⟨z, hz, hop⟩ := Option.bind_eq_some_iff.1 hop
    obtain ⟨sz, hsz, hop⟩ := Option.bind_eq_some_iff.1 hop
    obtain ⟨cs, hcs, rfl⟩ := Option.map_eq_some_iff.1 hop
    obtain ⟨hr, hg⟩ := zeroA_run hz
    obtain ⟨cs', hcs', hrel⟩ := fill_rel _ hps (groundKey_refl (em := em) hg).cells hcs
    refine .here H (.agg hrel) ?_
    simp only [execOp, ho, Instr.build, Sem.run_bind, hr, Result.andThen_ok, run_underlying hu, sizeA_run hsz]
    simp only [hl, hcs']
    rfl
  · cases hop

theorem fill_size (place : Nat → Option (Nat × Nat)) : ∀ (ps : List (Nat × Value)) (cs r : Array Value), Instr.fill place cs ps = some r → r.size = cs.size
  | [], cs, r, h => by simp [Instr.fill] at h; rw [h]
  | (i, v) :: ps, cs, r, h => by
    simp only [Instr.fill] at h
    split at h
    · cases h
    · split at h
      · cases h
      · rw [fill_size place ps _ r h]
        have : ∀ (l : List (Value × Nat)) (a : Array Value) (off : Nat), (l.foldl (fun (a : Array Value) (x : Value × Nat) => a.setIfInBounds (off + x.2) x.1) a).size = a.size := by
          intro l
          induction l with
          | nil => intros; rfl
          | cons x l ih => intro a off; rw [List.foldl_cons, ih]; simp
        rw [← Array.foldl_toList]
        exact this _ _ _

theorem rep_rel {em : Emb} {z : Array Value} (hz : VsRel em z.toList z.toList) (n : Nat) : VsRel em ((Array.range n).map (z[· % z.size]!)).toList ((Array.range n).map (z[· % z.size]!)).toList := by
  simp only [Array.toList_map]
  refine VsRel.map _ _ _ fun x _ => ?_
  by_cases h : x % z.size < z.size
  · have : z[x % z.size]! = z[x % z.size] := by simp [h]
    rw [this]
    obtain ⟨v', h1, h2⟩ := hz.get (i := x % z.size) (v := z[x % z.size]) (by simp [h])
    simp [h] at h1; rw [← h1] at h2; exact h2
  · have : z[x % z.size]! = default := by simp [h]
    rw [this]; exact .bool _

theorem op_buildSlice (H : WRel G B em h w) {t : TypeId} {len : Nat} {ps : Array (Nat × Operand)} (ho : o.op = .buildSlice t len ps) (hx : ∀ x ∈ ps.toList, VRel em (ρ x.2) (ρ' x.2)) (hop : opA0 P ρ o h = some r) :
    OpOk G B em h w ((execOp ρ' o).run P w) r := by
  have hps := parts_rel (em := em) (ρ := ρ) (ρ' := ρ') hx
  have hl : (ps.map fun (x : Nat × Operand) => (x.1, ρ' x.2)).toList = ps.toList.map fun p => (p.1, ρ' p.2) := by simp
  simp only [opA0, ho] at hop
  split at hop
  · rename_i elem hu
    obtain ⟨sz, hsz, hop⟩ := Option.bind_eq_some_iff.1 hop
    rw [Bool.cond_eq_ite] at hop
    split at hop
    · cases hop
    · rename_i hcond
      simp only [Bool.or_eq_true, not_or] at hcond
      obtain ⟨c1, c2⟩ := hcond
      have hsz0 : sz ≠ 0 := fun e => c1 (by subst e; rfl)
      have hbig : ¬ (2 ^ 24 < len * sz) := fun e => c2 (by simp only [Nat.blt_eq]; exact e)
      obtain ⟨z, hz, hop⟩ := Option.bind_eq_some_iff.1 hop
      obtain ⟨cs, hcs, rfl⟩ := Option.map_eq_some_iff.1 hop
      have hzr : VsRel em z.toList z.toList ∧ ((len * sz = 0 ∧ z = #[]) ∨ (¬ (len * sz = 0) ∧ ∃ z0, z = z0.cells ∧ ∀ w, (zeroValue elem).run P w = .ok z0 w)) := by
        rw [Bool.cond_eq_ite] at hz
        split at hz
        · rename_i h0
          have : len = 0 := Nat.eq_of_beq_eq_true h0
          cases hz
          exact ⟨.nil, .inl ⟨by rw [this, Nat.zero_mul], rfl⟩⟩
        · rename_i h0
          have hlen0 : len ≠ 0 := fun e => h0 (by subst e; rfl)
          obtain ⟨z0, hz0, rfl⟩ := Option.map_eq_some_iff.1 hz
          obtain ⟨hr, hg⟩ := zeroA_run hz0
          exact ⟨(groundKey_refl (em := em) hg).cells, .inr ⟨fun e => (Nat.mul_eq_zero.1 e).elim hlen0 hsz0, z0, rfl, hr⟩⟩
      obtain ⟨cs', hcs', hrel⟩ := fill_rel _ hps (rep_rel hzr.1 (len * sz)) hcs
      have hsize : cs'.size = len * sz := by rw [fill_size _ _ _ _ hcs', Array.size_map, Array.size_range]
      obtain ⟨em', h1, h2, h3, h4⟩ := new_slice (em := em) (h := h) (w := w) (elem := elem) (z := sz) (c := 2 * len) (cap := len) (len := len) (rest := []) H hrel (arr := cs') (List.append_nil _).symm (by unfold capRel; rw [if_pos (by omega)]; omega) (Nat.le_refl _) (by rw [hsize]; exact Nat.le_refl _)
      refine .val h1 h2 h3 h4 ?_
      rcases hzr.2 with ⟨h0, rfl⟩ | ⟨h0, z0, rfl, hz0⟩
      · simp only [execOp, ho, Instr.buildSlice, Sem.run_bind, run_underlying hu, Result.andThen_ok, sizeA_run hsz, hbig, if_false, h0, if_true, Sem.run_pure]
        rw [h0] at hcs'
        simp only [Array.range_zero', Array.map_empty] at hcs'
        simp only [Array.range_zero', Array.map_empty, hl, hcs', newRow]
        simp
      · simp only [execOp, ho, Instr.buildSlice, Sem.run_bind, run_underlying hu, Result.andThen_ok, sizeA_run hsz, hbig, if_false, h0, Sem.run_pure, hz0]
        simp only [hl, hcs', newRow]
        simp
  · cases hop

theorem op_load (H : WRel G B em h w) {t : TypeId} {x : Operand} (ho : o.op = .load t x) (hx : VRel em (ρ x) (ρ' x)) (hop : opA0 P ρ o h = some r) : OpOk G B em h w ((execOp ρ' o).run P w) r := by
  simp only [opA0, ho] at hop
  split at hop
  · rename_i a ha
    rw [ha] at hx
    obtain ⟨b, off, cb, co, rfl, hat, e⟩ := ptr_inv hx
    obtain ⟨v, hv, rfl⟩ := Option.map_eq_some_iff.1 hop
    obtain ⟨v', hr, hrun⟩ := loadA_run H hv hat
    exact .here H hr (by simp [execOp, ho, e, Instr.loadAt, Instr.sureAddr, hrun])
  · cases hop

theorem op_store (H : WRel G B em h w) {t : TypeId} {x y : Operand} (ho : o.op = .store t x y) (hx : VRel em (ρ x) (ρ' x)) (hy : VRel em (ρ y) (ρ' y)) (hop : opA0 P ρ o h = some r) : OpOk G B em h w ((execOp ρ' o).run P w) r := by
  simp only [opA0, ho] at hop
  split at hop
  · rename_i a ha
    rw [ha] at hx
    obtain ⟨b, off, cb, co, rfl, hat, e⟩ := ptr_inv hx
    obtain ⟨h', hs, rfl⟩ := Option.map_eq_some_iff.1 hop
    obtain ⟨w', hrun, hW, hB⟩ := storeA_run H hs hy hat
    exact .skip (.refl em) hW hB (by simp [execOp, ho, e, Instr.storeAt, Instr.sureAddr, hrun])
  · cases hop

theorem op_nilCheck (H : WRel G B em h w) {x : Operand} (ho : o.op = .nilCheck x) (hx : VRel em (ρ x) (ρ' x)) (hop : opA0 P ρ o h = some r) : OpOk G B em h w ((execOp ρ' o).run P w) r := by
  simp only [opA0, ho] at hop
  split at hop
  · rename_i a ha
    cases hop
    rw [ha] at hx
    obtain ⟨b, off, cb, co, rfl, hat, e⟩ := ptr_inv hx
    exact .here H (.ptr off hat) (by simp [execOp, ho, e])
  · rename_i t v ha
    cases hop
    rw [ha] at hx
    obtain ⟨u, hu, e⟩ := iface_inv hx
    exact .here H (.iface t hu) (by simp [execOp, ho, e])
  · rename_i f a b ha
    cases hop
    rw [ha] at hx
    obtain ⟨a', c', h1, h2, e⟩ := func_inv hx
    exact .here H (.func _ h1 h2) (by simp [execOp, ho, e])
  · cases hop

theorem op_makeInterface (H : WRel G B em h w) {t : TypeId} {x : Operand} (ho : o.op = .makeInterface t x) (hx : VRel em (ρ x) (ρ' x)) (hop : opA0 P ρ o h = some r) : OpOk G B em h w ((execOp ρ' o).run P w) r := by
  simp only [opA0, ho] at hop
  split at hop
  · cases hop
  · rename_i d hno hu
    cases hop
    refine .here H (.iface t hx) ?_
    simp only [execOp, ho, Instr.makeInterface, Sem.run_bind, run_underlying hu, Result.andThen_ok]
    cases d <;> first | exact absurd rfl (hno _ ‹_›) | rfl | (exact absurd hu (hno _))
  · cases hop

theorem op_makeFunc (H : WRel G B em h w) {fn : Fn} {a c : Array Operand} (ho : o.op = .makeFunc fn a c) (ha : ∀ x ∈ a.toList, VRel em (ρ x) (ρ' x)) (hc : ∀ x ∈ c.toList, VRel em (ρ x) (ρ' x))
    (hop : opA0 P ρ o h = some r) : OpOk G B em h w ((execOp ρ' o).run P w) r := by
  simp only [opA0, ho] at hop
  cases hop
  exact .here H (.func fn (a' := a.map ρ') (c' := c.map ρ') (by simpa using map_rel ha) (by simpa using map_rel hc)) (by simp [execOp, ho, Instr.makeFunc])

theorem op_extract (H : WRel G B em h w) {x : Operand} {i : Nat} (ho : o.op = .extract x i) (hx : VRel em (ρ x) (ρ' x)) (hop : opA0 P ρ o h = some r) : OpOk G B em h w ((execOp ρ' o).run P w) r := by
  simp only [opA0, ho] at hop
  split at hop
  · rename_i vs ha
    rw [ha] at hx
    obtain ⟨vs', h1, e⟩ := tuple_inv hx
    obtain ⟨v, hv, rfl⟩ := Option.map_eq_some_iff.1 hop
    rw [← Array.getElem?_toList] at hv
    obtain ⟨v', hv', hr⟩ := h1.get hv
    rw [Array.getElem?_toList] at hv'
    exact .here H hr (by simp [execOp, ho, e, Instr.extract, hv'])
  · cases hop

theorem op_fieldAddr (H : WRel G B em h w) {s : TypeId} {x : Operand} {f : Nat} (ho : o.op = .fieldAddr s x f) (hx : VRel em (ρ x) (ρ' x)) (hop : opA0 P ρ o h = some r) : OpOk G B em h w ((execOp ρ' o).run P w) r := by
  simp only [opA0, ho] at hop
  split at hop
  · rename_i fields a hu ha
    rw [ha] at hx
    obtain ⟨b, off, cb, co, rfl, hat, e⟩ := ptr_inv hx
    obtain ⟨fd, hfd, hop⟩ := Option.bind_eq_some_iff.1 hop
    obtain ⟨n, hn, hop⟩ := Option.bind_eq_some_iff.1 hop
    rw [Bool.cond_eq_ite] at hop
    split at hop
    · cases hop
    · rename_i h0
      have hn0 : n ≠ 0 := fun e => h0 (by subst e; rfl)
      cases hop
      rw [Addr.add_lit]
      refine .here H (.ptr (off + fd.offset) hat) ?_
      simp only [execOp, ho, e, Instr.fieldAt, Sem.run_bind, run_underlying hu, Result.andThen_ok, hfd, Instr.sureAddr, Sem.run_pure, fieldPlace, sizeA_run hn]
      simp [hn0, Addr.add_lit, Nat.add_assoc]
  · cases hop

theorem op_field (H : WRel G B em h w) {s : TypeId} {x : Operand} {f : Nat} (ho : o.op = .field s x f) (hx : VRel em (ρ x) (ρ' x)) (hop : opA0 P ρ o h = some r) : OpOk G B em h w ((execOp ρ' o).run P w) r := by
  simp only [opA0, ho] at hop
  split at hop
  · rename_i fields cs hu ha
    rw [ha] at hx
    obtain ⟨cs', h1, e⟩ := agg_inv hx
    obtain ⟨fd, hfd, hop⟩ := Option.bind_eq_some_iff.1 hop
    obtain ⟨v, hv, rfl⟩ := Option.map_eq_some_iff.1 hop
    obtain ⟨v', hr, hrun⟩ := partA_run hv h1
    refine .here H hr ?_
    simp only [execOp, ho, e, Instr.field, Sem.run_bind, run_underlying hu, Result.andThen_ok, hfd, asAgg, Sem.run_pure, hrun]
  · cases hop

theorem op_indexAddr (H : WRel G B em h w) {t : TypeId} {x y : Operand} (ho : o.op = .indexAddr t x y) (hx : VRel em (ρ x) (ρ' x)) (hy : VRel em (ρ y) (ρ' y)) (hop : opA0 P ρ o h = some r) : OpOk G B em h w ((execOp ρ' o).run P w) r := by
  simp only [opA0, ho] at hop
  split at hop
  · rename_i elem a len c k i hu ha hb
    rw [ha] at hx
    rw [hb] at hy
    have ey := int_inv hy
    rw [Bool.cond_eq_ite] at hop
    split at hop
    · rename_i hc
      simp only [Bool.and_eq_true, decide_eq_true_eq] at hc
      obtain ⟨n, hn, rfl⟩ := Option.map_eq_some_iff.1 hop
      rcases slice_inv hx with ⟨b, off, cb, co, cap, rfl, hat, _, _, _, e⟩ | ⟨b, off, A, cap, rfl, hl0, _, _⟩
      · rw [Addr.add_lit]
        refine .here H (.ptr (off + i.toNat * n) hat) ?_
        simp only [execOp, ho, e, ey, Instr.indexAt, asIntOf, Sem.run_bind, Sem.run_pure, run_underlying hu, Result.andThen_ok]
        simp [hc, sizeA_run hn, Addr.add_lit, Nat.add_assoc]
      · omega
    · cases hop
  · rename_i len elem a k i hu ha hb
    rw [ha] at hx
    rw [hb] at hy
    have ey := int_inv hy
    rw [Bool.cond_eq_ite] at hop
    split at hop
    · rename_i hc
      simp only [Bool.and_eq_true, decide_eq_true_eq] at hc
      obtain ⟨n, hn, rfl⟩ := Option.map_eq_some_iff.1 hop
      obtain ⟨b, off, cb, co, rfl, hat, e⟩ := ptr_inv hx
      rw [Addr.add_lit]
      refine .here H (.ptr (off + i.toNat * n) hat) ?_
      simp only [execOp, ho, e, ey, Instr.indexAt, asIntOf, Sem.run_bind, Sem.run_pure, run_underlying hu, Result.andThen_ok, Instr.sureAddr]
      simp [hc, sizeA_run hn, Addr.add_lit, Nat.add_assoc]
    · cases hop
  · cases hop

theorem op_index (H : WRel G B em h w) {t : TypeId} {x y : Operand} (ho : o.op = .index t x y) (hx : VRel em (ρ x) (ρ' x)) (hy : VRel em (ρ y) (ρ' y)) (hop : opA0 P ρ o h = some r) : OpOk G B em h w ((execOp ρ' o).run P w) r := by
  simp only [opA0, ho] at hop
  split at hop
  · rename_i len elem cs k i hu ha hb
    rw [ha] at hx
    rw [hb] at hy
    have ey := int_inv hy
    rw [Bool.cond_eq_ite] at hop
    split at hop
    · rename_i hc
      simp only [Bool.and_eq_true, decide_eq_true_eq] at hc
      obtain ⟨n, hn, hop⟩ := Option.bind_eq_some_iff.1 hop
      obtain ⟨v, hv, rfl⟩ := Option.map_eq_some_iff.1 hop
      obtain ⟨cs', h1, e⟩ := agg_inv hx
      obtain ⟨v', hr, hrun⟩ := partA_run hv h1
      refine .here H hr ?_
      simp only [execOp, ho, e, ey, Instr.index, asIntOf, Sem.run_bind, Sem.run_pure, run_underlying hu, Result.andThen_ok]
      simp [hc, sizeA_run hn, hrun]
    · cases hop
  · rename_i s k i hu ha hb
    rw [ha] at hx
    rw [hb] at hy
    have ey := int_inv hy
    have ex := string_inv hx
    rw [Bool.cond_eq_ite] at hop
    split at hop
    · rename_i hc
      simp only [decide_eq_true_eq] at hc
      split at hop
      · rename_i b hbyte
        cases hop
        refine .here H (.int _ _) ?_
        have : s[i.toNat]? = some b := by
          rw [Array.getElem?_toList] at hbyte
          rw [Array.getElem?_eq_some_iff] at hbyte
          obtain ⟨h1, h2⟩ := hbyte
          have h1' : i.toNat < s.size := h1
          simp only [getElem?_def, h1', dif_pos]
          exact congrArg some h2
        simp only [execOp, ho, ex, ey, Instr.index, asIntOf, Sem.run_bind, Sem.run_pure, run_underlying hu, Result.andThen_ok]
        simp [hc, this]
      · cases hop
    · cases hop
  · cases hop

end
end Go.Ae
