/- The abstract evaluator: each operation that it does stands for the model's own. Part 5: slice expressions, iterators over strings, assertions, append, copy, len. -/
import Derived.Test.YtkmjbiabhpfbpaaGreatDoorAe7
namespace Go.Ae
open Go Go.RowKit
set_option linter.unusedSectionVars false
variable [Ask]

section
variable {P : Program} {G : Nat} {B : Kp} {em : Emb} {h : AHeap} {w : World} {ρ ρ' : Operand → Value} {o : Oper} {r : ORes}

theorem op_slice (H : WRel G B em h w) {t : TypeId} {x : Operand} {lo hi mx : Option Operand} (ho : o.op = .slice t x lo hi mx) (hx : VRel em (ρ x) (ρ' x))
    (hlo : ∀ y, lo = some y → VRel em (ρ y) (ρ' y)) (hhi : ∀ y, hi = some y → VRel em (ρ y) (ρ' y)) (hmx : ∀ y, mx = some y → VRel em (ρ y) (ρ' y)) (hop : opA0 P ρ o h = some r) :
    OpOk G B em h w ((execOp ρ' o).run P w) r := by
  simp only [opA0, ho] at hop
  obtain ⟨v, hv, rfl⟩ := Option.map_eq_some_iff.1 hop
  clear hop
  unfold sliceA at hv
  split at hv
  · -- a string
    rename_i s hu hxx
    rw [hxx] at hx
    split at hv
    · cases hv
    · rename_i hmxn
      have hmx0 : mx = none := by cases mx <;> simp_all
      subst hmx0
      obtain ⟨hh, hhh, hv⟩ := Option.bind_eq_some_iff.1 hv
      obtain ⟨ll, hll, hv⟩ := Option.bind_eq_some_iff.1 hv
      cases hv
      refine .here H (.string _) ?_
      have e1 : ∃ hv' : Nat, hv' = hh ∧ hh ≤ s.size ∧ ∀ (w : World), (match hi.map ρ' with | some v => Instr.sliceBound v s.size .sliceAlen | none => pure s.size : Sem Nat).run P w = .ok hh w := by
        cases hi with
        | none => simp at hhh; subst hhh; exact ⟨_, rfl, Nat.le_refl _, fun w => rfl⟩
        | some y => 
          have := fun w => boundA_run (P := P) (code := .sliceAlen) hhh (hhi y rfl) (Nat.le_refl _) w
          exact ⟨_, rfl, (this w).2, fun w => (this w).1⟩
      have e2 : ∀ (w : World), (match lo.map ρ' with | some v => Instr.sliceBound v hh .sliceB | none => pure 0 : Sem Nat).run P w = .ok ll w := by
        cases lo with
        | none => simp at hll; subst hll; exact fun w => rfl
        | some y => exact fun w => (boundA_run (P := P) (code := .sliceB) hll (hlo y rfl) (Nat.le_refl _) w).1
      obtain ⟨_, _, _, e1⟩ := e1
      have hb : (Instr.sliceBounds false s.size s.size (lo.map ρ') (hi.map ρ') none).run P w = .ok (ll, hh, s.size) w := by
        unfold Instr.sliceBounds
        cases hi with
        | none =>
          simp at hhh; subst hhh
          cases lo with
          | none => simp at hll; subst hll; rfl
          | some y => have := e2 w; simp only [Option.map_some] at this; simp [this]
        | some z =>
          have h1 := e1 w
          simp only [Option.map_some] at h1
          cases lo with
          | none => simp at hll; subst hll; simp [h1]
          | some y => have h2 := e2 w; simp only [Option.map_some] at h2; simp [h1, h2]
      simp [execOp, ho, Instr.sliceAt, run_underlying hu, Instr.slice, string_inv hx, hb]
  · -- a slice
    rename_i elem a len c hu hxx
    rw [hxx] at hx
    obtain ⟨⟨m, sure⟩, hm, hv1⟩ := Option.bind_eq_some_iff.1 hv
    obtain ⟨hh, hhh, hv2⟩ := Option.bind_eq_some_iff.1 hv1
    obtain ⟨ll, hll, hv3⟩ := Option.bind_eq_some_iff.1 hv2
    obtain ⟨size, hsz, hv4⟩ := Option.bind_eq_some_iff.1 hv3
    clear hv hv1 hv2 hv3
    have hv := hv4
    clear hv4
    rw [Bool.cond_eq_ite] at hv
    split at hv
    · cases hv
    · -- the bounds, over a capacity of at least what is known of it
      have bounds : ∀ cap, capRel c cap → len ≤ cap → ∃ M, (Instr.sliceBounds true len cap (lo.map ρ') (hi.map ρ') (mx.map ρ')).run P w = .ok (ll, hh, M) w ∧ ll ≤ hh ∧ hh ≤ m ∧ m ≤ M ∧ M ≤ cap ∧ (sure = true → M = m) := by
        intro cap hcap hlen
        have hle : capAtLeast c ≤ cap := by
          unfold capRel at hcap; unfold capAtLeast
          have : Nat.div c 2 = c / 2 := rfl
          split at hcap <;> omega
        have hsure : capSure c = true → cap = capAtLeast c := by
          intro hs
          unfold capRel at hcap; unfold capAtLeast
          have h1 : Nat.mod c 2 = 0 := Nat.eq_of_beq_eq_true hs
          have h2 : c % 2 = 0 := h1
          rw [if_pos h2] at hcap; exact hcap
        have hlow : ∀ y, y = hh → ∀ code, (match lo.map ρ' with | some v => Instr.sliceBound v y code | none => pure 0 : Sem Nat).run P w = .ok ll w ∧ ll ≤ hh := by
          intro y hy code; subst hy
          cases lo with
          | none => simp at hll; subst hll; exact ⟨rfl, Nat.zero_le _⟩
          | some z => have := boundA_run (P := P) (code := code) hll (hlo z rfl) (Nat.le_refl _) w; exact this
        cases mx with
        | some z =>
          simp only [Option.map_some] at hm
          obtain ⟨m', hm', e⟩ := Option.map_eq_some_iff.1 hm
          cases e
          have hM := boundA_run (P := P) (code := .slice3Acap) hm' (hmx z rfl) hle w
          cases hi with
          | none => simp at hhh
          | some z2 =>
            have hH := boundA_run (P := P) (code := .slice3B) hhh (hhi z2 rfl) (Nat.le_refl _) w
            refine ⟨m, ?_, (hlow hh rfl .slice3C).2, hH.2, Nat.le_refl _, Nat.le_trans hM.2 hle, fun _ => rfl⟩
            have hL := (hlow hh rfl .slice3C).1
            unfold Instr.sliceBounds
            cases lo with
            | none => simp at hll; subst hll; simp [hM.1, hH.1]
            | some z3 => simp only [Option.map_some] at hL; simp [hM.1, hH.1, hL]
        | none =>
          simp at hm
          obtain ⟨rfl, rfl⟩ := hm
          cases hi with
          | none =>
            rw [Bool.cond_eq_ite] at hhh
            simp only [Option.map_none] at hhh
            split at hhh
            case isFalse => cases hhh
            rename_i hlm
            have hlm := Nat.le_of_ble_eq_true hlm
            cases hhh
            refine ⟨cap, ?_, (hlow len rfl .sliceB).2, hlm, hle, Nat.le_refl _, fun hs => hsure hs⟩
            have hL := (hlow len rfl .sliceB).1
            unfold Instr.sliceBounds
            cases lo with
            | none => simp at hll; subst hll; simp
            | some z3 => simp only [Option.map_some] at hL; simp [hL]
          | some z2 =>
            have hH := boundA_run (P := P) (code := .sliceAcap) hhh (hhi z2 rfl) hle w
            refine ⟨cap, ?_, (hlow hh rfl .sliceB).2, hH.2, hle, Nat.le_refl _, fun hs => hsure hs⟩
            have hL := (hlow hh rfl .sliceB).1
            unfold Instr.sliceBounds
            cases lo with
            | none => simp at hll; subst hll; simp [hH.1]
            | some z3 => simp only [Option.map_some] at hL; simp [hH.1, hL]
      rename_i hguard
      simp only [Bool.not_eq_true', Bool.not_eq_false] at hguard
      simp only [sliceOk, Bool.and_eq_true] at hguard
      obtain ⟨⟨_, hesz⟩, hend⟩ := hguard
      rw [Bool.cond_eq_ite] at hv
      cases a with
      | none =>
        obtain ⟨rfl, rfl, ex⟩ := snil_inv hx
        obtain ⟨M, hrun, h1, h2, h3, h4, h5⟩ := bounds 0 (by simp [capRel]) (Nat.le_refl _)
        have m0 : m = 0 := by omega
        have M0 : M = 0 := by omega
        have hh0 : hh = 0 := by omega
        have ll0 : ll = 0 := by omega
        subst m0 M0 hh0 ll0
        have hsure : sure = true := by
          cases mx with
          | none => simp only [Option.map_none, Option.some.injEq, Prod.mk.injEq] at hm; rw [← hm.2]; rfl
          | some z => simp only [Option.map_some] at hm; obtain ⟨_, _, e⟩ := Option.map_eq_some_iff.1 hm; cases e; rfl
        subst hsure
        cases (show some (Value.slice none 0 0) = some v from hv)
        refine .here H .sliceNil ?_
        simp [execOp, ho, Instr.sliceAt, run_underlying hu, Instr.slice, ex, hrun, sizeA_run hsz]
      | some a =>
        rcases slice_inv hx with ⟨b, off, cb, co, cap, rfl, hat, hc, hlen, hext, ex⟩ | ⟨b, off, A, cap, rfl, rfl, rfl, ex⟩
        · obtain ⟨M, hrun, h1, h2, h3, h4, h5⟩ := bounds cap hc hlen
          split at hv
          · rename_i hcond
            cases hv
            simp only [Bool.and_eq_true] at hcond
            have hml : m = ll := Nat.eq_of_beq_eq_true hcond.1
            have hhl : hh - ll = 0 := by omega
            refine .here H (.sliceEnd b off (if M = ll then ⟨cb, co + off, none⟩ else (⟨cb, co + off, none⟩ : Addr).add (ll * size)) (M - ll)) ?_
            simp only [execOp, ho, Instr.sliceAt, Sem.run_bind, run_underlying hu, Result.andThen_ok, Instr.slice, ex, hrun, sizeA_run hsz, Sem.run_pure, hhl]
            split <;> rfl
          · rename_i hcond
            cases hv
            have hadd : (if M = ll then (some ⟨cb, co + off, none⟩ : Option Addr) else (some ⟨cb, co + off, none⟩ : Option Addr).map (·.add (ll * size))) = some ⟨cb, co + (off + ll * size), none⟩ := by
              split
              · rename_i hM
                have hm : m = ll := by omega
                have hl0 : ll = 0 := by
                  apply Decidable.byContradiction
                  intro hne
                  refine hcond ?_
                  simp only [Bool.and_eq_true, Bool.not_eq_true']
                  exact ⟨by rw [hm]; exact Nat.beq_refl _, by cases ll <;> simp_all [Nat.beq]⟩
                simp [hl0]
              · simp [Addr.add_lit, Nat.add_assoc]
            refine .here H (v' := .slice (some ⟨cb, co + (off + ll * size), none⟩) (hh - ll) (M - ll)) ?_ ?_
            · simp only [Option.map_some, Addr.add_lit]
              have hes : em.esz b = size := by
                simp only [eszIs] at hesz
                split at hesz
                · rename_i c0 n0 z0 ro0 hg0
                  obtain ⟨_, _, _, hz, _⟩ := H.cells _ _ _ _ _ hg0
                  rw [hz]; exact Nat.eq_of_beq_eq_true (by simpa using hesz)
                · simp at hesz
              have := VRel.slice (em := em) (b := b) (cb := cb) (co := co) (c := 2 * (m - ll) + bif sure then 0 else 1) (cap := M - ll) (len := hh - ll) (off + ll * size) hat
                (by
                  unfold capRel
                  cases sure with
                  | true => simp; have := h5 rfl; omega
                  | false => rw [if_neg (by simp only [cond_false]; omega)]; simp only [cond_false]; omega) (by omega)
                (by
                  rw [hes] at hext ⊢
                  have h6 : ll * size + (M - ll) * size = M * size := by rw [← Nat.add_mul]; congr 1; omega
                  have h7 : M * size ≤ cap * size := Nat.mul_le_mul_right _ h4
                  omega)
              exact this
            · simp only [execOp, ho, Instr.sliceAt, Sem.run_bind, run_underlying hu, Result.andThen_ok, Instr.slice, ex, hrun, sizeA_run hsz, Sem.run_pure, hadd]
        · obtain ⟨M, hrun, h1, h2, h3, h4, h5⟩ := bounds cap (by unfold capRel; rw [if_neg (by omega)]; omega) (Nat.zero_le _)
          have hmx0 : mx = none := by
            cases mx with
            | none => rfl
            | some z => simp [Nat.beq] at hend
          subst hmx0
          simp only [Option.map_none, Option.some.injEq, Prod.mk.injEq] at hm
          obtain ⟨rfl, rfl⟩ := hm
          have hc0 : capAtLeast 1 = 0 := rfl
          have hh0 : hh = 0 := by omega
          have ll0 : ll = 0 := by omega
          subst hh0 ll0
          simp only [hc0, Nat.beq_refl, Bool.not_true, Bool.and_false, Bool.false_eq_true, if_false] at hv
          cases hv
          refine .here H (v' := .slice (some A) 0 M) ?_ ?_
          · simp only [Option.map_some, Addr.add_lit]
            exact .sliceEnd b _ A M
          · simp only [execOp, ho, Instr.sliceAt, Sem.run_bind, run_underlying hu, Result.andThen_ok, Instr.slice, ex, hrun, sizeA_run hsz, Sem.run_pure, Nat.zero_mul, Addr.add_zero', Option.map_some, Nat.sub_zero, ite_self]
  · cases hv

theorem op_range (H : WRel G B em h w) {t : TypeId} {x : Operand} (ho : o.op = .range t x) (hx : VRel em (ρ x) (ρ' x)) (hop : opA0 P ρ o h = some r) : OpOk G B em h w ((execOp ρ' o).run P w) r := by
  simp only [opA0, ho] at hop
  split at hop
  · rename_i s hu hxx
    cases hop
    rw [hxx] at hx
    obtain ⟨H', hle⟩ := H.newIter s
    refine .val hle H' ((Kept.refl _ _).alloc H.base _) (v' := .pointer (some ⟨w.heap.size, 0, none⟩)) ?_ ?_
    · have := VRel.ptr (em := em.put h.next (w.heap.size, 0) 0 0) (b := h.next) (cb := w.heap.size) (co := 0) 0 (by simp [Emb.put])
      simpa using this
    · simp [execOp, ho, Instr.range, run_underlying hu, string_inv hx]
  · cases hop

theorem op_next (H : WRel G B em h w) {x : Operand} {s : Bool} (ho : o.op = .next x s) (hx : VRel em (ρ x) (ρ' x)) (hop : opA0 P ρ o h = some r) : OpOk G B em h w ((execOp ρ' o).run P w) r := by
  simp only [opA0, ho] at hop
  split at hop
  · rename_i b sp hxx
    rw [hxx] at hx
    obtain ⟨b', off, cb, co, e1, hat, ex⟩ := ptr_inv hx
    cases e1
    split at hop
    · rename_i s pos hg
      obtain ⟨cb', h1, h2, h3⟩ := H.iters _ _ _ hg
      rw [hat] at h1; cases h1
      rw [Bool.cond_eq_ite] at hop
      split at hop
      · rename_i hlt
        have hlt : pos < s.size := by simpa using hlt
        cases hop
        obtain ⟨H', hB⟩ := H.putObj (o' := .sIter s (pos + (Utf8.decode s pos).2)) (c' := .stringIter s (pos + (Utf8.decode s pos).2)) hg hat h2 h3 (by intros; simp) (by intros; simp) (by intros; simp) (by intros; simp)
          (by intro _ _ e; cases e) (by intro _ _ e; cases e; rfl)
        refine .val (.refl em) H' hB (v' := .tuple #[.bool true, goInt pos, .int .i32 (Utf8.decode s pos).1]) (.tuple (.cons (.bool _) (.cons (.int _ _) (.cons (.int _ _) .nil)))) ?_
        simp only [execOp, ho, ex, Instr.next, Sem.run_bind, getObj, Sem.run, h3, Result.andThen_ok, Nat.add_zero]
        simp [hlt, setObj, Sem.run, h3]
      · rename_i hlt
        have hlt : ¬ pos < s.size := by simpa using hlt
        cases hop
        refine .here H (v' := .tuple #[.bool false]) (.tuple (.cons (.bool _) .nil)) ?_
        simp only [execOp, ho, ex, Instr.next, Sem.run_bind, getObj, Sem.run, h3, Result.andThen_ok, Nat.add_zero]
        simp [hlt]
    · cases hop
  · cases hop

theorem tup2 {v v' u : Value} (hv : VRel em v v') (hu : VRel em u u) : VRel em (.tuple #[v, u]) (.tuple #[v', u]) := .tuple (.cons hv (.cons hu .nil))

theorem op_typeAssert (H : WRel G B em h w) {x : Operand} {t a : TypeId} {ok : Bool} (ho : o.op = .typeAssert x t a ok) (hx : VRel em (ρ x) (ρ' x)) (hop : opA0 P ρ o h = some r) : OpOk G B em h w ((execOp ρ' o).run P w) r := by
  simp only [opA0, ho] at hop
  split at hop
  · rename_i want ty v hu hxx
    rw [hxx] at hx
    obtain ⟨u, hv, ex⟩ := iface_inv hx
    obtain ⟨i, hi, hop⟩ := Option.bind_eq_some_iff.1 hop
    split at hop
    · rename_i hm
      cases hop
      refine .here H (v' := if ok then .tuple #[.iface ty u, .bool true] else .iface ty u) ?_ ?_
      · cases ok
        · exact .iface ty hv
        · exact tup2 (.iface ty hv) (.bool _)
      · simp only [execOp, ho, ex, Instr.typeAssert, Sem.run_bind, run_underlying hu, Result.andThen_ok, run_typeInfo hi, hm]
        rfl
    · rename_i m hm
      cases ok with
      | false => simp at hop
      | true =>
        simp only [cond_true] at hop
        obtain ⟨z, hz, rfl⟩ := Option.map_eq_some_iff.1 hop
        obtain ⟨hr, hg⟩ := zeroA_run hz
        refine .here H (v' := .tuple #[z, .bool false]) (tup2 (groundKey_refl hg) (.bool _)) ?_
        simp only [execOp, ho, ex, Instr.typeAssert, Sem.run_bind, run_underlying hu, Result.andThen_ok, run_typeInfo hi, hm]
        simp [hr]
  · rename_i d ty v hno hu hxx
    rw [hxx] at hx
    obtain ⟨u, hv, ex⟩ := iface_inv hx
    rw [Bool.cond_eq_ite] at hop
    split at hop
    · rename_i heq
      have heq : ty = a := Nat.eq_of_beq_eq_true heq
      split at hop
      · cases hop
      · rename_i hd
        cases hop
        refine .here H (v' := if ok then .tuple #[u, .bool true] else u) ?_ ?_
        · cases ok
          · exact hv
          · exact tup2 hv (.bool _)
        · simp only [execOp, ho, ex, Instr.typeAssert, Sem.run_bind, run_underlying hu, Result.andThen_ok]
          cases d <;> first | exact absurd rfl (hd _) | (simp [heq]; done)
    · rename_i hne
      have hne : ¬ ty = a := fun e => hne (by subst e; exact Nat.beq_refl _)
      cases ok with
      | false => simp at hop
      | true =>
        simp only [cond_true] at hop
        obtain ⟨z, hz, rfl⟩ := Option.map_eq_some_iff.1 hop
        obtain ⟨hr, hg⟩ := zeroA_run hz
        refine .here H (v' := .tuple #[z, .bool false]) (tup2 (groundKey_refl hg) (.bool _)) ?_
        simp only [execOp, ho, ex, Instr.typeAssert, Sem.run_bind, run_underlying hu, Result.andThen_ok]
        cases d <;> first | exact absurd hu (hno _) | (simp [hne, hr]; done)
  · rename_i d hu hxx
    rw [hxx] at hx
    cases ok with
    | false => simp at hop
    | true =>
      simp only [cond_true] at hop
      obtain ⟨z, hz, rfl⟩ := Option.map_eq_some_iff.1 hop
      obtain ⟨hr, hg⟩ := zeroA_run hz
      refine .here H (v' := .tuple #[z, .bool false]) (tup2 (groundKey_refl hg) (.bool _)) ?_
      have ex : ρ' x = .nilIface := hx.ground rfl
      simp only [execOp, ho, ex, Instr.typeAssert, Sem.run_bind, run_underlying hu, Result.andThen_ok]
      cases d <;> simp [hr]
  · cases hop

end
end Go.Ae
