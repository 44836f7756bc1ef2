/- BifIs: what the call comes to. -/
import Derived.Test.YtkmjbiabhpfbpaaGreatDoorBif2
namespace Go.Proofs.YtkmjbiabhpfbpaaGreatDoor.Bif
open Go Go.Ae Go.Proofs Go.RowKit
set_option maxRecDepth 100000

def tok (name : ByteArray) (n : Int) : Nat → Value
  | 0 => .string name
  | 1 => .int .i64 n
  | 2 => goInt name.size
  | _ => .bool false
theorem tok_one (name : ByteArray) (n : Int) : ∀ k, (tok name n k).oneCell' = true
  | 0 | 1 | 2 | _ + 3 => rfl

theorem known_true (w : World) : Calls Tryz.prog 4 #[] w fun e w' => e = .returned (.bool true) ∧ Below w.heap.size w w' := none_true wf known_run small w

theorem mem_of_memB {s : ByteArray} (h : memB s = true) : s ∈ names := by
  unfold memB at h
  rw [List.any_eq_true] at h
  obtain ⟨x, hx, he⟩ := h
  have he := of_decide_eq_true he
  have : x = s := by
    cases x; cases s
    congr 1
    exact Array.ext' he
  rw [← this]; exact hx

theorem toks_ok {other long nk : Bool} {name : ByteArray} {n : Int} (ho : other = true → ∀ s ∈ names, name ≠ s) (hl : decide (100 < name.size) = long) (hn : nk = true → n ≠ 1 ∧ n ≠ 2 ∧ n ≠ 3) : ToksOk (T other long nk) (tok name n) where
  str k bop s v h := by
    simp only [T] at h
    split at h
    · rw [Bool.cond_eq_ite] at h
      split at h
      · rename_i hc
        cases h
        simp only [Bool.and_eq_true] at hc
        have hne := ho hc.1 s (mem_of_memB hc.2)
        refine ⟨name, rfl, fun t => ?_⟩
        have : (name.toList == s.toList) = false := by
          rw [beq_eq_false_iff_ne]
          rw [ByteArray.toList_eq, ByteArray.toList_eq]
          intro e
          refine hne ?_
          cases name; cases s
          congr 1
          exact Array.ext' e
        simp [binOp, Op.stringOp, this, inst]
      · cases h
    · cases h
  rts k bop s v h := by cases h
  int k bop kd m v h := by
    simp only [T] at h
    split at h
    · rw [Bool.cond_eq_ite] at h
      split at h
      · rename_i hc
        cases h
        simp only [Bool.and_eq_true, Bool.or_eq_true, decide_eq_true_eq] at hc
        have hne := hn hc.1
        refine ⟨.i64, n, rfl, fun t => ?_⟩
        have : (n == m) = false := by rw [beq_eq_false_iff_ne]; omega
        simp [binOp, Op.intCmp, this, inst]
      · cases h
    · rw [Bool.cond_eq_ite] at h
      split at h
      · rename_i hc
        cases h
        have hc := of_decide_eq_true hc
        refine ⟨.i64, name.size, rfl, fun t => ?_⟩
        subst hc
        have : decide ((name.size : Int) > 100) = long := by rw [← hl]; congr 1; simp only [gt_iff_lt, eq_iff_iff]; omega
        simp only [binOp, Op.intCmp, inst, this]
        rfl
      · cases h
    · cases h
  tni k bop kd m v h := by
    simp only [T] at h
    split at h
    · rw [Bool.cond_eq_ite] at h
      split at h
      · rename_i hc
        cases h
        simp only [Bool.and_eq_true, Bool.or_eq_true, decide_eq_true_eq] at hc
        have hne := hn hc.1
        refine ⟨.i64, n, rfl, fun t => ?_⟩
        have : (m == n) = false := by rw [beq_eq_false_iff_ne]; omega
        simp [binOp, Op.intCmp, this, inst]
      · cases h
    · cases h
  len k v h := by
    simp only [T] at h
    split at h
    · cases h; exact ⟨name, rfl, rfl⟩
    · cases h

theorem sum_ok (i : Ae.Ask) (B : Kp) : @SumOk i Tryz.prog B (trueSum 4) := @trueSum_ok i Tryz.prog 4 known_true B

/-- THE LAW's CALL: whatever the name, whatever the number. -/
theorem bifIs_run (name : ByteArray) (n : Int) (w : World) : Calls Tryz.prog 3 #[.string name, .int .i64 n] w fun e w' => e = .returned (.bool true) ∧ Below w.heap.size w w' := by
  by_cases hlong : 100 < name.size
  · exact runs_true sum_ok wf (tok_one name n) (toks_ok (other := false) (long := true) (nk := false) (fun h => by cases h) (decide_eq_true hlong) (fun h => by cases h)) long_run small rfl rfl w
  have hshort : decide (100 < name.size) = false := decide_eq_false hlong
  have key : ∀ (other : Bool) (v : Value), (other = true → ∀ s ∈ names, name ≠ s) → shortRuns other v = true → flat v = true → inst (tok name n) v = .string name →
      Calls Tryz.prog 3 #[.string name, .int .i64 n] w fun e w' => e = .returned (.bool true) ∧ Below w.heap.size w w' := by
    intro other v ho hruns hv hv2
    unfold shortRuns at hruns
    rw [List.all_eq_true] at hruns
    have one : (false, Value.int .i64 n) ∈ nArgs → Calls Tryz.prog 3 #[.string name, .int .i64 n] w fun e w' => e = .returned (.bool true) ∧ Below w.heap.size w w' := by
      intro hm
      exact runs_true sum_ok wf (tok_one name n) (toks_ok (other := other) (long := false) (nk := false) ho hshort (fun h => by cases h)) (hruns _ hm) small (by show (flat v && (flat (.int .i64 n) && true)) = true; rw [hv]; rfl) (by show [Value.string name, Value.int .i64 n] = [inst (tok name n) v, inst (tok name n) (.int .i64 n)]; rw [hv2]; rfl) w
    by_cases h1 : n = 1
    · exact one (by simp [nArgs, h1])
    by_cases h2 : n = 2
    · exact one (by simp [nArgs, h2])
    by_cases h3 : n = 3
    · exact one (by simp [nArgs, h3])
    exact runs_true sum_ok wf (tok_one name n) (toks_ok (other := other) (long := false) (nk := true) ho hshort (fun _ => ⟨h1, h2, h3⟩)) (hruns (true, .chan (some 1)) (by simp [nArgs])) small (by show (flat v && (flat (.chan (some 1)) && true)) = true; rw [hv]; rfl) (by show [Value.string name, Value.int .i64 n] = [inst (tok name n) v, inst (tok name n) (.chan (some 1))]; rw [hv2]; rfl) w
  by_cases hin : name ∈ names
  · exact key false (.string name) (fun h => by cases h) (name_runs name hin) rfl rfl
  · exact key true (.chan (some 0)) (fun _ s hs e => hin (e ▸ hs)) other_runs rfl rfl
end Go.Proofs.YtkmjbiabhpfbpaaGreatDoor.Bif
