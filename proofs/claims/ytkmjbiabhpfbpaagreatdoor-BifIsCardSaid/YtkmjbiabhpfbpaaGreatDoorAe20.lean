/- The abstract evaluator: closed runs. -/
import Derived.Test.YtkmjbiabhpfbpaaGreatDoorAe16
import Derived.Test.YtkmjbiabhpfbpaaGreatDoorAe19
namespace Go.Ae
open Go Go.RowKit
set_option linter.unusedSectionVars false
variable [Ask]

section
variable {P : Program}

theorem callA_all {S : FuncId → Option CallA} (hS : ∀ B, SumOk P B S) (hwf : progWf P = true) (n : Nat) (B : Kp) : CallOk P P.globals.size B (callA P S n) :=
  callA_ok hS (fun _ h _ _ => draw_ok h) hwf n B

def noSum : FuncId → Option CallA := fun _ => none
theorem noSum_ok (B : Kp) : SumOk P B noSum := by intro f g h; cases h

/-- Where a closed run begins: the globals' places, and nothing known of memory. -/
def emb0 (G : Nat) (tok : Nat → Value) (one : ∀ k, (tok k).oneCell' = true) (said : AskOk tok) : Emb :=
  { at_ := fun b => if b < G then some (b, 0) else none, ext := fun _ => 0, esz := fun _ => 0, tok, one, said }
def bare (k : Nat) : AHeap := ⟨k, .nil⟩
/-- All that stands is kept. -/
def allKept (w : World) : Kp := ⟨w.heap.size, fun _ => False⟩

theorem allKept_below {w0 w w' : World} (h : Kept (allKept w0) w w') : Below w0.heap.size w w' :=
  ⟨h.os, h.tape, h.output, h.size, fun k hk => h.block k (fun hm => by have := hm.1; simp only [allKept] at this; omega)⟩

theorem bare_rel {G k : Nat} (hk : G ≤ k) (tok : Nat → Value) (one : ∀ k, (tok k).oneCell' = true) (said : AskOk tok) (w : World) : WRel G (allKept w) (emb0 G tok one said) (bare k) w where
  dom b x h := by
    simp only [emb0] at h
    split at h
    · simp only [bare]; omega
    · cases h
  glob g hg := by simp [emb0, hg]
  base j hj := by
    apply Decidable.byContradiction
    intro hn
    exact hj ⟨by simp only [allKept]; omega, fun h => h⟩
  fix b c n z h := by simp [bare, Tr.get] at h
  cells b c n z ro h := by simp [bare, Tr.get] at h
  maps b c n h := by simp [bare, Tr.get] at h
  iters b c n h := by simp [bare, Tr.get] at h
  sep b c n z b2 c2 n2 z2 ro2 i j cb co co2 h := by simp [bare, Tr.get] at h
  own b c b2 c2 cb co co2 h := by simp [bare, Tr.get] at h

def tok0 : Nat → Value := fun _ => .bool false

/-- A closed run: what the call comes to on every world. -/
theorem closed_run {S : FuncId → Option CallA} (hS : ∀ B, SumOk P B S) (hwf : progWf P = true) {n : Nat} {f : FuncId} {args args' : Array Value} {k : Nat} {r : AEnd} {h' : AHeap} {tok : Nat → Value} {one : ∀ k, (tok k).oneCell' = true} {said : AskOk tok}
    (hrun : callA P S n f args (bare k) = some (r, h')) (hk : P.globals.size ≤ k) (ha : VsRel (emb0 P.globals.size tok one said) args.toList args'.toList) (w : World) :
    Calls P f args' w fun e w' => ∃ em', em'.tok = tok ∧ EnRel em' r e ∧ Below w.heap.size w w' := by
  refine Calls.mono (callA_all hS hwf n (allKept w) f args (bare k) r h' hrun (emb0 P.globals.size tok one said) w args' (bare_rel hk tok one said w) ha) ?_
  rintro e w' ⟨em', hle, _, hb, he⟩
  exact ⟨em', hle.tok, he, allKept_below hb⟩

/-- Does a run tell true? -/
def tellsTrue : Option (AEnd × AHeap) → Bool
  | some (.ret (.bool true), _) => true
  | _ => false

theorem closed_true {S : FuncId → Option CallA} (hS : ∀ B, SumOk P B S) (hwf : progWf P = true) {n : Nat} {f : FuncId} {k : Nat} {args args' : Array Value} {tok : Nat → Value} (one : ∀ k, (tok k).oneCell' = true) (said : AskOk tok)
    (hrun : tellsTrue (callA P S n f args (bare k)) = true) (hk : P.globals.size ≤ k) (ha : VsRel (emb0 P.globals.size tok one said) args.toList args'.toList) (w : World) :
    Calls P f args' w fun e w' => e = .returned (.bool true) ∧ Below w.heap.size w w' := by
  cases hc : callA P S n f args (bare k) with
  | none => rw [hc] at hrun; cases hrun
  | some x =>
    obtain ⟨r, h'⟩ := x
    rw [hc] at hrun
    have hr : r = .ret (.bool true) := by
      unfold tellsTrue at hrun
      split at hrun
      · rename_i e; cases e; rfl
      · cases hrun
    subst hr
    refine Calls.mono (closed_run (tok := tok) (one := one) (said := said) hS hwf hc hk ha w) ?_
    rintro e w' ⟨em', _, he, hb⟩
    cases he with
    | ret hv => rw [bool_inv hv]; exact ⟨rfl, hb⟩

/-- A function that tells true: its summary. -/
def trueSum (f : FuncId) : FuncId → Option CallA := fun g => bif Nat.beq g f then some fun _ args h => match args.toList with | [] => some (.ret (.bool true), h) | _ => none else none

theorem trueSum_ok {f : FuncId} (hf : ∀ w, Calls P f #[] w fun e w' => e = .returned (.bool true) ∧ Below w.heap.size w w') (B : Kp) : SumOk P B (trueSum f) := by
  intro g c hg args h r h' hc em w args' H ha
  unfold trueSum at hg
  cases hb : Nat.beq g f with
  | false => rw [hb] at hg; cases hg
  | true =>
    rw [hb] at hg
    have hgf := Nat.eq_of_beq_eq_true hb
    subst hgf
    simp only [cond_true, Option.some.injEq] at hg
    subst hg
    simp only at hc
    split at hc
    · rename_i hnil
      cases hc
      rw [hnil] at ha
      have : args' = #[] := by
        generalize hl : args'.toList = l at ha
        cases ha
        exact Array.ext' hl
      subst this
      refine Calls.mono (hf w) ?_
      rintro e w' ⟨rfl, hbl⟩
      exact ⟨em, .refl em, H.grew ⟨hbl.size, hbl.block⟩, ⟨hbl.os, hbl.tape, hbl.output, hbl.size, fun k hk => hbl.block k (H.base k hk)⟩, .ret (.bool true)⟩
    · cases hc

end
end Go.Ae
