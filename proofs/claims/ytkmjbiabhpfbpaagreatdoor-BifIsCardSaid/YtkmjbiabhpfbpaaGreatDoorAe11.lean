/- The abstract evaluator: each operation that it does stands for the model's own. Part 8: copy, len, maps, panics. -/
import Derived.Test.YtkmjbiabhpfbpaaGreatDoorAe10
namespace Go.Ae
open Go Go.RowKit
set_option linter.unusedSectionVars false
variable [Ask]

section
variable {P : Program} {G : Nat} {B : Kp} {em : Emb} {h : AHeap} {w : World}

theorem copy_ok (H : WRel G B em h w) {argTypes : Array TypeId} {args args' : Array Value} {v : Value} {h' : AHeap} {ty : TypeId} (hop : copyA P argTypes args h = some (v, h')) (hargs : VsRel em args.toList args'.toList) :
    AppOk G B w em v h' ((Builtin.copy_ argTypes ty args').run P w) := by
  unfold copyA at hop
  split at hop
  · rename_i dt xts base dlen c src rest hat ha
    rw [ha] at hargs
    generalize hal : args'.toList = al' at hargs
    cases hargs with
    | cons hs hr =>
    cases hr with
    | cons hx hrest =>
    rename_i s' x' rest'
    have g0 : argTypes[0]? = some dt := by rw [← Array.getElem?_toList, hat]; rfl
    have a0 : args'[0]? = some s' := by rw [← Array.getElem?_toList, hal]; rfl
    have a1 : args'[1]? = some x' := by rw [← Array.getElem?_toList, hal]; rfl
    split at hop
    · rename_i elem hu
      obtain ⟨size, hsz, hop2⟩ := Option.bind_eq_some_iff.1 hop
      obtain ⟨⟨n, new⟩, hsrc, hop3⟩ := Option.bind_eq_some_iff.1 hop2
      clear hop hop2
      obtain ⟨N, new', hlenOf, hn, hnew, hfirst⟩ := srcA_run (P := P) H hsrc hx
      have hf := hfirst w (fun _ => rfl)
      have general : ∀ (b' : Option Addr) (cap : Nat), s' = .slice b' dlen cap → ∀ w2, ((match b' with | some a => storeCells a new' | none => pure () : Sem Unit)).run P w = .ok () w2 → (Builtin.copy_ argTypes ty args').run P w = .ok (goInt n) w2 := by
        intro b' cap e w2 hst
        simp only [Builtin.copy_, g0, a0, a1, e, Sem.run_bind, run_underlying hu, Result.andThen_ok, hlenOf, sizeA_run hsz, ← hn, hf]
        cases b' with
        | none => simp at hst; subst hst; simp
        | some a => simp only at hst; simp [hst]
      split at hop3
      · rename_i a
        simp only at hop3
        rw [Bool.cond_eq_ite] at hop3
        split at hop3
        · rename_i hn0
          have hn0 : n = 0 := Nat.eq_of_beq_eq_true hn0
          rw [Bool.cond_eq_ite] at hop3
          split at hop3
          case isFalse => cases hop3
          rename_i hemp
          cases hop3
          -- nothing is copied
          have hnew0 : new' = [] := by
            have hl : new = [] := by simpa using hemp
            exact List.length_eq_zero_iff.1 (by rw [← hnew.length, hl]; rfl)
          subst hnew0
          rcases slice_inv hs with ⟨b, off, cb, co, cap, rfl, hat2, hc, hlen, hext, rfl⟩ | ⟨b, off, A, cap, rfl, rfl, rfl, rfl⟩
          · exact ⟨em, w, _, .refl em, H, Kept.refl _ _, .int _ _, general _ _ rfl w rfl⟩
          · exact ⟨em, w, _, .refl em, H, Kept.refl _ _, .int _ _, general _ _ rfl w rfl⟩
        · rename_i hn0
          obtain ⟨h2, hw, e⟩ := Option.map_eq_some_iff.1 hop3
          cases e
          rcases slice_inv hs with ⟨b, off, cb, co, cap, rfl, hat2, hc, hlen, hext, rfl⟩ | ⟨b, off, A, cap, rfl, rfl, rfl, rfl⟩
          · obtain ⟨cb', co', h1, e1, e2, e3, hW, hB⟩ := H.write hw hnew
            rw [hat2] at h1; cases h1
            have hst := run_storeCells_cells (P := P) cb (co + off) new' 0 w (by simpa using e1) (by simpa using e2) e3
            exact ⟨em, _, _, .refl em, hW, hB, .int _ _, general _ _ rfl _ (by simpa using hst)⟩
          · exact absurd (by rw [hn, show N.min 0 = 0 from Nat.min_zero _]; rfl : Nat.beq n 0 = true) hn0
      · cases hop3
        obtain ⟨rfl, rfl, rfl⟩ := snil_inv hs
        exact ⟨em, w, _, .refl em, H, Kept.refl _ _, .int _ _, general _ _ rfl w rfl⟩
    · cases hop
  · cases hop

theorem EsRel.length {em : Emb} : ∀ {l l' : List MapEntry}, EsRel em l l' → l'.length = l.length
  | _, _, .nil => rfl
  | _, _, .cons _ r => by simp [EsRel.length r]

theorem len_ok (H : WRel G B em h w) {argTypes : Array TypeId} {args' : Array Value} {t : TypeId} {rest : List TypeId} {restv : List Value} {x x' v : Value} {ty : TypeId} (hat : argTypes.toList = t :: rest) (hal : args'.toList = x' :: restv)
    (hop : lenA P t x h = some v) (hx : VRel em x x') : VRel em v v ∧ (Builtin.len_ argTypes ty args').run P w = .ok v w := by
  have g0 : argTypes[0]? = some t := by rw [← Array.getElem?_toList, hat]; rfl
  have a0 : args'[0]? = some x' := by rw [← Array.getElem?_toList, hal]; rfl
  unfold lenA at hop
  split at hop
  · rename_i s hu; cases hop
    rw [string_inv hx] at a0
    exact ⟨.int _ _, by simp [Builtin.len_, g0, a0, run_underlying hu]⟩
  · rename_i n e hu; cases hop
    exact ⟨.int _ _, by simp [Builtin.len_, g0, a0, run_underlying hu]⟩
  · rename_i e b n c hu; cases hop
    cases b with
    | none =>
      obtain ⟨rfl, rfl, rfl⟩ := snil_inv hx
      exact ⟨.int _ _, by simp [Builtin.len_, g0, a0, run_underlying hu]⟩
    | some a =>
      rcases slice_inv hx with ⟨b, off, cb, co, cap, rfl, _, _, _, _, rfl⟩ | ⟨b, off, A, cap, rfl, rfl, rfl, rfl⟩
      · exact ⟨.int _ _, by simp [Builtin.len_, g0, a0, run_underlying hu]⟩
      · exact ⟨.int _ _, by simp [Builtin.len_, g0, a0, run_underlying hu]⟩
  · rename_i k e hu; cases hop
    rw [mnil_inv hx] at a0
    exact ⟨.int _ _, by simp [Builtin.len_, g0, a0, run_underlying hu]⟩
  · rename_i k e r hu
    split at hop
    · rename_i es ck hg; cases hop
      obtain ⟨cb, hat2, rfl⟩ := map_inv hx
      obtain ⟨cb', es', h1, h2, h3, h4⟩ := H.maps _ _ _ hg
      rw [hat2] at h1; cases h1
      have := h4.length
      refine ⟨.int _ _, ?_⟩
      simp only [Builtin.len_, g0, a0, Sem.run_bind, run_underlying hu, Result.andThen_ok, getObj, Sem.run, h3]
      simp at this
      simp [this]
    · cases hop
  · cases hop

/-- Entries as they are looked up. -/
theorem findNow_rel {kind : TypeDesc} {k : Value} : ∀ {es es' : List MapEntry}, EsRel em es es' → ∀ i,
    (Instr.findNow kind k es i = none ∧ Instr.findNow kind k es' i = none) ∨ (Instr.findNow kind k es i = some none ∧ Instr.findNow kind k es' i = some none) ∨
      ∃ j v v', Instr.findNow kind k es i = some (some (j, v)) ∧ Instr.findNow kind k es' i = some (some (j, v')) ∧ VRel em v v'
  | _, _, .nil, i => .inr (.inl ⟨rfl, rfl⟩)
  | _, _, .cons (e := e) (e' := e') he hl, i => by
    simp only [Instr.findNow, he.key]
    cases Instr.sameNow kind k e.key with
    | none => exact .inl ⟨rfl, rfl⟩
    | some b =>
      cases b with
      | true => exact .inr (.inr ⟨i, _, _, rfl, rfl, he.val⟩)
      | false => exact findNow_rel hl (i + 1)

theorem findAsking_rel {t : TypeId} {k : Value} : ∀ {es es' : List MapEntry}, EsRel em es es' → ∀ i r, pureRun P (Instr.findAsking t k es i) = some r →
    (r = none ∧ ∀ w, (Instr.findAsking t k es' i).run P w = .ok none w) ∨ ∃ j v v', r = some (j, v) ∧ VRel em v v' ∧ ∀ w, (Instr.findAsking t k es' i).run P w = .ok (some (j, v')) w
  | _, _, .nil, i, r, hr => by
    simp [Instr.findAsking, pureRun, Pure.pure] at hr
    subst hr
    exact .inl ⟨rfl, fun w => rfl⟩
  | _, _, .cons (e := e) (e' := e') (l := l) (l' := l') he hl, i, r, hr => by
    -- the key is asked for by the program alone
    have key : ∀ (s : Sem Bool) (f : Bool → Sem (Option (Nat × Value))) (r : Option (Nat × Value)), pureRun P (s.bind f) = some r → ∃ b, pureRun P s = some b ∧ pureRun P (f b) = some r := by
      intro s
      induction s with
      | pure a => intro f r hr; exact ⟨a, rfl, hr⟩
      | program k ih => intro f r hr; simp only [Sem.bind, pureRun] at hr ⊢; exact ih P f r hr
      | mark m k ih => intro f r hr; simp only [Sem.bind, pureRun] at hr ⊢; exact ih f r hr
      | _ => intro f r hr; simp [Sem.bind, pureRun] at hr
    obtain ⟨b, hb, hr2⟩ := key _ _ _ hr
    have hrun := pureRun_run P _ _ hb
    cases b with
    | true =>
      simp [pureRun, Pure.pure] at hr2
      subst hr2
      refine .inr ⟨i, _, _, rfl, he.val, fun w => ?_⟩
      simp only [Instr.findAsking, Sem.run_bind, he.key, hrun w, Result.andThen_ok]
      rfl
    | false =>
      rcases findAsking_rel hl (i + 1) r hr2 with ⟨h1, h2⟩ | ⟨j, v, v', h1, h2, h3⟩
      · refine .inl ⟨h1, fun w => ?_⟩
        simp only [Instr.findAsking, Sem.run_bind, he.key, hrun w, Result.andThen_ok]
        exact h2 w
      · refine .inr ⟨j, v, v', h1, h2, fun w => ?_⟩
        simp only [Instr.findAsking, Sem.run_bind, he.key, hrun w, Result.andThen_ok]
        exact h3 w

theorem findA_run {t : TypeId} {k : Value} {es es' : List MapEntry} (he : EsRel em es es') {r : Option (Nat × Value)} (hf : findA P t k es = some r) :
    (r = none ∧ ∀ w, (Instr.findKey t k es').run P w = .ok none w) ∨ ∃ j v v', r = some (j, v) ∧ VRel em v v' ∧ ∀ w, (Instr.findKey t k es').run P w = .ok (some (j, v')) w := by
  unfold findA at hf
  cases hu : P.underlying t with
  | none =>
    simp [Instr.findKey, underlying, hu, pureRun, Bind.bind, Sem.bind, program, stuck] at hf
  | some d =>
    have e : ∀ es, pureRun P (Instr.findKey t k es) = pureRun P (match Instr.findNow d k es 0 with | some r => pure r | none => Instr.findAsking t k es 0) := by
      intro es
      simp [Instr.findKey, underlying, hu, pureRun, Bind.bind, Sem.bind, program, Pure.pure]
      cases Instr.findNow d k es 0 <;> rfl
    rw [e] at hf
    rcases findNow_rel (kind := d) (k := k) he 0 with ⟨h1, h2⟩ | ⟨h1, h2⟩ | ⟨j, v, v', h1, h2, h3⟩
    · rw [h1] at hf
      rcases findAsking_rel he 0 r hf with ⟨q1, q2⟩ | ⟨j, v, v', q1, q2, q3⟩
      · exact .inl ⟨q1, fun w => by simp [Instr.findKey, run_underlying hu, h2, q2]⟩
      · exact .inr ⟨j, v, v', q1, q2, fun w => by simp [Instr.findKey, run_underlying hu, h2, q3]⟩
    · rw [h1] at hf
      simp [pureRun, Pure.pure] at hf
      subst hf
      exact .inl ⟨rfl, fun w => by simp [Instr.findKey, run_underlying hu, h2]⟩
    · rw [h1] at hf
      simp [pureRun, Pure.pure] at hf
      subst hf
      exact .inr ⟨j, v, v', rfl, h3, fun w => by simp [Instr.findKey, run_underlying hu, h2]⟩

end
end Go.Ae
