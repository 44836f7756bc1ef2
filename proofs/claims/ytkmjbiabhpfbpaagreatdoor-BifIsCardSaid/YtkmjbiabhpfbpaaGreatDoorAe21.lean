/- The abstract evaluator: answers at values that are only handed on, by tables. -/
import Derived.Test.YtkmjbiabhpfbpaaGreatDoorAe20
namespace Go.Ae
open Go Go.RowKit

structure Toks where
  str : Nat → BinOp → ByteArray → Option Value
  rts : Nat → BinOp → ByteArray → Option Value
  int : Nat → BinOp → IntKind → Int → Option Value
  tni : Nat → BinOp → IntKind → Int → Option Value
  len : Nat → Option Value

@[reducible] def askT (T : Toks) : Ask where
  ask P op ρ :=
    match op with
    | .binOp bop _ x y _ =>
      match ρ x, ρ y with
      | .chan (some k), .string s => T.str k bop s
      | .string s, .chan (some k) => T.rts k bop s
      | .chan (some k), .int kd n => T.int k bop kd n
      | .int kd n, .chan (some k) => T.tni k bop kd n
      | _, _ => none
    | .call c =>
      match c.callee, c.argTypes.toList, c.args.toList with
      | .builtin .len, t :: _, [x] => match P.underlying t, ρ x with
        | some .string, .chan (some k) => T.len k
        | _, _ => none
      | _, _, _ => none
    | _ => none

structure ToksOk (T : Toks) (tok : Nat → Value) : Prop where
  str : ∀ k bop s v, T.str k bop s = some v → ∃ s0, tok k = .string s0 ∧ ∀ t, binOp bop t (.string s0) (.string s) = pure (inst tok v)
  rts : ∀ k bop s v, T.rts k bop s = some v → ∃ s0, tok k = .string s0 ∧ ∀ t, binOp bop t (.string s) (.string s0) = pure (inst tok v)
  int : ∀ k bop kd n v, T.int k bop kd n = some v → ∃ kd' m, tok k = .int kd' m ∧ ∀ t, binOp bop t (.int kd' m) (.int kd n) = pure (inst tok v)
  tni : ∀ k bop kd n v, T.tni k bop kd n = some v → ∃ kd' m, tok k = .int kd' m ∧ ∀ t, binOp bop t (.int kd n) (.int kd' m) = pure (inst tok v)
  len : ∀ k v, T.len k = some v → ∃ s0, tok k = .string s0 ∧ goInt s0.size = inst tok v

theorem guard_free (op : BinOp) (t : TypeId) (x y : Operand) {a b : Value} (h : a ≠ .nilIface) (h2 : ∀ l, a ≠ .agg l) (P : Program) (w : World) : (eqGuard op t x y a b).run P w = .ok () w := by
  unfold eqGuard
  cases a <;> first | exact absurd rfl h | exact absurd rfl (h2 _) | (cases op <;> rfl)

theorem bin_run {bop : BinOp} {t ty : TypeId} {x y : Operand} {ρ' : Operand → Value} {o : Oper} (ho : o.op = .binOp bop t x y ty) {v : Value} (h1 : ρ' x ≠ .nilIface) (h2 : ∀ l, ρ' x ≠ .agg l)
    (hb : binOp bop t (ρ' x) (ρ' y) = pure v) (P : Program) (w : World) : (execOp ρ' o).run P w = .ok (.value v) w := by
  simp only [execOp, ho, Sem.run_bind, guard_free bop t x y h1 h2, Result.andThen_ok, hb, Sem.run_pure]

theorem askT_ok {T : Toks} {tok : Nat → Value} (hT : ToksOk T tok) : @AskOk (askT T) tok := by
  intro P o ρ ρ' v hask hflat w
  dsimp only [Ask.ask, askT] at hask
  split at hask
  · rename_i bop t x y ty ho
    have hx := hflat x (by simp [ho, Op.operands])
    have hy := hflat y (by simp [ho, Op.operands])
    split at hask
    · rename_i k s e1 e2
      rw [e1] at hx; rw [e2] at hy
      have hx := hx rfl
      have hy := hy rfl
      obtain ⟨s0, ht, hb⟩ := hT.str _ _ _ _ hask
      simp only [inst] at hx hy
      rw [ht] at hx
      exact bin_run ho (by rw [hx]; simp) (by rw [hx]; simp) (by rw [hx, hy]; exact hb t) P w
    · rename_i s k e1 e2
      rw [e1] at hx; rw [e2] at hy
      have hx := hx rfl
      have hy := hy rfl
      obtain ⟨s0, ht, hb⟩ := hT.rts _ _ _ _ hask
      simp only [inst] at hx hy
      rw [ht] at hy
      exact bin_run ho (by rw [hx]; simp) (by rw [hx]; simp) (by rw [hx, hy]; exact hb t) P w
    · rename_i k kd n e1 e2
      rw [e1] at hx; rw [e2] at hy
      have hx := hx rfl
      have hy := hy rfl
      obtain ⟨kd', m, ht, hb⟩ := hT.int _ _ _ _ _ hask
      simp only [inst] at hx hy
      rw [ht] at hx
      exact bin_run ho (by rw [hx]; simp) (by rw [hx]; simp) (by rw [hx, hy]; exact hb t) P w
    · rename_i kd n k e1 e2
      rw [e1] at hx; rw [e2] at hy
      have hx := hx rfl
      have hy := hy rfl
      obtain ⟨kd', m, ht, hb⟩ := hT.tni _ _ _ _ _ hask
      simp only [inst] at hx hy
      rw [ht] at hy
      exact bin_run ho (by rw [hx]; simp) (by rw [hx]; simp) (by rw [hx, hy]; exact hb t) P w
    · cases hask
  · rename_i c ho
    split at hask
    · rename_i t ts x hcal hty harg
      split at hask
      · rename_i k hu hx0
        obtain ⟨s0, ht, hl⟩ := hT.len _ _ hask
        have hx := hflat x (by simp [ho, Op.operands, Call.operands, hcal, harg])
        rw [hx0] at hx
        have hx := hx rfl
        simp only [inst] at hx
        rw [ht] at hx
        have hargs : c.args = #[x] := Array.ext' (by rw [harg])
        have hty0 : c.argTypes[0]? = some t := by rw [← Array.getElem?_toList, hty]; rfl
        simp only [execOp, ho, resolve, hcal, Sem.run_bind, Sem.run_pure, Result.andThen_ok, invoke, builtin]
        simp [Builtin.len_, hargs, hty0, hx, run_underlying hu, hl]
      · cases hask
    · cases hask
  · cases hask

theorem noAsk_ok (tok : Nat → Value) : @AskOk noAsk tok := by intro P o ρ ρ' v h; cases h

theorem flat_rel [Ask] {em : Emb} : ∀ {l : List Value}, l.all flat = true → VsRel em l (l.map (inst em.tok))
  | [], _ => .nil
  | _ :: _, h => by
    simp only [List.all_cons, Bool.and_eq_true] at h
    exact .cons (inst_rel h.1) (flat_rel h.2)

/-- A run at values that are only handed on. -/
theorem runs_true {P : Program} {S : FuncId → Option CallA} {T : Toks} {tok : Nat → Value} (hS : ∀ (i : Ae.Ask) B, @SumOk i P B S) (hwf : progWf P = true) (one : ∀ k, (tok k).oneCell' = true) (hT : ToksOk T tok)
    {n : Nat} {f : FuncId} {k : Nat} {args args' : Array Value} (hrun : tellsTrue (@callA (askT T) P S n f args (bare k)) = true) (hk : P.globals.size ≤ k) (hf : args.toList.all flat = true) (ha : args'.toList = args.toList.map (inst tok)) (w : World) :
    Calls P f args' w fun e w' => e = .returned (.bool true) ∧ Below w.heap.size w w' :=
  @closed_true (askT T) P S (hS (askT T)) hwf n f k args args' tok one (askT_ok hT) hrun hk (by rw [ha]; exact @flat_rel (askT T) (@emb0 (askT T) P.globals.size tok one (askT_ok hT)) _ hf) w

theorem none_true {P : Program} (hwf : progWf P = true) {n : Nat} {f : FuncId} {k : Nat} (hrun : tellsTrue (@callA noAsk P noSum n f #[] (bare k)) = true) (hk : P.globals.size ≤ k) (w : World) :
    Calls P f #[] w fun e w' => e = .returned (.bool true) ∧ Below w.heap.size w w' :=
  @closed_true noAsk P noSum (@noSum_ok noAsk P) hwf n f k #[] #[] (fun _ => .bool false) (fun _ => rfl) (noAsk_ok _) hrun hk (@VsRel.nil noAsk _) w
end Go.Ae
