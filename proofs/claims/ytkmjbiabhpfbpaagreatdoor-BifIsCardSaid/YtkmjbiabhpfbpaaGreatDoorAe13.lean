/- The abstract evaluator: each operation that it does stands for the model's own. Part 10: calls; all operations together. -/
import Derived.Test.YtkmjbiabhpfbpaaGreatDoorAe12
namespace Go.Ae
open Go Go.RowKit
set_option linter.unusedSectionVars false
variable [Ask]

section
variable {P : Program} {G : Nat} {B : Kp} {em : Emb} {h : AHeap} {w : World} {ρ ρ' : Operand → Value} {o : Oper} {r : ORes}

theorem enter_ok (H : WRel G B em h w) {f : FuncId} {args args' : Array Value} (hop : enterA P f args h = some r) (ha : VsRel em args.toList args'.toList) : OpOk G B em h w ((callFunc f args').run P w) r := by
  unfold enterA at hop
  obtain ⟨fn, hfn, hop⟩ := Option.bind_eq_some_iff.1 hop
  split at hop
  · rename_i c hb
    rw [Bool.cond_eq_ite] at hop
    split at hop
    · cases hop
    · rename_i hn
      cases hop
      refine .enter ha ?_
      simp only [callFunc, Sem.run_bind, run_program, Result.andThen_ok, hfn, hb]
      simp [hn]
  · rename_i hb
    rw [Bool.cond_eq_ite] at hop
    split at hop
    · rename_i hg
      have e : args' = args := Array.ext' (ha.ground hg)
      subst e
      split at hop
      · rename_i v hv
        exact groundRes_ok H hop rfl (pureRun_run P _ _ hv w)
      · cases hop
    · cases hop

theorem method_run {t : TypeId} {v v' : Value} {name : String} {f : FuncId} {rv : Value} (hm : methodA P t v name = some (f, rv)) (hv : VRel em v v') : ∃ rv', VRel em rv rv' ∧ ∀ n w, (method (n + 1) t v' name).run P w = .ok (f, rv') w := by
  unfold methodA at hm
  obtain ⟨i, hi, hm1⟩ := Option.bind_eq_some_iff.1 hm
  clear hm
  obtain ⟨m, hmm, hm⟩ := Option.bind_eq_some_iff.1 hm1
  clear hm1
  split at hm
  · rename_i f0 ptr hp hf
    split at hm
    · rename_i e hu
      cases hm
      refine ⟨v', hv, fun n w => ?_⟩
      simp only [method, Sem.run_bind, run_typeInfo hi, Result.andThen_ok, hmm, hp, follow, Sem.run_pure, hf, receiverAt, run_underlying hu, Place.get]
    · cases hm
    · rename_i d hno hu
      cases hm
      refine ⟨v', hv, fun n w => ?_⟩
      simp only [method, Sem.run_bind, run_typeInfo hi, Result.andThen_ok, hmm, hp, follow, Sem.run_pure, hf, receiverAt, run_underlying hu, Place.get]
    · cases hm
  · rename_i s f0 hp hf
    rw [Bool.cond_eq_ite] at hm
    split at hm
    · rename_i hd
      split at hm
      · rename_i fields a hu
        obtain ⟨fd, hfd, hm1⟩ := Option.bind_eq_some_iff.1 hm
        clear hm
        obtain ⟨n, hn, hm⟩ := Option.bind_eq_some_iff.1 hm1
        clear hm1
        rw [Bool.cond_eq_ite] at hm
        split at hm
        · cases hm
        · rename_i h0
          have hn0 : n ≠ 0 := fun e => h0 (by subst e; rfl)
          split at hm
          · cases hm
          · rename_i d hno hud
            cases hm
            obtain ⟨b, off, cb, co, rfl, hat, rfl⟩ := ptr_inv hv
            refine ⟨.pointer (some ⟨cb, co + (off + fd.offset), none⟩), by rw [Addr.add_lit]; exact .ptr _ hat, fun k w => ?_⟩
            simp only [method, Sem.run_bind, run_typeInfo hi, Result.andThen_ok, hmm, hp, follow, Sem.run_pure, run_underlying hu, hfd, hd, if_true, Place.get, asAddr, fieldPlace, sizeA_run hn, hn0, if_false, hf, receiverAt, run_underlying hud]
            cases d <;> first | (simp only [Addr.add_lit, Nat.add_assoc]; done) | exact absurd hud (hno _) | (simp [Addr.add_lit, Nat.add_assoc]; done)
          · cases hm
      · cases hm
    · cases hm
  · cases hm

theorem invoke_ok (H : WRel G B em h w) {d d' : Deferred} (hop : invokeA P d h = some r) (hd : DRel em d d') : OpOk G B em h w ((invoke d'.target d'.args).run P w) r := by
  obtain ⟨⟨fn, cap, cap', e1, e2, hcap⟩, hargs⟩ := hd
  unfold invokeA at hop
  rw [e1] at hop
  rw [e2]
  split at hop
  · rename_i f captured e
    cases e
    refine enter_ok H hop ?_
    simpa using hargs.append hcap
  · rename_i name captured e
    cases e
    split at hop
    · rename_i t v rest hl
      obtain ⟨⟨f, rv⟩, hm, hop⟩ := Option.bind_eq_some_iff.1 hop
      rw [hl] at hargs
      generalize hal : d'.args.toList = al' at hargs
      match al', hargs with
      | v0 :: rest', .cons hv hr =>
        obtain ⟨u, hu, rfl⟩ := iface_inv hv
        obtain ⟨rv', hrv, hrun⟩ := method_run hm hu
        have a0 : d'.args[0]? = some (.iface t u) := by rw [← Array.getElem?_toList, hal]; rfl
        have hext : (d'.args.extract 1 d'.args.size).toList = rest' := by
          rw [Array.toList_extract, hal, List.extract_eq_take_drop]
          have : d'.args.size = rest'.length + 1 := by rw [← Array.length_toList, hal]; rfl
          simp [this]
        have key := enter_ok (P := P) (w := w) H (f := f) (args' := #[rv'] ++ d'.args.extract 1 d'.args.size) hop (by
          simp only [Array.toList_append, hext]
          exact .cons hrv hr)
        have hsz : ∃ n, P.types.size + Made.depth = n + 1 := ⟨P.types.size + (Made.depth - 1), by unfold Made.depth; omega⟩
        obtain ⟨n, hn⟩ := hsz
        have : (invoke (.fn (.method name) cap') d'.args).run P w = (callFunc f (#[rv'] ++ d'.args.extract 1 d'.args.size)).run P w := by
          simp only [invoke, a0, callMethod, Sem.run_bind, run_program, Result.andThen_ok, hn, hrun]
        rw [this]
        exact key
    · cases hop
  · cases hop

theorem resolve_ok {c : Call} {d : Deferred} (hop : resolveA ρ c = some d) (hρ : ∀ x ∈ c.operands.toList, VRel em (ρ x) (ρ' x)) : ∃ d', DRel em d d' ∧ ∀ t, resolve ρ' c t = (pure d' : Sem Deferred) := by
  unfold resolveA at hop
  have hargs : VsRel em (c.args.map ρ).toList (c.args.map ρ').toList := by
    simpa using map_rel (em := em) (ρ := ρ) (ρ' := ρ') (l := c.args.toList) fun x hx => hρ x (by
      unfold Call.operands; simp only [Array.toList_append]; exact List.mem_append_right _ hx)
  split at hop
  · cases hop
  · rename_i recv name hc
    cases hop
    have hr : VRel em (ρ recv) (ρ' recv) := hρ recv (by unfold Call.operands; rw [hc]; simp)
    refine ⟨{ target := .fn (.method name) #[], args := #[ρ' recv] ++ c.args.map ρ' }, ⟨⟨_, #[], #[], rfl, rfl, .nil⟩, ?_⟩, fun t => by simp only [resolve, hc]⟩
    simp only [Array.toList_append]
    exact .cons hr hargs
  · rename_i f hc
    split at hop
    · rename_i fn first captured hf
      cases hop
      have hr : VRel em (ρ f) (ρ' f) := hρ f (by unfold Call.operands; rw [hc]; simp)
      rw [hf] at hr
      obtain ⟨a', c', h1, h2, e⟩ := func_inv hr
      refine ⟨{ target := .fn fn c', args := a' ++ c.args.map ρ' }, ⟨⟨fn, _, _, rfl, rfl, h2⟩, ?_⟩, fun t => by simp only [resolve, hc, e, Deferred.ofValue]⟩
      simp only [Array.toList_append]
      exact h1.append hargs
    · cases hop

end
end Go.Ae
