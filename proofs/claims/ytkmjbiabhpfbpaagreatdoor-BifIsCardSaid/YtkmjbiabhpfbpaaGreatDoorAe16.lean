/- The abstract evaluator: a call that it does stands for the model's own, deferred calls and recover too. -/
import Derived.Test.YtkmjbiabhpfbpaaGreatDoorAe15
namespace Go.Ae
open Go Go.RowKit
set_option linter.unusedSectionVars false
variable [Ask]

inductive ModeRel (em : Emb) : Option (List PanicEntry) → FrameMode → Prop
  | returning : ModeRel em none .returning
  | panicking {c c' : List PanicEntry} : ChRel em c c' → ModeRel em (some c) (.panicking c')

theorem ModeRel.mono {em em' : Emb} (h : em.Le em') {u : Option (List PanicEntry)} {m : FrameMode} (r : ModeRel em u m) : ModeRel em' u m := by
  cases r with
  | returning => exact .returning
  | panicking hc => exact .panicking (hc.mono h)

theorem ChRel.dropWhile {em : Emb} : ∀ {l l' : List PanicEntry}, ChRel em l l' → ChRel em (l.dropWhile (!·.goexit)) (l'.dropWhile (!·.goexit))
  | _, _, .nil => .nil
  | _, _, .cons (e := e) (e' := e') he hl => by
    simp only [List.dropWhile_cons, he.goexit]
    split
    · exact ChRel.dropWhile hl
    · exact .cons he hl

theorem settle_rel {em : Emb} {u : Option (List PanicEntry)} {m : FrameMode} (r : ModeRel em u m) : ModeRel em (settleA u) (settle m) := by
  cases r with
  | returning => exact .returning
  | panicking hc =>
    cases hc with
    | nil => exact .panicking .nil
    | cons he hl =>
      rename_i e e' l l'
      obtain ⟨v, rec, ge⟩ := e
      obtain ⟨v', rec', ge'⟩ := e'
      have h1 : rec' = rec := he.recovered
      subst h1
      cases rec' with
      | false => exact .panicking (.cons he hl)
      | true =>
        have hd := hl.dropWhile
        simp only [settleA, settle]
        cases h2 : l.dropWhile (!·.goexit) with
        | nil =>
          rw [h2] at hd
          cases h3 : l'.dropWhile (!·.goexit) with
          | nil => exact .returning
          | cons a b => rw [h3] at hd; cases hd
        | cons a b =>
          rw [h2] at hd
          cases h3 : l'.dropWhile (!·.goexit) with
          | nil => rw [h3] at hd; cases hd
          | cons a' b' => rw [h3] at hd; exact .panicking hd

theorem raised_rel {em : Emb} {u : Option (List PanicEntry)} {m : FrameMode} (r : ModeRel em u m) {c c' : List PanicEntry} (hc : ChRel em c c') : ModeRel em (raisedA u c) (raised m c') := by
  cases r with
  | returning => exact .panicking hc
  | panicking h => exact .panicking (hc.append h)

section
variable {P : Program} {G : Nat} {B : Kp}

def resOne (tmps : Array Value) : ResultVar → Sem Value
  | .tmp t => pure (tmps.getD t undef)
  | .cell a t => (asAddr (tmps.getD a undef)).bind fun x => loadVar t x

theorem results_eq (fn : Func) (tmps : Array Value) : results fn tmps = (do let vs ← fn.results.mapM (resOne tmps); pure (if h : vs.size = 1 then vs[0] else .tuple vs)) := by
  unfold results
  congr 1

theorem resA_run {em : Emb} {h : AHeap} {w : World} (H : WRel G B em h w) {tm : Tr Value} {tmps : Array Value} (ht : TmRel em tm tmps) : ∀ {rs : List ResultVar} {vs : List Value}, resA P tm h rs = some vs →
    ∃ vs', VsRel em vs vs' ∧ (rs.mapM (resOne tmps)).run P w = .ok vs' w
  | [], vs, hr => by simp [resA] at hr; subst hr; exact ⟨[], .nil, by simp⟩
  | .tmp t :: rs, vs, hr => by
    simp only [resA] at hr
    obtain ⟨vs0, h0, rfl⟩ := Option.map_eq_some_iff.1 hr
    obtain ⟨vs', h1, h2⟩ := resA_run H ht h0
    refine ⟨_, .cons (ht t) h1, ?_⟩
    simp only [List.mapM_cons, resOne, Sem.run_bind, Sem.run_pure, Result.andThen_ok, h2]
  | .cell a t :: rs, vs, hr => by
    simp only [resA] at hr
    split at hr
    · rename_i ad had
      obtain ⟨v, hv, hr2⟩ := Option.bind_eq_some_iff.1 hr
      obtain ⟨vs0, h0, rfl⟩ := Option.map_eq_some_iff.1 hr2
      obtain ⟨vs', h1, h2⟩ := resA_run H ht h0
      have hta := ht a
      rw [had] at hta
      obtain ⟨b, off, cb, co, rfl, hat, e⟩ := ptr_inv hta
      obtain ⟨v', hvr, hvrun⟩ := loadA_run H hv hat
      have h3 : (resOne tmps (.cell a t)).run P w = .ok v' w := by
        simp only [resOne, e, asAddr]
        exact hvrun
      refine ⟨_, .cons hvr h1, ?_⟩
      simp only [List.mapM_cons, Sem.run_bind, h3, Sem.run_pure, Result.andThen_ok, h2]
    · cases hr

theorem resultsA_run {em : Emb} {h : AHeap} {w : World} (H : WRel G B em h w) {tm : Tr Value} {tmps : Array Value} (ht : TmRel em tm tmps) {fn : Func} {v : Value} (hr : resultsA P fn tm h = some v) :
    ∃ v', VRel em v v' ∧ (results fn tmps).run P w = .ok v' w := by
  unfold resultsA at hr
  obtain ⟨vs, hvs, e⟩ := Option.map_eq_some_iff.1 hr
  obtain ⟨vs', hrel, hrun⟩ := resA_run H ht hvs
  have hrun2 : (results fn tmps).run P w = .ok (if h : vs'.toArray.size = 1 then vs'.toArray[0] else .tuple vs'.toArray) w := by
    rw [results_eq, Array.mapM_eq_mapM_toList]
    simp only [Sem.run_bind, Sem.run_map, hrun, Result.andThen_ok, Sem.run_pure]
  refine ⟨_, ?_, hrun2⟩
  subst e
  match vs, vs', hrel with
  | [], [], .nil => exact .tuple .nil
  | [v], [v'], .cons hv .nil => exact hv
  | v :: u :: vs, v' :: u' :: vs', .cons hv (.cons hu hl) =>
    rw [dif_neg (by simp)]
    exact .tuple (.cons hv (.cons hu hl))

theorem start_rel {em : Emb} {args args' : Array Value} (ha : VsRel em args.toList args'.toList) (n : Nat) : TmRel em (Tr.of args.toList) (args' ++ Array.replicate (n - args'.size) undef) := by
  intro t
  rw [Tr.get_of, Array.getD_eq_getD_getElem?]
  by_cases hlt : t < args'.size
  · rw [Array.getElem?_append_left hlt]
    have hl : t < args.toList.length := by rw [ha.length]; simpa using hlt
    obtain ⟨v', h1, h2⟩ := ha.get (List.getElem?_eq_getElem hl)
    rw [List.getElem?_eq_getElem hl, ← Array.getElem?_toList, h1]
    exact h2
  · have hl : args.toList.length ≤ t := by rw [ha.length]; simpa using hlt
    rw [List.getElem?_eq_none hl, Array.getElem?_append_right (by omega)]
    have : ((Array.replicate (n - args'.size) undef)[t - args'.size]?).getD undef = undef := by
      rw [Array.getElem?_replicate]
      split <;> rfl
    rw [this]
    exact undef_rel

theorem start_arel {em : Emb} {args args' : Array Value} (ha : VsRel em args.toList args'.toList) (n : Nat) (h : AHeap) : ARel n em ⟨Tr.of args.toList, [], h⟩ { tmps := args' ++ Array.replicate (n - args'.size) undef, defers := [] } :=
  ⟨start_rel ha n, by simp; omega, .nil⟩

/-- A body without deferred calls of its own. -/
theorem end_ok {fn : Func} {res : Option (AExit × St)} {r : AEnd} {h' : AHeap} {n : Nat} {em : Emb} {w : World} (he : endA P fn res = some (r, h')) : ∃ x, res = some x ∧ ∀ e a w', QOk G B n em w x e a w' →
    bodyPost P fn (fun e w' => Post G B em w h' (fun em' _ => EnRel em' r e) w') e a w' := by
  unfold endA at he
  have fin : ∀ s : St, (match s.ds with | [] => (resultsA P fn s.tm s.h).map fun v => (AEnd.ret v, s.h) | _ => none) = some (r, h') → ∀ (em' : Emb) (a : Act) (w' : World), em.Le em' → WRel G B em' s.h w' → Kept B w w' → ARel n em' s a →
      a.defers = [] ∧ ∃ v, (results fn a.tmps).run P w' = .ok v w' ∧ Post G B em w h' (fun em' _ => EnRel em' r (.returned v)) w' := by
    intro s hs em' a w' hle H hb ha
    split at hs
    · rename_i hds
      obtain ⟨v, hv, e⟩ := Option.map_eq_some_iff.1 hs
      cases e
      have hd := ha.ds
      rw [hds] at hd
      obtain ⟨v', hr, hrun⟩ := resultsA_run H ha.tm hv
      refine ⟨by generalize a.defers = x at hd; cases hd; rfl, v', hrun, em', hle, H, hb, .ret hr⟩
    · cases hs
  split at he
  · rename_i s
    refine ⟨_, rfl, ?_⟩
    rintro e a w' ⟨em', hle, H, hb, ha, hx⟩
    cases hx
    exact fin s he em' a w' hle H hb ha
  · rename_i s
    refine ⟨_, rfl, ?_⟩
    rintro e a w' ⟨em', hle, H, hb, ha, hx⟩
    cases hx
    exact fin s he em' a w' hle H hb ha
  · rename_i chain s
    refine ⟨_, rfl, ?_⟩
    rintro e a w' ⟨em', hle, H, hb, ha, hx⟩
    cases hx with
    | panic hch =>
      split at he
      · rename_i hds
        cases he
        have hd := ha.ds
        rw [hds] at hd
        exact ⟨by generalize a.defers = x at hd; cases hd; rfl, em', hle, H, hb, .panic hch⟩
      · cases he
  · cases he

theorem progWf_get (hwf : progWf P = true) {f : FuncId} {fn : Func} {c : Code} (hf : P.funcs[f]? = some fn) (hb : fn.body = some c) : codeWf fn.ntmps P.globals.size c = true := by
  unfold progWf at hwf
  have := List.all_eq_true.1 hwf fn (by
    rw [← Array.getElem?_toList] at hf
    exact List.mem_of_getElem? hf)
  rw [hb] at this
  exact this

theorem recFirst_eq {c : Code} {dst : Option Tmp} {rest : Code} (h : recFirst c = some (dst, rest)) :
    ∃ id o call, c = .seq (.region id #[o] false) rest ∧ o.op = .call call ∧ call.callee = .builtin .recover ∧ o.guard = none ∧ o.dst = dst := by
  unfold recFirst at h
  split at h
  · rename_i id ops rest'
    split at h
    · rename_i o hl
      split at h
      · rename_i cl hop hg
        split at h
        · rename_i hc
          cases h
          exact ⟨id, o, cl, by rw [show ops = #[o] from Array.ext' hl], hop, hc, hg, rfl⟩
        · cases h
      · cases h
    · cases h
  · cases h

theorem callD_ok {call : CallA} (hcall : CallOk P P.globals.size B call) (hdraw : ∀ n, DrawOk P P.globals.size B n call) (hwf : progWf P = true) {f : FuncId} {args args' : Array Value} {u u1 : Option (List PanicEntry)} {h h1 : AHeap} {r : AEnd}
    (hc : callDA P call f args u h = some (r, u1, h1)) {em : Emb} {w : World} {m : FrameMode} (H : WRel P.globals.size B em h w) (ha : VsRel em args.toList args'.toList) (hm : ModeRel em u m) :
    CallsD P f args' m w fun e m' w' => Post P.globals.size B em w h1 (fun em' _ => EnRel em' r e ∧ ModeRel em' u1 m') w' := by
  unfold callDA at hc
  obtain ⟨fn, hfn, hc1⟩ := Option.bind_eq_some_iff.1 hc
  obtain ⟨c, hb, hc2⟩ := Option.bind_eq_some_iff.1 hc1
  clear hc hc1
  have hcw := progWf_get hwf hfn hb
  have hst := start_arel ha fn.ntmps h
  split at hc2
  · rename_i dst rest hrec
    obtain ⟨⟨r', h'⟩, he, e⟩ := Option.map_eq_some_iff.1 hc2
    cases e
    obtain ⟨id, o, cl, rfl, hop, hcl, hg, hdst⟩ := recFirst_eq hrec
    subst hdst
    simp only [codeWf, Bool.and_eq_true] at hcw
    obtain ⟨hwo, hwr⟩ := hcw
    have hwo1 : operWf fn.ntmps P.globals.size o = true := by simpa using hwo
    simp only [operWf, Bool.and_eq_true] at hwo1
    have hd := hwo1.1
    have hrel : ∃ v', VRel em (recTold u).1 v' ∧ ∀ (c₀ : Frame) (cs : List Frame), c₀.mode = m → ∃ m', ModeRel em (recTold u).2 m' ∧
        ((recoverD (c₀ :: cs) = some (v', { c₀ with mode := m' } :: cs)) ∨ (recoverD (c₀ :: cs) = none ∧ v' = .nilIface ∧ m' = m)) := by
      cases hm with
      | returning => exact ⟨.nilIface, .nilIface, fun c₀ cs hc0 => ⟨.returning, .returning, .inr ⟨by simp [recoverD, hc0], rfl, rfl⟩⟩⟩
      | panicking hch =>
        cases hch with
        | nil => exact ⟨.nilIface, .nilIface, fun c₀ cs hc0 => ⟨_, .panicking .nil, .inr ⟨by simp [recoverD, hc0], rfl, rfl⟩⟩⟩
        | cons he0 hl =>
          rename_i e e' l l'
          obtain ⟨v, rec, ge⟩ := e
          obtain ⟨v', rec', ge'⟩ := e'
          have q1 : rec' = rec := he0.recovered
          have q2 : ge' = ge := he0.goexit
          subst q1 q2
          cases rec' <;> cases ge'
          · exact ⟨v', he0.v, fun c₀ cs hc0 => ⟨.panicking ({ v := v', recovered := true } :: l'), .panicking (.cons ⟨he0.v, rfl, rfl⟩ hl), .inl (by simp [recoverD, hc0])⟩⟩
          · exact ⟨.nilIface, .nilIface, fun c₀ cs hc0 => ⟨_, .panicking (.cons he0 hl), .inr ⟨by simp [recoverD, hc0], rfl, rfl⟩⟩⟩
          · exact ⟨.nilIface, .nilIface, fun c₀ cs hc0 => ⟨_, .panicking (.cons he0 hl), .inr ⟨by simp [recoverD, hc0], rfl, rfl⟩⟩⟩
          · exact ⟨.nilIface, .nilIface, fun c₀ cs hc0 => ⟨_, .panicking (.cons he0 hl), .inr ⟨by simp [recoverD, hc0], rfl, rfl⟩⟩⟩
    obtain ⟨v', hv', hrec'⟩ := hrel
    obtain ⟨x, hx, hpost⟩ := end_ok (G := P.globals.size) (B := B) (n := fn.ntmps) (em := em) (w := w) he
    refine callsD_of_wpS hfn hb fun c₀ cs hc0 => wpS_seq (wpS_region ?_)
    obtain ⟨m', hm', hcase⟩ := hrec' c₀ cs hc0
    have hrun : ∀ ρ : Operand → Value, (execOp ρ o).run P w = .ok .recover w := by
      intro ρ
      simp only [execOp, hop, resolve, hcl, Sem.run_bind, Sem.run_pure, Result.andThen_ok, invoke, builtin]
    have hrange : List.range (#[o] : Array Oper).size = [0] := rfl
    have h0 : (#[o] : Array Oper)[0]? = some o := rfl
    rw [hrange]
    simp only [wpOpsS, h0]
    have hwant : ∀ y, Region.wanted o y = true := by intro y; simp [Region.wanted, hg]
    simp only [hwant, if_true, hrun]
    have ha1 := hst.put (.refl em) hd hv' (h := h)
    have hgo : ∀ cs', cs' = { c₀ with mode := m' } :: cs → Exit.thenS (rest.wpS P (bodyPostS P fn c₀ cs (fun e m' w' => Post P.globals.size B em w h' (fun em' _ => EnRel em' r' e ∧ ModeRel em' (recTold u).2 m') w')))
        (bodyPostS P fn c₀ cs (fun e m' w' => Post P.globals.size B em w h' (fun em' _ => EnRel em' r' e ∧ ModeRel em' (recTold u).2 m') w')) .normal
        (({ tmps := args' ++ Array.replicate (fn.ntmps - args'.size) undef, defers := [] } : Act).put o.dst v') cs' w := by
      intro cs' hcs
      simp only [Exit.thenS]
      have hwp := (code_ok hcall (hdraw fn.ntmps) fuelA).1 rest _ x hx hwr em _ w H ha1
      refine wpS_of_wp (wp_mono hwp ?_)
      intro e a w' hq
      have hp := hpost e a w' hq
      cases e with
      | normal =>
        obtain ⟨q1, v, q2, q3⟩ := hp
        exact ⟨q1, m', hcs, v, q2, let ⟨em', z1, z2, z3, z4⟩ := q3; ⟨em', z1, z2, z3, z4, hm'.mono z1⟩⟩
      | ret =>
        obtain ⟨q1, v, q2, q3⟩ := hp
        exact ⟨q1, m', hcs, v, q2, let ⟨em', z1, z2, z3, z4⟩ := q3; ⟨em', z1, z2, z3, z4, hm'.mono z1⟩⟩
      | panic chain =>
        obtain ⟨q1, q3⟩ := hp
        exact ⟨q1, m', hcs, let ⟨em', z1, z2, z3, z4⟩ := q3; ⟨em', z1, z2, z3, z4, hm'.mono z1⟩⟩
      | exit id => exact hp.elim
      | goto l => exact hp.elim
      | outgrown =>
        obtain ⟨em2, _, _, _, _, hxx⟩ := hq
        have no : ∀ y, ExRel em2 y .outgrown → False := fun y hy => by cases hy
        exact (no _ hxx).elim
    rcases hcase with hcase | ⟨hcase, hvn, hmm⟩
    · rw [hcase]
      exact hgo _ rfl
    · rw [hcase]
      simp only
      subst hvn hmm
      refine hgo _ ?_
      subst hc0
      rfl
  · obtain ⟨⟨r', h'⟩, he, e⟩ := Option.map_eq_some_iff.1 hc2
    cases e
    obtain ⟨x, hx, hpost⟩ := end_ok (G := P.globals.size) (B := B) (n := fn.ntmps) (em := em) (w := w) he
    have hwp := (code_ok hcall (hdraw fn.ntmps) fuelA).1 c _ x hx hcw em _ w H hst
    refine CallsD.mono (callsD_of_wp hfn hb (wp_mono hwp hpost)) ?_
    rintro e m' w' ⟨rfl, em', z1, z2, z3, z4⟩
    exact ⟨em', z1, z2, z3, z4, hm.mono z1⟩

theorem leaves_mono {fn : Func} {tmps : Array Value} {R R' : Ending → World → Prop} (hr : ∀ e w, R e w → R' e w) : ∀ (ds : List Deferred) (m : FrameMode) (w : World), Leaves P fn tmps R ds m w → Leaves P fn tmps R' ds m w
  | [], .returning, w, ⟨v, h1, h2⟩ => ⟨v, h1, hr _ _ h2⟩
  | [], .panicking _, w, h => hr _ _ h
  | [], .run, w, h => h.elim
  | d :: ds, m, w, ⟨h1, fv, cap, f, args, h2, h3, h4⟩ => by
    refine ⟨h1, fv, cap, f, args, h2, h3, CallsD.mono h4 ?_⟩
    intro e u' w' he
    cases e with
    | returned v => exact leaves_mono hr ds _ _ he
    | panicked chain => exact leaves_mono hr ds _ _ he
    | outgrown => exact hr _ _ he

theorem leave_ok {call : CallA} (hcall : CallOk P P.globals.size B call) (hdraw : ∀ n, DrawOk P P.globals.size B n call) (hwf : progWf P = true) {fn : Func} {tm : Tr Value} {tmps : Array Value} {r : AEnd} {h' : AHeap} :
    ∀ {ds : List Deferred} {u : Option (List PanicEntry)} {h : AHeap}, leaveA P (callDA P call) fn tm ds u h = some (r, h') → ∀ {ds' : List Deferred} {m : FrameMode} {em : Emb} {w : World}, WRel P.globals.size B em h w → TmRel em tm tmps → DsRel em ds ds' → ModeRel em u m →
      Leaves P fn tmps (fun e w' => Post P.globals.size B em w h' (fun em' _ => EnRel em' r e) w') ds' m w
  | [], u, h, hl, ds', m, em, w, H, ht, hd, hm => by
    cases hd
    cases hm with
    | returning =>
      simp only [leaveA] at hl
      obtain ⟨v, hv, e⟩ := Option.map_eq_some_iff.1 hl
      cases e
      obtain ⟨v', h1, h2⟩ := resultsA_run H ht hv
      exact ⟨v', h2, em, .refl em, H, Kept.refl _ _, .ret h1⟩
    | panicking hch =>
      simp only [leaveA, Option.some.injEq, Prod.mk.injEq] at hl
      obtain ⟨rfl, rfl⟩ := hl
      exact ⟨em, .refl em, H, Kept.refl _ _, .panic hch⟩
  | d :: ds, u, h, hl, ds', m, em, w, H, ht, hd, hm => by
    cases hd with
    | cons hd0 hds =>
      simp only [leaveA] at hl
      split at hl
      · rename_i f args h2 hinv
        have hok := invoke_ok (P := P) H hinv hd0
        cases hok with
        | enter hargs hrun =>
          rename_i args'
          obtain ⟨fv, cap, cap', e1, e2, _⟩ := hd0.fn
          refine ⟨by cases hm <;> simp, fv, cap', f, args', e2, hrun, ?_⟩
          split at hl
          · rename_i v u' h3 hc
            refine CallsD.mono (callD_ok hcall hdraw hwf hc H hargs hm) ?_
            rintro e m' w' ⟨em', z1, z2, z3, z4, z5⟩
            cases z4
            have := leave_ok hcall hdraw hwf hl (tmps := tmps) z2 (ht.mono z1) (hds.mono z1) (settle_rel z5)
            exact leaves_mono (fun e w'' hp => Post.step z1 z3 hp) _ _ _ this
          · rename_i chain u' h3 hc
            refine CallsD.mono (callD_ok hcall hdraw hwf hc H hargs hm) ?_
            rintro e m' w' ⟨em', z1, z2, z3, z4, z5⟩
            cases z4 with
            | panic hch =>
              have := leave_ok hcall hdraw hwf hl (tmps := tmps) z2 (ht.mono z1) (hds.mono z1) (raised_rel z5 hch)
              exact leaves_mono (fun e w'' hp => Post.step z1 z3 hp) _ _ _ this
          · cases hl
      · cases hl

/-- Summaries that stand for calls. -/
def SumOk (P : Program) (B : Kp) (S : FuncId → Option CallA) : Prop :=
  ∀ f g, S f = some g → ∀ args h r h', g f args h = some (r, h') → ∀ em w args', WRel P.globals.size B em h w → VsRel em args.toList args'.toList →
    Calls P f args' w fun e w' => Post P.globals.size B em w h' (fun em' _ => EnRel em' r e) w'

/-- THE LAW: what the evaluator comes to, the model's call comes to, on every tape. -/
theorem callA_ok {S : FuncId → Option CallA} (hS : ∀ B, SumOk P B S) (hdraw : ∀ call, (∀ B, CallOk P P.globals.size B call) → ∀ B n, DrawOk P P.globals.size B n call) (hwf : progWf P = true) : ∀ n B, CallOk P P.globals.size B (callA P S n)
  | 0, _ => fun f args h r h' hc => by simp [callA] at hc
  | n + 1, B => by
    have ih := callA_ok hS hdraw hwf n
    intro f args h r h' hc em w args' H ha
    simp only [callA] at hc
    split at hc
    · rename_i g hg
      exact hS B f g hg args h r h' hc em w args' H ha
    · obtain ⟨fn, hfn, hc1⟩ := Option.bind_eq_some_iff.1 hc
      obtain ⟨c, hb, hc2⟩ := Option.bind_eq_some_iff.1 hc1
      have hcw := progWf_get hwf hfn hb
      have hst := start_arel ha fn.ntmps h
      refine calls_of_wp_defers hfn hb ?_
      cases hcode : codeA P (callA P S n) fuelA c ⟨Tr.of args.toList, [], h⟩ with
      | none => rw [hcode] at hc2; cases hc2
      | some x =>
        obtain ⟨e0, s⟩ := x
        rw [hcode] at hc2
        refine wp_mono ((code_ok (ih B) (hdraw _ ih B fn.ntmps) fuelA).1 c _ _ hcode hcw em _ w H hst) ?_
        rintro e a w' ⟨em', z1, z2, z3, z4, z5⟩
        have hd := fun n => hdraw _ ih B n
        cases z5 with
        | normal =>
          simp only at hc2
          exact leaves_mono (fun e w'' hp => Post.step z1 z3 hp) _ _ _ (leave_ok (ih B) hd hwf hc2 z2 z4.tm z4.ds .returning)
        | ret =>
          simp only at hc2
          exact leaves_mono (fun e w'' hp => Post.step z1 z3 hp) _ _ _ (leave_ok (ih B) hd hwf hc2 z2 z4.tm z4.ds .returning)
        | panic hch =>
          simp only at hc2
          exact leaves_mono (fun e w'' hp => Post.step z1 z3 hp) _ _ _ (leave_ok (ih B) hd hwf hc2 z2 z4.tm z4.ds (.panicking hch))
        | exit id => simp only at hc2; cases hc2
        | goto l => simp only at hc2; cases hc2

end
end Go.Ae
