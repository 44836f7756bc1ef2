/- The abstract evaluator: a run of code, a call: each that it does stands for the model's own. -/
import Derived.Test.YtkmjbiabhpfbpaaGreatDoorAe14
import Derived.Recover
import Derived.Scope
namespace Go.Ae
open Go Go.RowKit
set_option linter.unusedSectionVars false
variable [Ask]

/-- Deferred calls; entries of a panic. -/
inductive DsRel (em : Emb) : List Deferred → List Deferred → Prop
  | nil : DsRel em [] []
  | cons {d d' : Deferred} {l l' : List Deferred} : DRel em d d' → DsRel em l l' → DsRel em (d :: l) (d' :: l')
structure PeRel (em : Emb) (e e' : PanicEntry) : Prop where
  v : VRel em e.v e'.v
  recovered : e'.recovered = e.recovered
  goexit : e'.goexit = e.goexit
inductive ChRel (em : Emb) : List PanicEntry → List PanicEntry → Prop
  | nil : ChRel em [] []
  | cons {e e' : PanicEntry} {l l' : List PanicEntry} : PeRel em e e' → ChRel em l l' → ChRel em (e :: l) (e' :: l')

theorem DRel.mono {em em' : Emb} (h : em.Le em') {d d' : Deferred} (r : DRel em d d') : DRel em' d d' :=
  ⟨let ⟨fn, c, c', e1, e2, hc⟩ := r.fn; ⟨fn, c, c', e1, e2, hc.mono h⟩, r.args.mono h⟩
theorem DsRel.mono {em em' : Emb} (h : em.Le em') : ∀ {l l' : List Deferred}, DsRel em l l' → DsRel em' l l'
  | _, _, .nil => .nil
  | _, _, .cons hd hl => .cons (hd.mono h) (DsRel.mono h hl)
theorem PeRel.mono {em em' : Emb} (h : em.Le em') {e e' : PanicEntry} (r : PeRel em e e') : PeRel em' e e' := ⟨r.v.mono h, r.recovered, r.goexit⟩
theorem ChRel.mono {em em' : Emb} (h : em.Le em') : ∀ {l l' : List PanicEntry}, ChRel em l l' → ChRel em' l l'
  | _, _, .nil => .nil
  | _, _, .cons hd hl => .cons (hd.mono h) (ChRel.mono h hl)
theorem ChRel.append {em : Emb} : ∀ {a a' b b' : List PanicEntry}, ChRel em a a' → ChRel em b b' → ChRel em (a ++ b) (a' ++ b')
  | _, _, _, _, .nil, h => h
  | _, _, _, _, .cons hd hl, h => .cons hd (ChRel.append hl h)

def TmRel (em : Emb) (tm : Tr Value) (tmps : Array Value) : Prop := ∀ t, VRel em ((tm.get t).getD undef) (tmps.getD t undef)

structure ARel (n : Nat) (em : Emb) (s : St) (a : Act) : Prop where
  tm : TmRel em s.tm a.tmps
  size : n ≤ a.tmps.size
  ds : DsRel em s.ds a.defers

inductive ExRel (em : Emb) : AExit → Exit → Prop
  | normal : ExRel em .normal .normal
  | exit (id : Nat) : ExRel em (.exit id) (.exit id)
  | goto (l : Nat) : ExRel em (.goto l) (.goto l)
  | ret : ExRel em .ret .ret
  | panic {c c' : List PanicEntry} : ChRel em c c' → ExRel em (.panic c) (.panic c')

inductive EnRel (em : Emb) : AEnd → Ending → Prop
  | ret {v v' : Value} : VRel em v v' → EnRel em (.ret v) (.returned v')
  | panic {c c' : List PanicEntry} : ChRel em c c' → EnRel em (.panic c) (.panicked c')

/-- What a run owes: a place to which the old one has been carried on, the heap as it stands there. -/
def Post (G : Nat) (B : Kp) (em : Emb) (w : World) (h' : AHeap) (R : Emb → World → Prop) (w' : World) : Prop :=
  ∃ em', em.Le em' ∧ WRel G B em' h' w' ∧ Kept B w w' ∧ R em' w'

def QOk (G : Nat) (B : Kp) (n : Nat) (em : Emb) (w : World) (res : AExit × St) : Exit → Act → World → Prop :=
  fun e a w' => Post G B em w res.2.h (fun em' _ => ARel n em' res.2 a ∧ ExRel em' res.1 e) w'

def CallOk (P : Program) (G : Nat) (B : Kp) (call : CallA) : Prop :=
  ∀ f args h r h', call f args h = some (r, h') → ∀ em w args', WRel G B em h w → VsRel em args.toList args'.toList →
    Calls P f args' w fun e w' => Post G B em w h' (fun em' _ => EnRel em' r e) w'

section
variable {P : Program} {G n : Nat} {B : Kp} {em : Emb} {w : World}

theorem Post.step {em1 : Emb} {w1 w' : World} {h' : AHeap} {R : Emb → World → Prop} (hle : em.Le em1) (hb : Kept B w w1) (p : Post G B em1 w1 h' R w') : Post G B em w h' R w' :=
  let ⟨em', h1, h2, h3, h4⟩ := p; ⟨em', hle.trans h1, h2, hb.trans h3, h4⟩
theorem Post.imp {h' : AHeap} {R R' : Emb → World → Prop} {w' : World} (p : Post G B em w h' R w') (f : ∀ em' w', R em' w' → R' em' w') : Post G B em w h' R' w' :=
  let ⟨em', h1, h2, h3, h4⟩ := p; ⟨em', h1, h2, h3, f _ _ h4⟩

theorem undef_rel : VRel em undef undef := .tuple .nil

theorem ev_rel {tm : Tr Value} {a : Act} (ht : TmRel em tm a.tmps) (hg : ∀ g, g < G → em.at_ g = some (g, 0)) {x : Operand} (hx : operandWf G x = true) : VRel em (ev tm x) (a.eval x) := by
  cases x with
  | tmp t => exact ht t
  | const v => exact VRel.ground_refl hx
  | global g =>
    have hlt : g < G := by simpa [operandWf] using hx
    have := VRel.ptr (em := em) (b := g) (cb := g) (co := 0) 0 (hg g hlt)
    simpa [ev, Act.eval] using this
  | func f => exact .func _ .nil .nil

theorem TmRel.put {tm : Tr Value} {tmps : Array Value} (ht : TmRel em tm tmps) (hs : n ≤ tmps.size) {dst : Option Tmp} (hd : (match dst with | some d => Nat.blt d n | none => true) = true) {v v' : Value} (hv : VRel em v v') :
    TmRel em (putT tm dst v) (match dst with | some d => tmps.setIfInBounds d v' | none => tmps) := by
  cases dst with
  | none => exact ht
  | some d =>
    have hlt : d < tmps.size := Nat.lt_of_lt_of_le (show d < n by simpa using hd) hs
    intro t
    simp only [putT]
    rw [Tr.get_set]
    by_cases e : t = d
    · rw [if_pos e, e]
      simp only [Option.getD_some]
      rw [Array.getD_eq_getD_getElem?, Array.getElem?_setIfInBounds_self_of_lt hlt]
      exact hv
    · rw [if_neg e, Array.getD_eq_getD_getElem?, Array.getElem?_setIfInBounds_ne (fun h => e h.symm), ← Array.getD_eq_getD_getElem?]
      exact ht t

theorem TmRel.mono {em' : Emb} (h : em.Le em') {tm : Tr Value} {tmps : Array Value} (ht : TmRel em tm tmps) : TmRel em' tm tmps := fun t => (ht t).mono h

theorem ARel.put {s : St} {a : Act} (ha : ARel n em s a) {em' : Emb} (hle : em.Le em') {dst : Option Tmp} (hd : (match dst with | some d => Nat.blt d n | none => true) = true) {v v' : Value} (hv : VRel em' v v') {h : AHeap} :
    ARel n em' ⟨putT s.tm dst v, s.ds, h⟩ (a.put dst v') := by
  have ht := (ha.tm.mono hle).put ha.size hd hv
  cases dst with
  | none => exact ⟨ht, ha.size, ha.ds.mono hle⟩
  | some d => exact ⟨ht, by simpa [Act.put] using ha.size, ha.ds.mono hle⟩

theorem wanted_rel {ops : Array Oper} {o : Oper} {tm : Tr Value} {a : Act} (ht : TmRel em tm a.tmps) {b : Bool} (hw : wantedA ops.toList o tm = some b) : Region.wanted o (yielded ops a.tmps) = b := by
  unfold wantedA at hw
  unfold Region.wanted
  split at hw
  · rename_i hg; cases hw; rw [hg]
  · rename_i j want hg
    rw [hg]
    simp only
    unfold yielded
    have hj : ops.toList[j]? = ops[j]? := Array.getElem?_toList
    rw [hj] at hw
    split at hw
    · rename_i hd; cases hw; rw [hd]; simp
    · rename_i d hd
      rw [hd]
      have hr := ht d
      split at hw
      · rename_i bb hb
        cases hw
        rw [hb] at hr
        have e := bool_inv hr
        have : a.tmps[d]? = some (.bool bb) := by
          rw [Array.getD_eq_getD_getElem?] at e
          cases h : a.tmps[d]? with
          | none => rw [h] at e; simp [undef] at e
          | some x => rw [h] at e; simp at e; rw [e]
        simp only [Option.bind_some, this]
        cases bb <;> cases want <;> rfl
      · rename_i vs hb
        cases hw
        rw [hb] at hr
        obtain ⟨vs', _, e⟩ := tuple_inv hr
        rw [Array.getD_eq_getD_getElem?] at e
        cases h : a.tmps[d]? with
        | none => simp [h]
        | some x => rw [h] at e; simp at e; subst e; simp [h]
      · cases hw

theorem upon_mono2 {o : Oper} {a : Act} {K K' : Act → World → Prop} {Q Q' : Exit → Act → World → Prop} (h : ∀ a w, K a w → K' a w) (hq : ∀ e a w, Q e a w → Q' e a w) (r : Result Next)
    (hh : o.upon P a K Q r) : o.upon P a K' Q' r := by
  cases r with
  | ok n w' =>
    cases n <;> simp only [Oper.upon] at hh ⊢ <;>
      first
        | exact h _ _ hh
        | exact Calls.mono hh (fun e w'' he => by cases e <;> first | exact h _ _ he | exact hq _ _ _ he | (obtain ⟨a0, w0, h0⟩ := he; exact ⟨a0, w0, hq _ _ _ h0⟩))
        | exact Rows.mono hh (fun _ _ he => h _ _ he)
  | halt x w' => cases x <;> simp only [Oper.upon] at hh ⊢ <;> exact hq _ _ _ hh

theorem wpOps_mono {ops : Array Oper} {Q Q' : Exit → Act → World → Prop} (hq : ∀ e a w, Q e a w → Q' e a w) : ∀ (l : List Nat) (a : Act) (w : World), wpOps P ops Q l a w → wpOps P ops Q' l a w
  | [], a, w, h => hq _ _ _ h
  | i :: rest, a, w, h => by
    simp only [wpOps] at h ⊢
    split
    · rename_i ho; simp only [ho] at h; exact wpOps_mono hq rest a w h
    · rename_i o ho
      simp only [ho] at h
      split
      · rename_i hw
        rw [if_pos hw] at h
        rcases h with h | ⟨h1, a0, w0, h2⟩
        · exact .inl (upon_mono2 (fun a w => wpOps_mono hq rest a w) hq _ h)
        · exact .inr ⟨h1, a0, w0, hq _ _ _ h2⟩
      · rename_i hw
        rw [if_neg hw] at h
        exact wpOps_mono hq rest _ w h

/-- The operations of a region, one behind the other. -/
theorem ops_ok {call : CallA} (hcall : CallOk P G B call) {ops : Array Oper} (hwf : ops.toList.all (operWf n G) = true) :
    ∀ (rest : List Oper) (k : Nat) (s : St) (res : AExit × St), ops.toList.drop k = rest → opsA P call ops.toList rest s = some res →
      ∀ (em : Emb) (a : Act) (w : World), WRel G B em s.h w → ARel n em s a → wpOps P ops (QOk G B n em w res) (List.range' k rest.length) a w
  | [], k, s, res, _, hr, em, a, w, H, ha => by
    simp only [opsA, Option.some.injEq] at hr
    subst hr
    simp only [List.length_nil, List.range'_zero, wpOps]
    exact ⟨em, .refl em, H, Kept.refl _ _, ha, .normal⟩
  | o :: rest, k, s, res, hk, hr, em, a, w, H, ha => by
    have hmem : ops.toList[k]? = some o := by
      have : (ops.toList.drop k)[0]? = some o := by rw [hk]; rfl
      simpa using this
    have hget : ops[k]? = some o := by rw [← Array.getElem?_toList]; exact hmem
    have hdrop : ops.toList.drop (k + 1) = rest := by
      rw [← List.drop_drop, hk]; rfl
    have hop : operWf n G o = true := List.all_eq_true.1 hwf o (List.mem_of_getElem? hmem)
    simp only [operWf, Bool.and_eq_true] at hop
    obtain ⟨hd, hopr⟩ := hop
    have hρ : ∀ x ∈ o.op.operands.toList, VRel em (ev s.tm x) (a.eval x) := fun x hx => ev_rel ha.tm H.glob (List.all_eq_true.1 hopr x hx)
    simp only [opsA] at hr
    simp only [List.length_cons, List.range'_succ, wpOps, hget]
    have next : ∀ (s1 : St) (em1 : Emb) (a1 : Act) (w1 : World), opsA P call ops.toList rest s1 = some res → em.Le em1 → WRel G B em1 s1.h w1 → Kept B w w1 → ARel n em1 s1 a1 →
        wpOps P ops (QOk G B n em w res) (List.range' (k + 1) rest.length) a1 w1 := by
      intro s1 em1 a1 w1 hr1 hle H1 hb ha1
      have := ops_ok hcall hwf rest (k + 1) s1 res hdrop hr1 em1 a1 w1 H1 ha1
      exact wpOps_mono (fun e a2 w2 hq => Post.step hle hb hq) _ _ _ this
    cases hw : wantedA ops.toList o s.tm with
    | none => rw [hw] at hr; cases hr
    | some b =>
      rw [wanted_rel ha.tm hw]
      rw [hw] at hr
      cases b with
      | false =>
        simp only [Bool.false_eq_true, if_false]
        exact next _ em _ w hr (.refl em) H (Kept.refl _ _) (ha.put (.refl em) hd undef_rel)
      | true =>
        simp only [if_true]
        left
        simp only at hr
        cases hq : opA P (ev s.tm) o s.h with
        | none => rw [hq] at hr; cases hr
        | some r =>
          rw [hq] at hr
          have hok := opA_ok (P := P) (o := o) H hρ hq
          simp only [Oper.wp]
          cases hok with
          | val hle H' hB hv hrun =>
            simp only at hr
            rw [hrun, Oper.upon_value]
            exact next _ _ _ _ hr hle H' hB (ha.put hle hd hv)
          | skip hle H' hB hrun =>
            simp only at hr
            rw [hrun, Oper.upon_skip]
            exact next _ _ _ _ hr hle H' hB (ha.put hle hd undef_rel)
          | dfr hdr hrun =>
            simp only at hr
            rw [hrun, Oper.upon_defer]
            refine next _ em _ w hr (.refl em) H (Kept.refl _ _) ?_
            have := ha.put (.refl em) hd (undef_rel (em := em)) (h := s.h)
            cases hdst : o.dst with
            | none => rw [hdst] at this; exact ⟨this.tm, this.size, .cons hdr ha.ds⟩
            | some d => rw [hdst] at this; exact ⟨this.tm, this.size, .cons hdr ha.ds⟩
          | enter hargs hrun =>
            rename_i f args args'
            simp only at hr
            rw [hrun, Oper.upon_enter]
            cases hc : call f args s.h with
            | none => rw [hc] at hr; cases hr
            | some p =>
              obtain ⟨en, h'⟩ := p
              rw [hc] at hr
              refine Calls.mono (hcall f args s.h en h' hc em w args' H hargs) ?_
              intro e w' hp
              obtain ⟨em1, hle, H1, hb, hen⟩ := hp
              cases hen with
              | ret hv => exact next _ _ _ _ hr hle H1 hb (ha.put hle hd hv)
              | panic hch =>
                simp only [Option.some.injEq] at hr
                subst hr
                exact ⟨em1, hle, H1, hb, ⟨ha.tm.mono hle, ha.size, ha.ds.mono hle⟩, .panic hch⟩
          | panic hv hrun =>
            simp only [Option.some.injEq] at hr
            subst hr
            rw [hrun, Oper.upon_panic]
            exact ⟨em, .refl em, H, Kept.refl _ _, ha, .panic (.cons ⟨hv, rfl, rfl⟩ .nil)⟩

theorem findLabel_wf {G : Nat} : ∀ {c : Code} {l : Nat} {rest : Code}, findLabel c l = some rest → codeWf n G c = true → codeWf n G rest = true
  | .seq a b, l, rest, h, hw => by
    simp only [codeWf, Bool.and_eq_true] at hw
    simp only [findLabel] at h
    split at h
    · rename_i r hr
      cases h
      simp only [codeWf, Bool.and_eq_true]
      exact ⟨findLabel_wf hr hw.1, hw.2⟩
    · exact findLabel_wf h hw.2
  | .label l', l, rest, h, _ => by
    simp only [findLabel] at h
    split at h
    · cases h; rfl
    · cases h
  | .skip, _, _, h, _ | .region .., _, _, h, _ | .cond .., _, _, h, _ | .block .., _, _, h, _ | .loop .., _, _, h, _ | .rangeFunc .., _, _, h, _ | .exit .., _, _, h, _
  | .scope .., _, _, h, _ | .goto .., _, _, h, _ | .ret, _, _, h, _ | .refuse .., _, _, h, _ => by simp [findLabel] at h

/-- A run of x in a scope; of a loop's body. -/
def ScopeRun (P : Program) (c x : Code) (Q : Exit → Act → World → Prop) (a : Act) (w : World) : Prop :=
  ∀ (b : Frame) (k : List Item) (cs : List Frame), ∃ e a' w', Q e a' w' ∧ Arrives P (lone (b.at a (.code x :: .inScope c :: k)) cs w) b k cs e a' w'
def LoopRun (P : Program) (c : Code) (Q : Exit → Act → World → Prop) (a : Act) (w : World) : Prop :=
  ∀ (b : Frame) (k : List Item) (cs : List Frame), ∃ e a' w', Q e a' w' ∧ Arrives P (lone (b.at a (.code c :: .inLoop c :: k)) cs w) b k cs e a' w'

theorem wp_mono' {c : Code} {Q Q' : Exit → Act → World → Prop} {a : Act} {w : World} (h : c.wp P Q a w) (hq : ∀ e a w, Q e a w → Q' e a w) : c.wp P Q' a w := wp_mono h hq

/-- How a region that draws its order is done. -/
def DrawOk (P : Program) (G : Nat) (B : Kp) (n : Nat) (call : CallA) : Prop :=
  ∀ (ops : Array Oper) (id : Nat) (s : St) (res : AExit × St), drawA P call ops.toList s = some res → ops.toList.all (operWf n G) = true →
    ∀ (em : Emb) (a : Act) (w : World), WRel G B em s.h w → ARel n em s a → (Code.region id ops true).wp P (QOk G B n em w res) a w

theorem code_ok {call : CallA} (hcall : CallOk P G B call) (hdraw : DrawOk P G B n call) : ∀ f : Nat,
    (∀ c s res, codeA P call f c s = some res → codeWf n G c = true → ∀ em a w, WRel G B em s.h w → ARel n em s a → c.wp P (QOk G B n em w res) a w) ∧
    (∀ c x s res, scopeA P call f c x s = some res → codeWf n G c = true → codeWf n G x = true → ∀ em a w, WRel G B em s.h w → ARel n em s a → ScopeRun P c x (QOk G B n em w res) a w) ∧
    (∀ c s res, codeA P call f (.loop c) s = some res → codeWf n G c = true → ∀ em a w, WRel G B em s.h w → ARel n em s a → LoopRun P c (QOk G B n em w res) a w)
  | 0 => ⟨fun c s res h => by simp [codeA] at h, fun c x s res h => by simp [scopeA] at h, fun c s res h => by simp [codeA] at h⟩
  | f + 1 => by
    obtain ⟨ihc, ihs, ihl⟩ := code_ok hcall hdraw f
    have loops : ∀ c s res, codeA P call (f + 1) (.loop c) s = some res → codeWf n G c = true → ∀ em a w, WRel G B em s.h w → ARel n em s a → LoopRun P c (QOk G B n em w res) a w := by
      intro c s res h hw em a w H ha b k cs
      simp only [codeA] at h
      cases hc : codeA P call f c s with
      | none => rw [hc] at h; cases h
      | some r1 =>
        obtain ⟨e1, s1⟩ := r1
        rw [hc] at h
        obtain ⟨e, a1, w1, ⟨em1, hle, H1, hb1, ha1, hx⟩, harr⟩ := ihc c s _ hc hw em a w H ha b (.inLoop c :: k) cs
        cases hx with
        | normal =>
          simp only at h
          obtain ⟨e2, a2, w2, hq2, harr2⟩ := ihl c s1 res h hw em1 a1 w1 H1 ha1 b k cs
          exact ⟨e2, a2, w2, Post.step hle hb1 hq2, .of_steps (Steps.trans harr (.one step_inLoop)) harr2⟩
        | exit id =>
          simp only [Option.some.injEq] at h; subst h
          exact ⟨_, a1, w1, ⟨em1, hle, H1, hb1, ha1, .exit id⟩, .pass (x := .inLoop c) rfl (fun _ _ => .inl (by simp)) harr⟩
        | goto l =>
          simp only [Option.some.injEq] at h; subst h
          exact ⟨_, a1, w1, ⟨em1, hle, H1, hb1, ha1, .goto l⟩, .pass (x := .inLoop c) rfl (fun _ _ => .inl (by simp)) harr⟩
        | ret =>
          simp only [Option.some.injEq] at h; subst h
          exact ⟨_, a1, w1, ⟨em1, hle, H1, hb1, ha1, .ret⟩, .pass (x := .inLoop c) rfl (fun _ _ => .inl (by simp)) harr⟩
        | panic hch =>
          simp only [Option.some.injEq] at h; subst h
          exact ⟨_, a1, w1, ⟨em1, hle, H1, hb1, ha1, .panic hch⟩, .pass (x := .inLoop c) rfl (fun _ _ => .inl (by simp)) harr⟩
    refine ⟨?_, ?_, loops⟩
    · intro c s res h hw em a w H ha
      cases c with
      | skip => simp only [codeA, Option.some.injEq] at h; subst h; exact wp_skip ⟨em, .refl em, H, Kept.refl _ _, ha, .normal⟩
      | label l => simp only [codeA, Option.some.injEq] at h; subst h; exact wp_label ⟨em, .refl em, H, Kept.refl _ _, ha, .normal⟩
      | region id ops d =>
        cases d with
        | false =>
          simp only [codeA] at h
          refine wp_region ?_
          have := ops_ok hcall (n := n) (by simpa [codeWf] using hw) ops.toList 0 s res (by simp) h em a w H ha
          rw [List.range_eq_range']
          simpa using this
        | true =>
          simp only [codeA] at h
          exact hdraw ops id s res h (by simpa [codeWf] using hw) em a w H ha
      | seq x y =>
        simp only [codeWf, Bool.and_eq_true] at hw
        simp only [codeA] at h
        cases hc : codeA P call f x s with
        | none => rw [hc] at h; cases h
        | some r1 =>
          obtain ⟨e1, s1⟩ := r1
          rw [hc] at h
          refine wp_seq (wp_mono (ihc x s _ hc hw.1 em a w H ha) ?_)
          rintro e a1 w1 ⟨em1, hle, H1, hb1, ha1, hx⟩
          cases hx with
          | normal =>
            simp only at h
            exact wp_mono (ihc y s1 res h hw.2 em1 a1 w1 H1 ha1) fun e a2 w2 hq => Post.step hle hb1 hq
          | exit id => simp only [Option.some.injEq] at h; subst h; exact ⟨em1, hle, H1, hb1, ha1, .exit id⟩
          | goto l => simp only [Option.some.injEq] at h; subst h; exact ⟨em1, hle, H1, hb1, ha1, .goto l⟩
          | ret => simp only [Option.some.injEq] at h; subst h; exact ⟨em1, hle, H1, hb1, ha1, .ret⟩
          | panic hch => simp only [Option.some.injEq] at h; subst h; exact ⟨em1, hle, H1, hb1, ha1, .panic hch⟩
      | cond c x y =>
        simp only [codeWf, Bool.and_eq_true] at hw
        simp only [codeA] at h
        have hr := ev_rel (a := a) ha.tm H.glob hw.1.1
        split at h
        · rename_i he
          rw [he] at hr
          exact wp_cond_true (bool_inv hr) (ihc x s res h hw.1.2 em a w H ha)
        · rename_i he
          rw [he] at hr
          exact wp_cond_false (bool_inv hr) (ihc y s res h hw.2 em a w H ha)
        · cases h
      | block id x =>
        simp only [codeWf] at hw
        simp only [codeA] at h
        cases hc : codeA P call f x s with
        | none => rw [hc] at h; cases h
        | some r1 =>
          obtain ⟨e1, s1⟩ := r1
          rw [hc] at h
          refine wp_block (wp_mono (ihc x s _ hc hw em a w H ha) ?_)
          rintro e a1 w1 ⟨em1, hle, H1, hb1, ha1, hx⟩
          cases hx with
          | normal => simp only [Option.some.injEq] at h; subst h; exact ⟨em1, hle, H1, hb1, ha1, .normal⟩
          | exit id' =>
            simp only [Option.some.injEq] at h; subst h
            by_cases hid : id' = id
            · subst hid
              simp only [Exit.inBlock, if_true]
              refine ⟨em1, hle, H1, hb1, ha1, ?_⟩
              simp only [Nat.beq_refl, cond_true]
              exact .normal
            · have hb : Nat.beq id' id = false := by
                cases hq : Nat.beq id' id with
                | false => rfl
                | true => exact absurd (Nat.eq_of_beq_eq_true hq) hid
              simp only [Exit.inBlock, hid, if_false]
              refine ⟨em1, hle, H1, hb1, ha1, ?_⟩
              simp only [hb, cond_false]
              exact .exit id'
          | goto l => simp only [Option.some.injEq] at h; subst h; exact ⟨em1, hle, H1, hb1, ha1, .goto l⟩
          | ret => simp only [Option.some.injEq] at h; subst h; exact ⟨em1, hle, H1, hb1, ha1, .ret⟩
          | panic hch => simp only [Option.some.injEq] at h; subst h; exact ⟨em1, hle, H1, hb1, ha1, .panic hch⟩
      | loop x =>
        intro b k cs
        obtain ⟨e, a', w', hq, harr⟩ := loops x s res h (by simpa [codeWf] using hw) em a w H ha b k cs
        exact ⟨e, a', w', hq, .of_steps (.one step_loop) harr⟩
      | rangeFunc f ps as x => simp [codeA] at h
      | exit id => simp only [codeA, Option.some.injEq] at h; subst h; exact wp_exit ⟨em, .refl em, H, Kept.refl _ _, ha, .exit id⟩
      | scope x =>
        simp only [codeA] at h
        intro b k cs
        have hw' : codeWf n G x = true := by simpa [codeWf] using hw
        obtain ⟨e, a', w', hq, harr⟩ := ihs x x s res h hw' hw' em a w H ha b k cs
        exact ⟨e, a', w', hq, .of_steps (.one step_scope) harr⟩
      | goto l => simp only [codeA, Option.some.injEq] at h; subst h; exact wp_goto ⟨em, .refl em, H, Kept.refl _ _, ha, .goto l⟩
      | ret => simp only [codeA, Option.some.injEq] at h; subst h; exact wp_ret ⟨em, .refl em, H, Kept.refl _ _, ha, .ret⟩
      | refuse why => simp [codeA] at h
    · intro c x s res h hw hwx em a w H ha b k cs
      simp only [scopeA] at h
      cases hc : codeA P call f x s with
      | none => rw [hc] at h; cases h
      | some r1 =>
        obtain ⟨e1, s1⟩ := r1
        rw [hc] at h
        obtain ⟨e, a1, w1, ⟨em1, hle, H1, hb1, ha1, hx⟩, harr⟩ := ihc x s _ hc hwx em a w H ha b (.inScope c :: k) cs
        cases hx with
        | normal =>
          simp only [Option.some.injEq] at h; subst h
          exact ⟨.normal, a1, w1, ⟨em1, hle, H1, hb1, ha1, .normal⟩, Steps.trans harr (.one step_inScope)⟩
        | exit id =>
          simp only [Option.some.injEq] at h; subst h
          exact ⟨.exit id, a1, w1, ⟨em1, hle, H1, hb1, ha1, .exit id⟩, fun k' hk => harr k' (by simp [exitTo, hk])⟩
        | goto l =>
          simp only at h
          split at h
          · rename_i rest hf
            have hg : gotoIn l (.inScope c :: k) = some (.code rest :: .inScope c :: k) := by simp [gotoIn, hf]
            obtain ⟨e2, a2, w2, hq2, harr2⟩ := ihs c rest s1 res h hw (findLabel_wf hf hw) em1 a1 w1 H1 ha1 b k cs
            exact ⟨e2, a2, w2, Post.step hle hb1 hq2, .of_steps (harr _ hg) harr2⟩
          · rename_i hf
            simp only [Option.some.injEq] at h; subst h
            exact ⟨.goto l, a1, w1, ⟨em1, hle, H1, hb1, ha1, .goto l⟩, fun k' hk => harr k' (by simp [gotoIn, hf, hk])⟩
        | ret =>
          simp only [Option.some.injEq] at h; subst h
          exact ⟨.ret, a1, w1, ⟨em1, hle, H1, hb1, ha1, .ret⟩, harr⟩
        | panic hch =>
          simp only [Option.some.injEq] at h; subst h
          exact ⟨_, a1, w1, ⟨em1, hle, H1, hb1, ha1, .panic hch⟩, harr⟩

end
end Go.Ae
