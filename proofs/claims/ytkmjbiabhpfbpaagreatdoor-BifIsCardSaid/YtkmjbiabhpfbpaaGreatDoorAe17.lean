/- The abstract evaluator: regions that draw their order. -/
import Derived.Test.YtkmjbiabhpfbpaaGreatDoorAe15
import Derived.Orders
namespace Go.Ae
open Go Go.RowKit
set_option linter.unusedSectionVars false
variable [Ask]

mutual
theorem eqV_eq : ∀ (a b : Value), eqV a b = true → a = b
  | .bool a, b, h => by cases b <;> simp_all [eqV]
  | .int j a, b, h => by cases b <;> simp_all [eqV]
  | .float j a, b, h => by cases b <;> simp_all [eqV]
  | .complex .., b, h => by cases b <;> simp [eqV] at h
  | .string a, b, h => by
    cases b <;> simp [eqV] at h
    rename_i b
    cases a; cases b
    simp only at h
    rw [h]
  | .pointer a, b, h => by cases b <;> simp_all [eqV]
  | .slice a l c, b, h => by cases b <;> simp_all [eqV]
  | .map a, b, h => by cases b <;> simp_all [eqV]
  | .chan a, b, h => by cases b <;> simp_all [eqV]
  | .nilFunc, b, h => by cases b <;> simp_all [eqV]
  | .nilIface, b, h => by cases b <;> simp_all [eqV]
  | .func f ⟨a⟩ ⟨c⟩, b, h => by
    cases b with
    | func g b d =>
      cases b; cases d
      simp only [eqV, Bool.and_eq_true, decide_eq_true_eq] at h
      rw [h.1.1, eqVs_eq _ _ h.1.2, eqVs_eq _ _ h.2]
    | _ => simp [eqV] at h
  | .iface t v, b, h => by
    cases b with
    | iface u w =>
      simp only [eqV, Bool.and_eq_true] at h
      rw [Nat.eq_of_beq_eq_true h.1, eqV_eq _ _ h.2]
    | _ => simp [eqV] at h
  | .agg ⟨a⟩, b, h => by
    cases b with
    | agg b => cases b; simp only [eqV] at h; rw [eqVs_eq _ _ h]
    | _ => simp [eqV] at h
  | .tuple ⟨a⟩, b, h => by
    cases b with
    | tuple b => cases b; simp only [eqV] at h; rw [eqVs_eq _ _ h]
    | _ => simp [eqV] at h
theorem eqVs_eq : ∀ (a b : List Value), eqVs a b = true → a = b
  | [], [], _ => rfl
  | v :: l, w :: m, h => by
    simp only [eqVs, Bool.and_eq_true] at h
    rw [eqV_eq _ _ h.1, eqVs_eq _ _ h.2]
  | [], _ :: _, h => by simp [eqVs] at h
  | _ :: _, [], h => by simp [eqVs] at h
end

/-- What is told leaves memory as it was. -/
def Same (h : AHeap) (r : Option ORes) : Prop := ∀ v h2, r = some (.val v h2) → h2 = h

theorem Same.none {h : AHeap} : Same h none := fun _ _ e => by cases e
theorem Same.val {h : AHeap} {v : Value} : Same h (some (.val v h)) := fun _ _ e => by cases e; rfl
theorem Same.enter {h h' : AHeap} {f : FuncId} {args : Array Value} : Same h (some (.enter f args h')) := fun _ _ e => by cases e
theorem Same.map {h : AHeap} {α : Type} {x : Option α} {f : α → Value} : Same h (x.map fun a => .val (f a) h) := by
  cases x
  · exact Same.none
  · exact Same.val
theorem Same.bind {h : AHeap} {α : Type} {x : Option α} {f : α → Option ORes} (k : ∀ a, Same h (f a)) : Same h (x.bind f) := by
  cases x
  · exact Same.none
  · exact k _
theorem Same.bif {h : AHeap} {c : Bool} {a b : Option ORes} (ha : Same h a) (hb : Same h b) : Same h (bif c then a else b) := by
  cases c
  · exact hb
  · exact ha
theorem Same.ground {h : AHeap} {v : Value} : Same h (groundRes v h) := Same.bif Same.val Same.none

theorem looks_same0 {P : Program} {o : Oper} {tm : Tr Value} {h : AHeap} (hl : looksA P o.op = true) : Same h (opA0 P (ev tm) o h) := by
  unfold opA0
  cases ho : o.op with
  | call c =>
    rw [ho] at hl
    simp only [looksA] at hl
    simp only
    split at hl
    · rename_i hc
      simp only [hc, builtinA]
      split
      · exact Same.map
      · exact Same.none
    · rename_i f hc
      simp only [hc, resolveA, ev, Option.bind_some, invokeA, enterA]
      split at hl
      · rename_i fn hf
        simp only [hf, Option.bind_some]
        cases hb : fn.body with
        | some b => rw [hb] at hl; cases hl
        | none =>
          simp only
          refine Same.bif ?_ Same.none
          split
          · exact Same.ground
          · exact Same.none
      · cases hl
    · cases hl
  | convert src dst x =>
    rw [ho] at hl
    simp only [looksA] at hl
    simp only
    split at hl
    · rename_i hu
      rw [hu]
      split <;> first | exact Same.none | exact Same.bif (Same.bind fun _ => Same.ground) Same.none | (rename_i h1 _; cases h1) | (rename_i h1 _ _; cases h1) | (rename_i h1; cases h1)
    · rename_i hu
      rw [hu]
      split <;> first | exact Same.none | exact Same.bif (Same.bind fun _ => Same.ground) Same.none | (rename_i h1 _; cases h1) | (rename_i h1 _ _; cases h1) | (rename_i h1; cases h1)
    · cases hl
  | _ =>
    rw [ho] at hl
    first
      | (simp [looksA] at hl; done)
      | (simp only
         repeat' (first | exact Same.none | exact Same.val | exact Same.map | exact Same.ground | (refine Same.bind fun _ => ?_) | (refine Same.bif ?_ ?_) | split))

theorem looks_same {P : Program} {o : Oper} {tm : Tr Value} {h : AHeap} (hl : looksA P o.op = true) : Same h (opA P (ev tm) o h) := by
  unfold opA
  refine Same.bif ?_ (looks_same0 hl)
  split
  · exact Same.bif Same.val Same.none
  · exact looks_same0 hl

/-! The operations in the order that was taken. -/
section
variable {P : Program} {call : CallA} {ops : List Oper}

structure RecOk (P : Program) (call : CallA) (ops : List Oper) (r : DRec) : Prop where
  get : ops[r.i]? = some r.o
  want : wantedA ops r.o r.tm = some r.w
  idle : r.w = false → r.v = undef ∧ r.act = false
  look : r.w = true → r.act = false → looksA P r.o.op = true
  same : r.act = false → r.h' = r.h
  turn : r.act = true → opA P (ev r.tm) r.o r.h = some (.val r.v r.h') ∨ (opA P (ev r.tm) r.o r.h = some (.skip r.h') ∧ r.v = undef) ∨
    ∃ f args h1, opA P (ev r.tm) r.o r.h = some (.enter f args h1) ∧ call f args h1 = some (.ret r.v, r.h')

inductive Chain (P : Program) (call : CallA) (ops : List Oper) : List DRec → Tr Value → AHeap → Tr Value → AHeap → Prop
  | nil (tm : Tr Value) (h : AHeap) : Chain P call ops [] tm h tm h
  | cons (r : DRec) (l : List DRec) (tm' : Tr Value) (h' : AHeap) : RecOk P call ops r → Chain P call ops l (putT r.tm r.o.dst r.v) r.h' tm' h' → Chain P call ops (r :: l) r.tm r.h tm' h'

theorem recs_chain : ∀ (l : List Nat) (tm : Tr Value) (h : AHeap) (recs : List DRec) (tm' : Tr Value) (h' : AHeap), recsA P call ops l tm h = some (recs, tm', h') → Chain P call ops recs tm h tm' h'
  | [], tm, h, recs, tm', h', e => by
    simp only [recsA, Option.some.injEq, Prod.mk.injEq] at e
    obtain ⟨e1, e2, e3⟩ := e
    subst e1 e2 e3
    exact .nil _ _
  | i :: rest, tm, h, recs, tm', h', e => by
    unfold recsA at e
    split at e
    · cases e
    rename_i o ho
    have go : ∀ (w : Bool) (v : Value) (act : Bool) (h1 : AHeap), RecOk P call ops ⟨i, o, tm, w, v, act, h, h1⟩ →
        ((recsA P call ops rest (putT tm o.dst v) h1).map fun r => ((⟨i, o, tm, w, v, act, h, h1⟩ : DRec) :: r.1, r.2)) = some (recs, tm', h') → Chain P call ops recs tm h tm' h' := by
      intro w v act h1 ok e
      cases hr : recsA P call ops rest (putT tm o.dst v) h1 with
      | none => rw [hr] at e; cases e
      | some p =>
        obtain ⟨recs1, tm1, h2⟩ := p
        rw [hr] at e
        simp only [Option.map_some, Option.some.injEq, Prod.mk.injEq] at e
        obtain ⟨e1, e2, e3⟩ := e
        subst e1 e2 e3
        exact .cons ⟨i, o, tm, w, v, act, h, h1⟩ _ _ _ ok (recs_chain rest _ _ _ _ _ hr)
    simp only at e
    cases hw : wantedA ops o tm with
    | none => rw [hw] at e; cases e
    | some b =>
      rw [hw] at e
      cases b with
      | false => exact go _ _ _ _ ⟨ho, hw, fun _ => ⟨rfl, rfl⟩, (by intro h; cases h), fun _ => rfl, (by intro h; cases h)⟩ e
      | true =>
        simp only at e
        cases hl : looksA P o.op with
        | true =>
          rw [hl] at e
          simp only [cond_true] at e
          split at e
          · exact go _ _ _ _ ⟨ho, hw, (by intro h; cases h), fun _ _ => hl, fun _ => rfl, (by intro h; cases h)⟩ e
          · cases e
        | false =>
          rw [hl] at e
          simp only [cond_false] at e
          split at e
          · rename_i v h1 hq
            exact go _ _ _ _ ⟨ho, hw, (by intro h; cases h), (by intro _ h; cases h), (by intro h; cases h), fun _ => .inl hq⟩ e
          · rename_i h1 hq
            exact go _ _ _ _ ⟨ho, hw, (by intro h; cases h), (by intro _ h; cases h), (by intro h; cases h), fun _ => .inr (.inl ⟨hq, rfl⟩)⟩ e
          · rename_i f args h1 hq
            split at e
            · rename_i v h2 hc
              exact go _ _ _ _ ⟨ho, hw, (by intro h; cases h), (by intro _ h; cases h), (by intro h; cases h), fun _ => .inr (.inr ⟨f, args, h1, hq, hc⟩)⟩ e
            · cases e
          · cases e

/-- The temporaries, of those that are listed. -/
def TS (S : Nat → Bool) : List DRec → Tr Value → Tr Value
  | [], tm => tm
  | r :: l, tm => TS S l (bif S r.i then putT tm r.o.dst r.v else tm)

theorem TS_append (S : Nat → Bool) : ∀ (l m : List DRec) (tm : Tr Value), TS S (l ++ m) tm = TS S m (TS S l tm)
  | [], _, _ => rfl
  | _ :: l, m, _ => TS_append S l m _

theorem Chain.final {recs : List DRec} {tm : Tr Value} {h : AHeap} {tm' : Tr Value} {h' : AHeap} (hc : Chain P call ops recs tm h tm' h') : tm' = TS (fun _ => true) recs tm := by
  induction hc with
  | nil => rfl
  | cons r l _ _ _ _ ih => exact ih

theorem Chain.at : ∀ (pre : List DRec) {r : DRec} {post : List DRec} {tm : Tr Value} {h : AHeap} {tm' : Tr Value} {h' : AHeap}, Chain P call ops (pre ++ r :: post) tm h tm' h' →
    r.tm = TS (fun _ => true) pre tm ∧ RecOk P call ops r
  | [], _, _, _, _, _, _, k => by
    cases k with
    | cons _ _ _ _ hok _ => exact ⟨rfl, hok⟩
  | _ :: pre, _, _, _, _, _, _, k => by
    cases k with
    | cons _ _ _ _ _ hc => exact Chain.at pre hc

theorem get_putT (tm : Tr Value) (dst : Option Tmp) (v : Value) (t : Tmp) : (putT tm dst v).get t = if dst = some t then some v else tm.get t := by
  cases dst with
  | none => simp [putT]
  | some d =>
    simp only [putT, Tr.get_set, Option.some.injEq]
    by_cases e : t = d
    · simp [e]
    · rw [if_neg e, if_neg (fun h => e h.symm)]

theorem TS_get {S : Nat → Bool} {t : Tmp} : ∀ (l : List DRec) (tm : Tr Value), (∀ q ∈ l, S q.i = true → q.o.dst ≠ some t) → (TS S l tm).get t = tm.get t
  | [], _, _ => rfl
  | r :: l, tm, h => by
    simp only [TS]
    rw [TS_get l _ (fun q hq => h q (by simp [hq]))]
    cases hs : S r.i with
    | false => rfl
    | true => simp only [cond_true]; rw [get_putT, if_neg (h r (by simp) hs)]

theorem TS_agree {S S2 : Nat → Bool} {t : Tmp} : ∀ (l : List DRec) (tm tm2 : Tr Value), tm.get t = tm2.get t → (∀ q ∈ l, q.o.dst = some t → S q.i = S2 q.i) → (TS S l tm).get t = (TS S2 l tm2).get t
  | [], _, _, e, _ => e
  | r :: l, tm, tm2, e, h => by
    simp only [TS]
    refine TS_agree l _ _ ?_ (fun q hq => h q (by simp [hq]))
    by_cases hd : r.o.dst = some t
    · rw [h r (by simp) hd]
      cases S2 r.i
      · exact e
      · simp only [cond_true]; rw [get_putT, get_putT, if_pos hd, if_pos hd]
    · cases S r.i <;> cases S2 r.i <;> simp only [cond_true, cond_false] <;> simp only [get_putT, if_neg hd, e]

theorem TS_congr {S S2 : Nat → Bool} : ∀ (l : List DRec) (tm : Tr Value), (∀ q ∈ l, S q.i = S2 q.i) → TS S l tm = TS S2 l tm
  | [], _, _ => rfl
  | r :: l, tm, h => by
    simp only [TS]
    rw [h r (by simp)]
    exact TS_congr l _ (fun q hq => h q (by simp [hq]))

/-- The parts of memory's run. -/
def HC : AHeap → List DRec → AHeap → Prop
  | h, [], h' => h = h'
  | h, r :: l, h' => r.h = h ∧ HC r.h' l h'
def hAfter : AHeap → List DRec → AHeap
  | h, [] => h
  | _, r :: l => hAfter r.h' l
theorem HC.split : ∀ (pre : List DRec) {suf : List DRec} {h h' : AHeap}, HC h (pre ++ suf) h' → HC (hAfter h pre) suf h'
  | [], _, _, _, k => k
  | _ :: pre, _, _, _, k => HC.split pre k.2
theorem hAfter_append : ∀ (pre suf : List DRec) (h : AHeap), hAfter h (pre ++ suf) = hAfter (hAfter h pre) suf
  | [], _, _ => rfl
  | _ :: pre, suf, _ => hAfter_append pre suf _

theorem Chain.heap {recs : List DRec} {tm : Tr Value} {h : AHeap} {tm' : Tr Value} {h' : AHeap} (hc : Chain P call ops recs tm h tm' h') : HC h (recs.filter (·.act)) h' := by
  induction hc with
  | nil => rfl
  | cons r l _ _ hok _ ih =>
    cases ha : r.act with
    | false => rw [List.filter_cons_of_neg (by simp [ha]), ← hok.same ha]; exact ih
    | true => rw [List.filter_cons_of_pos (by simp [ha])]; exact ⟨rfl, ih⟩

theorem anywhere_at {n : Nat} {r : DRec} : ∀ (pre : List DRec) {suf : List DRec} {h : AHeap}, anywhereA P ops n r h (pre ++ suf) = true → (∀ p ∈ pre, aheadA ops n r.i p.i = false) →
    (∀ q l, suf = q :: l → aheadA ops n q.i r.i = false ∧ ∀ x ∈ l, newsA x.o.op = false → aheadA ops n x.i r.i = false) → tellsA P r (hAfter h pre) = true
  | [], [], _, k, _, _ => k
  | [], q :: suf, h, k, _, hs => by
    simp only [List.nil_append, anywhereA, Bool.and_eq_true, Bool.or_eq_true] at k
    obtain ⟨h1, h2⟩ := hs q suf rfl
    rcases k.1 with (k1 | k1) | k1
    · rw [h1] at k1; cases k1
    · rw [List.any_eq_true] at k1
      obtain ⟨x, hx, hb⟩ := k1
      simp only [Bool.and_eq_true, Bool.not_eq_true'] at hb
      rw [h2 x hx hb.1] at hb
      cases hb.2
    · exact k1
  | p :: pre, suf, h, k, hp, hs => by
    simp only [List.cons_append, anywhereA, Bool.and_eq_true, Bool.or_eq_true] at k
    rcases k.2 with k2 | k2
    · rw [hp p (by simp)] at k2; cases k2
    · exact anywhere_at pre k2 (fun p' hp' => hp p' (by simp [hp'])) hs

structure PairOk (ops : List Oper) (n : Nat) (p q : DRec) : Prop where
  back : aheadA ops n q.i p.i = false
  ne : p.i ≠ q.i
  dst : ∀ d, p.o.dst = some d → q.o.dst ≠ some d
  reads : ∀ d, p.o.dst = some d → d ∈ lookedA ops q.o → aheadA ops n p.i q.i = true
  writes : ∀ d, q.o.dst = some d → d ∈ lookedA ops p.o → aheadA ops n p.i q.i = true

theorem pairOk_spec {n : Nat} {p q : DRec} (h : pairOk ops n p q = true) : PairOk ops n p q := by
  simp only [pairOk, Bool.and_eq_true, Bool.not_eq_true'] at h
  obtain ⟨⟨⟨h1, h2⟩, h3⟩, h4⟩ := h
  refine ⟨h1, fun e => by simp [e] at h2, ?_, ?_, ?_⟩
  · intro d hd hq
    simp [hd, hq] at h3
  · intro d hd hm
    rw [hd] at h3
    simp only [Bool.and_eq_true, Bool.or_eq_true, Bool.not_eq_true'] at h3
    rcases h3.2 with h | h
    · rw [List.contains_iff_mem.2 hm] at h; cases h
    · exact h
  · intro d hd hm
    rw [hd] at h4
    simp only [Bool.or_eq_true, Bool.not_eq_true'] at h4
    rcases h4 with h | h
    · rw [List.contains_iff_mem.2 hm] at h; cases h
    · exact h

/-- What 'looseOk' says. -/
theorem loose_spec {n : Nat} : ∀ (l bef : List DRec), looseOk ops n bef l = true → ∀ (pl : List DRec) (a : DRec) (pr : List DRec), l = pl ++ a :: pr → a.act = true → ∀ p, p ∈ bef ∨ (p ∈ pl ∧ p.act = true) →
    aheadA ops n p.i a.i = true ∨ (newsA a.o.op = true ∧ ∀ r ∈ pr, ∀ t ∈ lookedA ops r.o, a.o.dst = some t → aheadA ops n p.i r.i = true)
  | [], _, _, pl, a, pr, e, _, _, _ => by cases pl <;> cases e
  | x :: l, bef, h, [], a, pr, e, ha, p, hp => by
    simp only [List.nil_append, List.cons.injEq] at e
    obtain ⟨rfl, rfl⟩ := e
    simp only [looseOk, ha, Bool.not_true, Bool.false_or, Bool.and_eq_true, List.all_eq_true] at h
    rcases hp with hp | ⟨hp, _⟩
    · have := h.1 p hp
      simp only [Bool.or_eq_true, Bool.and_eq_true, List.all_eq_true, Bool.not_eq_true', List.any_eq_false] at this
      rcases this with h1 | ⟨h1, h2⟩
      · exact .inl h1
      · refine .inr ⟨h1, fun r hr t ht hd => ?_⟩
        rcases h2 r hr with h3 | h3
        · exact absurd (by simp [hd]) (h3 t ht)
        · exact h3
    · cases hp
  | x :: l, bef, h, y :: pl, a, pr, e, ha, p, hp => by
    simp only [List.cons_append, List.cons.injEq] at e
    obtain ⟨rfl, e⟩ := e
    simp only [looseOk, Bool.and_eq_true] at h
    refine loose_spec l _ h.2 pl a pr e ha p ?_
    rcases hp with hp | ⟨hp, hact⟩
    · left
      cases x.act
      · exact hp
      · exact List.mem_cons_of_mem _ hp
    · rw [List.mem_cons] at hp
      rcases hp with rfl | hp
      · left; rw [hact]; exact List.mem_cons_self
      · exact .inr ⟨hp, hact⟩

theorem pairs_spec {n : Nat} : ∀ {l : List DRec}, pairsOk ops n l = true → l.Pairwise (PairOk ops n)
  | [], _ => .nil
  | p :: l, h => by
    simp only [pairsOk, Bool.and_eq_true, List.all_eq_true] at h
    exact .cons (fun q hq => pairOk_spec (h.1 q hq)) (pairs_spec h.2)
end
end Go.Ae
