/- The abstract evaluator: regions that draw their order: the law. -/
import Derived.Test.YtkmjbiabhpfbpaaGreatDoorAe18
namespace Go.Ae
open Go Go.RowKit
set_option linter.unusedSectionVars false
variable [Ask]

section
variable {P : Program} {call : CallA} {G n : Nat} {B : Kp}
variable {em0 em : Emb} {w0 w : World} {ops : Array Oper} {s : St} {recs pre suf : List DRec} {pend : Pend} {tm1 : Tr Value} {h1 : AHeap} {listed : Array Bool} {a : Act}

theorem any_ok (hcall : ∀ B, CallOk P G B call) (F : Fixed P call ops s recs tm1 h1) (hwf : ops.toList.all (operWf n G) = true) :
    ∀ (fuel : Nat) (pre suf : List DRec) (pend : Pend) (listed : Array Bool) (em : Emb) (a : Act) (w : World), Stands P G B n em0 w0 ops s recs pre suf pend listed em a w → HeadOk suf listed →
      (recs.filter fun r => !listed.getD r.i false).length ≤ fuel → wpAny P .any ops (QOk G B n em0 w0 (.normal, ⟨tm1, s.ds, h1⟩)) fuel listed a w
  | 0, pre, suf, pend, listed, em, a, w, K, hh, hn => by
    have hall : ∀ r ∈ recs, listed.getD r.i false = true := by
      intro r hr
      cases hb : listed.getD r.i false with
      | true => rfl
      | false =>
        have : r ∈ recs.filter fun r => !listed.getD r.i false := by rw [List.mem_filter]; exact ⟨hr, by simp [hb]⟩
        rw [List.length_eq_zero_iff.1 (Nat.le_zero.1 hn)] at this
        cases this
    refine ⟨?_, K.done F hh hall⟩
    cases hrd : Region.ready .any ops listed with
    | nil => rfl
    | cons i l =>
      have hi : i ∈ Region.ready .any ops listed := by rw [hrd]; simp
      obtain ⟨pl, r, pr, hri, D⟩ := K.finds F hi
      have := hall r (by rw [D.eq]; simp)
      rw [D.free] at this
      cases this
  | fuel + 1, pre, suf, pend, listed, em, a, w, K, hh, hn => by
    refine ⟨fun hr => K.done F hh (all_listed F K.size hr), ?_⟩
    intro i hi
    obtain ⟨pl, r, pr, hri, D⟩ := K.finds F hi
    subst hri
    have hlt : r.i < listed.size := by rw [K.size]; exact (Array.getElem?_eq_some_iff.1 D.get).1
    have hset : (listed.setIfInBounds r.i true).getD r.i false = true := by simp [hlt]
    have hmem : r ∈ recs := by rw [D.eq]; simp
    have hn' : (recs.filter fun q => !(listed.setIfInBounds r.i true).getD q.i false).length ≤ fuel := by
      have := filter_lt (p := fun q : DRec => !listed.getD q.i false) (q := fun q : DRec => !(listed.setIfInBounds r.i true).getD q.i false) recs
        (fun q _ h => by
          cases hb : listed.getD q.i false with
          | false => rfl
          | true => rw [getD_set_true hb] at h; cases h)
        ⟨r, hmem, by simp only [D.free]; rfl, by simp only [hset]; rfl⟩
      omega
    have go : ∀ {pre' suf' : List DRec} {pend' : Pend} {em' : Emb} {a' : Act} {w' : World}, Stands P G B n em0 w0 ops s recs pre' suf' pend' (listed.setIfInBounds r.i true) em' a' w' →
        wpAny P .any ops (QOk G B n em0 w0 (.normal, ⟨tm1, s.ds, h1⟩)) fuel (listed.setIfInBounds r.i true) a' w' := by
      intro pre' suf' pend' em' a' w' K'
      obtain ⟨pre2, suf2, pend2, em2, K2, hh2⟩ := K'.absorb F
      exact any_ok hcall F hwf fuel pre2 suf2 pend2 _ em2 a' w' K2 hh2 hn'
    have hp := F.pairs
    have get : ∀ q ∈ recs, ops[q.i]? = some q.o := by
      intro q hq
      obtain ⟨pl2, pr2, e2⟩ := List.append_of_mem hq
      have hc2 := F.chain
      rw [e2] at hc2
      rw [← Array.getElem?_toList]; exact (Chain.at pl2 hc2).2.get
    have insuf : ∀ q ∈ suf, q ∈ recs ∧ q.act = true := fun q hq => List.mem_filter.1 (show q ∈ recs.filter (·.act) by rw [K.cut]; exact List.mem_append_right _ hq)
    have hstay : r.act = false → ∀ q ∈ suf, q.i ≠ r.i := by
      intro hact q hq e
      obtain ⟨hqr, hqa⟩ := insuf q hq
      rw [pairs_same F.pairs hqr hmem e, hact] at hqa
      cases hqa
    -- what it looks at
    have hunseen := K.unseen F hh D
    have hlook : ∀ t ∈ lookedA ops.toList r.o, VRel em ((r.tm.get t).getD undef) (a.tmps.getD t undef) := by
      intro t ht
      rw [← D.sees t ht]
      exact K.tm t (hunseen t ht)
    have hwanted := wanted_rel' hlook D.ok.want
    unfold wpOp
    simp only [D.get, hwanted]
    have hopr : r.o.op.operands.toList.all (operandWf G) = true := by
      have := List.all_eq_true.1 hwf r.o (by rw [Array.mem_toList_iff]; exact Array.mem_of_getElem? D.get)
      simp only [operWf, Bool.and_eq_true] at this
      exact this.2
    have hρ : ∀ x ∈ r.o.op.operands.toList, VRel em (ev r.tm x) (a.eval x) := by
      intro x hx
      cases x with
      | tmp t => exact hlook t (by
          unfold lookedA
          rw [List.mem_append, List.mem_filterMap]
          exact .inl ⟨_, hx, rfl⟩)
      | const v => exact VRel.ground_refl (List.all_eq_true.1 hopr _ hx)
      | global g =>
        have hg : g < G := by simpa [operandWf] using List.all_eq_true.1 hopr _ hx
        have := VRel.ptr (em := em) (b := g) (cb := g) (co := 0) 0 (K.heap.glob g hg)
        simpa [ev, Act.eval] using this
      | func f => exact .func _ .nil .nil
    cases hw : r.w with
    | false =>
      simp only [Bool.false_eq_true, if_false]
      obtain ⟨hv, hact⟩ := D.ok.idle hw
      exact go (K.next F hwf D hi (.refl em) (Kept.refl _ _) (v' := undef) K.cut (fun p hp => .inr hp) (fun _ h => h) (fun _ h _ => h) (fun _ h => .inl h) (fun _ h => h) (.inl ⟨by rw [hv]; exact undef_rel, hstay hact⟩) K.heap)
    | true =>
      simp only [if_true]
      left
      simp only [Oper.wp]
      cases hact : r.act with
      | false =>
        have hany : anywhereA P ops.toList ops.toList.length r s.h (pre ++ suf) = true := by
          rcases F.anyw r hmem with h | h | h
          · rw [hact] at h; cases h
          · rw [hw] at h; cases h
          · rw [← K.cut]; exact h
        have htell := anywhere_at pre hany
          (fun p hpm => by
            cases hb : aheadA ops.toList ops.toList.length r.i p.i with
            | false => rfl
            | true =>
              have hpr : p ∈ recs := (List.mem_filter.1 (show p ∈ recs.filter (·.act) by rw [K.cut]; simp [hpm])).1
              have := ahead_listed K.closed _ p.i p.o (get p hpr) (K.closed _ _ (K.lpre p hpm) (get p hpr)) hb
              rw [D.free] at this
              cases this)
          (fun q l hs => by
            constructor
            · cases hb : aheadA ops.toList ops.toList.length q.i r.i with
              | false => rfl
              | true =>
                have := D.front _ hb
                rw [hh q l hs] at this
                cases this
            · intro x hx hnews
              cases hb : aheadA ops.toList ops.toList.length x.i r.i with
              | false => rfl
              | true =>
                have hl := D.front _ hb
                obtain ⟨b, hxb⟩ := K.lsuf x (by rw [hs]; simp [hx]) hl
                have := (K.pok _ hxb).news
                simp only at this
                rw [hnews] at this
                cases this)
        unfold tellsA at htell
        split at htell
        · rename_i v h2 hq
          have hvv := eqV_eq _ _ htell
          have hsame : h2 = hAfter s.h pre := looks_same (D.ok.look hw hact) _ _ hq
          have hok := opA_ok (P := P) (o := r.o) K.heap hρ hq
          cases hok with
          | val hle H' hB hv hrun =>
            rw [hrun, Oper.upon_value]
            exact go (K.next F hwf D hi hle hB K.cut (fun p hp => .inr hp) (fun _ h => h) (fun _ h _ => h) (fun _ h => .inl h) (fun _ h => h) (.inl ⟨by rw [← hvv]; exact hv, hstay hact⟩) (by rw [← hsame]; exact H'))
        · cases htell
      | true =>
        -- among those to come
        have hin : r ∈ suf := by
          have : r ∈ pre ++ suf := by rw [← K.cut, List.mem_filter]; exact ⟨hmem, hact⟩
          rw [List.mem_append] at this
          rcases this with h | h
          · have := K.lpre r h; rw [D.free] at this; cases this
          · exact h
        cases hs : suf with
        | nil => rw [hs] at hin; cases hin
        | cons q0 l =>
          have h0 := hh q0 l hs
          by_cases heq : r = q0
          · -- it is the next one
            have hsuf : suf = r :: l := by rw [hs, heq]
            have hheap : r.h = hAfter s.h pre := by
              have hc := F.chain.heap
              rw [K.cut] at hc
              have := HC.split pre hc
              rw [hsuf] at this
              exact this.1
            have hcut' : recs.filter (·.act) = (pre ++ [r]) ++ l := by rw [K.cut, hsuf]; simp
            have hpre' : ∀ p ∈ pre ++ [r], p = r ∨ p ∈ pre := by
              intro p hp
              rw [List.mem_append, List.mem_singleton] at hp
              exact hp.symm
            have hl1 : ∀ q ∈ l, q ∈ suf := fun q hq => by rw [hsuf]; exact List.mem_cons_of_mem _ hq
            have hl2 : ∀ q ∈ suf, q.i ≠ r.i → q ∈ l := by
              intro q hq hne
              rw [hsuf, List.mem_cons] at hq
              rcases hq with rfl | hq
              · exact absurd rfl hne
              · exact hq
            have hl3 : ∀ q ∈ l, q.i ≠ r.i := by
              intro q hq
              have hpf : (recs.filter (·.act)).Pairwise (PairOk ops.toList ops.toList.length) := hp.sublist List.filter_sublist
              rw [K.cut, hsuf, List.pairwise_append, List.pairwise_cons] at hpf
              exact fun e => (hpf.2.1.1 q hq).ne e.symm
            have hafter : hAfter s.h (pre ++ [r]) = r.h' := by rw [hAfter_append]; rfl
            have next : ∀ (em' : Emb) (w' : World) (v' : Value), em.Le em' → Kept (ownOf B pend) w w' → VRel em' r.v v' → WRel G (ownOf B pend) em' r.h' w' →
                wpAny P .any ops (QOk G B n em0 w0 (.normal, ⟨tm1, s.ds, h1⟩)) fuel (listed.setIfInBounds r.i true) (a.put r.o.dst v') w' := by
              intro em' w' v' hle hB hv H'
              exact go (K.next F hwf D hi hle hB hcut' hpre' hl1 hl2 (fun _ h => .inl h) (fun _ h => h) (.inl ⟨hv, hl3⟩) (by rw [hafter]; exact H'))
            have hK := K.heap
            rw [← hheap] at hK
            rcases D.ok.turn hact with hq | ⟨hq, hv0⟩ | ⟨f, args, h2, hq, hc⟩
            · have hok := opA_ok (P := P) (o := r.o) hK hρ hq
              cases hok with
              | val hle H' hB hv hrun =>
                rw [hrun, Oper.upon_value]
                exact next _ _ _ hle hB hv H'
            · have hok := opA_ok (P := P) (o := r.o) hK hρ hq
              cases hok with
              | skip hle H' hB hrun =>
                rw [hrun, Oper.upon_skip]
                exact next _ _ _ hle hB (by rw [hv0]; exact undef_rel) H'
            · have hok := opA_ok (P := P) (o := r.o) hK hρ hq
              cases hok with
              | enter hargs hrun =>
                rw [hrun, Oper.upon_enter]
                refine Calls.mono (hcall _ _ _ _ _ _ hc em w _ hK hargs) ?_
                intro e w' hpost
                obtain ⟨em1, hle, H1, hb, hen⟩ := hpost
                cases hen with
                | ret hv => exact next _ _ _ hle hb hv H1
          · -- a new variable, ahead of its time
            have hrl : r ∈ l := by
              rw [hs, List.mem_cons] at hin
              exact hin.resolve_left heq
            have hlf : (recs.filter (·.act)).Pairwise (Loose ops recs) := F.loose.sublist List.filter_sublist
            rw [K.cut, hs, List.pairwise_append, List.pairwise_cons] at hlf
            have hq0 : q0.act = true := (insuf q0 (by rw [hs]; simp)).2
            have hnews : newsA r.o.op = true := by
              rcases hlf.2.1.1 r hrl hq0 hact with h | ⟨h, _⟩
              · have := D.front _ h
                rw [h0] at this; cases this
              · exact h
            have hop : ∃ ty, r.o.op = .alloc ty := by
              unfold newsA at hnews
              split at hnews
              · exact ⟨_, ‹_›⟩
              · cases hnews
            obtain ⟨ty, hop⟩ := hop
            have hz : ∃ z, zeroA P ty = some z := by
              have hA : opA P (ev r.tm) r.o r.h = (zeroA P ty).map fun z => .val (.pointer (some ⟨r.h.next, 0, none⟩)) (newA 1 z.cells.toList r.h) := by simp [opA, opA0, askable, hop]
              cases hz : zeroA P ty with
              | some z => exact ⟨z, rfl⟩
              | none =>
                rw [hz] at hA
                simp only [Option.map_none] at hA
                rcases D.ok.turn hact with h | ⟨h, _⟩ | ⟨_, _, _, h, _⟩ <;> (rw [hA] at h; cases h)
            obtain ⟨z, hz⟩ := hz
            obtain ⟨hzr, _⟩ := zeroA_run hz
            have hrun : (execOp a.eval r.o).run P w = .ok (.value (.pointer (some ⟨w.heap.size, 0, none⟩))) (w.alloc (.cells z.cells ty)) := by
              simp [execOp, hop, Instr.alloc, hzr, newVar, newRow]
            rw [hrun, Oper.upon_value]
            have hroom := (ownOf_may.1 K.heap.room).1
            refine go (K.next F hwf D hi (pend' := (r, w.heap.size) :: pend) (.refl em) ((Kept.refl _ _).alloc K.heap.base _) K.cut (fun p hp => .inr hp) (fun _ h => h) (fun _ h _ => h) ?_ (fun _ h => List.mem_cons_of_mem _ h)
              (.inr ⟨w.heap.size, List.mem_cons_self⟩) (K.heap.hold r _))
            intro x hx
            rw [List.mem_cons] at hx
            rcases hx with rfl | hx
            · refine .inr ⟨rfl, hin, hnews, ?_, rfl, hroom, rfl⟩
              intro e he
              rw [hop] at he
              cases he
              exact ⟨z, hz, Array.getElem?_push_size⟩
            · exact .inl hx

theorem TS_no : ∀ (l : List DRec) (tm : Tr Value), TS (fun _ => false) l tm = tm
  | [], _ => rfl
  | _ :: l, tm => TS_no l tm

theorem go_len (md : Region.Mode) (ops : Array Oper) : ∀ (fuel t : Nat) (listed : Array Bool), (Region.linearise.go md ops fuel t listed []).length ≤ fuel
  | 0, t, listed => by simp [Region.linearise.go]
  | fuel + 1, t, listed => by
    simp only [Region.linearise.go]
    split
    · rw [linearise_go_acc]
      have := go_len md ops fuel (t / ((List.range ops.size).filter fun i =>
        !listed.getD i true && ((ops[i]?).map (·.after.all fun e => !Region.binds md e || listed.getD e.on false)).getD false).length)
      rename_i i _
      have := this (listed.setIfInBounds i true)
      simp only [List.reverse_singleton, List.length_append, List.length_singleton]
      omega
    · simp

theorem recs_len {ops : List Oper} : ∀ (l : List Nat) (tm : Tr Value) (h : AHeap) (recs : List DRec) (tm' : Tr Value) (h' : AHeap), recsA P call ops l tm h = some (recs, tm', h') → recs.length = l.length
  | [], tm, h, recs, tm', h', e => by
    simp only [recsA, Option.some.injEq, Prod.mk.injEq] at e
    rw [← e.1]; rfl
  | i :: rest, tm, h, recs, tm', h', e => by
    unfold recsA at e
    have go : ∀ (d : DRec) (x : Tr Value) (y : AHeap), ((recsA P call ops rest x y).map fun r => (d :: r.1, r.2)) = some (recs, tm', h') → recs.length = (i :: rest).length := by
      intro d x y e
      cases hr : recsA P call ops rest x y with
      | none => rw [hr] at e; cases e
      | some p =>
        obtain ⟨recs1, tm1, h2⟩ := p
        rw [hr] at e
        simp only [Option.map_some, Option.some.injEq, Prod.mk.injEq] at e
        rw [← e.1, List.length_cons, recs_len rest _ _ _ _ _ hr, List.length_cons]
    split at e
    · cases e
    rename_i o ho
    simp only at e
    split at e
    · cases e
    · exact go _ _ _ e
    · cases hl : looksA P o.op with
      | true =>
        rw [hl] at e
        simp only [cond_true] at e
        split at e
        · exact go _ _ _ e
        · cases e
      | false =>
        rw [hl] at e
        simp only [cond_false] at e
        split at e
        · exact go _ _ _ e
        · exact go _ _ _ e
        · split at e
          · exact go _ _ _ e
          · cases e
        · cases e

/-- Each stands where it stands. -/
theorem pairwise_at {α : Type} {R : α → α → Prop} (l : List α) (h : ∀ pl a pr, l = pl ++ a :: pr → ∀ p ∈ pl, R p a) : l.Pairwise R := by
  have key : ∀ k m : List α, l = m ++ k → k.Pairwise R := by
    intro k
    induction k with
    | nil => intro _ _; exact .nil
    | cons x k ih =>
      intro m e
      refine .cons ?_ (ih (m ++ [x]) (by rw [e]; simp))
      intro y hy
      obtain ⟨k1, k2, e2⟩ := List.append_of_mem hy
      exact h (m ++ x :: k1) y k2 (by rw [e, e2]; simp) x (by simp)
  exact key l [] rfl

theorem draw_ok (hcall : ∀ B, CallOk P G B call) : DrawOk P G B n call := by
  intro ops id s res hd hwf em a w H ha
  unfold drawA at hd
  cases hr : recsA P call ops.toList (Region.linearise .any ⟨ops.toList⟩ 0) s.tm s.h with
  | none => rw [hr] at hd; cases hd
  | some p =>
    obtain ⟨recs, tm1, h1⟩ := p
    rw [hr] at hd
    simp only at hd
    cases hb : (P.follows .mixedOrders && edgesOk ops.toList recs && pairsOk ops.toList ops.toList.length recs && looseOk ops.toList ops.toList.length [] recs &&
      (recs.all fun r => r.act || !r.w || anywhereA P ops.toList ops.toList.length r s.h (recs.filter (·.act)))) with
    | false => rw [hb] at hd; cases hd
    | true =>
      rw [hb] at hd
      simp only [cond_true, Option.some.injEq] at hd
      subst hd
      simp only [Bool.and_eq_true, edgesOk, List.all_eq_true, List.any_eq_true, Bool.or_eq_true, Bool.not_eq_true', List.mem_range] at hb
      obtain ⟨⟨⟨⟨hm, hcov, hed⟩, hpairs⟩, hloose⟩, hany⟩ := hb
      have hlen : ops.toList.length = ops.size := Array.length_toList
      have hpw := pairs_spec hpairs
      have F : Fixed P call ops s recs tm1 h1 := by
        refine ⟨recs_chain _ _ _ _ _ _ hr, hpw, ?_, ?_, ?_, ?_⟩
        · refine pairwise_at recs ?_
          intro pl a pr e p hp hpa haa
          rcases loose_spec recs [] hloose pl a pr e haa p (.inr ⟨hp, hpa⟩) with h | ⟨h, h2⟩
          · exact .inl h
          · refine .inr ⟨h, fun r hr t ht hd => ?_⟩
            rw [e, List.mem_append, List.mem_cons] at hr
            rw [e, List.pairwise_append, List.pairwise_cons] at hpw
            rcases hr with hr | hr | hr
            · exact .inl ((hpw.2.2 r hr a (by simp)).writes t hd ht)
            · exact .inr (.inl hr)
            · exact .inr (.inr (h2 r hr t ht hd))
        · intro i hi
          obtain ⟨r, hr, hb⟩ := hcov i (by rw [hlen]; exact hi)
          exact ⟨r, hr, Nat.eq_of_beq_eq_true hb⟩
        · intro r hr e he hbd
          rcases hed r hr e (Array.mem_toList_iff.2 he) with h | ⟨h1, h2⟩
          · rw [hbd] at h; cases h
          · refine ⟨by rw [← hlen]; simpa using h1, fun e => by simp [e] at h2⟩
        · intro r hr
          rcases hany r hr with (h | h) | h
          · exact .inl h
          · exact .inr (.inl h)
          · exact .inr (.inr h)
      refine wp_region_any hm ?_
      have hfalse : ∀ i, (Array.replicate ops.size false).getD i false = false := by
        intro i
        rw [Array.getD_eq_getD_getElem?, Array.getElem?_replicate]
        split <;> rfl
      have hcongr : TS (fun i => (Array.replicate ops.size false).getD i false) recs s.tm = s.tm := by
        rw [TS_congr (S2 := fun _ => false) recs _ (fun q _ => hfalse q.i)]
        exact TS_no recs _
      have hB : ownOf B [] = B := by
        unfold ownOf
        cases B
        simp
      refine any_ok hcall F hwf ops.size [] (recs.filter (·.act)) [] _ em a _ ⟨by simp, ?_, rfl, by simp, ?_, by simp, by simp, by simp, by simp, .refl em, ?_, ?_, ?_, ha.size, ha.ds⟩ (fun q l _ => hfalse _) ?_
      · intro i o hi
        rw [hfalse] at hi
        cases hi
      · intro q _ h
        rw [hfalse] at h
        cases h
      · exact ⟨rfl, rfl, rfl, Nat.le_refl _, fun _ _ => rfl⟩
      · rw [hB]; exact WRel.grew H ⟨Nat.le_refl _, fun _ _ => rfl⟩
      · intro t _; rw [hcongr]; exact ha.tm t
      · refine Nat.le_trans (List.length_filter_le _ _) ?_
        rw [recs_len _ _ _ _ _ _ hr]
        exact go_len _ _ _ _ _
end
end Go.Ae
