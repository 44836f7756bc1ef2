/- The abstract evaluator: regions that draw their order: whichever is drawn, it stands for the one that was taken. -/
import Derived.Test.YtkmjbiabhpfbpaaGreatDoorAe17
namespace Go.Ae
open Go Go.RowKit
set_option linter.unusedSectionVars false
variable [Ask]

section
variable {P : Program} {call : CallA} {G n : Nat} {B : Kp}

theorem wanted_rel' {em : Emb} {ops : Array Oper} {o : Oper} {tm : Tr Value} {a : Act} (ht : ∀ t ∈ lookedA ops.toList o, VRel em ((tm.get t).getD undef) (a.tmps.getD t undef)) {b : Bool}
    (hw : wantedA ops.toList o tm = some b) : Region.wanted o (yielded ops a.tmps) = b := by
  unfold wantedA at hw
  unfold Region.wanted
  split at hw
  · rename_i hg; cases hw; rw [hg]
  · rename_i j want hg
    rw [hg]
    simp only
    unfold yielded
    have hj : ops.toList[j]? = ops[j]? := Array.getElem?_toList
    rw [hj] at hw
    split at hw
    · rename_i hd; cases hw; rw [hd]; simp
    · rename_i d hd
      rw [hd]
      have hr := ht d (by simp [lookedA, hg, hd])
      split at hw
      · rename_i bb hb
        cases hw
        rw [hb] at hr
        have e := bool_inv hr
        have : a.tmps[d]? = some (.bool bb) := by
          rw [Array.getD_eq_getD_getElem?] at e
          cases h : a.tmps[d]? with
          | none => rw [h] at e; simp [undef] at e
          | some x => rw [h] at e; simp at e; rw [e]
        simp only [Option.bind_some, this]
        cases bb <;> cases want <;> rfl
      · rename_i vs hb
        cases hw
        rw [hb] at hr
        obtain ⟨vs', _, e⟩ := tuple_inv hr
        rw [Array.getD_eq_getD_getElem?] at e
        cases h : a.tmps[d]? with
        | none => simp [h]
        | some x => rw [h] at e; simp at e; subst e; simp [h]
      · cases hw

theorem ahead_listed {ops : Array Oper} {listed : Array Bool} (hcl : ∀ i o, listed.getD i false = true → ops[i]? = some o → ∀ e ∈ o.after, Region.binds .any e = true → listed.getD e.on false = true) {j : Nat} :
    ∀ (f i : Nat) (o : Oper), ops[i]? = some o → (∀ e ∈ o.after, Region.binds .any e = true → listed.getD e.on false = true) → aheadA ops.toList f j i = true → listed.getD j false = true
  | 0, _, _, _, _, h => by simp [aheadA] at h
  | f + 1, i, o, ho, he, h => by
    simp only [aheadA, Array.getElem?_toList, ho, List.any_eq_true, Bool.and_eq_true, Bool.or_eq_true] at h
    obtain ⟨e, hm, hb, hj⟩ := h
    have hl := he e (Array.mem_toList_iff.1 hm) hb
    rcases hj with hj | hj
    · rw [← Nat.eq_of_beq_eq_true hj]; exact hl
    · cases ho' : ops[e.on]? with
      | none => cases f <;> simp [aheadA, ho'] at hj
      | some o' => exact ahead_listed hcl f e.on o' ho' (hcl _ _ hl ho') hj

/-- Two that turn memory. -/
def Loose (ops : Array Oper) (recs : List DRec) (p a : DRec) : Prop :=
  p.act = true → a.act = true → aheadA ops.toList ops.toList.length p.i a.i = true ∨
    (newsA a.o.op = true ∧ ∀ r ∈ recs, ∀ t ∈ lookedA ops.toList r.o, a.o.dst = some t → aheadA ops.toList ops.toList.length r.i a.i = true ∨ r = a ∨ aheadA ops.toList ops.toList.length p.i r.i = true)

/-- What is fixed while a region's operations are done. -/
structure Fixed (P : Program) (call : CallA) (ops : Array Oper) (s : St) (recs : List DRec) (tm1 : Tr Value) (h1 : AHeap) : Prop where
  chain : Chain P call ops.toList recs s.tm s.h tm1 h1
  pairs : recs.Pairwise (PairOk ops.toList ops.toList.length)
  loose : recs.Pairwise (Loose ops recs)
  cover : ∀ i, i < ops.size → ∃ r ∈ recs, r.i = i
  edges : ∀ r ∈ recs, ∀ e ∈ r.o.after, Region.binds .any e = true → e.on < ops.size ∧ e.on ≠ r.i
  anyw : ∀ r ∈ recs, r.act = true ∨ r.w = false ∨ anywhereA P ops.toList ops.toList.length r s.h (recs.filter (·.act)) = true

/-- A new variable that was made ahead of its time. -/
structure PendOk (P : Program) (tmps : Array Value) (w : World) (q : DRec) (b : Nat) : Prop where
  news : newsA q.o.op = true
  cells : ∀ e, q.o.op = .alloc e → ∃ z, zeroA P e = some z ∧ w.heap[b]? = some (.cells z.cells e)
  dst : ∀ t, q.o.dst = some t → tmps.getD t undef = .pointer (some ⟨b, 0, none⟩)

abbrev Pend := List (DRec × Nat)
def ownOf (B : Kp) (pend : Pend) : Kp := ⟨B.lo, fun k => B.own k ∨ ∃ x ∈ pend, x.2 = k⟩

theorem ownOf_may {B : Kp} {pend : Pend} {k : Nat} : (ownOf B pend).may k ↔ B.may k ∧ ∀ x ∈ pend, x.2 ≠ k := by
  unfold Kp.may ownOf
  constructor
  · rintro ⟨h1, h2⟩
    exact ⟨⟨h1, fun h => h2 (.inl h)⟩, fun x hx e => h2 (.inr ⟨x, hx, e⟩)⟩
  · rintro ⟨⟨h1, h2⟩, h3⟩
    refine ⟨h1, fun h => ?_⟩
    rcases h with h | ⟨x, hx, e⟩
    · exact h2 h
    · exact h3 x hx e

theorem Kept.weaken {B B' : Kp} {w w' : World} (k : Kept B w w') (h : ∀ i, B.may i → B'.may i) : Kept B' w w' :=
  ⟨k.os, k.tape, k.output, k.size, fun i hi => k.block i (fun hm => hi (h i hm))⟩

/-- The same heap with other leave. -/
theorem WRel.leave {B' : Kp} {em : Emb} {h : AHeap} {w : World} (H : WRel G B em h w) (hlo : B'.lo = B.lo) (hm : ∀ k, k < w.heap.size → B.may k → B'.may k) (hb : ∀ k, ¬ B'.may k → k < w.heap.size) : WRel G B' em h w where
  dom := H.dom
  glob := H.glob
  base := hb
  fix b c n z hx := by rw [hlo]; exact H.fix b c n z hx
  cells b c n z ro hx := by
    obtain ⟨cb, co, h1, h2, h3, h4, h5, h6⟩ := H.cells b c n z ro hx
    exact ⟨cb, co, h1, h2, h3, h4, h5, fun hf => ⟨hm _ h4 (h6 hf).1, (h6 hf).2⟩⟩
  maps r es ck hx := by
    obtain ⟨cb, es', h1, h2, h3, h4⟩ := H.maps r es ck hx
    exact ⟨cb, es', h1, hm _ (Array.getElem?_eq_some_iff.1 h3).1 h2, h3, h4⟩
  iters r s p hx := by
    obtain ⟨cb, h1, h2, h3⟩ := H.iters r s p hx
    exact ⟨cb, h1, hm _ (Array.getElem?_eq_some_iff.1 h3).1 h2, h3⟩
  sep := H.sep
  own := H.own

/-- In a block that is somebody's own lies nothing of the heap's. -/
theorem WRel.clear {em : Emb} {h : AHeap} {w : World} (H : WRel G B em h w) {b : Nat} (hb : ¬ B.may b) (hlo : B.lo ≤ b) {x : Nat} {o : AObj} {co : Nat} (hx : h.objs.get x = some o) (hat : em.at_ x = some (b, co)) : False := by
  cases o with
  | cells c n z ro =>
    cases ro with
    | true =>
      obtain ⟨cb, co', h1, h2⟩ := H.fix _ _ _ _ hx
      rw [hat] at h1; cases h1
      omega
    | false =>
      obtain ⟨cb, co', h1, _, _, _, _, h6⟩ := H.cells _ _ _ _ _ hx
      rw [hat] at h1; cases h1
      exact hb (h6 rfl).1
  | map es ck =>
    obtain ⟨cb, es', h1, h2, _⟩ := H.maps _ _ _ hx
    rw [hat] at h1; cases h1
    exact hb h2
  | sIter s p =>
    obtain ⟨cb, h1, h2, _⟩ := H.iters _ _ _ hx
    rw [hat] at h1; cases h1
    exact hb h2

/-- A block that is nobody's is made. -/
theorem WRel.hold {pend : Pend} {em : Emb} {h : AHeap} {w : World} (H : WRel G (ownOf B pend) em h w) (q : DRec) (o : Obj) : WRel G (ownOf B ((q, w.heap.size) :: pend)) em h (w.alloc o) := by
  have H' := H.grew (Grew.alloc w o)
  refine ⟨H'.dom, H'.glob, ?_, H'.fix, ?_, ?_, ?_, H'.sep, H'.own⟩
  · intro k hk
    simp only [World.size_alloc]
    apply Decidable.byContradiction
    intro hge
    refine hk (ownOf_may.2 ?_)
    have hmay : (ownOf B pend).may k := Classical.byContradiction fun hn => by have := H.base k hn; omega
    obtain ⟨h1, h2⟩ := ownOf_may.1 hmay
    refine ⟨h1, fun x hx => ?_⟩
    rw [List.mem_cons] at hx
    rcases hx with rfl | hx
    · simp only; omega
    · exact h2 x hx
  · intro b c n z ro hx
    obtain ⟨cb, co, h1, h2, h3, h4, h5, h6⟩ := H'.cells b c n z ro hx
    refine ⟨cb, co, h1, h2, h3, h4, h5, fun hf => ⟨?_, (h6 hf).2⟩⟩
    have hlt := H.lt hx h1
    obtain ⟨k1, k2⟩ := ownOf_may.1 (h6 hf).1
    refine ownOf_may.2 ⟨k1, fun x hx => ?_⟩
    rw [List.mem_cons] at hx
    rcases hx with rfl | hx
    · simp only; omega
    · exact k2 x hx
  · intro r es ck hx
    obtain ⟨cb, es', h1, h2, h3, h4⟩ := H'.maps r es ck hx
    refine ⟨cb, es', h1, ?_, h3, h4⟩
    have hlt := H.lt hx h1
    obtain ⟨k1, k2⟩ := ownOf_may.1 h2
    refine ownOf_may.2 ⟨k1, fun x hx => ?_⟩
    rw [List.mem_cons] at hx
    rcases hx with rfl | hx
    · simp only; omega
    · exact k2 x hx
  · intro r s p hx
    obtain ⟨cb, h1, h2, h3⟩ := H'.iters r s p hx
    refine ⟨cb, h1, ?_, h3⟩
    have hlt := H.lt hx h1
    obtain ⟨k1, k2⟩ := ownOf_may.1 h2
    refine ownOf_may.2 ⟨k1, fun x hx => ?_⟩
    rw [List.mem_cons] at hx
    rcases hx with rfl | hx
    · simp only; omega
    · exact k2 x hx

/-- Where the run of a region stands. -/
structure Stands (P : Program) (G : Nat) (B : Kp) (n : Nat) (em0 : Emb) (w0 : World) (ops : Array Oper) (s : St) (recs pre suf : List DRec) (pend : Pend) (listed : Array Bool) (em : Emb) (a : Act) (w : World) : Prop where
  size : listed.size = ops.size
  closed : ∀ i o, listed.getD i false = true → ops[i]? = some o → ∀ e ∈ o.after, Region.binds .any e = true → listed.getD e.on false = true
  cut : recs.filter (·.act) = pre ++ suf
  lpre : ∀ p ∈ pre, listed.getD p.i false = true
  lsuf : ∀ q ∈ suf, listed.getD q.i false = true → ∃ b, (q, b) ∈ pend
  pin : ∀ x ∈ pend, x.1 ∈ suf ∧ listed.getD x.1.i false = true
  pok : ∀ x ∈ pend, PendOk P a.tmps w x.1 x.2
  inj : ∀ x ∈ pend, ∀ y ∈ pend, x.2 = y.2 → x.1.i = y.1.i
  pmay : ∀ x ∈ pend, B.may x.2
  le : em0.Le em
  below : Kept B w0 w
  heap : WRel G (ownOf B pend) em (hAfter s.h pre) w
  tm : ∀ t, (∀ x ∈ pend, x.1.o.dst ≠ some t) → VRel em (((TS (fun i => listed.getD i false) recs s.tm).get t).getD undef) (a.tmps.getD t undef)
  tms : n ≤ a.tmps.size
  ds : DsRel em s.ds a.defers

/-- The first of those that are still to come is not done. -/
def HeadOk (suf : List DRec) (listed : Array Bool) : Prop := ∀ q l, suf = q :: l → listed.getD q.i false = false

variable {em0 em : Emb} {w0 w : World} {ops : Array Oper} {s : St} {recs pre suf : List DRec} {pend : Pend} {tm1 : Tr Value} {h1 : AHeap} {listed : Array Bool} {a : Act}

theorem pairs_dst (hp : recs.Pairwise (PairOk ops.toList n)) {p q : DRec} (hpm : p ∈ recs) (hqm : q ∈ recs) (hne : p.i ≠ q.i) {d : Tmp} (hd : p.o.dst = some d) : q.o.dst ≠ some d := by
  obtain ⟨l, m, e⟩ := List.append_of_mem hpm
  rw [e, List.pairwise_append, List.pairwise_cons] at hp
  rw [e, List.mem_append, List.mem_cons] at hqm
  rcases hqm with h | h | h
  · intro hq; exact (hp.2.2 q h p (by simp)).dst d hq hd
  · exact absurd (h ▸ rfl) hne
  · exact (hp.2.1.1 q h).dst d hd
theorem pairs_same (hp : recs.Pairwise (PairOk ops.toList n)) {p q : DRec} (hpm : p ∈ recs) (hqm : q ∈ recs) (he : p.i = q.i) : p = q := by
  obtain ⟨l, m, e⟩ := List.append_of_mem hpm
  rw [e, List.pairwise_append, List.pairwise_cons] at hp
  rw [e, List.mem_append, List.mem_cons] at hqm
  rcases hqm with h | h | h
  · exact absurd he.symm (hp.2.2 q h p (by simp)).ne
  · exact h.symm
  · exact absurd he (hp.2.1.1 q h).ne

theorem Stands.done (F : Fixed P call ops s recs tm1 h1) (K : Stands P G B n em0 w0 ops s recs pre suf pend listed em a w) (hh : HeadOk suf listed) (hall : ∀ r ∈ recs, listed.getD r.i false = true) :
    QOk G B n em0 w0 (.normal, ⟨tm1, s.ds, h1⟩) .normal a w := by
  have hsuf : suf = [] := by
    cases hs : suf with
    | nil => rfl
    | cons q l =>
      have hq : q ∈ recs.filter (·.act) := by rw [K.cut, hs]; simp
      have := hall q (List.mem_filter.1 hq).1
      rw [hh q l hs] at this
      cases this
  have hpend : pend = [] := by
    cases hp : pend with
    | nil => rfl
    | cons x l =>
      have := (K.pin x (by rw [hp]; simp)).1
      rw [hsuf] at this
      cases this
  have hheap : hAfter s.h pre = h1 := by
    have hc := F.chain.heap
    rw [K.cut] at hc
    have := HC.split pre hc
    rw [hsuf] at this
    exact this
  have ht : TS (fun i => listed.getD i false) recs s.tm = tm1 := by
    rw [F.chain.final]
    exact TS_congr _ _ hall
  have hB : ownOf B [] = B := by
    unfold ownOf
    cases B
    simp
  have hw := K.heap
  rw [hpend, hB, hheap] at hw
  refine ⟨em, K.le, hw, K.below, ⟨fun t => ?_, K.tms, K.ds⟩, .normal⟩
  have := K.tm t (by rw [hpend]; simp)
  rw [ht] at this
  exact this

/-- What was made ahead of its time, and now is in time. -/
theorem Stands.absorb (F : Fixed P call ops s recs tm1 h1) : ∀ (suf pre : List DRec) (pend : Pend) (em : Emb), Stands P G B n em0 w0 ops s recs pre suf pend listed em a w →
    ∃ pre' suf' pend' em', Stands P G B n em0 w0 ops s recs pre' suf' pend' listed em' a w ∧ HeadOk suf' listed
  | [], pre, pend, em, K => ⟨_, _, _, _, K, fun _ _ e => by cases e⟩
  | q :: suf, pre, pend, em, K => by
    cases hq : listed.getD q.i false with
    | false => exact ⟨_, _, _, _, K, fun _ _ e => by cases e; exact hq⟩
    | true =>
      obtain ⟨b, hb⟩ := K.lsuf q (by simp) hq
      have hqf : q ∈ recs.filter (·.act) := by rw [K.cut]; simp
      obtain ⟨hqr, hqa⟩ := List.mem_filter.1 hqf
      obtain ⟨pl, pr, e⟩ := List.append_of_mem hqr
      have hc := F.chain
      rw [e] at hc
      have hok := (Chain.at pl hc).2
      have hpo := K.pok _ hb
      have hqh : q.h = hAfter s.h pre := by
        have hc := F.chain.heap
        rw [K.cut] at hc
        exact (HC.split pre hc).1
      have hnews := hpo.news
      have hop : ∃ ty, q.o.op = .alloc ty := by
        simp only at hnews
        unfold newsA at hnews
        split at hnews
        · exact ⟨_, ‹_›⟩
        · cases hnews
      obtain ⟨ty, hop⟩ := hop
      obtain ⟨z, hz, hcell⟩ := hpo.cells ty hop
      have hopA : opA P (ev q.tm) q.o q.h = some (.val (.pointer (some ⟨q.h.next, 0, none⟩)) (newA 1 z.cells.toList q.h)) := by
        simp [opA, opA0, askable, hop, hz]
      have hvh : q.v = .pointer (some ⟨q.h.next, 0, none⟩) ∧ q.h' = newA 1 z.cells.toList q.h := by
        rcases hok.turn hqa with h | ⟨h, _⟩ | ⟨f, args, h2, h, _⟩
        · rw [hopA] at h; simp only [Option.some.injEq, ORes.val.injEq] at h; exact ⟨h.1.symm, h.2.symm⟩
        · rw [hopA] at h; cases h
        · rw [hopA] at h; cases h
      have hlt : b < w.heap.size := (Array.getElem?_eq_some_iff.1 hcell).1
      have hmay := K.pmay _ hb
      have hown : ¬ (ownOf B pend).may b := fun h => (ownOf_may.1 h).2 _ hb rfl
      have hfree : ∀ x o co, (hAfter s.h pre).objs.get x = some o → em.at_ x = some (b, co) → False := fun x o co hx hat => K.heap.clear hown hmay.1 hx hat
      let pend' : Pend := pend.filter fun x => !(x.1.i == q.i)
      have hpm : ∀ x, x ∈ pend' ↔ x ∈ pend ∧ x.1.i ≠ q.i := by
        intro x
        simp [pend', List.mem_filter]
      have hpmay : (ownOf B pend').may b := by
        refine ownOf_may.2 ⟨hmay, fun x hx e => ?_⟩
        obtain ⟨hx1, hx2⟩ := (hpm x).1 hx
        exact hx2 (K.inj x hx1 _ hb e)
      have H1 : WRel G (ownOf B pend') em (hAfter s.h pre) w := by
        refine K.heap.leave rfl ?_ ?_
        · intro k _ hk
          obtain ⟨k1, k2⟩ := ownOf_may.1 hk
          exact ownOf_may.2 ⟨k1, fun x hx => k2 x ((hpm x).1 hx).1⟩
        · intro k hk
          refine K.heap.base k (fun h => hk ?_)
          obtain ⟨k1, k2⟩ := ownOf_may.1 h
          exact ownOf_may.2 ⟨k1, fun x hx => k2 x ((hpm x).1 hx).1⟩
      obtain ⟨_, hg⟩ := zeroA_run hz
      have hzv : VsRel em z.cells.toList z.cells.toList := (groundKey_refl hg).cells
      have hcl : ∀ i, w.cell? ⟨b, i, none⟩ = z.cells[i]? := by
        intro i
        simp [World.cell?, hcell]
      have hfz : ∀ i, w.frozen? ⟨b, i, none⟩ = false := by
        intro i
        simp [World.frozen?, hcell]
      obtain ⟨H2, hle⟩ := H1.add (o := .cells (Tr.of z.cells.toList) z.cells.toList.length 1 false) (nb := b) (ext := z.cells.size) (z := 1) hpmay hlt hfree
        (by
          intro c k z' ro e
          cases e
          refine ⟨rfl, by simp, ?_, ?_⟩
          · intro i v hi
            rw [Tr.get_of] at hi
            obtain ⟨v', hv', hr⟩ := hzv.get hi
            refine ⟨(List.getElem?_eq_some_iff.1 hi).1, v', ?_, hr⟩
            rw [hcl, ← Array.getElem?_toList]
            exact hv'
          · intro i hi
            rw [hcl]
            exact ⟨by simp [hi], hfz i⟩)
        (by intro es ck e; cases e) (by intro s p e; cases e)
      have hafter : hAfter s.h (pre ++ [q]) = (hAfter s.h pre).new (.cells (Tr.of z.cells.toList) z.cells.toList.length 1 false) := by
        rw [hAfter_append]
        show q.h' = _
        rw [hvh.2, hqh]
        rfl
      refine Stands.absorb F suf (pre ++ [q]) pend' _ ⟨K.size, K.closed, by rw [K.cut]; simp, ?_, ?_, ?_, ?_, ?_, ?_, K.le.trans hle, K.below, by rw [hafter]; exact H2, ?_, K.tms, K.ds.mono hle⟩
      · intro p hp
        rw [List.mem_append, List.mem_singleton] at hp
        rcases hp with hp | rfl
        · exact K.lpre p hp
        · exact hq
      · intro p hp hl
        obtain ⟨b', hb'⟩ := K.lsuf p (by simp [hp]) hl
        refine ⟨b', (hpm _).2 ⟨hb', ?_⟩⟩
        have hpf : (recs.filter (·.act)).Pairwise (PairOk ops.toList ops.toList.length) := F.pairs.sublist List.filter_sublist
        rw [K.cut, List.pairwise_append, List.pairwise_cons] at hpf
        exact fun e => (hpf.2.1.1 p hp).ne e.symm
      · intro x hx
        obtain ⟨hx1, hx2⟩ := (hpm x).1 hx
        obtain ⟨k1, k2⟩ := K.pin x hx1
        refine ⟨?_, k2⟩
        rw [List.mem_cons] at k1
        rcases k1 with k1 | k1
        · exact absurd (by rw [k1]) hx2
        · exact k1
      · intro x hx; exact K.pok x ((hpm x).1 hx).1
      · intro x hx y hy; exact K.inj x ((hpm x).1 hx).1 y ((hpm y).1 hy).1
      · intro x hx; exact K.pmay x ((hpm x).1 hx).1
      · intro t ht
        by_cases hd : q.o.dst = some t
        · -- its own temporary
          have hT : (TS (fun i => listed.getD i false) recs s.tm).get t = some q.v := by
            have hp := F.pairs
            rw [e, List.pairwise_append, List.pairwise_cons] at hp
            rw [e, TS_append]
            simp only [TS, hq, cond_true]
            rw [TS_get pr _ (fun x hx _ => (hp.2.1.1 x hx).dst t hd), get_putT, if_pos hd]
          rw [hT, hpo.dst t hd]
          simp only [Option.getD_some]
          rw [hvh.1, hqh]
          have := VRel.ptr (em := em.put (hAfter s.h pre).next (b, 0) z.cells.size 1) (b := (hAfter s.h pre).next) (cb := b) (co := 0) 0 (by simp [Emb.put])
          simpa using this
        · refine (K.tm t ?_).mono hle
          intro x hx hxd
          by_cases hxi : x.1.i = q.i
          · have hxr : x.1 ∈ recs := (List.mem_filter.1 (show x.1 ∈ recs.filter (·.act) by rw [K.cut]; exact List.mem_append_right _ (K.pin x hx).1)).1
            have : x.1 = q := pairs_same F.pairs hxr hqr hxi
            rw [this] at hxd
            exact hd hxd
          · exact ht x ((hpm x).2 ⟨hx, hxi⟩) hxd

/-- Nothing is ready: all is done. -/
theorem all_listed (F : Fixed P call ops s recs tm1 h1) (hsz : listed.size = ops.size) (hr : Region.ready .any ops listed = []) : ∀ r ∈ recs, listed.getD r.i false = true := by
  have key : ∀ (m l : List DRec), recs = l ++ m → (∀ r ∈ l, listed.getD r.i false = true) → ∀ r ∈ recs, listed.getD r.i false = true := by
    intro m
    induction m with
    | nil => intro l e hl r hm; rw [e, List.append_nil] at hm; exact hl r hm
    | cons r m ih =>
      intro l e hl
      have hmem : r ∈ recs := by rw [e]; simp
      refine ih (l ++ [r]) (by rw [e]; simp) ?_
      intro x hx
      rw [List.mem_append, List.mem_singleton] at hx
      rcases hx with hx | hx
      · exact hl x hx
      subst hx
      have hc := F.chain
      rw [e] at hc
      have hok := (Chain.at l hc).2
      have hget : ops[x.i]? = some x.o := by rw [← Array.getElem?_toList]; exact hok.get
      have hlt : x.i < ops.size := (Array.getElem?_eq_some_iff.1 hget).1
      cases hb : listed.getD x.i false with
      | true => rfl
      | false =>
        exfalso
        have hb' : listed.getD x.i true = false := by
          have h2 : x.i < listed.size := by omega
          simp [h2] at hb ⊢
          exact hb
        have : x.i ∈ Region.ready .any ops listed := by
          rw [mem_ready]
          refine ⟨hb', x.o, hget, fun ed hed hbd => ?_⟩
          obtain ⟨h1, h2⟩ := F.edges x hmem ed hed hbd
          obtain ⟨q, hq, hqi⟩ := F.cover _ h1
          rw [e] at hq
          rw [List.mem_append, List.mem_cons] at hq
          rcases hq with hq | hq | hq
          · rw [← hqi]; exact hl q hq
          · exact absurd (hq ▸ hqi).symm h2
          · have hp := F.pairs
            rw [e, List.pairwise_append, List.pairwise_cons] at hp
            have hback := (hp.2.1.1 q hq).back
            have hpos : ∃ k, ops.toList.length = k + 1 := ⟨ops.toList.length - 1, by have : ops.toList.length = ops.size := Array.length_toList; omega⟩
            obtain ⟨k, hk⟩ := hpos
            rw [hk] at hback
            simp only [aheadA, hok.get, List.any_eq_false, Bool.and_eq_true, Bool.or_eq_true] at hback
            exact absurd ⟨hbd, .inl (by rw [hqi]; exact Nat.beq_refl _)⟩ (hback ed (Array.mem_toList_iff.2 hed))
        rw [hr] at this
        cases this
  exact key recs [] (by simp) (fun _ h => by cases h)

theorem filter_lt {α : Type} {p q : α → Bool} : ∀ (l : List α), (∀ x ∈ l, q x = true → p x = true) → (∃ x ∈ l, p x = true ∧ q x = false) → (l.filter q).length < (l.filter p).length
  | [], _, ⟨_, h, _⟩ => by cases h
  | x :: l, hs, ⟨y, hy, h1, h2⟩ => by
    have le : ∀ l : List α, (∀ x ∈ l, q x = true → p x = true) → (l.filter q).length ≤ (l.filter p).length := by
      intro l
      induction l with
      | nil => intro _; simp
      | cons z l ih =>
        intro h
        have := ih (fun x hx => h x (by simp [hx]))
        cases hq : q z with
        | true => rw [List.filter_cons_of_pos hq, List.filter_cons_of_pos (h z (by simp) hq)]; simpa using this
        | false =>
          rw [List.filter_cons_of_neg (by simp [hq])]
          cases hp : p z with
          | true => rw [List.filter_cons_of_pos hp]; simp; omega
          | false => rw [List.filter_cons_of_neg (by simp [hp])]; exact this
    have hl := le l (fun x hx => hs x (by simp [hx]))
    rw [List.mem_cons] at hy
    rcases hy with hy | hy
    · subst hy
      rw [List.filter_cons_of_neg (by simp [h2]), List.filter_cons_of_pos h1]
      simp
      omega
    · have := filter_lt l (fun x hx => hs x (by simp [hx])) ⟨y, hy, h1, h2⟩
      cases hq : q x with
      | true => rw [List.filter_cons_of_pos hq, List.filter_cons_of_pos (hs x (by simp) hq)]; simpa using this
      | false =>
        rw [List.filter_cons_of_neg (by simp [hq])]
        cases hp : p x with
        | true => rw [List.filter_cons_of_pos hp]; simp; omega
        | false => rw [List.filter_cons_of_neg (by simp [hp])]; exact this

/-- What a ready operation finds. -/
structure Finds (P : Program) (call : CallA) (ops : Array Oper) (s : St) (recs pl : List DRec) (r : DRec) (pr : List DRec) (listed : Array Bool) : Prop where
  eq : recs = pl ++ r :: pr
  ok : RecOk P call ops.toList r
  get : ops[r.i]? = some r.o
  free : listed.getD r.i false = false
  sees : ∀ t ∈ lookedA ops.toList r.o, (TS (fun i => listed.getD i false) recs s.tm).get t = r.tm.get t
  front : ∀ j, aheadA ops.toList ops.toList.length j r.i = true → listed.getD j false = true

theorem Stands.finds (F : Fixed P call ops s recs tm1 h1) (K : Stands P G B n em0 w0 ops s recs pre suf pend listed em a w) {i : Nat} (hi : i ∈ Region.ready .any ops listed) :
    ∃ pl r pr, r.i = i ∧ Finds P call ops s recs pl r pr listed := by
  rw [mem_ready] at hi
  obtain ⟨hf, o, ho, he⟩ := hi
  have hlt : i < ops.size := (Array.getElem?_eq_some_iff.1 ho).1
  obtain ⟨r, hr, hri⟩ := F.cover i hlt
  obtain ⟨pl, pr, e⟩ := List.append_of_mem hr
  have hc := F.chain
  rw [e] at hc
  obtain ⟨htm, hok⟩ := Chain.at pl hc
  have hget : ops[r.i]? = some r.o := by rw [← Array.getElem?_toList]; exact hok.get
  have hoo : o = r.o := by rw [hri, ho] at hget; exact Option.some.inj hget
  have hfree : listed.getD r.i false = false := by
    rw [hri]
    have h2 : i < listed.size := by rw [K.size]; exact hlt
    simp [h2] at hf ⊢
    exact hf
  have hfront : ∀ j, aheadA ops.toList ops.toList.length j r.i = true → listed.getD j false = true := fun j hj =>
    ahead_listed K.closed _ r.i o (by rw [hri]; exact ho) he hj
  refine ⟨pl, r, pr, hri, e, hok, hget, hfree, ?_, hfront⟩
  have hp := F.pairs
  rw [e, List.pairwise_append, List.pairwise_cons] at hp
  intro t ht
  rw [htm, e, TS_append]
  rw [TS_get (r :: pr)]
  · refine TS_agree pl _ _ rfl ?_
    intro q hq hd
    exact hfront _ ((hp.2.2 q hq r (by simp)).reads t hd ht)
  · intro q hq hs hd
    rw [List.mem_cons] at hq
    rcases hq with hq | hq
    · subst hq; rw [hfree] at hs; cases hs
    · have hw := (hp.2.1.1 q hq).writes t hd ht
      -- the writer is listed, so is what must come ahead of it
      have hcq : q ∈ recs := by rw [e]; simp [hq]
      obtain ⟨pl2, pr2, e2⟩ := List.append_of_mem hcq
      have hc2 := F.chain
      rw [e2] at hc2
      have hgq : ops[q.i]? = some q.o := by rw [← Array.getElem?_toList]; exact (Chain.at pl2 hc2).2.get
      have := ahead_listed K.closed _ q.i q.o hgq (K.closed _ _ hs hgq) hw
      rw [hfree] at this
      cases this


/-- At what a ready operation looks, nothing made ahead of its time stands. -/
theorem Stands.unseen (F : Fixed P call ops s recs tm1 h1) (K : Stands P G B n em0 w0 ops s recs pre suf pend listed em a w) (hh : HeadOk suf listed) {pl pr : List DRec} {r : DRec} (D : Finds P call ops s recs pl r pr listed) :
    ∀ t ∈ lookedA ops.toList r.o, ∀ x ∈ pend, x.1.o.dst ≠ some t := by
  intro t ht x hx hd
  obtain ⟨k1, k2⟩ := K.pin x hx
  have hr : r ∈ recs := by rw [D.eq]; simp
  cases hs : suf with
  | nil => rw [hs] at k1; cases k1
  | cons q0 l =>
    have h0 := hh q0 l hs
    rw [hs, List.mem_cons] at k1
    rcases k1 with k1 | k1
    · rw [k1, h0] at k2; cases k2
    have hlf : (recs.filter (·.act)).Pairwise (Loose ops recs) := F.loose.sublist List.filter_sublist
    rw [K.cut, hs, List.pairwise_append, List.pairwise_cons] at hlf
    have hq0 : q0 ∈ recs.filter (·.act) := by rw [K.cut, hs]; simp
    have hx1 : x.1 ∈ recs.filter (·.act) := by rw [K.cut, hs]; simp [k1]
    obtain ⟨hxr, hxa⟩ := List.mem_filter.1 hx1
    have get : ∀ q ∈ recs, ops[q.i]? = some q.o := by
      intro q hq
      obtain ⟨pl2, pr2, e2⟩ := List.append_of_mem hq
      have hc2 := F.chain
      rw [e2] at hc2
      rw [← Array.getElem?_toList]; exact (Chain.at pl2 hc2).2.get
    rcases hlf.2.1.1 x.1 k1 (List.mem_filter.1 hq0).2 hxa with h | ⟨_, h⟩
    · have := ahead_listed K.closed _ _ _ (get _ hxr) (K.closed _ _ k2 (get _ hxr)) h
      rw [h0] at this; cases this
    · rcases h r hr t ht hd with h | h | h
      · have := ahead_listed K.closed _ _ _ (get _ hxr) (K.closed _ _ k2 (get _ hxr)) h
        rw [D.free] at this; cases this
      · rw [← h, D.free] at k2; cases k2
      · have := D.front _ h
        rw [h0] at this; cases this

theorem put_get {a : Act} {dst : Option Tmp} {v : Value} (hs : n ≤ a.tmps.size) (hd : (match dst with | some d => Nat.blt d n | none => true) = true) (t : Tmp) :
    (a.put dst v).tmps.getD t undef = if dst = some t then v else a.tmps.getD t undef := by
  cases dst with
  | none => simp [Act.put]
  | some d =>
    have hlt : d < a.tmps.size := Nat.lt_of_lt_of_le (show d < n by simpa using hd) hs
    simp only [Act.put, Option.some.injEq]
    rw [Array.getD_eq_getD_getElem?]
    by_cases e : d = t
    · subst e
      rw [if_pos rfl, Array.getElem?_setIfInBounds_self_of_lt hlt]; rfl
    · rw [if_neg e, Array.getElem?_setIfInBounds_ne e, ← Array.getD_eq_getD_getElem?]

/-- One operation more. -/
theorem Stands.next (F : Fixed P call ops s recs tm1 h1) (K : Stands P G B n em0 w0 ops s recs pre suf pend listed em a w) (hwf : ops.toList.all (operWf n G) = true) {pl pr : List DRec} {r : DRec}
    (D : Finds P call ops s recs pl r pr listed) (hi : r.i ∈ Region.ready .any ops listed) {em' : Emb} {w' : World} {v' : Value} (hle : em.Le em') (hb : Kept (ownOf B pend) w w')
    {pre' suf' : List DRec} {pend' : Pend} (hcut : recs.filter (·.act) = pre' ++ suf') (hpre : ∀ p ∈ pre', p = r ∨ p ∈ pre)
    (hsuf : ∀ q ∈ suf', q ∈ suf) (hsuf2 : ∀ q ∈ suf, q.i ≠ r.i → q ∈ suf')
    (hpend : ∀ x ∈ pend', x ∈ pend ∨ (x.1 = r ∧ r ∈ suf' ∧ newsA r.o.op = true ∧ (∀ e, r.o.op = .alloc e → ∃ z, zeroA P e = some z ∧ w'.heap[x.2]? = some (.cells z.cells e)) ∧ v' = .pointer (some ⟨x.2, 0, none⟩) ∧ B.may x.2 ∧ x.2 = w.heap.size))
    (hpend2 : ∀ x ∈ pend, x ∈ pend')
    (hv : (VRel em' r.v v' ∧ ∀ q ∈ suf', q.i ≠ r.i) ∨ ∃ b, (r, b) ∈ pend') (H : WRel G (ownOf B pend') em' (hAfter s.h pre') w') :
    Stands P G B n em0 w0 ops s recs pre' suf' pend' (listed.setIfInBounds r.i true) em' (a.put r.o.dst v') w' := by
  have hlt : r.i < listed.size := by rw [K.size]; exact (Array.getElem?_eq_some_iff.1 D.get).1
  have hset : (listed.setIfInBounds r.i true).getD r.i false = true := by simp [hlt]
  have hrm : r ∈ recs := by rw [D.eq]; simp
  have hdst : (match r.o.dst with | some d => Nat.blt d n | none => true) = true := by
    have := List.all_eq_true.1 hwf r.o (by rw [Array.mem_toList_iff]; exact Array.mem_of_getElem? D.get)
    simp only [operWf, Bool.and_eq_true] at this
    exact this.1
  have hput := fun t => put_get (a := a) (v := v') K.tms hdst t
  have hin : ∀ x ∈ pend, x.1 ∈ recs ∧ x.1.i ≠ r.i := by
    intro x hx
    obtain ⟨k1, k2⟩ := K.pin x hx
    refine ⟨(List.mem_filter.1 (show x.1 ∈ recs.filter (·.act) by rw [K.cut]; exact List.mem_append_right _ k1)).1, fun e => ?_⟩
    rw [e, D.free] at k2; cases k2
  refine ⟨by simpa using K.size, ?_, hcut, ?_, ?_, ?_, ?_, ?_, ?_, K.le.trans hle, K.below.trans (hb.weaken fun i h => (ownOf_may.1 h).1), H, ?_, ?_, ?_⟩
  · intro i o hl ho e he hbd
    by_cases hir : r.i = i
    · obtain ⟨_, o', ho', h'⟩ := mem_ready.1 hi
      rw [hir] at ho'
      rw [ho] at ho'
      cases ho'
      exact getD_set_true (h' e he hbd)
    · rw [getD_set_ne false hir] at hl
      exact getD_set_true (K.closed i o hl ho e he hbd)
  · intro p hp
    rcases hpre p hp with e | h
    · rw [e]; exact hset
    · exact getD_set_true (K.lpre p h)
  · intro q hq hl
    have hqr : q ∈ recs := (List.mem_filter.1 (show q ∈ recs.filter (·.act) by rw [hcut]; exact List.mem_append_right _ hq)).1
    by_cases hqi : q.i = r.i
    · rcases hv with ⟨_, h⟩ | ⟨b, hb⟩
      · exact absurd hqi (h q hq)
      · have : q = r := pairs_same F.pairs hqr hrm hqi
        exact ⟨b, by rw [this]; exact hb⟩
    · rw [getD_set_ne false (fun e => hqi e.symm)] at hl
      obtain ⟨b, hb⟩ := K.lsuf q (hsuf q hq) hl
      exact ⟨b, hpend2 _ hb⟩
  · intro x hx
    rcases hpend x hx with hx | ⟨h1, h2, _⟩
    · obtain ⟨k1, k2⟩ := K.pin x hx
      exact ⟨hsuf2 _ k1 (hin x hx).2, getD_set_true k2⟩
    · rw [h1]; exact ⟨h2, hset⟩
  · intro x hx
    rcases hpend x hx with hx | ⟨h1, h2, h3, h4, h5, h6⟩
    · have := K.pok x hx
      refine ⟨this.news, ?_, ?_⟩
      · intro e he
        obtain ⟨z, hz, hc⟩ := this.cells e he
        refine ⟨z, hz, ?_⟩
        rw [hb.block _ (fun h => (ownOf_may.1 h).2 x hx rfl)]
        exact hc
      · intro t hd
        rw [hput, if_neg (pairs_dst F.pairs (hin x hx).1 hrm (hin x hx).2 hd)]
        exact this.dst t hd
    · refine ⟨by rw [h1]; exact h3, by rw [h1]; exact h4, ?_⟩
      intro t hd
      rw [h1] at hd
      rw [hput, if_pos hd, h5]
  · have hnew : ∀ x ∈ pend, x.2 < w.heap.size := by
      intro x hx
      have := K.pok x hx
      have hn := this.news
      have hop : ∃ ty, x.1.o.op = .alloc ty := by
        unfold newsA at hn
        split at hn
        · exact ⟨_, ‹_›⟩
        · cases hn
      obtain ⟨ty, hop⟩ := hop
      obtain ⟨z, _, hc⟩ := this.cells ty hop
      exact (Array.getElem?_eq_some_iff.1 hc).1
    intro x hx y hy e
    rcases hpend x hx with hx | ⟨h1, _, _, _, _, _, h2⟩
    · rcases hpend y hy with hy | ⟨k1, _, _, _, _, _, k2⟩
      · exact K.inj x hx y hy e
      · have := hnew x hx; omega
    · rcases hpend y hy with hy | ⟨k1, _, _, _, _, _, k2⟩
      · have := hnew y hy; omega
      · rw [h1, k1]
  · intro x hx
    rcases hpend x hx with hx | ⟨_, _, _, _, _, h, _⟩
    · exact K.pmay x hx
    · exact h
  · have hp := F.pairs
    rw [D.eq, List.pairwise_append, List.pairwise_cons] at hp
    intro t ht
    have hT : (TS (fun i => (listed.setIfInBounds r.i true).getD i false) recs s.tm).get t = (putT (TS (fun i => listed.getD i false) recs s.tm) r.o.dst r.v).get t := by
      rw [D.eq, TS_append, TS_append]
      rw [TS_congr (S := fun i => (listed.setIfInBounds r.i true).getD i false) (S2 := fun i => listed.getD i false) pl _ (fun q hq => getD_set_ne false (fun e => (hp.2.2 q hq r (by simp)).ne e.symm))]
      simp only [TS, hset, D.free, cond_true, cond_false]
      rw [TS_congr (S := fun i => (listed.setIfInBounds r.i true).getD i false) (S2 := fun i => listed.getD i false) pr _ (fun q hq => getD_set_ne false (hp.2.1.1 q hq).ne)]
      rw [get_putT]
      by_cases hd : r.o.dst = some t
      · rw [if_pos hd, TS_get pr _ (fun q hq _ => (hp.2.1.1 q hq).dst t hd), get_putT, if_pos hd]
      · rw [if_neg hd]
        refine TS_agree pr _ _ ?_ (fun _ _ _ => rfl)
        rw [get_putT, if_neg hd]
    rw [hT, get_putT, hput]
    by_cases hd : r.o.dst = some t
    · rw [if_pos hd, if_pos hd]
      rcases hv with ⟨h, _⟩ | ⟨b, hb⟩
      · exact h
      · exact absurd hd (ht _ hb)
    · rw [if_neg hd, if_neg hd]
      exact (K.tm t (fun x hx => ht x (hpend2 x hx))).mono hle
  · cases hd : r.o.dst with
    | none => exact K.tms
    | some d => simpa [Act.put] using K.tms
  · cases hd : r.o.dst with
    | none => exact K.ds.mono hle
    | some d => exact K.ds.mono hle

end
end Go.Ae
