/- The abstract evaluator: the relation of an abstract heap to a world, kept by each step that turns memory. -/
import Derived.Test.YtkmjbiabhpfbpaaGreatDoorAe2
namespace Go.Ae
open Go Go.RowKit
set_option linter.unusedSectionVars false
variable [Ask]

structure ERel (em : Emb) (e e' : MapEntry) : Prop where
  key : e'.key = e.key
  gk : groundKey e.key = true
  born : e'.born = e.born
  val : VRel em e.val e'.val

inductive EsRel (em : Emb) : List MapEntry → List MapEntry → Prop
  | nil : EsRel em [] []
  | cons {e e' : MapEntry} {l l' : List MapEntry} : ERel em e e' → EsRel em l l' → EsRel em (e :: l) (e' :: l')

theorem ERel.mono {em em' : Emb} (h : em.Le em') {e e' : MapEntry} (r : ERel em e e') : ERel em' e e' := ⟨r.key, r.gk, r.born, r.val.mono h⟩
theorem EsRel.mono {em em' : Emb} (h : em.Le em') : ∀ {l l' : List MapEntry}, EsRel em l l' → EsRel em' l l'
  | _, _, .nil => .nil
  | _, _, .cons he hl => .cons (he.mono h) (EsRel.mono h hl)

/-- What may be turned: the blocks from 'lo' on that are nobody's own. -/
structure Kp where
  lo : Nat
  own : Nat → Prop
def Kp.may (B : Kp) (k : Nat) : Prop := B.lo ≤ k ∧ ¬ B.own k

/-- All else is as it was. -/
structure Kept (B : Kp) (w w' : World) : Prop where
  os : w'.os = w.os
  tape : w'.tape = w.tape
  output : w'.output = w.output
  size : w.heap.size ≤ w'.heap.size
  block : ∀ k, ¬ B.may k → w'.heap[k]? = w.heap[k]?

theorem Kept.refl (B : Kp) (w : World) : Kept B w w := ⟨rfl, rfl, rfl, Nat.le_refl _, fun _ _ => rfl⟩
theorem Kept.trans {B : Kp} {a b c : World} (h : Kept B a b) (k : Kept B b c) : Kept B a c :=
  ⟨k.os.trans h.os, k.tape.trans h.tape, k.output.trans h.output, Nat.le_trans h.size k.size, fun i hi => (k.block i hi).trans (h.block i hi)⟩
theorem Kept.drew {B : Kp} {a w : World} (h : Kept B a w) : Kept B a w.drew := ⟨h.os, h.tape, h.output, h.size, h.block⟩
theorem Kept.alloc {B : Kp} {a w : World} (h : Kept B a w) (hB : ∀ k, ¬ B.may k → k < w.heap.size) (o : Obj) : Kept B a (w.alloc o) :=
  h.trans ⟨rfl, rfl, rfl, by simp, fun k hk => Below.heap_alloc _ _ _ (hB k hk)⟩
theorem Kept.setCell {B : Kp} {a w : World} (h : Kept B a w) {p : Addr} (hp : B.may p.block) (u : Value) : Kept B a (w.setCell p u) :=
  h.trans ⟨rfl, rfl, rfl, by simp [World.setCell], fun k hk => Below.heap_setCell _ _ _ _ (fun e => hk (e ▸ hp))⟩
theorem Kept.grown {B : Kp} {a w w' : World} {row : Option Nat} (h : Kept B a w) (hg : w.grownBy w' row) (hB : ∀ k, ¬ B.may k → k < w.heap.size) (hr : ∀ k, row = some k → B.may k) : Kept B a w' :=
  h.trans ⟨hg.os, hg.tape, hg.output, hg.size, fun k hk => hg.block k (hB k hk) (fun e => hk (hr k e.symm))⟩

structure WRel (G : Nat) (B : Kp) (em : Emb) (h : AHeap) (w : World) : Prop where
  dom : ∀ b x, em.at_ b = some x → b < h.next
  glob : ∀ g, g < G → em.at_ g = some (g, 0)
  base : ∀ k, ¬ B.may k → k < w.heap.size
  fix : ∀ b c n z, h.objs.get b = some (.cells c n z true) → ∃ cb co, em.at_ b = some (cb, co) ∧ cb < B.lo
  cells : ∀ b c n z ro, h.objs.get b = some (.cells c n z ro) → ∃ cb co, em.at_ b = some (cb, co) ∧ em.esz b = z ∧ n ≤ em.ext b ∧ cb < w.heap.size ∧
    (∀ i v, c.get i = some v → i < n ∧ ∃ v', w.cell? ⟨cb, co + i, none⟩ = some v' ∧ VRel em v v') ∧
    (ro = false → B.may cb ∧ ∀ i, i < em.ext b → (w.cell? ⟨cb, co + i, none⟩).isSome = true ∧ w.frozen? ⟨cb, co + i, none⟩ = false)
  maps : ∀ r es ck, h.objs.get r = some (.map es ck) → ∃ cb es', em.at_ r = some (cb, 0) ∧ B.may cb ∧ w.heap[cb]? = some (.map es' ck) ∧ EsRel em es es'.toList
  iters : ∀ r s p, h.objs.get r = some (.sIter s p) → ∃ cb, em.at_ r = some (cb, 0) ∧ B.may cb ∧ w.heap[cb]? = some (.stringIter s p)
  sep : ∀ b c n z b2 c2 n2 z2 ro2 i j cb co co2, h.objs.get b = some (.cells c n z false) → h.objs.get b2 = some (.cells c2 n2 z2 ro2) →
    em.at_ b = some (cb, co) → em.at_ b2 = some (cb, co2) → i < em.ext b → j < em.ext b2 → co + i = co2 + j → b = b2 ∧ i = j
  own : ∀ r o r2 o2 cb co co2, h.objs.get r = some o → h.objs.get r2 = some o2 → (∀ c n z ro, o ≠ .cells c n z ro) → (∀ c n z ro, o2 ≠ .cells c n z ro) →
    em.at_ r = some (cb, co) → em.at_ r2 = some (cb, co2) → r = r2

section
variable {G : Nat} {B : Kp} {em : Emb} {h : AHeap} {w : World}

theorem cell_lt {w : World} {cb i : Nat} (h : (w.cell? ⟨cb, i, none⟩).isSome = true) : cb < w.heap.size := by
  apply Decidable.byContradiction
  intro hn
  have : w.heap[cb]? = none := Array.getElem?_eq_none (by omega)
  simp [World.cell?, this] at h

theorem WRel.read (H : WRel G B em h w) {b off n : Nat} {l : List Value} (hr : h.read b off n = some l) :
    ∃ cb co, em.at_ b = some (cb, co) ∧ l.length = n ∧ ∃ l', VsRel em l l' ∧ ∀ j v, l'[j]? = some v → w.cell? ((⟨cb, co + off, none⟩ : Addr).add j) = some v := by
  unfold AHeap.read at hr
  split at hr
  · rename_i c n' z ro hg
    obtain ⟨cb, co, hat, _, _, _, hc, _⟩ := H.cells _ _ _ _ _ hg
    obtain ⟨hl, hget⟩ := readCells_get hr
    refine ⟨cb, co, hat, hl, ?_⟩
    have key : ∀ (k : List Value) (o : Nat), (∀ j v, k[j]? = some v → c.get (o + j) = some v) →
        ∃ l', VsRel em k l' ∧ ∀ j v, l'[j]? = some v → w.cell? ⟨cb, co + (o + j), none⟩ = some v := by
      intro k
      induction k with
      | nil => intro o _; exact ⟨[], .nil, by simp⟩
      | cons v k ih =>
        intro o hk
        obtain ⟨_, v', hv', hrel⟩ := hc _ _ (hk 0 v rfl)
        obtain ⟨l', h1, h2⟩ := ih (o + 1) (fun j u hu => by have := hk (j + 1) u (by simpa using hu); rwa [show o + 1 + j = o + (j + 1) by omega])
        refine ⟨v' :: l', .cons hrel h1, ?_⟩
        intro j u hu
        cases j with
        | zero => simp at hu; subst hu; simpa using hv'
        | succ j => have := h2 j u (by simpa using hu); rwa [show o + 1 + j = o + (j + 1) by omega] at this
    obtain ⟨l', h1, h2⟩ := key l off hget
    refine ⟨l', h1, ?_⟩
    intro j v hj
    have := h2 j v hj
    simpa [Addr.add_lit, Nat.add_assoc] using this
  · cases hr

/-- Whatever is read lies where it must. -/
theorem WRel.read_at (H : WRel G B em h w) {b off n : Nat} {l : List Value} (hr : h.read b off n = some l) {cb co : Nat} (hat : em.at_ b = some (cb, co)) :
    l.length = n ∧ ∃ l', VsRel em l l' ∧ ∀ j v, l'[j]? = some v → w.cell? ((⟨cb, co + off, none⟩ : Addr).add j) = some v := by
  obtain ⟨cb', co', hat', hl, r⟩ := H.read hr
  rw [hat] at hat'; cases hat'
  exact ⟨hl, r⟩

theorem map_setCell {w : World} {a : Addr} {v : Value} {k : Nat} {o : Obj} (ho : ∀ c e f, o ≠ .cells c e f) (h : w.heap[k]? = some o) : (w.setCell a v).heap[k]? = some o := by
  simp only [World.setCell, Array.getElem?_modify]
  split
  · subst_vars; rw [h]; cases o <;> first | rfl | exact absurd rfl (ho _ _ _)
  · exact h
theorem map_setCells {b : Nat} {k : Nat} {o : Obj} (ho : ∀ c e f, o ≠ .cells c e f) : ∀ (vs : List Value) (off : Nat) (w : World), w.heap[k]? = some o → (w.setCells b off vs).heap[k]? = some o
  | [], _, _, h => h
  | v :: vs, off, w, h => by rw [World.setCells]; exact map_setCells ho vs (off + 1) _ (map_setCell ho h)
theorem below_setCells {b : Nat} {B : Kp} (hb : B.may b) : ∀ (vs : List Value) (off : Nat) (w : World), Kept B w (w.setCells b off vs)
  | [], _, _ => Kept.refl _ _
  | v :: vs, off, w => by
    rw [World.setCells]
    exact (Kept.setCell (p := ⟨b, off, none⟩) (Kept.refl B w) hb v).trans (below_setCells hb vs (off + 1) _)
theorem size_setCells {b : Nat} : ∀ (vs : List Value) (off : Nat) (w : World), (w.setCells b off vs).heap.size = w.heap.size
  | [], _, _ => rfl
  | v :: vs, off, w => by rw [World.setCells, size_setCells vs (off + 1)]; simp

theorem isSome_setCells {b : Nat} {x : Addr} : ∀ (vs : List Value) (off : Nat) (w : World), (w.cell? x).isSome = true → ((w.setCells b off vs).cell? x).isSome = true
  | [], _, _, h => h
  | v :: vs, off, w, h => by
    rw [World.setCells]
    refine isSome_setCells vs (off + 1) _ ?_
    by_cases e : x = ⟨b, off, none⟩
    · subst e; obtain ⟨u, hu⟩ := Option.isSome_iff_exists.1 h; rw [World.cell?_setCell_same _ _ _ hu]; rfl
    · rw [World.cell?_setCell_other _ _ _ _ (fun e' => e e'.symm)]; exact h

/-- A store. -/
theorem WRel.write (H : WRel G B em h w) {b off : Nat} {vs vs' : List Value} {h' : AHeap} (hw : h.write b off vs = some h') (hv : VsRel em vs vs') :
    ∃ cb co, em.at_ b = some (cb, co) ∧ (∀ j, j < vs'.length → (w.cell? ⟨cb, co + off + j, none⟩).isSome = true) ∧ (∀ j, j < vs'.length → w.frozen? ⟨cb, co + off + j, none⟩ = false) ∧
      (∀ v ∈ vs', v.oneCell' = true) ∧ WRel G B em h' (w.setCells cb (co + off) vs') ∧ Kept B w (w.setCells cb (co + off) vs') := by
  unfold AHeap.write at hw
  split at hw
  · rename_i c n z hg
    rw [Bool.cond_eq_ite] at hw
    split at hw
    · rename_i hcond
      simp only [Bool.and_eq_true] at hcond
      obtain ⟨hle, hone⟩ := hcond
      have hle := Nat.le_of_ble_eq_true hle
      cases hw
      obtain ⟨cb, co, hat, hz, hn, hlt0, hc, hro⟩ := H.cells _ _ _ _ _ hg
      obtain ⟨hB, hex⟩ := hro rfl
      have hlen := hv.length
      have hone' : ∀ v ∈ vs', v.oneCell' = true := by
        have := hv.one; rw [hone] at this; exact List.all_eq_true.1 this
      have hex1 : ∀ j, j < vs'.length → (w.cell? ⟨cb, co + off + j, none⟩).isSome = true := fun j hj => by
        have := (hex (off + j) (by omega)).1; rwa [← Nat.add_assoc] at this
      refine ⟨cb, co, hat, hex1, fun j hj => by have := (hex (off + j) (by omega)).2; rwa [← Nat.add_assoc] at this, hone', ?_, below_setCells hB _ _ _⟩
      have hin := World.cell?_setCells_in cb vs' (co + off) w hex1
      have hgs : ∀ x o, (h.objs.set b (.cells (Tr.fill vs off c) n z false)).get x = some o → (x = b ∧ o = .cells (Tr.fill vs off c) n z false) ∨ (x ≠ b ∧ h.objs.get x = some o) := by
        intro x o hx
        rw [Tr.get_set] at hx
        split at hx
        · cases hx; exact .inl ⟨‹_›, rfl⟩
        · exact .inr ⟨‹_›, hx⟩
      refine { dom := H.dom, glob := H.glob, base := by rw [size_setCells]; exact H.base, fix := ?_, cells := ?_, maps := ?_, iters := ?_, sep := ?_, own := ?_ }
      · intro x cx nx zx hx
        rcases hgs _ _ hx with ⟨rfl, ho⟩ | ⟨hne, hx0⟩
        · cases ho
        · exact H.fix _ _ _ _ hx0
      · intro x cx nx zx rox hx
        rcases hgs _ _ hx with ⟨rfl, ho⟩ | ⟨hne, hx0⟩
        · cases ho
          refine ⟨cb, co, hat, hz, hn, by rw [size_setCells]; exact hlt0, ?_, ?_⟩
          · intro i v hi
            rw [Tr.get_fill] at hi
            split at hi
            · rename_i hr
              obtain ⟨v', hv', hrel⟩ := hv.get hi
              refine ⟨by omega, v', ?_, hrel⟩
              have := hin (i - off) (by omega)
              rw [show co + off + (i - off) = co + i by omega] at this
              rw [this]; 
              have hlt : i - off < vs'.length := by omega
              rw [List.getElem?_eq_getElem hlt] at hv'
              exact hv'
            · rename_i hr
              obtain ⟨h1, v', hv', hrel⟩ := hc i v hi
              refine ⟨h1, v', ?_, hrel⟩
              rw [World.cell?_setCells_out]
              · exact hv'
              · intro _ _; simp only; omega
          · intro _
            refine ⟨hB, fun i hi => ⟨isSome_setCells _ _ _ (hex i hi).1, ?_⟩⟩
            rw [World.frozen?_setCells]; exact (hex i hi).2
        · obtain ⟨cb2, co2, hat2, hz2, hn2, hlt2, hc2, hro2⟩ := H.cells _ _ _ _ _ hx0
          refine ⟨cb2, co2, hat2, hz2, hn2, by rw [size_setCells]; exact hlt2, ?_, ?_⟩
          · intro i v hi
            obtain ⟨h1, v', hv', hrel⟩ := hc2 i v hi
            refine ⟨h1, v', ?_, hrel⟩
            rw [World.cell?_setCells_out]
            · exact hv'
            · intro hb _
              simp only at hb ⊢
              apply Decidable.byContradiction
              intro hcon
              have hb' : cb2 = cb := hb
              subst hb'
              have := H.sep b c n z x cx nx zx rox (co2 + i - co) i cb2 co co2 hg hx0 hat hat2 (by omega) (by omega) (by omega)
              exact hne this.1.symm
          · intro hf
            obtain ⟨hB2, hex2⟩ := hro2 hf
            refine ⟨hB2, fun i hi => ⟨isSome_setCells _ _ _ (hex2 i hi).1, ?_⟩⟩
            rw [World.frozen?_setCells]; exact (hex2 i hi).2
      · intro r es ck hr
        rcases hgs _ _ hr with ⟨_, ho⟩ | ⟨_, hr0⟩
        · cases ho
        · obtain ⟨cb2, es', h1, h2, h3, h4⟩ := H.maps _ _ _ hr0
          exact ⟨cb2, es', h1, h2, map_setCells (by intros; simp) _ _ _ h3, h4⟩
      · intro r s p hr
        rcases hgs _ _ hr with ⟨_, ho⟩ | ⟨_, hr0⟩
        · cases ho
        · obtain ⟨cb2, h1, h2, h3⟩ := H.iters _ _ _ hr0
          exact ⟨cb2, h1, h2, map_setCells (by intros; simp) _ _ _ h3⟩
      · intro x cx nx zx y cy ny zy roy i j cb1 co1 co2 hx hy h1 h2 hi hj e
        have hx' : ∃ cx', h.objs.get x = some (.cells cx' nx zx false) := by
          rcases hgs _ _ hx with ⟨rfl, ho⟩ | ⟨_, h0⟩
          · cases ho; exact ⟨_, hg⟩
          · exact ⟨_, h0⟩
        have hy' : ∃ cy', h.objs.get y = some (.cells cy' ny zy roy) := by
          rcases hgs _ _ hy with ⟨rfl, ho⟩ | ⟨_, h0⟩
          · cases ho; exact ⟨_, hg⟩
          · exact ⟨_, h0⟩
        obtain ⟨cx', hx'⟩ := hx'
        obtain ⟨cy', hy'⟩ := hy'
        exact H.sep _ _ _ _ _ _ _ _ _ _ _ _ _ _ hx' hy' h1 h2 hi hj e
      · intro r o r2 o2 cb1 co1 co2 hr hr2 hno hno2 h1 h2
        rcases hgs _ _ hr with ⟨_, ho⟩ | ⟨_, hr0⟩
        · exact absurd ho (hno _ _ _ _)
        · rcases hgs _ _ hr2 with ⟨_, ho⟩ | ⟨_, hr20⟩
          · exact absurd ho (hno2 _ _ _ _)
          · exact H.own _ _ _ _ _ _ _ hr0 hr20 hno hno2 h1 h2
    · cases hw
  · cases hw

/-- A new block's place. -/
def Emb.put (em : Emb) (id : Nat) (x : Nat × Nat) (ext esz : Nat) : Emb :=
  { at_ := fun b => if b = id then some x else em.at_ b, ext := fun b => if b = id then ext else em.ext b, esz := fun b => if b = id then esz else em.esz b, tok := em.tok, one := em.one, said := em.said }
theorem Emb.put_le (em : Emb) {id : Nat} (h0 : em.at_ id = none) (x : Nat × Nat) (ext esz : Nat) : em.Le (em.put id x ext esz) := by
  refine ⟨fun b y hb => ?_, rfl⟩
  have : b ≠ id := fun e => by subst e; rw [h0] at hb; cases hb
  simp [Emb.put, this, hb]
theorem WRel.fresh (H : WRel G B em h w) : em.at_ h.next = none := by
  cases e : em.at_ h.next with
  | none => rfl
  | some x => exact absurd (H.dom _ _ e) (Nat.lt_irrefl _)

theorem at_lt (H : WRel G B em h w) {b : Nat} {o : AObj} (hb : h.objs.get b = some o) : b < h.next := by
  cases o with
  | cells c n z ro => obtain ⟨_, _, h1, _⟩ := H.cells _ _ _ _ _ hb; exact H.dom _ _ h1
  | map es ck => obtain ⟨_, _, h1, _⟩ := H.maps _ _ _ hb; exact H.dom _ _ h1
  | sIter s p => obtain ⟨_, h1, _⟩ := H.iters _ _ _ hb; exact H.dom _ _ h1

theorem get_new {x : Nat} {o o' : AObj} (hx : (h.new o).objs.get x = some o') : (x = h.next ∧ o' = o) ∨ (x ≠ h.next ∧ h.objs.get x = some o') := by
  simp only [AHeap.new] at hx
  rw [Tr.get_set] at hx
  split at hx
  · cases hx; exact .inl ⟨‹_›, rfl⟩
  · exact .inr ⟨‹_›, hx⟩

/-- What stands of the old memory when the world has grown. -/
structure Grew (w w' : World) : Prop where
  size : w.heap.size ≤ w'.heap.size
  block : ∀ k, k < w.heap.size → w'.heap[k]? = w.heap[k]?
theorem Grew.cell {w w' : World} (g : Grew w w') {a : Addr} {v : Value} (h : w.cell? a = some v) : w'.cell? a = some v := by
  have hlt : a.block < w.heap.size := by
    apply Decidable.byContradiction; intro hn
    have : w.heap[a.block]? = none := Array.getElem?_eq_none (by omega)
    simp [World.cell?, this] at h
  rw [World.cell?_of_block (w := w) (g.block _ hlt)]; exact h
theorem Grew.frozen {w w' : World} (g : Grew w w') {a : Addr} (h : a.block < w.heap.size) : w'.frozen? a = w.frozen? a := World.frozen?_of_block (w := w) (g.block _ h)
theorem Grew.alloc (w : World) (o : Obj) : Grew w (w.alloc o) := ⟨by simp, fun k hk => Below.heap_alloc _ _ _ hk⟩
theorem Grew.drew_alloc (w : World) (o : Obj) : Grew w (w.drew.alloc o) := ⟨by simp, fun k hk => Below.heap_alloc _ _ _ hk⟩

theorem WRel.lt (H : WRel G B em h w) {b : Nat} {o : AObj} {cb co : Nat} (hb : h.objs.get b = some o) (hat : em.at_ b = some (cb, co)) : cb < w.heap.size := by
  cases o with
  | cells c n z ro => obtain ⟨_, _, h1, _, _, h2, _⟩ := H.cells _ _ _ _ _ hb; rw [hat] at h1; cases h1; exact h2
  | map es ck => obtain ⟨_, _, h1, _, h3, _⟩ := H.maps _ _ _ hb; rw [hat] at h1; cases h1; exact (Array.getElem?_eq_some_iff.1 h3).1
  | sIter s p => obtain ⟨_, h1, _, h3⟩ := H.iters _ _ _ hb; rw [hat] at h1; cases h1; exact (Array.getElem?_eq_some_iff.1 h3).1

/-- The same abstract heap over a world that has grown. -/
theorem WRel.grew (H : WRel G B em h w) {w' : World} (g : Grew w w') : WRel G B em h w' := by
  refine { dom := H.dom, glob := H.glob, base := fun k hk => Nat.lt_of_lt_of_le (H.base k hk) g.size, fix := H.fix, cells := ?_, maps := ?_, iters := ?_, sep := H.sep, own := H.own }
  · intro b c n z ro hb
    obtain ⟨cb, co, h1, h2, h3, hlt, h4, h5⟩ := H.cells _ _ _ _ _ hb
    refine ⟨cb, co, h1, h2, h3, Nat.lt_of_lt_of_le hlt g.size, fun i v hi => ?_, fun hf => ⟨(h5 hf).1, fun i hi => ?_⟩⟩
    · obtain ⟨k, v', hv', hr⟩ := h4 i v hi; exact ⟨k, v', g.cell hv', hr⟩
    · obtain ⟨k1, k2⟩ := (h5 hf).2 i hi
      obtain ⟨u, hu⟩ := Option.isSome_iff_exists.1 k1
      refine ⟨by rw [g.cell hu]; rfl, ?_⟩
      rw [g.frozen (a := ⟨cb, co + i, none⟩) (cell_lt k1)]; exact k2
  · intro r es ck hr
    obtain ⟨cb, es', h1, h2, h3, h4⟩ := H.maps _ _ _ hr
    have hlt : cb < w.heap.size := (Array.getElem?_eq_some_iff.1 h3).1
    exact ⟨cb, es', h1, h2, by rw [g.block _ hlt]; exact h3, h4⟩
  · intro r s p hr
    obtain ⟨cb, h1, h2, h3⟩ := H.iters _ _ _ hr
    have hlt : cb < w.heap.size := (Array.getElem?_eq_some_iff.1 h3).1
    exact ⟨cb, h1, h2, by rw [g.block _ hlt]; exact h3⟩

theorem WRel.room (H : WRel G B em h w) : B.may w.heap.size := Classical.byContradiction fun k => Nat.lt_irrefl _ (H.base _ k)

/-- A new abstract object over a block that nothing else lies in. -/
theorem WRel.add (H : WRel G B em h w) {o : AObj} {nb ext z : Nat} (hnb : B.may nb) (hlt : nb < w.heap.size)
    (hfree : ∀ b x co, h.objs.get b = some x → em.at_ b = some (nb, co) → False)
    (hc : ∀ c n z' ro, o = .cells c n z' ro → z' = z ∧ n ≤ ext ∧ (∀ i v, c.get i = some v → i < n ∧ ∃ v', w.cell? ⟨nb, i, none⟩ = some v' ∧ VRel em v v') ∧
      (∀ i, i < ext → (w.cell? ⟨nb, i, none⟩).isSome = true ∧ w.frozen? ⟨nb, i, none⟩ = false))
    (hm : ∀ es ck, o = .map es ck → ∃ es', w.heap[nb]? = some (.map es' ck) ∧ EsRel em es es'.toList)
    (hi : ∀ s p, o = .sIter s p → w.heap[nb]? = some (.stringIter s p)) (hro : ∀ c n z', o ≠ .cells c n z' true := by intro _ _ _ e; cases e) :
    WRel G B (em.put h.next (nb, 0) ext z) (h.new o) w ∧ em.Le (em.put h.next (nb, 0) ext z) := by
  have hle := Emb.put_le em H.fresh (nb, 0) ext z
  refine ⟨?_, hle⟩
  have hat : ∀ b, b ≠ h.next → (em.put h.next (nb, 0) ext z).at_ b = em.at_ b := fun b hb => by simp [Emb.put, hb]
  have hext : ∀ b, b ≠ h.next → (em.put h.next (nb, 0) ext z).ext b = em.ext b := fun b hb => by simp [Emb.put, hb]
  have hesz : ∀ b, b ≠ h.next → (em.put h.next (nb, 0) ext z).esz b = em.esz b := fun b hb => by simp [Emb.put, hb]
  have hat0 : (em.put h.next (nb, 0) ext z).at_ h.next = some (nb, 0) := by simp [Emb.put]
  have hext0 : (em.put h.next (nb, 0) ext z).ext h.next = ext := by simp [Emb.put]
  refine { dom := ?_, glob := ?_, base := H.base, fix := ?_, cells := ?_, maps := ?_, iters := ?_, sep := ?_, own := ?_ }
  · intro b x hb
    simp only [AHeap.new]
    by_cases e : b = h.next
    · omega
    · rw [hat b e] at hb; have := H.dom _ _ hb; omega
  · intro g hg
    have hg' := H.glob g hg
    exact (hle.at_ _ _ hg').1
  · intro b c n z' hb
    rcases get_new hb with ⟨rfl, ho⟩ | ⟨hne, hb0⟩
    · exact absurd ho.symm (hro _ _ _)
    · obtain ⟨cb, co, h1, h2⟩ := H.fix _ _ _ _ hb0
      exact ⟨cb, co, by rw [hat b hne]; exact h1, h2⟩
  · intro b c n z' ro hb
    rcases get_new hb with ⟨rfl, ho⟩ | ⟨hne, hb0⟩
    · obtain ⟨h1, h2, h3, h4⟩ := hc c n z' ro ho.symm
      refine ⟨nb, 0, hat0, by simp [Emb.put, h1], by rw [hext0]; exact h2, hlt, ?_, ?_⟩
      · intro i v hi
        obtain ⟨k, v', hv', hr⟩ := h3 i v hi
        exact ⟨k, v', by simpa using hv', hr.mono hle⟩
      · intro _
        refine ⟨hnb, fun i hi => ?_⟩
        rw [hext0] at hi
        simpa using h4 i hi
    · obtain ⟨cb, co, h1, h2, h3, hl, h4, h5⟩ := H.cells _ _ _ _ _ hb0
      refine ⟨cb, co, by rw [hat b hne]; exact h1, by rw [hesz b hne]; exact h2, by rw [hext b hne]; exact h3, hl, ?_, ?_⟩
      · intro i v hi
        obtain ⟨k, v', hv', hr⟩ := h4 i v hi
        exact ⟨k, v', hv', hr.mono hle⟩
      · intro hf; rw [hext b hne]; exact h5 hf
  · intro r es ck hr
    rcases get_new hr with ⟨rfl, ho⟩ | ⟨hne, hr0⟩
    · obtain ⟨es', h1, h2⟩ := hm es ck ho.symm
      exact ⟨nb, es', hat0, hnb, h1, h2.mono hle⟩
    · obtain ⟨cb, es', h1, h2, h3, h4⟩ := H.maps _ _ _ hr0
      exact ⟨cb, es', by rw [hat r hne]; exact h1, h2, h3, h4.mono hle⟩
  · intro r s p hr
    rcases get_new hr with ⟨rfl, ho⟩ | ⟨hne, hr0⟩
    · exact ⟨nb, hat0, hnb, hi s p ho.symm⟩
    · obtain ⟨cb, h1, h2, h3⟩ := H.iters _ _ _ hr0
      exact ⟨cb, by rw [hat r hne]; exact h1, h2, h3⟩
  · intro b c n z' b2 c2 n2 z2 ro2 i j cb co co2 hb hb2 h1 h2 hi hj e
    rcases get_new hb with ⟨rfl, ho⟩ | ⟨hne, hb0⟩
    · rcases get_new hb2 with ⟨rfl, ho2⟩ | ⟨hne2, hb20⟩
      · rw [h1] at h2; cases h2; exact ⟨rfl, by omega⟩
      · rw [hat0] at h1; cases h1
        rw [hat b2 hne2] at h2
        exact (hfree _ _ _ hb20 h2).elim
    · rcases get_new hb2 with ⟨rfl, ho2⟩ | ⟨hne2, hb20⟩
      · rw [hat0] at h2; cases h2
        rw [hat b hne] at h1
        exact (hfree _ _ _ hb0 h1).elim
      · rw [hat b hne] at h1; rw [hat b2 hne2] at h2; rw [hext b hne] at hi; rw [hext b2 hne2] at hj
        exact H.sep _ _ _ _ _ _ _ _ _ _ _ _ _ _ hb0 hb20 h1 h2 hi hj e
  · intro r o1 r2 o2 cb co co2 hr hr2 hn1 hn2 h1 h2
    rcases get_new hr with ⟨rfl, ho⟩ | ⟨hne, hr0⟩
    · rcases get_new hr2 with ⟨rfl, ho2⟩ | ⟨hne2, hr20⟩
      · rfl
      · rw [hat0] at h1; cases h1
        rw [hat r2 hne2] at h2
        exact (hfree _ _ _ hr20 h2).elim
    · rcases get_new hr2 with ⟨rfl, ho2⟩ | ⟨hne2, hr20⟩
      · rw [hat0] at h2; cases h2
        rw [hat r hne] at h1
        exact (hfree _ _ _ hr0 h1).elim
      · rw [hat r hne] at h1; rw [hat r2 hne2] at h2
        exact H.own _ _ _ _ _ _ _ hr0 hr20 hn1 hn2 h1 h2

/-- A new row of cells; 'rest' lies behind what is known. -/
theorem WRel.newCells (H : WRel G B em h w) {cs cs' rest : List Value} {arr : Array Value} {elem : TypeId} {z : Nat} (hv : VsRel em cs cs') (ha : arr.toList = cs' ++ rest) :
    WRel G B (em.put h.next (w.heap.size, 0) arr.size z) (newA z cs h) (w.alloc (.cells arr elem)) ∧ em.Le (em.put h.next (w.heap.size, 0) arr.size z) := by
  have hsz : arr.size = cs'.length + rest.length := by rw [← Array.length_toList, ha]; simp
  refine (H.grew (Grew.alloc w _)).add H.room (by simp) ?_ ?_ (by intro es ck e; cases e) (by intro s p e; cases e)
  · intro b x co hb hat
    exact absurd (H.lt hb hat) (Nat.lt_irrefl _)
  · intro c n z' ro e
    cases e
    refine ⟨rfl, by have := hv.length; omega, ?_, ?_⟩
    · intro i v hi
      rw [Tr.get_of] at hi
      obtain ⟨v', hv', hr⟩ := hv.get hi
      refine ⟨(List.getElem?_eq_some_iff.1 hi).1, v', ?_, hr⟩
      rw [World.cell?_alloc_new]
      rw [← Array.getElem?_toList, ha, List.getElem?_append_left (List.getElem?_eq_some_iff.1 hv').1]
      exact hv'
    · intro i hi
      rw [World.cell?_alloc_new]
      exact ⟨by simp [hi], World.frozen?_alloc_new _ _ _ _⟩

/-- A new map; a new iterator over a string. -/
theorem WRel.newMap (H : WRel G B em h w) : WRel G B (em.put h.next (w.heap.size, 0) 0 0) (h.new (.map [] 0)) (w.alloc (.map #[] 0)) ∧ em.Le (em.put h.next (w.heap.size, 0) 0 0) := by
  refine (H.grew (Grew.alloc w _)).add H.room (by simp) ?_ (by intro _ _ _ _ e; cases e) ?_ (by intro s p e; cases e)
  · intro b x co hb hat
    exact absurd (H.lt hb hat) (Nat.lt_irrefl _)
  · intro es ck e
    cases e
    exact ⟨#[], Array.getElem?_push_size, .nil⟩
theorem WRel.newIter (H : WRel G B em h w) (s : ByteArray) : WRel G B (em.put h.next (w.heap.size, 0) 0 0) (h.new (.sIter s 0)) (w.alloc (.stringIter s 0)) ∧ em.Le (em.put h.next (w.heap.size, 0) 0 0) := by
  refine (H.grew (Grew.alloc w _)).add H.room (by simp) ?_ (by intro _ _ _ _ e; cases e) (by intro _ _ e; cases e) ?_
  · intro b x co hb hat
    exact absurd (H.lt hb hat) (Nat.lt_irrefl _)
  · intro s' p e
    cases e
    exact Array.getElem?_push_size

theorem cell_setObj {w : World} {r : Nat} {o o' : Obj} (h : w.heap[r]? = some o) (ho : ∀ c e f, o ≠ .cells c e f) (ho' : ∀ c e f, o' ≠ .cells c e f) (a : Addr) :
    ({ w with heap := w.heap.setIfInBounds r o' } : World).cell? a = w.cell? a ∧ ({ w with heap := w.heap.setIfInBounds r o' } : World).frozen? a = w.frozen? a := by
  by_cases e : a.block = r
  · have hlt := (Array.getElem?_eq_some_iff.1 h).1
    simp only [World.cell?, World.frozen?, e, h, Array.getElem?_setIfInBounds_self_of_lt hlt]
    cases o <;> cases o' <;> first | exact ⟨rfl, rfl⟩ | exact absurd rfl (ho _ _ _) | exact absurd rfl (ho' _ _ _)
  · have : (w.heap.setIfInBounds r o')[a.block]? = w.heap[a.block]? := by rw [Array.getElem?_setIfInBounds_ne (fun h => e h.symm)]
    simp only [World.cell?, World.frozen?, this]
    exact ⟨trivial, trivial⟩

/-- An object that is no row of cells is turned. -/
theorem WRel.putObj (H : WRel G B em h w) {r cb : Nat} {o o' : AObj} {c c' : Obj} (hr : h.objs.get r = some o) (hat : em.at_ r = some (cb, 0)) (hB : B.may cb) (hc : w.heap[cb]? = some c)
    (n1 : ∀ a b d e, o ≠ .cells a b d e) (n2 : ∀ a b d e, o' ≠ .cells a b d e) (n3 : ∀ a b d, c ≠ .cells a b d) (n4 : ∀ a b d, c' ≠ .cells a b d)
    (hm : ∀ es ck, o' = .map es ck → ∃ es', c' = .map es' ck ∧ EsRel em es es'.toList) (hi : ∀ s p, o' = .sIter s p → c' = .stringIter s p) :
    WRel G B em (h.put r o') { w with heap := w.heap.setIfInBounds cb c' } ∧ Kept B w { w with heap := w.heap.setIfInBounds cb c' } := by
  have hlt := (Array.getElem?_eq_some_iff.1 hc).1
  have hcell := cell_setObj (o' := c') hc n3 n4
  have hgs : ∀ x k, (h.put r o').objs.get x = some k → (x = r ∧ k = o') ∨ (x ≠ r ∧ h.objs.get x = some k) := by
    intro x k hx
    simp only [AHeap.put] at hx
    rw [Tr.get_set] at hx
    split at hx
    · cases hx; exact .inl ⟨‹_›, rfl⟩
    · exact .inr ⟨‹_›, hx⟩
  have hother : ∀ x k cx, x ≠ r → h.objs.get x = some k → (∀ a b d e, k ≠ .cells a b d e) → em.at_ x = some (cx, 0) → (w.heap.setIfInBounds cb c')[cx]? = w.heap[cx]? := by
    intro x k cx hne hx hk hatx
    refine Array.getElem?_setIfInBounds_ne (fun e => ?_)
    subst e
    exact hne (H.own _ _ _ _ _ _ _ hx hr hk n1 hatx hat)
  refine ⟨{ dom := H.dom, glob := H.glob, base := by simpa using H.base, fix := ?_, cells := ?_, maps := ?_, iters := ?_, sep := ?_, own := ?_ }, ⟨rfl, rfl, rfl, by simp, fun k hk => Array.getElem?_setIfInBounds_ne (fun e => hk (by rw [← e]; exact hB))⟩⟩
  · intro b cs n z hb
    rcases hgs _ _ hb with ⟨_, e⟩ | ⟨_, hb0⟩
    · exact absurd e.symm (n2 _ _ _ _)
    · exact H.fix _ _ _ _ hb0
  · intro b cs n z ro hb
    rcases hgs _ _ hb with ⟨_, e⟩ | ⟨_, hb0⟩
    · exact absurd e.symm (n2 _ _ _ _)
    · obtain ⟨cb2, co2, h1, h2, h3, hl, h4, h5⟩ := H.cells _ _ _ _ _ hb0
      refine ⟨cb2, co2, h1, h2, h3, by simpa using hl, fun i v hi => ?_, fun hf => ⟨(h5 hf).1, fun i hi => ?_⟩⟩
      · rw [(hcell _).1]; exact h4 i v hi
      · rw [(hcell _).1, (hcell _).2]; exact (h5 hf).2 i hi
  · intro x es ck hx
    rcases hgs _ _ hx with ⟨rfl, e⟩ | ⟨hne, hx0⟩
    · obtain ⟨es', h1, h2⟩ := hm es ck e.symm
      exact ⟨cb, es', hat, hB, by simp [Array.getElem?_setIfInBounds_self_of_lt hlt, h1], h2⟩
    · obtain ⟨cb2, es', h1, h2, h3, h4⟩ := H.maps _ _ _ hx0
      exact ⟨cb2, es', h1, h2, by rw [hother _ _ _ hne hx0 (by intros; simp) h1]; exact h3, h4⟩
  · intro x s p hx
    rcases hgs _ _ hx with ⟨rfl, e⟩ | ⟨hne, hx0⟩
    · exact ⟨cb, hat, hB, by simp [Array.getElem?_setIfInBounds_self_of_lt hlt, hi s p e.symm]⟩
    · obtain ⟨cb2, h1, h2, h3⟩ := H.iters _ _ _ hx0
      exact ⟨cb2, h1, h2, by rw [hother _ _ _ hne hx0 (by intros; simp) h1]; exact h3⟩
  · intro b c1 n z b2 c2 n2' z2 ro2 i j cb1 co co2 hb hb2
    rcases hgs _ _ hb with ⟨_, e⟩ | ⟨_, hb0⟩
    · exact absurd e.symm (n2 _ _ _ _)
    · rcases hgs _ _ hb2 with ⟨_, e⟩ | ⟨_, hb20⟩
      · exact absurd e.symm (n2 _ _ _ _)
      · exact H.sep _ _ _ _ _ _ _ _ _ _ _ _ _ _ hb0 hb20
  · intro x k x2 k2 cb1 co co2 hx hx2 hk hk2 h1 h2
    have hx' : ∃ k', h.objs.get x = some k' ∧ ∀ a b d e, k' ≠ .cells a b d e := by
      rcases hgs _ _ hx with ⟨rfl, _⟩ | ⟨_, h0⟩
      · exact ⟨_, hr, n1⟩
      · exact ⟨_, h0, hk⟩
    have hx2' : ∃ k', h.objs.get x2 = some k' ∧ ∀ a b d e, k' ≠ .cells a b d e := by
      rcases hgs _ _ hx2 with ⟨rfl, _⟩ | ⟨_, h0⟩
      · exact ⟨_, hr, n1⟩
      · exact ⟨_, h0, hk2⟩
    obtain ⟨k', a1, a2⟩ := hx'
    obtain ⟨k2', b1, b2⟩ := hx2'
    exact H.own _ _ _ _ _ _ _ a1 b1 a2 b2 h1 h2

end
end Go.Ae
