/- The abstract evaluator: each operation that it does stands for the model's own. Part 7: append and copy, whole. -/
import Derived.Test.YtkmjbiabhpfbpaaGreatDoorAe9
namespace Go.Ae
open Go Go.RowKit
set_option linter.unusedSectionVars false
variable [Ask]

section
variable {P : Program} {G : Nat} {B : Kp} {em : Emb} {h : AHeap} {w : World}

theorem zOkA_run {elem : TypeId} {size : Nat} (hz : zOkA P elem size = true) : ∃ z, zeroA P elem = some z ∧ z.cells.size = size := by
  unfold zOkA at hz
  split at hz
  · exact ⟨_, ‹_›, Nat.eq_of_beq_eq_true hz⟩
  · cases hz

theorem capAtLeast_le {c cap : Nat} (hc : capRel c cap) : capAtLeast c ≤ cap := by
  unfold capRel at hc; unfold capAtLeast
  have : Nat.div c 2 = c / 2 := rfl
  split at hc <;> omega
theorem capSure_eq {c cap : Nat} (hc : capRel c cap) (hs : capSure c = true) : cap = capAtLeast c := by
  unfold capRel at hc; unfold capAtLeast
  have h1 : Nat.mod c 2 = 0 := Nat.eq_of_beq_eq_true hs
  have h2 : c % 2 = 0 := h1
  rw [if_pos h2] at hc; exact hc

/-- A store beside all that the heap knows. -/
theorem WRel.setOut (H : WRel G B em h w) {cb o : Nat} {vs : List Value}
    (hd : ∀ x c n z ro co i j, h.objs.get x = some (.cells c n z ro) → em.at_ x = some (cb, co) → i < em.ext x → j < vs.length → co + i ≠ o + j) : WRel G B em h (w.setCells cb o vs) := by
  refine { dom := H.dom, glob := H.glob, base := by rw [size_setCells]; exact H.base, fix := H.fix, cells := ?_, maps := ?_, iters := ?_, sep := H.sep, own := H.own }
  · intro x c n z ro hx
    obtain ⟨cb2, co2, h1, h2, h3, hl, h4, h5⟩ := H.cells _ _ _ _ _ hx
    refine ⟨cb2, co2, h1, h2, h3, by rw [size_setCells]; exact hl, fun i v hi => ?_, fun hf => ⟨(h5 hf).1, fun i hi => ⟨isSome_setCells _ _ _ ((h5 hf).2 i hi).1, ?_⟩⟩⟩
    · obtain ⟨k, v', hv', hr⟩ := h4 i v hi
      refine ⟨k, v', ?_, hr⟩
      rw [World.cell?_setCells_out]
      · exact hv'
      · intro hb _
        have hb' : cb2 = cb := hb
        subst hb'
        simp only
        apply Decidable.byContradiction
        intro hcon
        exact hd x c n z ro co2 i (co2 + i - o) hx h1 (by omega) (by omega) (by omega)
    · rw [World.frozen?_setCells]; exact ((h5 hf).2 i hi).2
  · intro r es ck hr
    obtain ⟨cb2, es', h1, h2, h3, h4⟩ := H.maps _ _ _ hr
    exact ⟨cb2, es', h1, h2, map_setCells (by intros; simp) _ _ _ h3, h4⟩
  · intro r s p hr
    obtain ⟨cb2, h1, h2, h3⟩ := H.iters _ _ _ hr
    exact ⟨cb2, h1, h2, map_setCells (by intros; simp) _ _ _ h3⟩

/-- A new row of the heap over cells that are nobody's. -/
theorem WRel.addRow (H : WRel G B em h w) {cb co n ext z : Nat} {c : Tr Value} (hB : B.may cb) (hlt : cb < w.heap.size) (hn : n ≤ ext)
    (hd : ∀ x c' n' z' ro co2 i j, h.objs.get x = some (.cells c' n' z' ro) → em.at_ x = some (cb, co2) → i < ext → j < em.ext x → co + i ≠ co2 + j)
    (hc : ∀ i v, c.get i = some v → i < n ∧ ∃ v', w.cell? ⟨cb, co + i, none⟩ = some v' ∧ VRel em v v')
    (he : ∀ i, i < ext → (w.cell? ⟨cb, co + i, none⟩).isSome = true ∧ w.frozen? ⟨cb, co + i, none⟩ = false) :
    WRel G B (em.put h.next (cb, co) ext z) (h.new (.cells c n z false)) w ∧ em.Le (em.put h.next (cb, co) ext z) := by
  have hle := Emb.put_le em H.fresh (cb, co) ext z
  refine ⟨?_, hle⟩
  have hat : ∀ b, b ≠ h.next → (em.put h.next (cb, co) ext z).at_ b = em.at_ b := fun b hb => by simp [Emb.put, hb]
  have hext : ∀ b, b ≠ h.next → (em.put h.next (cb, co) ext z).ext b = em.ext b := fun b hb => by simp [Emb.put, hb]
  have hesz : ∀ b, b ≠ h.next → (em.put h.next (cb, co) ext z).esz b = em.esz b := fun b hb => by simp [Emb.put, hb]
  have hat0 : (em.put h.next (cb, co) ext z).at_ h.next = some (cb, co) := by simp [Emb.put]
  have hext0 : (em.put h.next (cb, co) ext z).ext h.next = ext := by simp [Emb.put]
  refine { dom := ?_, glob := ?_, base := H.base, fix := ?_, cells := ?_, maps := ?_, iters := ?_, sep := ?_, own := ?_ }
  · intro b x hb
    simp only [AHeap.new]
    by_cases e : b = h.next
    · omega
    · rw [hat b e] at hb; have := H.dom _ _ hb; omega
  · intro g hg
    exact (hle.at_ _ _ (H.glob g hg)).1
  · intro b c' n' z' hb
    rcases get_new hb with ⟨rfl, ho⟩ | ⟨hne, hb0⟩
    · cases ho
    · obtain ⟨cb2, co2, h1, h2⟩ := H.fix _ _ _ _ hb0
      exact ⟨cb2, co2, by rw [hat b hne]; exact h1, h2⟩
  · intro b c' n' z' ro hb
    rcases get_new hb with ⟨rfl, ho⟩ | ⟨hne, hb0⟩
    · cases ho
      refine ⟨cb, co, hat0, by simp [Emb.put], by rw [hext0]; exact hn, hlt, ?_, ?_⟩
      · intro i v hi
        obtain ⟨k, v', hv', hr⟩ := hc i v hi
        exact ⟨k, v', hv', hr.mono hle⟩
      · intro _
        refine ⟨hB, fun i hi => ?_⟩
        rw [hext0] at hi
        exact he i hi
    · obtain ⟨cb2, co2, h1, h2, h3, hl, h4, h5⟩ := H.cells _ _ _ _ _ hb0
      refine ⟨cb2, co2, by rw [hat b hne]; exact h1, by rw [hesz b hne]; exact h2, by rw [hext b hne]; exact h3, hl, ?_, ?_⟩
      · intro i v hi
        obtain ⟨k, v', hv', hr⟩ := h4 i v hi
        exact ⟨k, v', hv', hr.mono hle⟩
      · intro hf; rw [hext b hne]; exact h5 hf
  · intro r es ck hr
    rcases get_new hr with ⟨rfl, ho⟩ | ⟨hne, hr0⟩
    · cases ho
    · obtain ⟨cb2, es', h1, h2, h3, h4⟩ := H.maps _ _ _ hr0
      exact ⟨cb2, es', by rw [hat r hne]; exact h1, h2, h3, h4.mono hle⟩
  · intro r s p hr
    rcases get_new hr with ⟨rfl, ho⟩ | ⟨hne, hr0⟩
    · cases ho
    · obtain ⟨cb2, h1, h2, h3⟩ := H.iters _ _ _ hr0
      exact ⟨cb2, by rw [hat r hne]; exact h1, h2, h3⟩
  · intro b c1 n1 z1 b2 c2 n2 z2 ro2 i j cb1 co1 co2 hb hb2 h1 h2 hi hj e
    rcases get_new hb with ⟨rfl, ho⟩ | ⟨hne, hb0⟩
    · rcases get_new hb2 with ⟨rfl, ho2⟩ | ⟨hne2, hb20⟩
      · rw [h1] at h2; cases h2; exact ⟨rfl, by omega⟩
      · rw [hat0] at h1; cases h1
        rw [hat b2 hne2] at h2; rw [hext0] at hi; rw [hext b2 hne2] at hj
        exact (hd _ _ _ _ _ _ _ _ hb20 h2 hi hj e).elim
    · rcases get_new hb2 with ⟨rfl, ho2⟩ | ⟨hne2, hb20⟩
      · rw [hat0] at h2; cases h2
        rw [hat b hne] at h1; rw [hext b hne] at hi; rw [hext0] at hj
        exact (hd _ _ _ _ _ _ _ _ hb0 h1 hj hi e.symm).elim
      · rw [hat b hne] at h1; rw [hat b2 hne2] at h2; rw [hext b hne] at hi; rw [hext b2 hne2] at hj
        exact H.sep _ _ _ _ _ _ _ _ _ _ _ _ _ _ hb0 hb20 h1 h2 hi hj e
  · intro r o1 r2 o2 cb1 co1 co2 hr hr2 hn1 hn2 h1 h2
    rcases get_new hr with ⟨rfl, ho⟩ | ⟨hne, hr0⟩
    · exact absurd ho (hn1 _ _ _ _)
    · rcases get_new hr2 with ⟨rfl, ho2⟩ | ⟨hne2, hr20⟩
      · exact absurd ho2 (hn2 _ _ _ _)
      · rw [hat r hne] at h1; rw [hat r2 hne2] at h2
        exact H.own _ _ _ _ _ _ _ hr0 hr20 hn1 hn2 h1 h2

theorem append_ok (H : WRel G B em h w) {argTypes : Array TypeId} {args args' : Array Value} {v : Value} {h' : AHeap} {ty : TypeId} (hop : appendA P argTypes args h = some (v, h')) (hargs : VsRel em args.toList args'.toList) :
    AppOk G B w em v h' ((Builtin.append_ argTypes ty args').run P w) := by
  unfold appendA at hop
  split at hop
  · rename_i st xts base len c x rest hat ha
    rw [ha] at hargs
    generalize hal : args'.toList = al' at hargs
    cases hargs with
    | cons hs hr =>
    cases hr with
    | cons hx hrest =>
    rename_i s' _ x' rest'
    split at hop
    · rename_i elem hu
      rw [Bool.cond_eq_ite] at hop
      split at hop
      · cases hop
      · rename_i hpl
        have hpl : plainArg P xts = true := by simpa using hpl
        obtain ⟨size, hsz, hop2⟩ := Option.bind_eq_some_iff.1 hop
        clear hop
        rw [Bool.cond_eq_ite] at hop2
        split at hop2
        · cases hop2
        · rename_i hs0
          have hs0 : size ≠ 0 := fun e => hs0 (by subst e; rfl)
          obtain ⟨⟨n, new⟩, hsrc, hop3⟩ := Option.bind_eq_some_iff.1 hop2
          clear hop2
          obtain ⟨N, new', hlenOf, hn, hnew, hfirst⟩ := srcA_run (P := P) H hsrc hx
          simp only at hop3
          rw [Bool.cond_eq_ite] at hop3
          split at hop3
          · cases hop3
          · rename_i hsm
            simp only [Bool.or_eq_true, not_or, Bool.not_eq_true', Bool.not_eq_false] at hsm
            have hsm1 : ¬ (1099511627776 ≤ n) := fun e => hsm.1 (Nat.ble_eq_true_of_le e)
            have hnl : new.length = n * size := Nat.eq_of_beq_eq_true hsm.2
            have hNn : N = n := by have : n = min N 1099511627776 := hn; omega
            subst hNn
            have hnl' : new'.length = N * size := by rw [← hnew.length, hnl]
            rw [Bool.cond_eq_ite] at hop3
            split at hop3
            · -- nothing is appended
              rename_i hn0
              have hn0 : N = 0 := Nat.eq_of_beq_eq_true hn0
              cases hop3
              subst hn0
              have hnew0 : new' = [] := List.length_eq_zero_iff.1 (by omega)
              subst hnew0
              cases base with
              | none =>
                obtain ⟨rfl, rfl, rfl⟩ := snil_inv hs
                have := (append_eq (P := P) (w := w) (ty := ty) hat hal hu hsz hpl hlenOf hfirst).1 (Nat.le_refl _) rfl
                exact ⟨em, w, _, .refl em, H, Kept.refl _ _, .sliceNil, this⟩
              | some a =>
                rcases slice_inv hs with ⟨b, off, cb, co, cap, rfl, hat2, hc, hlen, hext, rfl⟩ | ⟨b, off, A, cap, rfl, rfl, rfl, rfl⟩
                · have := (append_eq (P := P) (w := w) (ty := ty) hat hal hu hsz hpl hlenOf hfirst).2.1 (by omega) _ rfl w rfl
                  exact ⟨em, w, _, .refl em, H, Kept.refl _ _, .slice off hat2 hc hlen hext, this⟩
                · have := (append_eq (P := P) (w := w) (ty := ty) hat hal hu hsz hpl hlenOf hfirst).2.1 (by omega) _ rfl w rfl
                  exact ⟨em, w, _, .refl em, H, Kept.refl _ _, .sliceEnd b off A cap, this⟩
            · rename_i hn0
              have hnpos : 0 < N := by
                cases N with
                | zero => exact absurd rfl hn0
                | succ k => omega
              cases base with
              | none =>
                simp only at hop3
                obtain ⟨rfl, rfl, rfl⟩ := snil_inv hs
                unfold growA at hop3
                rw [Bool.cond_eq_ite] at hop3
                split at hop3
                · rename_i hc
                  simp only [Bool.and_eq_true] at hc
                  obtain ⟨z, hz, hzs⟩ := zOkA_run hc.2
                  cases hop3
                  have hrun := (append_eq (P := P) (w := w) (ty := ty) hat hal hu hsz hpl hlenOf hfirst).2.2 (by omega) z [] hz hc.1 (fun w' _ => run_firstCells_none w' size 0 0 0)
                  have hge := grownCap_ge w (0 + N) 0 elem
                  refine grow_new H (cap := grownCap w (0 + N) 0 elem) (all := new') (zs := (Builtin.zeroCells z.cells (grownCap w (0 + N) 0 elem - (0 + N))).toList) ?_ hge (by rw [hnl', Nat.zero_add]) (by rw [hnl, Nat.zero_add]) ?_ ?_ hrun
                  · rw [Array.length_toList, zeroCells_size, hzs]
                  · intro i v hi
                    rw [Tr.get_of] at hi
                    obtain ⟨v', h1, h2⟩ := hnew.get hi
                    exact ⟨(List.getElem?_eq_some_iff.1 hi).1, v', h1, h2⟩
                  · simp
                · cases hop3
              | some a =>
                simp only at hop3
                rw [Bool.cond_eq_ite] at hop3
                split at hop3
                · -- there is room
                  rename_i hroom
                  have hroom := Nat.le_of_ble_eq_true hroom
                  obtain ⟨h2, hw, e⟩ := Option.map_eq_some_iff.1 hop3
                  cases e
                  rcases slice_inv hs with ⟨b, off, cb, co, cap, rfl, hat2, hc, hlen, hext, rfl⟩ | ⟨b, off, A, cap, rfl, rfl, rfl, rfl⟩
                  · have hle := capAtLeast_le hc
                    obtain ⟨cb', co', h1, e1, e2, e3, hW, hB⟩ := H.write hw hnew
                    rw [hat2] at h1; cases h1
                    have hst := run_storeCells_cells (P := P) cb (co + (off + len * size)) new' 0 w (by simpa using e1) (by simpa using e2) e3
                    have hadd : (⟨cb, co + off, none⟩ : Addr).add (len * size) = ⟨cb, co + (off + len * size), none⟩ := by rw [Addr.add_lit, Nat.add_assoc]
                    have hrun := (append_eq (P := P) (w := w) (ty := ty) hat hal hu hsz hpl hlenOf hfirst).2.1 (by omega) _ rfl _ (by rw [hadd]; exact hst)
                    exact ⟨em, _, _, .refl em, by simpa using hW, by simpa using hB, .slice off hat2 hc (by omega) hext, hrun⟩
                  · have : capAtLeast 1 = 0 := rfl
                    omega
                · rename_i hroom
                  have hroom : ¬ (len + N ≤ capAtLeast c) := fun e => hroom (Nat.ble_eq_true_of_le e)
                  rw [Bool.cond_eq_ite] at hop3
                  split at hop3
                  · -- there is surely none
                    rename_i hsure
                    obtain ⟨old, hold, hop4⟩ := Option.bind_eq_some_iff.1 hop3
                    rcases slice_inv hs with ⟨b, off, cb, co, cap, rfl, hat2, hc, hlen, hext, rfl⟩ | ⟨b, off, A, cap, rfl, rfl, rfl, rfl⟩
                    · have hcap := capSure_eq hc hsure
                      unfold growA at hop4
                      rw [Bool.cond_eq_ite] at hop4
                      split at hop4
                      · rename_i hcond
                        simp only [Bool.and_eq_true] at hcond
                        obtain ⟨z, hz, hzs⟩ := zOkA_run hcond.2
                        cases hop4
                        obtain ⟨hol, old', holdr, holdg⟩ := H.read_at hold hat2
                        have hol' : old'.length = len * size := by rw [← holdr.length, hol]
                        have hrun := (append_eq (P := P) (w := w) (ty := ty) hat hal hu hsz hpl hlenOf hfirst).2.2 (by omega) z old' hz hcond.1
                          (fun w' hw' => run_firstCells_some w' size len _ _ _ old' hol' (fun j v hj => by rw [hw']; exact holdg j v hj))
                        have hge := grownCap_ge w (len + N) cap elem
                        refine grow_new H (cap := grownCap w (len + N) cap elem) (all := old' ++ new') (zs := (Builtin.zeroCells z.cells (grownCap w (len + N) cap elem - (len + N))).toList) ?_ hge
                          (by rw [List.length_append, hol', hnl', Nat.add_mul]) (by rw [List.length_append, hol, hnl, Nat.add_mul]) ?_ ?_ hrun
                        · rw [Array.length_toList, zeroCells_size, hzs]
                        · intro i v hi
                          rw [Tr.get_of] at hi
                          obtain ⟨v', h1, h2⟩ := (holdr.append hnew).get hi
                          exact ⟨(List.getElem?_eq_some_iff.1 hi).1, v', h1, h2⟩
                        · simp
                      · cases hop4
                    · simp [capSure, Nat.beq] at hsure
                  · rw [Bool.cond_eq_ite] at hop3
                    split at hop3
                    · rename_i hoff
                      have hoff : a.off = 0 := Nat.eq_of_beq_eq_true hoff
                      unfold extendA at hop3
                      split at hop3
                      · rename_i cs n' z hg
                        rw [Bool.cond_eq_ite] at hop3
                        split at hop3
                        · rename_i hcond
                          simp only [Bool.and_eq_true] at hcond
                          obtain ⟨⟨⟨⟨⟨k1, k2⟩, k3⟩, k4⟩, k5⟩, k6⟩ := hcond
                          have k1 : 0 < len := by simpa using k1
                          have k2 : n' = len * size := Nat.eq_of_beq_eq_true k2
                          have k3 : z = size := Nat.eq_of_beq_eq_true k3
                          obtain ⟨z0, hz, hzs⟩ := zOkA_run k6
                          cases hop3
                          rcases slice_inv hs with ⟨b, off, cb, co, cap, rfl, hat2, hc, hlen, hext, rfl⟩ | ⟨b, off, A, cap, rfl, rfl, rfl, rfl⟩
                          · simp only at hoff hg
                            subst hoff k3 k2
                            obtain ⟨cb', co', e1, e2, e3, e4, e5, e6⟩ := H.cells _ _ _ _ _ hg
                            rw [hat2] at e1; cases e1
                            obtain ⟨hB, hex⟩ := e6 rfl
                            rw [e2, Nat.zero_add] at hext
                            have H1 : WRel G B em ⟨h.next, h.objs.erase b⟩ w := H.sub rfl (fun x o hx => by
                              have hx' : (h.objs.erase b).get x = some o := hx
                              rw [Tr.get_erase] at hx'
                              split at hx'
                              · cases hx'
                              · exact hx')
                            have hne : ∀ x o, (h.objs.erase b).get x = some o → x ≠ b := fun x o hx => by
                              rw [Tr.get_erase] at hx
                              split at hx
                              · cases hx
                              · assumption
                            have hmul : ∀ k, k ≤ cap → k * z ≤ em.ext b := fun k hk => Nat.le_trans (Nat.mul_le_mul_right _ hk) hext
                            have hneed : (len + N) * z = len * z + N * z := Nat.add_mul _ _ _
                            have hout : ∀ x c' n2 z2 ro co2 i j, (h.objs.erase b).get x = some (.cells c' n2 z2 ro) → em.at_ x = some (cb, co2) → i < em.ext b → j < em.ext x → co + i ≠ co2 + j := by
                              intro x c' n2 z2 ro co2 i j hx hatx hi hj e
                              have hxb := hne _ _ hx
                              have hx0 : h.objs.get x = some (.cells c' n2 z2 ro) := by rw [Tr.get_erase, if_neg hxb] at hx; exact hx
                              exact hxb (H.sep _ _ _ _ _ _ _ _ _ _ _ _ _ _ hg hx0 hat2 hatx hi hj e).1.symm
                            by_cases hin : len + N ≤ cap
                            · -- in place
                              have hcap2 := hmul _ hin
                              have hadd : (⟨cb, co + 0, none⟩ : Addr).add (len * z) = ⟨cb, co + len * z, none⟩ := by rw [Addr.add_lit]; rfl
                              have hone' : ∀ u ∈ new', u.oneCell' = true := by
                                have := hnew.one; rw [k4] at this; exact List.all_eq_true.1 this
                              have x1 : ∀ j, j < new'.length → (w.cell? ⟨cb, co + len * z + j, none⟩).isSome = true := fun j hj => by
                                have := (hex (len * z + j) (by omega)).1; rwa [← Nat.add_assoc] at this
                              have x2 : ∀ j, j < new'.length → w.frozen? ⟨cb, co + len * z + j, none⟩ = false := fun j hj => by
                                have := (hex (len * z + j) (by omega)).2; rwa [← Nat.add_assoc] at this
                              have hst := run_storeCells_cells (P := P) cb (co + len * z) new' 0 w (by simpa using x1) (by simpa using x2) hone'
                              have hrun := (append_eq (P := P) (w := w) (ty := ty) hat hal hu hsz hpl hlenOf hfirst).2.1 hin _ rfl _ (by rw [hadd]; exact hst)
                              simp only [Nat.add_zero] at hrun
                              have H2 := H1.setOut (cb := cb) (o := co + len * z) (vs := new') (fun x c' n2 z2 ro co2 i j hx hatx hi hj e =>
                                hout x c' n2 z2 ro co2 (len * z + j) i hx hatx (by omega) hi (by omega))
                              have hin2 := World.cell?_setCells_in cb new' (co + len * z) w x1
                              obtain ⟨H3, hle3⟩ := H2.addRow (co := co) (n := (len + N) * z) (ext := em.ext b) (z := z) (c := Tr.fill new (len * z) cs) hB (by rw [size_setCells]; exact e4) hcap2 hout
                                (by
                                  intro i v hi
                                  rw [Tr.get_fill] at hi
                                  split at hi
                                  · rename_i hr
                                    obtain ⟨v', hv', hrel⟩ := hnew.get hi
                                    refine ⟨by omega, v', ?_, hrel⟩
                                    have := hin2 (i - len * z) (by omega)
                                    rw [show co + len * z + (i - len * z) = co + i by omega] at this
                                    rw [this]
                                    rw [List.getElem?_eq_getElem (by omega)] at hv'
                                    exact hv'
                                  · obtain ⟨q1, v', hv', hrel⟩ := e5 i v hi
                                    refine ⟨by omega, v', ?_, hrel⟩
                                    rw [World.cell?_setCells_out]
                                    · exact hv'
                                    · intro _ _; simp only; omega)
                                (fun i hi => ⟨isSome_setCells _ _ _ (hex i hi).1, by rw [World.frozen?_setCells]; exact (hex i hi).2⟩)
                              refine ⟨_, _, _, hle3, H3, below_setCells hB _ _ _, ?_, hrun⟩
                              have := VRel.slice (em := em.put h.next (cb, co) (em.ext b) z) (b := h.next) (cb := cb) (co := co) (c := 2 * (len + N) + 1) (cap := cap) (len := len + N) 0 (by simp [Emb.put])
                                (by unfold capRel; rw [if_neg (by omega)]; omega) hin (by simp [Emb.put]; exact hext)
                              simpa using this
                            · -- into new memory
                              obtain ⟨olds, ol, og⟩ := olds_there (w := w) (a := ⟨cb, co + 0, none⟩) (len * z) (fun j hj => by
                                have := (hex j (by omega)).1; simpa [Addr.add_lit] using this)
                              have hrun := (append_eq (P := P) (w := w) (ty := ty) hat hal hu hsz hpl hlenOf hfirst).2.2 hin z0 olds hz k5
                                (fun w' hw' => run_firstCells_some w' z len _ _ _ olds ol (fun j v hj => by rw [hw']; exact og j v hj))
                              have hge := grownCap_ge w (len + N) cap elem
                              refine grow_new H1 (cap := grownCap w (len + N) cap elem) (all := olds ++ new') (zs := (Builtin.zeroCells z0.cells (grownCap w (len + N) cap elem - (len + N))).toList) ?_ hge
                                (by rw [List.length_append, ol, hnl', Nat.add_mul]) rfl ?_ ?_ hrun
                              · rw [Array.length_toList, zeroCells_size, hzs]
                              · intro i v hi
                                rw [Tr.get_fill] at hi
                                split at hi
                                · rename_i hr
                                  obtain ⟨v', hv', hrel⟩ := hnew.get hi
                                  refine ⟨by omega, v', ?_, hrel⟩
                                  rw [List.getElem?_append_right (by omega), ol]
                                  exact hv'
                                · obtain ⟨q1, v', hv', hrel⟩ := e5 i v hi
                                  refine ⟨by omega, v', ?_, hrel⟩
                                  rw [List.getElem?_append_left (by omega)]
                                  have hil : i < olds.length := by omega
                                  have := og i olds[i] (by simp [hil])
                                  simp only [Addr.add_lit, Nat.add_zero] at this
                                  rw [hv'] at this
                                  rw [List.getElem?_eq_getElem hil, this]
                              · simp
                          · omega
                        · cases hop3
                      · cases hop3
                    · cases hop3
    · cases hop
  · cases hop

end
end Go.Ae
