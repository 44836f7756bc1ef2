/- The abstract evaluator: each operation that it does stands for the model's own. Part 1: helpers; operations without memory. -/
import Derived.Test.YtkmjbiabhpfbpaaGreatDoorAe3
namespace Go.Ae
open Go Go.RowKit
set_option linter.unusedSectionVars false
variable [Ask]

theorem pureRun_run {α : Type} (P : Program) : ∀ (e : Sem α) (a : α), pureRun P e = some a → ∀ w, e.run P w = .ok a w
  | .pure a, b, h, w => by simp [pureRun] at h; subst h; rfl
  | .program k, b, h, w => by simp only [pureRun] at h; simp only [Sem.run]; exact pureRun_run P (k P) b h w
  | .mark m k, b, h, w => by simp only [pureRun] at h; simp only [Sem.run]; exact pureRun_run P k b h w
  | .load .., _, h, _ => by simp [pureRun] at h
  | .store .., _, h, _ => by simp [pureRun] at h
  | .new .., _, h, _ => by simp [pureRun] at h
  | .shape .., _, h, _ => by simp [pureRun] at h
  | .freeze .., _, h, _ => by simp [pureRun] at h
  | .frozen .., _, h, _ => by simp [pureRun] at h
  | .getObj .., _, h, _ => by simp [pureRun] at h
  | .setObj .., _, h, _ => by simp [pureRun] at h
  | .choose .., _, h, _ => by simp [pureRun] at h
  | .sys .., _, h, _ => by simp [pureRun] at h
  | .halt .., _, h, _ => by simp [pureRun] at h

section
variable {P : Program} {G : Nat} {B : Kp} {em : Emb} {h : AHeap} {w : World}

theorem run_typeInfo {t : TypeId} {i : TypeInfo} (hi : P.info? t = some i) (w : World) : (typeInfo t).run P w = .ok i w := by
  simp [typeInfo, hi]
theorem sizeA_run {t : TypeId} {n : Nat} (hs : sizeA P t = some n) (w : World) : (sizeOf t).run P w = .ok n w := by
  unfold sizeA at hs
  obtain ⟨i, hi, rfl⟩ := Option.map_eq_some_iff.1 hs
  simp [sizeOf, run_typeInfo hi]
theorem zeroA_run {t : TypeId} {z : Value} (hz : zeroA P t = some z) : (∀ w, (zeroValue t).run P w = .ok z w) ∧ groundKey z = true := by
  unfold zeroA at hz
  obtain ⟨z', h1, h2⟩ := Option.bind_eq_some_iff.1 hz
  obtain ⟨i, hi, hz'⟩ := Option.bind_eq_some_iff.1 h1
  cases hg : groundKey z' with
  | false => simp [hg] at h2
  | true =>
    simp [hg] at h2; subst h2
    exact ⟨fun w => by simp [zeroValue, run_typeInfo hi, hz'], hg⟩
theorem groundKey_refl {v : Value} (hv : groundKey v = true) : VRel em v v := by
  unfold groundKey at hv
  split at hv
  · exact .agg (VsRel.ground_refl hv)
  · exact VRel.ground_refl hv
theorem groundKey_eq {v v' : Value} (r : VRel em v v') (hv : groundKey v = true) : v' = v := by
  unfold groundKey at hv
  split at hv
  · cases r with
    | agg ha => rw [show _ = _ from Array.ext' (ha.ground hv)]
  · exact r.ground hv

def aggD : TypeDesc → Bool
  | .struct _ | .array _ _ => true
  | _ => false
theorem isAgg_run {t : TypeId} {d : TypeDesc} (hu : P.underlying t = some d) (w : World) :
    (isAgg t).run P w = .ok (aggD d) w := by
  simp only [isAgg, Sem.run_bind, run_underlying hu, Result.andThen_ok]
  cases d <;> rfl

theorem loadA_run (H : WRel G B em h w) {t : TypeId} {b off : Nat} {v : Value} (hl : loadA P t b off h = some v) {cb co : Nat} (hat : em.at_ b = some (cb, co)) :
    ∃ v', VRel em v v' ∧ (loadVar t ⟨cb, co + off, none⟩).run P w = .ok v' w := by
  unfold loadA at hl
  cases hu : P.underlying t with
  | none => simp [hu] at hl
  | some d =>
    have hagg := fun w => isAgg_run (P := P) hu w
    have one : (∀ k, d ≠ .struct k) → (∀ k e, d ≠ .array k e) → ∃ v', VRel em v v' ∧ (loadVar t ⟨cb, co + off, none⟩).run P w = .ok v' w := by
      intro n1 n2
      have hl' : (match h.read b off 1 with | some (v :: _) => some v | _ => none) = some v := by
        rw [hu] at hl
        cases d <;> first | exact hl | exact absurd rfl (n1 _) | exact absurd rfl (n2 _ _)
      cases hr : h.read b off 1 with
      | none => simp [hr] at hl'
      | some l =>
        obtain ⟨hlen, l', hrel, hget⟩ := H.read_at hr hat
        match l, hrel, hlen with
        | [u], .cons (v' := u') hu' .nil, _ =>
          simp [hr] at hl'; subst hl'
          have := hget 0 u' rfl
          refine ⟨u', hu', ?_⟩
          have hfalse : aggD d = false := by
            cases d <;> first | rfl | exact absurd rfl (n1 _) | exact absurd rfl (n2 _ _)
          rw [Addr.add_zero'] at this
          simp [loadVar, hagg, hfalse, this]
    have many : aggD d = true → ((sizeA P t).bind fun n => (h.read b off n).map fun l => Value.agg ⟨l⟩) = some v →
        ∃ v', VRel em v v' ∧ (loadVar t ⟨cb, co + off, none⟩).run P w = .ok v' w := by
      intro htrue hl'
      obtain ⟨n, hn, hl2⟩ := Option.bind_eq_some_iff.1 hl'
      obtain ⟨l, hr, rfl⟩ := Option.map_eq_some_iff.1 hl2
      obtain ⟨hlen, l', hrel, hget⟩ := H.read_at hr hat
      refine ⟨.agg l'.toArray, .agg (by simpa using hrel), ?_⟩
      have hl3 := run_loadCells_list (P := P) w ⟨cb, co + off, none⟩ l' hget
      rw [← hrel.length, hlen] at hl3
      simp [loadVar, hagg, htrue, sizeA_run hn, hl3]
    cases d with
    | struct k => exact many rfl (by simpa [hu] using hl)
    | array k e => exact many rfl (by simpa [hu] using hl)
    | _ => exact one (by intros; simp) (by intros; simp)

theorem storeA_run (H : WRel G B em h w) {t : TypeId} {b off : Nat} {v v' : Value} {h' : AHeap} (hs : storeA P t b off v h = some h') (hv : VRel em v v') {cb co : Nat} (hat : em.at_ b = some (cb, co)) :
    ∃ w', (storeVar t ⟨cb, co + off, none⟩ v').run P w = .ok () w' ∧ WRel G B em h' w' ∧ Kept B w w' := by
  unfold storeA at hs
  obtain ⟨n, hn, hs2⟩ := Option.bind_eq_some_iff.1 hs
  cases hb : Nat.beq v.cells.size n with
  | false => simp [hb] at hs2
  | true =>
    simp [hb] at hs2
    have hsz : v.cells.size = n := Nat.eq_of_beq_eq_true hb
    have hc := hv.cells
    obtain ⟨cb', co', hat', e1, e2, e3, hw, hbel⟩ := H.write hs2 hc
    rw [hat] at hat'; cases hat'
    have hlen : v'.cells.size = n := by have := hc.length; simp at this; omega
    have hst := run_storeCells_cells (P := P) cb (co + off) v'.cells.toList 0 w (by simpa using e1) (by simpa using e2) e3
    refine ⟨_, ?_, hw, hbel⟩
    simp only [storeVar, Sem.run_bind, sizeA_run hn, Result.andThen_ok]
    simp [hlen]
    simpa using hst

/-! Pieces of values. -/
theorem VsRel.drop {em : Emb} : ∀ {l l' : List Value} (n : Nat), VsRel em l l' → VsRel em (l.drop n) (l'.drop n)
  | _, _, 0, r => by simpa using r
  | _, _, _ + 1, .nil => .nil
  | _, _, n + 1, .cons _ r => by simpa using VsRel.drop n r
theorem VsRel.take {em : Emb} : ∀ {l l' : List Value} (n : Nat), VsRel em l l' → VsRel em (l.take n) (l'.take n)
  | _, _, 0, _ => by simpa using VsRel.nil
  | _, _, _ + 1, .nil => .nil
  | _, _, n + 1, .cons h r => by simpa using VsRel.cons h (VsRel.take n r)
theorem VsRel.set {em : Emb} {v v' : Value} (hv : VRel em v v') : ∀ {l l' : List Value} (n : Nat), VsRel em l l' → VsRel em (l.set n v) (l'.set n v')
  | _, _, _, .nil => .nil
  | _, _, 0, .cons _ r => .cons hv r
  | _, _, n + 1, .cons h r => .cons h (VsRel.set hv n r)

theorem partA_run {t : TypeId} {cs cs' : Array Value} {off : Nat} {v : Value} (hp : partA P t cs.toList off = some v) (hc : VsRel em cs.toList cs'.toList) :
    ∃ v', VRel em v v' ∧ ∀ w, (part t cs' off).run P w = .ok v' w := by
  unfold partA at hp
  cases hu : P.underlying t with
  | none => simp [hu] at hp
  | some d =>
    have hagg := fun w => isAgg_run (P := P) hu w
    have one : (∀ k, d ≠ .struct k) → (∀ k e, d ≠ .array k e) → ∃ v', VRel em v v' ∧ ∀ w, (part t cs' off).run P w = .ok v' w := by
      intro n1 n2
      have hp' : cs.toList[off]? = some v := by
        rw [hu] at hp
        cases d <;> first | exact hp | exact absurd rfl (n1 _) | exact absurd rfl (n2 _ _)
      obtain ⟨v', hv', hr⟩ := hc.get hp'
      have hfalse : aggD d = false := by
        cases d <;> first | rfl | exact absurd rfl (n1 _) | exact absurd rfl (n2 _ _)
      refine ⟨v', hr, fun w => ?_⟩
      rw [Array.getElem?_toList] at hv'
      simp [part, hagg, hfalse, hv']
    have many : aggD d = true → ((sizeA P t).map fun n => Value.agg ⟨(cs.toList.drop off).take n⟩) = some v →
        ∃ v', VRel em v v' ∧ ∀ w, (part t cs' off).run P w = .ok v' w := by
      intro htrue hp'
      obtain ⟨n, hn, rfl⟩ := Option.map_eq_some_iff.1 hp'
      refine ⟨.agg (cs'.extract off (off + n)), .agg ?_, fun w => ?_⟩
      · have := (hc.drop off).take n
        rw [Array.toList_extract, List.extract_eq_take_drop]
        simpa using this
      · simp [part, hagg, htrue, sizeA_run hn]
    cases d with
    | struct k => exact many rfl (by simpa [hu] using hp)
    | array k e => exact many rfl (by simpa [hu] using hp)
    | _ => exact one (by intros; simp) (by intros; simp)

/-- The parts of a literal. -/
inductive PsRel (em : Emb) : List (Nat × Value) → List (Nat × Value) → Prop
  | nil : PsRel em [] []
  | cons {i : Nat} {v v' : Value} {l l' : List (Nat × Value)} : VRel em v v' → PsRel em l l' → PsRel em ((i, v) :: l) ((i, v') :: l')

theorem foldl_set_rel {em : Emb} : ∀ {l l' : List Value}, VsRel em l l' → ∀ (off k : Nat) {cs cs' : Array Value}, VsRel em cs.toList cs'.toList →
    VsRel em ((l.zipIdx k).foldl (fun (a : Array Value) (x : Value × Nat) => a.setIfInBounds (off + x.2) x.1) cs).toList ((l'.zipIdx k).foldl (fun (a : Array Value) (x : Value × Nat) => a.setIfInBounds (off + x.2) x.1) cs').toList
  | _, _, .nil, _, _, _, _, r => r
  | _, _, .cons hv hl, off, k, cs, cs', r => by
    simp only [List.zipIdx_cons, List.foldl_cons]
    refine foldl_set_rel hl off (k + 1) ?_
    simp only [Array.toList_setIfInBounds]
    exact r.set hv _

theorem fill_rel {em : Emb} (place : Nat → Option (Nat × Nat)) : ∀ {ps ps' : List (Nat × Value)}, PsRel em ps ps' → ∀ {cs cs' : Array Value} {r : Array Value}, VsRel em cs.toList cs'.toList →
    Instr.fill place cs ps = some r → ∃ r', Instr.fill place cs' ps' = some r' ∧ VsRel em r.toList r'.toList
  | _, _, .nil, cs, cs', r, hc, h => by simp [Instr.fill] at h; subst h; exact ⟨_, rfl, hc⟩
  | _, _, .cons (i := i) (v := v) (v' := v') hv hl, cs, cs', r, hc, h => by
    have e1 : v'.cells.size = v.cells.size := by have := hv.cells.length; simpa using this.symm
    have e2 : cs'.size = cs.size := by have := hc.length; simpa using this.symm
    simp only [Instr.fill] at h ⊢
    cases hp : place i with
    | none => simp [hp] at h
    | some x =>
      obtain ⟨off, size⟩ := x
      simp only [hp, e1, e2] at h ⊢
      split at h
      · cases h
      · rename_i hcond
        rw [if_neg hcond]
        refine fill_rel place hl ?_ h
        have := foldl_set_rel hv.cells off 0 hc
        simp only [← Array.foldl_toList, Array.toList_zipIdx] at this ⊢
        exact this

theorem placesA_run : ∀ {fs : List Field} {l : List (Nat × Nat)}, placesA P fs = some l → ∀ w, (fs.mapM (m := Sem) fun f => do pure (f.offset, ← sizeOf f.type)).run P w = .ok l w
  | [], l, h, w => by simp [placesA] at h; subst h; simp
  | f :: fs, l, h, w => by
    simp only [placesA] at h
    obtain ⟨n, hn, h2⟩ := Option.bind_eq_some_iff.1 h
    obtain ⟨l', hl', rfl⟩ := Option.map_eq_some_iff.1 h2
    simp only [List.mapM_cons, Sem.run_bind, sizeA_run hn, Result.andThen_ok, Sem.run_pure, placesA_run hl' w]

end
end Go.Ae
