/- The abstract evaluator: each operation that it does stands for the model's own: all together. -/
import Derived.Test.YtkmjbiabhpfbpaaGreatDoorAe13
namespace Go.Ae
open Go Go.RowKit
set_option linter.unusedSectionVars false
variable [Ask]

section
variable {P : Program} {G : Nat} {B : Kp} {em : Emb} {h : AHeap} {w : World} {ρ ρ' : Operand → Value} {o : Oper} {r : ORes}

theorem builtin_ok (H : WRel G B em h w) {b : Builtin} {argTypes : Array TypeId} {args args' : Array Value} {ty : TypeId} {consts : Array Bool} (hop : builtinA P b argTypes args h = some r) (ha : VsRel em args.toList args'.toList) :
    OpOk G B em h w ((builtin b argTypes ty consts args').run P w) r := by
  unfold builtinA at hop
  split at hop
  · obtain ⟨⟨v, h'⟩, hv, rfl⟩ := Option.map_eq_some_iff.1 hop
    obtain ⟨em', w', v', h1, h2, h3, h4, h5⟩ := (append_ok (P := P) (ty := ty) H hv ha).ok
    exact .val h1 h2 h3 h4 (by simp only [builtin, Sem.run_bind, h5, Result.andThen_ok]; rfl)
  · split at hop
    · rename_i t ts x xs hat hal
      obtain ⟨v, hv, rfl⟩ := Option.map_eq_some_iff.1 hop
      rw [hal] at ha
      generalize hal' : args'.toList = al' at ha
      match al', ha with
      | x' :: rest', .cons hx _ =>
        obtain ⟨h1, h2⟩ := len_ok (P := P) (ty := ty) H hat hal' hv hx
        exact .here H h1 (by simp only [builtin, Sem.run_bind, h2, Result.andThen_ok]; rfl)
    · cases hop
  · split at hop
    · rename_i t ts b0 n c xs hat hal
      rw [hal] at ha
      generalize hal' : args'.toList = al' at ha
      match al', ha with
      | x' :: rest', .cons hx _ =>
        have g0 : argTypes[0]? = some t := by rw [← Array.getElem?_toList, hat]; rfl
        have a0 : args'[0]? = some x' := by rw [← Array.getElem?_toList, hal']; rfl
        split at hop
        · rename_i e hu
          rw [Bool.cond_eq_ite] at hop
          split at hop
          · rename_i hs
            cases hop
            cases b0 with
            | none =>
              obtain ⟨rfl, rfl, rfl⟩ := snil_inv hx
              refine .here H (v' := goInt (capAtLeast 0)) (.int _ _) ?_
              simp only [builtin, Builtin.cap_, g0, a0, Sem.run_bind, run_underlying hu, Result.andThen_ok, Sem.run_pure]
              rfl
            | some a =>
              rcases slice_inv hx with ⟨b, off, cb, co, cap, rfl, _, hc, _, _, rfl⟩ | ⟨b, off, A, cap, rfl, rfl, rfl, rfl⟩
              · refine .here H (v' := goInt (capAtLeast c)) (.int _ _) ?_
                rw [capSure_eq hc hs] at a0
                simp only [builtin, Builtin.cap_, g0, a0, Sem.run_bind, run_underlying hu, Result.andThen_ok, Sem.run_pure]
              · simp [capSure, Nat.beq] at hs
          · cases hop
        · cases hop
    · cases hop
  · obtain ⟨⟨v, h'⟩, hv, rfl⟩ := Option.map_eq_some_iff.1 hop
    obtain ⟨em', w', v', h1, h2, h3, h4, h5⟩ := (copy_ok (P := P) (ty := ty) H hv ha).ok
    exact .val h1 h2 h3 h4 (by simp only [builtin, Sem.run_bind, h5, Result.andThen_ok]; rfl)
  · split at hop
    · rename_i t ts x k xs hat hal
      obtain ⟨h', hv, rfl⟩ := Option.map_eq_some_iff.1 hop
      rw [hal] at ha
      generalize hal' : args'.toList = al' at ha
      match al', ha with
      | x' :: k' :: rest', .cons hx (.cons hk _) =>
        obtain ⟨w', h1, h2, h3⟩ := delete_ok (P := P) (ty := ty) H hat hal' hv hx hk
        exact .val (.refl em) h1 h2 (.tuple .nil) (by simp only [builtin, Sem.run_bind, h3, Result.andThen_ok, Sem.run_pure])
    · cases hop
  · split at hop
    · rename_i t v hv
      cases hop
      have hlist : ∃ rest, args.toList = .iface t v :: rest := by
        cases hl : args.toList with
        | nil =>
          have : args = #[] := Array.ext' hl
          rw [this] at hv; simp at hv
        | cons a rest =>
          have : args = ⟨a :: rest⟩ := Array.ext' hl
          rw [this] at hv
          simp at hv; subst hv; exact ⟨rest, rfl⟩
      obtain ⟨rest, hl⟩ := hlist
      rw [hl] at ha
      generalize hal' : args'.toList = al' at ha
      match al', ha with
      | x' :: rest', .cons hx _ =>
        obtain ⟨u, hu, rfl⟩ := iface_inv hx
        have a0 : args'.getD 0 .nilIface = .iface t u := by
          have : args' = ⟨.iface t u :: rest'⟩ := Array.ext' hal'
          rw [this]; rfl
        exact .panic (.iface t hu) (by simp only [builtin, a0, Instr.panic, Sem.run_bind, run_goPanic, Result.andThen_halt])
    · cases hop
  · rw [Bool.cond_eq_ite] at hop
    split at hop
    · rename_i hg
      have e : args' = args := Array.ext' (ha.ground hg)
      subst e
      obtain ⟨v, hv, hop⟩ := Option.bind_eq_some_iff.1 hop
      have := pureRun_run P _ _ hv w
      refine groundRes_ok H hop rfl ?_
      have e : Builtin.max_ argTypes ty args' = Builtin.max_ argTypes 0 args' := rfl
      simp only [builtin, Sem.run_bind, e, this, Result.andThen_ok]; rfl
    · cases hop
  · rw [Bool.cond_eq_ite] at hop
    split at hop
    · rename_i hg
      have e : args' = args := Array.ext' (ha.ground hg)
      subst e
      obtain ⟨v, hv, hop⟩ := Option.bind_eq_some_iff.1 hop
      have := pureRun_run P _ _ hv w
      refine groundRes_ok H hop rfl ?_
      have e : Builtin.min_ argTypes ty args' = Builtin.min_ argTypes 0 args' := rfl
      simp only [builtin, Sem.run_bind, e, this, Result.andThen_ok]; rfl
    · cases hop
  · cases hop

theorem opA0_ok (H : WRel G B em h w) (hρ : ∀ x ∈ o.op.operands.toList, VRel em (ρ x) (ρ' x)) (hop : opA0 P ρ o h = some r) : OpOk G B em h w ((execOp ρ' o).run P w) r := by
  cases ho : o.op with
  | move x => rw [ho] at hρ; exact op_move H (.inl ho) (hρ x (by simp [Op.operands])) hop
  | assign x => rw [ho] at hρ; exact op_move H (.inr ho) (hρ x (by simp [Op.operands])) hop
  | pick c a b => rw [ho] at hρ; exact op_pick H ho (hρ c (by simp [Op.operands])) (hρ a (by simp [Op.operands])) (hρ b (by simp [Op.operands])) hop
  | alloc e => exact op_alloc H ho hop
  | box e x => rw [ho] at hρ; exact op_box H ho (hρ x (by simp [Op.operands])) hop
  | build t ps => rw [ho] at hρ; exact op_build H ho (fun x hx => hρ x.2 (by simp only [Op.operands, List.mem_map]; exact ⟨x, hx, rfl⟩)) hop
  | buildSlice t n ps => rw [ho] at hρ; exact op_buildSlice H ho (fun x hx => hρ x.2 (by simp only [Op.operands, List.mem_map]; exact ⟨x, hx, rfl⟩)) hop
  | load t x => rw [ho] at hρ; exact op_load H ho (hρ x (by simp [Op.operands])) hop
  | store t x y => rw [ho] at hρ; exact op_store H ho (hρ x (by simp [Op.operands])) (hρ y (by simp [Op.operands])) hop
  | nilCheck x => rw [ho] at hρ; exact op_nilCheck H ho (hρ x (by simp [Op.operands])) hop
  | binOp op t x y ty => rw [ho] at hρ; exact op_binOp H ho (hρ x (by simp [Op.operands])) (hρ y (by simp [Op.operands])) hop
  | unOp op t x => rw [ho] at hρ; exact op_unOp H ho (hρ x (by simp [Op.operands])) hop
  | convert s d x => rw [ho] at hρ; exact op_convert H ho (hρ x (by simp [Op.operands])) hop
  | makeInterface t x => rw [ho] at hρ; exact op_makeInterface H ho (hρ x (by simp [Op.operands])) hop
  | makeFunc fn a c => rw [ho] at hρ; exact op_makeFunc H ho (fun x hx => hρ x (by simp [Op.operands]; exact .inl (by simpa using hx))) (fun x hx => hρ x (by simp [Op.operands]; exact .inr (by simpa using hx))) hop
  | makeMap t x => rw [ho] at hρ; exact op_makeMap H ho (fun y hy => hρ y (by simp [Op.operands, hy])) hop
  | makeSlice t x y => rw [ho] at hρ; exact op_makeSlice H ho (hρ x (by simp [Op.operands])) (hρ y (by simp [Op.operands])) hop
  | slice t x lo hi mx => rw [ho] at hρ; exact op_slice H ho (hρ x (by simp [Op.operands])) (fun y hy => hρ y (by simp [Op.operands, hy])) (fun y hy => hρ y (by simp [Op.operands, hy])) (fun y hy => hρ y (by simp [Op.operands, hy])) hop
  | fieldAddr s x f => rw [ho] at hρ; exact op_fieldAddr H ho (hρ x (by simp [Op.operands])) hop
  | field s x f => rw [ho] at hρ; exact op_field H ho (hρ x (by simp [Op.operands])) hop
  | indexAddr t x y => rw [ho] at hρ; exact op_indexAddr H ho (hρ x (by simp [Op.operands])) (hρ y (by simp [Op.operands])) hop
  | index t x y => rw [ho] at hρ; exact op_index H ho (hρ x (by simp [Op.operands])) (hρ y (by simp [Op.operands])) hop
  | lookup t x y ok => rw [ho] at hρ; exact op_lookup H ho (hρ x (by simp [Op.operands])) (hρ y (by simp [Op.operands])) hop
  | mapUpdate t m k x => rw [ho] at hρ; exact op_mapUpdate H ho (hρ m (by simp [Op.operands])) (hρ k (by simp [Op.operands])) (hρ x (by simp [Op.operands])) hop
  | mapEntry t m k => rw [ho] at hρ; exact op_mapEntry H ho (hρ m (by simp [Op.operands])) (hρ k (by simp [Op.operands])) hop
  | entryStore t m s x => rw [ho] at hρ; exact op_entryStore H ho (hρ m (by simp [Op.operands])) (hρ s (by simp [Op.operands])) (hρ x (by simp [Op.operands])) hop
  | range t x => rw [ho] at hρ; exact op_range H ho (hρ x (by simp [Op.operands])) hop
  | next x s => rw [ho] at hρ; exact op_next H ho (hρ x (by simp [Op.operands])) hop
  | typeAssert x t a ok => rw [ho] at hρ; exact op_typeAssert H ho (hρ x (by simp [Op.operands])) hop
  | extract x i => rw [ho] at hρ; exact op_extract H ho (hρ x (by simp [Op.operands])) hop
  | call c =>
    rw [ho] at hρ
    have hρ' : ∀ x ∈ c.operands.toList, VRel em (ρ x) (ρ' x) := hρ
    simp only [opA0, ho] at hop
    split at hop
    · rename_i b hc
      have hargs : VsRel em (c.args.map ρ).toList (c.args.map ρ').toList := by
        simpa using map_rel (em := em) (ρ := ρ) (ρ' := ρ') (l := c.args.toList) fun x hx => hρ' x (by
          unfold Call.operands; simp only [Array.toList_append]; exact List.mem_append_right _ hx)
      have := builtin_ok (P := P) (ty := o.type) (consts := c.args.map fun | .const _ => true | _ => false) H hop hargs
      simp only [execOp, ho, resolve, hc, Sem.run_bind, Sem.run_pure, Result.andThen_ok, invoke]
      exact this
    · obtain ⟨d, hd, hop⟩ := Option.bind_eq_some_iff.1 hop
      obtain ⟨d', hrel, hres⟩ := resolve_ok hd hρ'
      have := invoke_ok (P := P) (w := w) H hop hrel
      simp only [execOp, ho, hres, Sem.run_bind, Sem.run_pure, Result.andThen_ok]
      exact this
  | defer c =>
    rw [ho] at hρ
    simp only [opA0, ho] at hop
    obtain ⟨d, hd, rfl⟩ := Option.map_eq_some_iff.1 hop
    obtain ⟨d', hrel, hres⟩ := resolve_ok hd hρ
    exact .dfr hrel (by simp only [execOp, ho, hres, Sem.run_bind, Sem.run_pure, Result.andThen_ok])
  | panic x =>
    rw [ho] at hρ
    have hx := hρ x (by simp [Op.operands])
    simp only [opA0, ho] at hop
    split at hop
    · rename_i t v hxx
      rw [hxx] at hx
      cases hop
      obtain ⟨u, hu, e⟩ := iface_inv hx
      exact .panic (.iface t hu) (by simp only [execOp, ho, e, Instr.panic, Sem.run_bind, run_goPanic, Result.andThen_halt])
    · cases hop
  | _ => simp [opA0, ho] at hop

theorem inst_rel {v : Value} (hf : flat v = true) : VRel em v (inst em.tok v) := by
  unfold flat at hf
  split at hf
  · exact .tok _
  · rename_i hn
    have : inst em.tok v = v := by
      unfold inst
      split
      · exact absurd rfl (hn _)
      · rfl
    rw [this]
    exact VRel.ground_refl hf
theorem flat_inv {v v' : Value} (hf : flat v = true) (r : VRel em v v') : v' = inst em.tok v := by
  unfold flat at hf
  split at hf
  · cases r; rfl
  · rename_i hn
    have : inst em.tok v = v := by
      unfold inst
      split
      · exact absurd rfl (hn _)
      · rfl
    rw [this]
    exact r.ground hf

theorem opA_ok (H : WRel G B em h w) (hρ : ∀ x ∈ o.op.operands.toList, VRel em (ρ x) (ρ' x)) (hop : opA P ρ o h = some r) : OpOk G B em h w ((execOp ρ' o).run P w) r := by
  unfold opA at hop
  cases ha : askable o.op with
  | false => rw [ha] at hop; exact opA0_ok H hρ hop
  | true =>
    rw [ha] at hop
    simp only [cond_true] at hop
    cases hq : Ask.ask P o.op ρ with
    | none => rw [hq] at hop; exact opA0_ok H hρ hop
    | some v =>
      rw [hq] at hop
      simp only at hop
      cases hf : flat v with
      | false => rw [hf] at hop; cases hop
      | true =>
        rw [hf] at hop
        cases hop
        exact .val (.refl em) H (Kept.refl _ _) (inst_rel hf) (em.said P o ρ ρ' v hq (fun x hx hfx => flat_inv hfx (hρ x hx)) w)

end
end Go.Ae
