/- The abstract evaluator: each operation that it does stands for the model's own. Part 9: maps. -/
import Derived.Test.YtkmjbiabhpfbpaaGreatDoorAe11
namespace Go.Ae
open Go Go.RowKit
set_option linter.unusedSectionVars false
variable [Ask]

section
variable {P : Program} {G : Nat} {B : Kp} {em : Emb} {h : AHeap} {w : World} {ρ ρ' : Operand → Value} {o : Oper} {r : ORes}

theorem getObj_run {r : Nat} {o : Obj} (h : w.heap[r]? = some o) (ho : ∀ c e f, o ≠ .cells c e f) : (getObj r).run P w = .ok o w := by
  cases o with
  | cells c e f => exact absurd rfl (ho c e f)
  | _ => simp only [getObj, Sem.run, h]
theorem setObj_run {r : Nat} {o o' : Obj} (h : w.heap[r]? = some o) (ho : ∀ c e f, o ≠ .cells c e f) : (setObj r o').run P w = .ok () { w with heap := w.heap.setIfInBounds r o' } := by
  cases o with
  | cells c e f => exact absurd rfl (ho c e f)
  | _ => simp only [setObj, Sem.run, h]

theorem EsRel.empty {em : Emb} {es es' : List MapEntry} (he : EsRel em es es') : es'.isEmpty = es.isEmpty := by cases he <;> rfl

theorem op_lookup (H : WRel G B em h w) {t : TypeId} {x y : Operand} {ok : Bool} (ho : o.op = .lookup t x y ok) (hx : VRel em (ρ x) (ρ' x)) (hy : VRel em (ρ y) (ρ' y)) (hop : opA0 P ρ o h = some r) :
    OpOk G B em h w ((execOp ρ' o).run P w) r := by
  simp only [opA0, ho] at hop
  obtain ⟨v, hv, rfl⟩ := Option.map_eq_some_iff.1 hop
  unfold lookupA at hv
  split at hv
  · rename_i key elem hu
    rw [Bool.cond_eq_ite] at hv
    split at hv
    · cases hv
    · rename_i hgk
      have hgk : groundKey (ρ y) = true := by simpa using hgk
      have ey := groundKey_eq hy hgk
      obtain ⟨es, hes, hv2⟩ := Option.bind_eq_some_iff.1 hv
      obtain ⟨u, hck, hv3⟩ := Option.bind_eq_some_iff.1 hv2
      obtain ⟨fr, hfr, hv4⟩ := Option.bind_eq_some_iff.1 hv3
      clear hv hv2 hv3
      -- the entries
      have hm : ∃ es' : Array MapEntry, EsRel em es es'.toList ∧ ((ρ' x = .map none ∧ es' = #[]) ∨ ∃ cb ck, ρ' x = .map (some cb) ∧ ∀ w0 : World, w0 = w → (getObj cb).run P w0 = .ok (.map es' ck) w0) := by
        split at hes
        · rename_i hxx
          rw [hxx] at hx
          cases hes
          exact ⟨#[], .nil, .inl ⟨mnil_inv hx, rfl⟩⟩
        · rename_i rr hxx
          rw [hxx] at hx
          obtain ⟨cb, hat, ex⟩ := map_inv hx
          split at hes
          · rename_i es0 ck hg
            cases hes
            obtain ⟨cb', es', h1, h2, h3, h4⟩ := H.maps _ _ _ hg
            rw [hat] at h1; cases h1
            exact ⟨es', h4, .inr ⟨cb, ck, ex, fun w0 e => by subst e; exact getObj_run h3 (by intros; simp)⟩⟩
          · cases hes
        · cases hes
      obtain ⟨es', hrel, hmrun⟩ := hm
      have hck' := pureRun_run P _ _ hck
      have hemp : es'.isEmpty = es.isEmpty := by
        have := hrel.empty
        rw [← this]
        cases es' with
        | mk l => cases l <;> rfl
      rw [← hemp] at hck'
      rcases findA_run hrel hfr with ⟨rfl, hfrun⟩ | ⟨j, v0, v', rfl, hvr, hfrun⟩
      · simp only at hv4
        obtain ⟨z, hz, rfl⟩ := Option.map_eq_some_iff.1 hv4
        obtain ⟨hzr, hzg⟩ := zeroA_run hz
        refine .here H (v' := if ok then .tuple #[z, .bool false] else z) ?_ ?_
        · cases ok
          · exact groundKey_refl hzg
          · exact tup2 (groundKey_refl hzg) (.bool _)
        · rcases hmrun with ⟨ex, rfl⟩ | ⟨cb, ck, ex, hmrun⟩
          · simp only [execOp, ho, Instr.lookup, ex, ey, Sem.run_bind, run_underlying hu, Result.andThen_ok, hck', hfrun, hzr, Sem.run_pure]
          · simp only [execOp, ho, Instr.lookup, ex, ey, Sem.run_bind, run_underlying hu, Result.andThen_ok, hmrun w rfl, hck', hfrun, hzr, Sem.run_pure]
      · simp only [Option.some.injEq] at hv4
        subst hv4
        refine .here H (v' := if ok then .tuple #[v', .bool true] else v') ?_ ?_
        · cases ok
          · exact hvr
          · exact tup2 hvr (.bool _)
        · rcases hmrun with ⟨ex, rfl⟩ | ⟨cb, ck, ex, hmrun⟩
          · simp only [execOp, ho, Instr.lookup, ex, ey, Sem.run_bind, run_underlying hu, Result.andThen_ok, hck', hfrun, Sem.run_pure]
          · simp only [execOp, ho, Instr.lookup, ex, ey, Sem.run_bind, run_underlying hu, Result.andThen_ok, hmrun w rfl, hck', hfrun, Sem.run_pure]
  · cases hv

theorem EsRel.modify {em : Emb} {f f' : MapEntry → MapEntry} (hf : ∀ e e', ERel em e e' → ERel em (f e) (f' e')) : ∀ {es es' : List MapEntry} (i : Nat), EsRel em es es' → EsRel em (es.modify i f) (es'.modify i f')
  | _, _, i, .nil => by simp [List.modify_nil]; exact .nil
  | _, _, 0, .cons he hl => .cons (hf _ _ he) hl
  | _, _, i + 1, .cons he hl => by simpa using EsRel.cons he (EsRel.modify hf i hl)
theorem EsRel.append {em : Emb} : ∀ {es es' fs fs' : List MapEntry}, EsRel em es es' → EsRel em fs fs' → EsRel em (es ++ fs) (es' ++ fs')
  | _, _, _, _, .nil, h => h
  | _, _, _, _, .cons he hl, h => .cons he (EsRel.append hl h)
theorem EsRel.erase {em : Emb} : ∀ {es es' : List MapEntry} (i : Nat), EsRel em es es' → EsRel em (es.eraseIdx i) (es'.eraseIdx i)
  | _, _, _, .nil => .nil
  | _, _, 0, .cons _ hl => hl
  | _, _, i + 1, .cons he hl => by simpa using EsRel.cons he (EsRel.erase i hl)
theorem EsRel.get {em : Emb} : ∀ {es es' : List MapEntry}, EsRel em es es' → ∀ (i : Nat), (es[i]? = none ∧ es'[i]? = none) ∨ ∃ e e', es[i]? = some e ∧ es'[i]? = some e' ∧ ERel em e e'
  | _, _, .nil, i => .inl ⟨rfl, rfl⟩
  | _, _, .cons he _, 0 => .inr ⟨_, _, rfl, rfl, he⟩
  | _, _, .cons _ hl, i + 1 => by simpa using EsRel.get hl i

/-- The key that stays. -/
theorem key_stays {em : Emb} {es : List MapEntry} {es' : Array MapEntry} (he : EsRel em es es'.toList) (i : Nat) (k : Value) : ((es'[i]?).map (·.key)).getD k = ((es[i]?).map (·.key)).getD k := by
  rw [← Array.getElem?_toList]
  rcases he.get i with ⟨h1, h2⟩ | ⟨e, e', h1, h2, h3⟩
  · rw [h1, h2]
  · rw [h1, h2]; simp [h3.key]

theorem keyStays_ground {old new k : Value} (h : pureRun P (Instr.keyThatStays old new) = some k) : k = new := by
  unfold Instr.keyThatStays at h
  split at h
  · simp [pureRun, Pure.pure] at h; exact h.symm
  · simp [pureRun, Bind.bind, Sem.bind, choose] at h

theorem op_mapUpdate (H : WRel G B em h w) {t : TypeId} {m k x : Operand} (ho : o.op = .mapUpdate t m k x) (hm : VRel em (ρ m) (ρ' m)) (hk : VRel em (ρ k) (ρ' k)) (hx : VRel em (ρ x) (ρ' x)) (hop : opA0 P ρ o h = some r) :
    OpOk G B em h w ((execOp ρ' o).run P w) r := by
  simp only [opA0, ho] at hop
  obtain ⟨h', hv, rfl⟩ := Option.map_eq_some_iff.1 hop
  unfold mapSetA at hv
  split at hv
  · rename_i key elem rr hu hmm
    rw [hmm] at hm
    obtain ⟨cb, hat, em1⟩ := map_inv hm
    rw [Bool.cond_eq_ite] at hv
    split at hv
    · cases hv
    · rename_i hgk
      have hgk : groundKey (ρ k) = true := by simpa using hgk
      have ek := groundKey_eq hk hgk
      split at hv
      · rename_i es ck hg
        obtain ⟨cb', es', h1, h2, h3, h4⟩ := H.maps _ _ _ hg
        rw [hat] at h1; cases h1
        obtain ⟨u, hck, hv2⟩ := Option.bind_eq_some_iff.1 hv
        obtain ⟨fr, hfr, hv3⟩ := Option.bind_eq_some_iff.1 hv2
        clear hv hv2
        have hck' := pureRun_run P _ _ hck
        have hget := getObj_run (P := P) h3 (by intros; simp)
        rcases findA_run h4 hfr with ⟨rfl, hfrun⟩ | ⟨j, v0, v', rfl, hvr, hfrun⟩
        · simp only [Option.some.injEq] at hv3
          subst hv3
          obtain ⟨H', hB⟩ := H.putObj (o' := .map (es ++ [{ key := ρ k, val := ρ x, born := ck }]) (ck + 1)) (c' := .map (es'.push { key := ρ k, val := ρ' x, born := ck }) (ck + 1)) hg hat h2 h3
            (by intros; simp) (by intros; simp) (by intros; simp) (by intros; simp)
            (by intro _ _ e; cases e; exact ⟨_, rfl, by rw [Array.toList_push]; exact h4.append (.cons ⟨rfl, hgk, rfl, hx⟩ .nil)⟩) (by intro _ _ e; cases e)
          refine .skip (.refl em) H' hB ?_
          simp only [execOp, ho, em1, ek, Instr.mapUpdate, Sem.run_bind, run_underlying hu, Result.andThen_ok, hget, hck', hfrun, setObj_run h3 (by intros; simp : ∀ c e f, Obj.map es' ck ≠ .cells c e f), Sem.run_pure]
        · simp only at hv3
          obtain ⟨k', hk', rfl⟩ := Option.map_eq_some_iff.1 hv3
          have hks := pureRun_run P _ _ hk'
          have hkk := keyStays_ground hk'
          subst hkk
          obtain ⟨H', hB⟩ := H.putObj (o' := .map (es.modify j fun e => { e with key := ρ k, val := ρ x }) ck) (c' := .map (es'.modify j fun e => { e with key := ρ k, val := ρ' x }) ck) hg hat h2 h3
            (by intros; simp) (by intros; simp) (by intros; simp) (by intros; simp)
            (by intro _ _ e; cases e; exact ⟨_, rfl, by rw [Array.toList_modify]; exact EsRel.modify (f := fun e => { e with key := ρ k, val := ρ x }) (f' := fun e => { e with key := ρ k, val := ρ' x }) (fun _ _ r => ⟨rfl, hgk, r.born, hx⟩) _ h4⟩) (by intro _ _ e; cases e)
          refine .skip (.refl em) H' hB ?_
          have hks' := fun w => hks w
          rw [← key_stays h4] at hks'
          simp only [execOp, ho, em1, ek, Instr.mapUpdate, Sem.run_bind, run_underlying hu, Result.andThen_ok, hget, hck', hfrun, hks', setObj_run h3 (by intros; simp : ∀ c e f, Obj.map es' ck ≠ .cells c e f), Sem.run_pure]
      · cases hv
  · cases hv

theorem op_mapEntry (H : WRel G B em h w) {t : TypeId} {m k : Operand} (ho : o.op = .mapEntry t m k) (hm : VRel em (ρ m) (ρ' m)) (hk : VRel em (ρ k) (ρ' k)) (hop : opA0 P ρ o h = some r) :
    OpOk G B em h w ((execOp ρ' o).run P w) r := by
  simp only [opA0, ho] at hop
  obtain ⟨⟨v, h'⟩, hv, rfl⟩ := Option.map_eq_some_iff.1 hop
  unfold mapEntryA at hv
  split at hv
  · rename_i key elem rr hu hmm
    rw [hmm] at hm
    obtain ⟨cb, hat, em1⟩ := map_inv hm
    rw [Bool.cond_eq_ite] at hv
    split at hv
    · cases hv
    · rename_i hgk
      have hgk : groundKey (ρ k) = true := by simpa using hgk
      have ek := groundKey_eq hk hgk
      split at hv
      · rename_i es ck hg
        obtain ⟨cb', es', h1, h2, h3, h4⟩ := H.maps _ _ _ hg
        rw [hat] at h1; cases h1
        obtain ⟨u, hck, hv2⟩ := Option.bind_eq_some_iff.1 hv
        obtain ⟨fr, hfr, hv3⟩ := Option.bind_eq_some_iff.1 hv2
        clear hv hv2
        have hck' := pureRun_run P _ _ hck
        have hget := getObj_run (P := P) h3 (by intros; simp)
        rcases findA_run h4 hfr with ⟨rfl, hfrun⟩ | ⟨j, v0, v', rfl, hvr, hfrun⟩
        · simp only at hv3
          obtain ⟨z, hz, e⟩ := Option.map_eq_some_iff.1 hv3
          cases e
          obtain ⟨hzr, hzg⟩ := zeroA_run hz
          obtain ⟨H', hB⟩ := H.putObj (o' := .map (es ++ [{ key := ρ k, val := z, born := ck }]) (ck + 1)) (c' := .map (es'.push { key := ρ k, val := z, born := ck }) (ck + 1)) hg hat h2 h3
            (by intros; simp) (by intros; simp) (by intros; simp) (by intros; simp)
            (by intro _ _ e; cases e; exact ⟨_, rfl, by rw [Array.toList_push]; exact h4.append (.cons ⟨rfl, hgk, rfl, groundKey_refl hzg⟩ .nil)⟩) (by intro _ _ e; cases e)
          refine .val (.refl em) H' hB (v' := .tuple #[z, goInt ck]) (tup2 (groundKey_refl hzg) (.int _ _)) ?_
          simp only [execOp, ho, em1, ek, Instr.mapEntry, Sem.run_bind, run_underlying hu, Result.andThen_ok, hget, hck', hfrun, hzr, setObj_run h3 (by intros; simp : ∀ c e f, Obj.map es' ck ≠ .cells c e f), Sem.run_pure]
        · simp only at hv3
          obtain ⟨k', hk', e⟩ := Option.map_eq_some_iff.1 hv3
          cases e
          have hks := pureRun_run P _ _ hk'
          have hkk := keyStays_ground hk'
          subst hkk
          obtain ⟨H', hB⟩ := H.putObj (o' := .map (es.modify j fun e => { e with key := ρ k }) ck) (c' := .map (es'.modify j fun e => { e with key := ρ k }) ck) hg hat h2 h3
            (by intros; simp) (by intros; simp) (by intros; simp) (by intros; simp)
            (by intro _ _ e; cases e; exact ⟨_, rfl, by rw [Array.toList_modify]; exact EsRel.modify (f := fun e => { e with key := ρ k }) (f' := fun e => { e with key := ρ k }) (fun _ _ r => ⟨rfl, hgk, r.born, r.val⟩) _ h4⟩) (by intro _ _ e; cases e)
          have hborn : ((es'[j]?).map fun (x : MapEntry) => (x.born : Int)).getD 0 = ((es[j]?).map fun (x : MapEntry) => (x.born : Int)).getD 0 := by
            rw [← Array.getElem?_toList]
            rcases h4.get j with ⟨q1, q2⟩ | ⟨e, e', q1, q2, q3⟩
            · rw [q1, q2]
            · rw [q1, q2]; simp [q3.born]
          refine .val (.refl em) H' hB (v' := .tuple #[v', goInt (((es[j]?).map fun (x : MapEntry) => (x.born : Int)).getD 0)]) (tup2 hvr (.int _ _)) ?_
          have hks' := fun w => hks w
          rw [← key_stays h4] at hks'
          simp only [execOp, ho, em1, ek, Instr.mapEntry, Sem.run_bind, run_underlying hu, Result.andThen_ok, hget, hck', hfrun, hks', setObj_run h3 (by intros; simp : ∀ c e f, Obj.map es' ck ≠ .cells c e f), Sem.run_pure, hborn]
      · cases hv
  · cases hv

theorem findIdx_rel {em : Emb} {f : MapEntry → Bool} (hf : ∀ e e', ERel em e e' → f e' = f e) : ∀ {es es' : List MapEntry}, EsRel em es es' → es'.findIdx? f = es.findIdx? f
  | _, _, .nil => rfl
  | _, _, .cons he hl => by simp only [List.findIdx?_cons, hf _ _ he, findIdx_rel hf hl]

theorem op_entryStore (H : WRel G B em h w) {t : TypeId} {m s x : Operand} (ho : o.op = .entryStore t m s x) (hm : VRel em (ρ m) (ρ' m)) (hs : VRel em (ρ s) (ρ' s)) (hx : VRel em (ρ x) (ρ' x)) (hop : opA0 P ρ o h = some r) :
    OpOk G B em h w ((execOp ρ' o).run P w) r := by
  simp only [opA0, ho] at hop
  obtain ⟨h', hv, rfl⟩ := Option.map_eq_some_iff.1 hop
  unfold entryStoreA at hv
  split at hv
  · rename_i rr kd born hmm hss
    rw [hmm] at hm
    rw [hss] at hs
    obtain ⟨cb, hat, em1⟩ := map_inv hm
    split at hv
    · rename_i es ck hg
      obtain ⟨cb', es', h1, h2, h3, h4⟩ := H.maps _ _ _ hg
      rw [hat] at h1; cases h1
      have hget := getObj_run (P := P) h3 (by intros; simp)
      split at hv
      · rename_i i hi
        cases hv
        have hi' : es'.findIdx? (fun e => (e.born : Int) == born) = some i := by
          have e0 : es' = es'.toList.toArray := by simp
          rw [e0, List.findIdx?_toArray]
          rw [findIdx_rel (em := em) (f := fun e => (e.born : Int) == born) (fun e e' r => by rw [r.born]) h4]
          exact hi
        obtain ⟨H', hB⟩ := H.putObj (o' := .map (es.modify i fun e => { e with val := ρ x }) ck) (c' := .map (es'.modify i fun e => { e with val := ρ' x }) ck) hg hat h2 h3
          (by intros; simp) (by intros; simp) (by intros; simp) (by intros; simp)
          (by intro _ _ e; cases e; exact ⟨_, rfl, by rw [Array.toList_modify]; exact EsRel.modify (f := fun e => { e with val := ρ x }) (f' := fun e => { e with val := ρ' x }) (fun _ _ r => ⟨r.key, r.gk, r.born, hx⟩) _ h4⟩) (by intro _ _ e; cases e)
        refine .skip (.refl em) H' hB ?_
        simp only [execOp, ho, em1, int_inv hs, Instr.entryStore, Sem.run_bind, Result.andThen_ok, hget, asInt, asIntOf, Sem.run_pure, hi', setObj_run h3 (by intros; simp : ∀ c e f, Obj.map es' ck ≠ .cells c e f)]
      · cases hv
    · cases hv
  · cases hv

theorem delete_ok (H : WRel G B em h w) {argTypes : Array TypeId} {args' : Array Value} {t : TypeId} {rest : List TypeId} {restv : List Value} {x x' k k' : Value} {h' : AHeap} {ty : TypeId} (hat : argTypes.toList = t :: rest) (hal : args'.toList = x' :: k' :: restv)
    (hop : deleteA P t x k h = some h') (hx : VRel em x x') (hk : VRel em k k') : ∃ w', WRel G B em h' w' ∧ Kept B w w' ∧ (Builtin.delete_ argTypes ty args').run P w = .ok (.tuple #[]) w' := by
  have g0 : argTypes[0]? = some t := by rw [← Array.getElem?_toList, hat]; rfl
  have a0 : args'[0]? = some x' := by rw [← Array.getElem?_toList, hal]; rfl
  have a1 : args'[1]? = some k' := by rw [← Array.getElem?_toList, hal]; rfl
  unfold deleteA at hop
  split at hop
  · rename_i key elem hu
    rw [Bool.cond_eq_ite] at hop
    split at hop
    · cases hop
    · rename_i hgk
      have hgk : groundKey k = true := by simpa using hgk
      have ek := groundKey_eq hk hgk
      obtain ⟨u, hck, rfl⟩ := Option.map_eq_some_iff.1 hop
      have hck' := pureRun_run P _ _ hck
      refine ⟨w, H, Kept.refl _ _, ?_⟩
      rw [mnil_inv hx] at a0
      rw [ek] at a1
      simp only [Builtin.delete_, g0, a0, a1, Sem.run_bind, run_underlying hu, Result.andThen_ok, hck', Sem.run_pure]
  · rename_i key elem rr hu
    rw [Bool.cond_eq_ite] at hop
    split at hop
    · cases hop
    · rename_i hgk
      have hgk : groundKey k = true := by simpa using hgk
      have ek := groundKey_eq hk hgk
      split at hop
      · rename_i es ck hg
        obtain ⟨cb, hat2, em1⟩ := map_inv hx
        obtain ⟨cb', es', h1, h2, h3, h4⟩ := H.maps _ _ _ hg
        rw [hat2] at h1; cases h1
        obtain ⟨u, hck, hv2⟩ := Option.bind_eq_some_iff.1 hop
        obtain ⟨fr, hfr, e⟩ := Option.map_eq_some_iff.1 hv2
        have hck' := pureRun_run P _ _ hck
        have hemp : es'.isEmpty = es.isEmpty := by
          have := h4.empty
          rw [← this]
          cases es' with
          | mk l => cases l <;> rfl
        rw [← hemp] at hck'
        have hget := getObj_run (P := P) h3 (by intros; simp)
        rw [em1] at a0
        rw [ek] at a1
        have hset : ∀ o', (setObj cb o').run P w = .ok () { w with heap := w.heap.setIfInBounds cb o' } := fun o' => setObj_run h3 (by intros; simp)
        rcases findA_run h4 hfr with ⟨rfl, hfrun⟩ | ⟨j, v0, v', rfl, hvr, hfrun⟩
        · simp only at e
          subst e
          obtain ⟨H', hB⟩ := H.putObj (o' := .map es ck) (c' := .map es' ck) hg hat2 h2 h3 (by intros; simp) (by intros; simp) (by intros; simp) (by intros; simp)
            (by intro _ _ e; cases e; exact ⟨_, rfl, h4⟩) (by intro _ _ e; cases e)
          refine ⟨_, H'.sub rfl (fun b o hb => ?_), hB, ?_⟩
          · simp only [AHeap.put]
            rw [Tr.get_set]
            split
            · subst_vars; rw [hg] at hb; exact hb
            · exact hb
          · simp only [Builtin.delete_, g0, a0, a1, Sem.run_bind, run_underlying hu, Result.andThen_ok, hget, hck', hfrun, hset, Sem.run_pure]
        · simp only at e
          subst e
          obtain ⟨H', hB⟩ := H.putObj (o' := .map (es.eraseIdx j) ck) (c' := .map (es'.eraseIdxIfInBounds j) ck) hg hat2 h2 h3 (by intros; simp) (by intros; simp) (by intros; simp) (by intros; simp)
            (by intro _ _ e; cases e; exact ⟨_, rfl, by rw [Array.toList_eraseIdxIfInBounds]; exact h4.erase j⟩) (by intro _ _ e; cases e)
          refine ⟨_, H', hB, ?_⟩
          simp only [Builtin.delete_, g0, a0, a1, Sem.run_bind, run_underlying hu, Result.andThen_ok, hget, hck', hfrun, hset, Sem.run_pure]
      · cases hop
  · cases hop

end
end Go.Ae
