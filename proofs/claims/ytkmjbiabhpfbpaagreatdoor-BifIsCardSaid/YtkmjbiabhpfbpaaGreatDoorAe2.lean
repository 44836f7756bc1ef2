/- The abstract evaluator: how an abstract heap stands to a world, and what reading, writing and making blocks does to that. -/
import Derived.Test.YtkmjbiabhpfbpaaGreatDoorAe1
import Derived.WalkKit
import Derived.Laws.IdiomCopy
namespace Go.Ae
open Go Go.RowKit
set_option linter.unusedSectionVars false
variable [Ask]

/-- What a value that is only handed on stands for. -/
def inst (tok : Nat → Value) : Value → Value
  | .chan (some k) => tok k
  | v => v

/-- What 'ask' tells, the model's operation tells. -/
def AskOk (tok : Nat → Value) : Prop :=
  ∀ (P : Program) (o : Oper) (ρ ρ' : Operand → Value) (v : Value), Ask.ask P o.op ρ = some v → (∀ x ∈ o.op.operands.toList, flat (ρ x) = true → ρ' x = inst tok (ρ x)) →
    ∀ w, (execOp ρ' o).run P w = .ok (.value (inst tok v)) w

/-- Where the abstract blocks lie; how many cells each row has in all; how many an element has; what the tokens stand for. -/
structure Emb where
  at_ : Nat → Option (Nat × Nat)
  ext : Nat → Nat
  esz : Nat → Nat
  tok : Nat → Value
  one : ∀ k, (tok k).oneCell' = true
  said : AskOk tok

def capRel (c cap : Nat) : Prop := if c % 2 = 0 then cap = c / 2 else c / 2 ≤ cap

mutual
inductive VRel (em : Emb) : Value → Value → Prop
  | bool (b : Bool) : VRel em (.bool b) (.bool b)
  | int (k : IntKind) (n : Int) : VRel em (.int k n) (.int k n)
  | float (k : FloatKind) (n : Nat) : VRel em (.float k n) (.float k n)
  | string (s : ByteArray) : VRel em (.string s) (.string s)
  | ptrNil : VRel em (.pointer none) (.pointer none)
  | ptr {b cb co : Nat} (off : Nat) : em.at_ b = some (cb, co) → VRel em (.pointer (some ⟨b, off, none⟩)) (.pointer (some ⟨cb, co + off, none⟩))
  | sliceNil : VRel em (.slice none 0 0) (.slice none 0 0)
  | slice {b cb co c cap len : Nat} (off : Nat) : em.at_ b = some (cb, co) → capRel c cap → len ≤ cap → off + cap * em.esz b ≤ em.ext b →
      VRel em (.slice (some ⟨b, off, none⟩) len c) (.slice (some ⟨cb, co + off, none⟩) len cap)
  | sliceEnd (b off : Nat) (a : Addr) (cap : Nat) : VRel em (.slice (some ⟨b, off, none⟩) 0 1) (.slice (some a) 0 cap)
  | mapNil : VRel em (.map none) (.map none)
  | map {r cb : Nat} : em.at_ r = some (cb, 0) → VRel em (.map (some r)) (.map (some cb))
  | func (fn : Fn) {a a' c c' : Array Value} : VsRel em a.toList a'.toList → VsRel em c.toList c'.toList → VRel em (.func fn a c) (.func fn a' c')
  | nilFunc : VRel em .nilFunc .nilFunc
  | nilIface : VRel em .nilIface .nilIface
  | iface (t : TypeId) {v v' : Value} : VRel em v v' → VRel em (.iface t v) (.iface t v')
  | agg {a a' : Array Value} : VsRel em a.toList a'.toList → VRel em (.agg a) (.agg a')
  | tuple {a a' : Array Value} : VsRel em a.toList a'.toList → VRel em (.tuple a) (.tuple a')
  | tok (k : Nat) : VRel em (.chan (some k)) (em.tok k)
inductive VsRel (em : Emb) : List Value → List Value → Prop
  | nil : VsRel em [] []
  | cons {v v' : Value} {l l' : List Value} : VRel em v v' → VsRel em l l' → VsRel em (v :: l) (v' :: l')
end

structure Emb.Le (e e' : Emb) : Prop where
  at_ : ∀ b x, e.at_ b = some x → e'.at_ b = some x ∧ e'.ext b = e.ext b ∧ e'.esz b = e.esz b
  tok : e'.tok = e.tok

theorem Emb.Le.refl (e : Emb) : e.Le e := ⟨fun _ _ h => ⟨h, rfl, rfl⟩, rfl⟩
theorem Emb.Le.trans {a b c : Emb} (h : a.Le b) (k : b.Le c) : a.Le c :=
  ⟨fun i x hx => let ⟨h1, h2, h3⟩ := h.at_ i x hx; let ⟨k1, k2, k3⟩ := k.at_ i x h1; ⟨k1, k2.trans h2, k3.trans h3⟩, k.tok.trans h.tok⟩

mutual
theorem VRel.mono {e e' : Emb} (h : e.Le e') : ∀ {v v' : Value}, VRel e v v' → VRel e' v v'
  | _, _, .bool b => .bool b
  | _, _, .int k n => .int k n
  | _, _, .float k n => .float k n
  | _, _, .string s => .string s
  | _, _, .ptrNil => .ptrNil
  | _, _, .ptr off hb => .ptr off (h.at_ _ _ hb).1
  | _, _, .sliceNil => .sliceNil
  | _, _, .slice off hb hc hl hx => .slice off (h.at_ _ _ hb).1 hc hl (by rw [(h.at_ _ _ hb).2.1, (h.at_ _ _ hb).2.2]; exact hx)
  | _, _, .sliceEnd b off a cap => .sliceEnd b off a cap
  | _, _, .mapNil => .mapNil
  | _, _, .map hb => .map (h.at_ _ _ hb).1
  | _, _, .func fn ha hc => .func fn (VsRel.mono h ha) (VsRel.mono h hc)
  | _, _, .nilFunc => .nilFunc
  | _, _, .nilIface => .nilIface
  | _, _, .iface t hv => .iface t (VRel.mono h hv)
  | _, _, .agg ha => .agg (VsRel.mono h ha)
  | _, _, .tuple ha => .tuple (VsRel.mono h ha)
  | _, _, .tok k => h.tok ▸ .tok k
theorem VsRel.mono {e e' : Emb} (h : e.Le e') : ∀ {l l' : List Value}, VsRel e l l' → VsRel e' l l'
  | _, _, .nil => .nil
  | _, _, .cons hv hl => .cons (VRel.mono h hv) (VsRel.mono h hl)
end

theorem VsRel.length {em : Emb} : ∀ {l l' : List Value}, VsRel em l l' → l.length = l'.length
  | _, _, .nil => rfl
  | _, _, .cons _ h => by simp [VsRel.length h]
theorem VsRel.get {em : Emb} : ∀ {l l' : List Value}, VsRel em l l' → ∀ {i : Nat} {v : Value}, l[i]? = some v → ∃ v', l'[i]? = some v' ∧ VRel em v v'
  | _, _, .nil, _, _, h => by simp at h
  | _, _, .cons hv _, 0, _, h => by simp at h; subst h; exact ⟨_, rfl, hv⟩
  | _, _, .cons _ hl, i + 1, _, h => by simpa using VsRel.get hl (by simpa using h)
theorem VsRel.append {em : Emb} : ∀ {l l' k k' : List Value}, VsRel em l l' → VsRel em k k' → VsRel em (l ++ k) (l' ++ k')
  | _, _, _, _, .nil, h => h
  | _, _, _, _, .cons hv hl, h => .cons hv (VsRel.append hl h)
theorem VsRel.of_get {em : Emb} : ∀ {l l' : List Value}, l.length = l'.length → (∀ (i : Nat) (v v' : Value), l[i]? = some v → l'[i]? = some v' → VRel em v v') → VsRel em l l'
  | [], [], _, _ => .nil
  | [], _ :: _, h, _ => by simp at h
  | _ :: _, [], h, _ => by simp at h
  | _ :: _, _ :: _, h, f => .cons (f 0 _ _ rfl rfl) (VsRel.of_get (by simpa using h) fun i v v' hv hv' => f (i + 1) v v' (by simpa using hv) (by simpa using hv'))
theorem VsRel.map {em : Emb} {α : Type} (f g : α → Value) : ∀ (l : List α), (∀ x ∈ l, VRel em (f x) (g x)) → VsRel em (l.map f) (l.map g)
  | [], _ => .nil
  | x :: l, h => .cons (h x (by simp)) (VsRel.map f g l fun y hy => h y (by simp [hy]))

theorem VRel.ground_refl {em : Emb} {v : Value} (h : ground v = true) : VRel em v v := by
  unfold ground at h
  split at h <;> first | (cases h; done) | constructor
theorem VRel.ground {em : Emb} {v v' : Value} (h : VRel em v v') (g : Ae.ground v = true) : v' = v := by
  cases h <;> first | rfl | (simp [Ae.ground] at g)
theorem VsRel.ground {em : Emb} : ∀ {l l' : List Value}, VsRel em l l' → l.all Ae.ground = true → l' = l
  | _, _, .nil, _ => rfl
  | _, _, .cons hv hl, g => by
    simp only [List.all_cons, Bool.and_eq_true] at g
    rw [hv.ground g.1, VsRel.ground hl g.2]
theorem VsRel.ground_refl {em : Emb} : ∀ {l : List Value}, l.all Ae.ground = true → VsRel em l l
  | [], _ => .nil
  | _ :: _, g => by simp only [List.all_cons, Bool.and_eq_true] at g; exact .cons (VRel.ground_refl g.1) (VsRel.ground_refl g.2)

theorem VRel.one {em : Emb} {v v' : Value} (h : VRel em v v') : v'.oneCell' = v.oneCell' := by
  cases h <;> first | rfl | exact em.one _
theorem VsRel.one {em : Emb} : ∀ {l l' : List Value}, VsRel em l l' → l'.all (·.oneCell') = l.all (·.oneCell')
  | _, _, .nil => rfl
  | _, _, .cons hv hl => by simp [hv.one, VsRel.one hl]
theorem cells_one {v : Value} (h : v.oneCell' = true) : v.cells = #[v] := by
  cases v <;> first | rfl | simp [Value.oneCell'] at h
theorem VRel.cells {em : Emb} {v v' : Value} (h : VRel em v v') : VsRel em v.cells.toList v'.cells.toList := by
  cases h with
  | agg ha => exact ha
  | tuple ha => exact .cons (.tuple ha) .nil
  | tok k => rw [cells_one (em.one k)]; exact .cons (.tok k) .nil
  | func fn ha hc => exact .cons (.func fn ha hc) .nil
  | iface t hv => exact .cons (.iface t hv) .nil
  | ptr off hb => exact .cons (.ptr off hb) .nil
  | slice off hb hc hl hx => exact .cons (.slice off hb hc hl hx) .nil
  | map hb => exact .cons (.map hb) .nil
  | bool b => exact .cons (.bool b) .nil
  | int k n => exact .cons (.int k n) .nil
  | float k n => exact .cons (.float k n) .nil
  | string s => exact .cons (.string s) .nil
  | ptrNil => exact .cons .ptrNil .nil
  | sliceNil => exact .cons .sliceNil .nil
  | sliceEnd b off a cap => exact .cons (.sliceEnd b off a cap) .nil
  | mapNil => exact .cons .mapNil .nil
  | nilFunc => exact .cons .nilFunc .nil
  | nilIface => exact .cons .nilIface .nil

/-! The tree of cells. -/
theorem Tr.get_setF {α : Type} (x : Option α) : ∀ (f n : Nat) (t : Tr α), n < f → ∀ m, (Tr.setF f t n x).get m = if m = n then x else t.get m
  | 0, _, _, h, _ => by omega
  | f + 1, n, t, h, m => by
    have hdiv : n / 2 ≤ n := Nat.div_le_self _ _
    have key : ∀ (l r : Tr α) (v : Option α),
        (bif Nat.beq n 0 then Tr.node l x r else bif Nat.beq (Nat.mod n 2) 1 then Tr.node (Tr.setF f l (Nat.div n 2) x) v r else Tr.node l v (Tr.setF f r (Nat.pred (Nat.div n 2)) x)).get m =
          if m = n then x else (Tr.node l v r).get m := by
      intro l r v
      by_cases h0 : n = 0
      · subst h0
        by_cases hm : m = 0
        · subst hm; simp [Tr.get]
        · have : Nat.beq m 0 = false := by cases m <;> simp_all [Nat.beq]
          simp [Tr.get, this, hm]
      · have hb0 : Nat.beq n 0 = false := by cases n <;> simp_all [Nat.beq]
        rw [hb0]; simp only [cond_false]
        have hn2 : Nat.div n 2 < n := Nat.div_lt_self (by omega) (by omega)
        have e2 : ∀ k, Nat.div k 2 = k / 2 := fun _ => rfl
        have e3 : ∀ k, Nat.mod k 2 = k % 2 := fun _ => rfl
        by_cases h1 : Nat.beq (Nat.mod n 2) 1 = true
        · rw [h1]; simp only [cond_true]
          have h1' : n % 2 = 1 := by have := Nat.eq_of_beq_eq_true h1; exact this
          by_cases hm0 : m = 0
          · subst hm0; simp [Tr.get]; intro h; exact absurd h.symm h0
          · have hbm : Nat.beq m 0 = false := by cases m <;> simp_all [Nat.beq]
            simp only [Tr.get, hbm, cond_false]
            by_cases hm1 : Nat.beq (Nat.mod m 2) 1 = true
            · rw [hm1]; simp only [cond_true]
              rw [Tr.get_setF x f (Nat.div n 2) l (by omega)]
              have : m % 2 = 1 := Nat.eq_of_beq_eq_true hm1
              simp only [e2]
              congr 1
              apply propext; constructor <;> intro h <;> omega
            · have : Nat.beq (Nat.mod m 2) 1 = false := Bool.eq_false_iff.2 hm1
              rw [this]; simp only [cond_false]
              have hm2 : m % 2 ≠ 1 := fun e => by have e' : Nat.mod m 2 = 1 := e; rw [e'] at this; simp [Nat.beq] at this
              rw [if_neg (by omega)]
        · have h1b : Nat.beq (Nat.mod n 2) 1 = false := Bool.eq_false_iff.2 h1
          rw [h1b]; simp only [cond_false]
          have h1' : n % 2 ≠ 1 := fun e => by have e' : Nat.mod n 2 = 1 := e; rw [e'] at h1b; simp [Nat.beq] at h1b
          by_cases hm0 : m = 0
          · subst hm0; simp [Tr.get]; intro h; exact absurd h.symm h0
          · have hbm : Nat.beq m 0 = false := by cases m <;> simp_all [Nat.beq]
            simp only [Tr.get, hbm, cond_false]
            by_cases hm1 : Nat.beq (Nat.mod m 2) 1 = true
            · rw [hm1]; simp only [cond_true]
              have : m % 2 = 1 := Nat.eq_of_beq_eq_true hm1
              rw [if_neg (by omega)]
            · have hmb : Nat.beq (Nat.mod m 2) 1 = false := Bool.eq_false_iff.2 hm1
              rw [hmb]; simp only [cond_false]
              have hm2 : m % 2 ≠ 1 := fun e => by have e' : Nat.mod m 2 = 1 := e; rw [e'] at hmb; simp [Nat.beq] at hmb
              rw [Tr.get_setF x f (Nat.pred (Nat.div n 2)) r (by simp only [e2, Nat.pred_eq_sub_one] at *; omega)]
              simp only [e2, Nat.pred_eq_sub_one]
              congr 1
              apply propext; constructor <;> intro h <;> omega
    cases t with
    | node l v r => exact key l r v
    | nil =>
      have := key .nil .nil none
      simp only [Tr.setF]
      rw [this]
      split
      · rfl
      · simp [Tr.get]

theorem Tr.get_set {α : Type} (t : Tr α) (n : Nat) (x : α) (m : Nat) : (t.set n x).get m = if m = n then some x else t.get m := Tr.get_setF _ _ _ _ (by omega) _
theorem Tr.get_erase {α : Type} (t : Tr α) (n : Nat) (m : Nat) : (t.erase n).get m = if m = n then none else t.get m := Tr.get_setF _ _ _ _ (by omega) _
theorem Tr.get_fill {α : Type} : ∀ (l : List α) (i : Nat) (t : Tr α) (m : Nat), (Tr.fill l i t).get m = if i ≤ m ∧ m < i + l.length then l[m - i]? else t.get m
  | [], i, t, m => by simp only [Tr.fill]; rw [if_neg (by simp only [List.length_nil]; omega)]
  | v :: vs, i, t, m => by
    rw [Tr.fill, Tr.get_fill vs (i + 1), Tr.get_set]
    by_cases h : m = i
    · subst h; rw [if_neg (by omega), if_pos rfl, if_pos (by simp)]; simp
    · by_cases h2 : i + 1 ≤ m ∧ m < i + 1 + vs.length
      · rw [if_pos h2, if_pos (by simp; omega)]
        rw [show m - i = (m - (i + 1)) + 1 by omega]; simp
      · rw [if_neg h2, if_neg h, if_neg (by simp; omega)]
theorem Tr.get_of {α : Type} (l : List α) (m : Nat) : (Tr.of l).get m = l[m]? := by
  rw [Tr.of, Tr.get_fill]
  by_cases h : m < l.length
  · rw [if_pos (by omega)]; simp
  · rw [if_neg (by omega)]; simp [Tr.get]; omega

theorem readCells_get {c : Tr Value} : ∀ {n off : Nat} {l : List Value}, readCells c off n = some l → l.length = n ∧ ∀ j v, l[j]? = some v → c.get (off + j) = some v
  | 0, off, l, h => by simp [readCells] at h; subst h; simp
  | n + 1, off, l, h => by
    simp only [readCells, Option.bind_eq_some_iff, Option.map_eq_some_iff] at h
    obtain ⟨v, hv, l', hl, rfl⟩ := h
    obtain ⟨h1, h2⟩ := readCells_get hl
    refine ⟨by simp [h1], ?_⟩
    intro j u hu
    cases j with
    | zero => simp at hu; subst hu; simpa using hv
    | succ j => have := h2 j u (by simpa using hu); rwa [show off + 1 + j = off + (j + 1) by omega] at this
end Go.Ae
