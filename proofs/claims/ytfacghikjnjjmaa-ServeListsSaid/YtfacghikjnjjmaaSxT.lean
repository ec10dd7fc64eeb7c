/- Loops by templates of their heads' states: variables, environments with values for them, terms put for variables. -/
import Derived.Test.YtfacghikjnjjmaaSxS
namespace Go.SX
open Go
set_option linter.unusedSectionVars false
/-- names from here on are a template's variables -/
def TB : Nat := 100000
/-- a variable: a number within bounds, or a list of no more than so many numbers within bounds -/
structure TV where
  isL : Bool
  lo : Int
  hi : Int
  n : Nat := 0
def TV.leaf (v : TV) (i : Nat) : E := if v.isL then .ls (TB + i) .nl v.lo v.hi v.n else .nm (TB + i) v.lo v.hi
def leaves (vs : List TV) : List E := (List.range vs.length).map fun i => (vs.getD i ⟨false, 0, 0, 0⟩).leaf i
/-- values for variables -/
@[reducible] def envT (base : Env) (xs : List (Int × List Int)) : Env where
  val i := if TB ≤ i then (xs.getD (i - TB) (0, [])).1 else base.val i
  app := base.app
  lst j l := if TB ≤ j then (xs.getD (j - TB) (0, [])).2 else base.lst j l
/-- a term that names no variable -/
def E.plain : E → Bool
  | .num _ => true
  | .nm i _ _ => decide (i < TB)
  | .ap _ a _ _ => a.plain
  | .nl => true
  | .cn a b => a.plain && b.plain
  | .op _ _ a b => a.plain && b.plain
  | .wr _ a => a.plain
  | .pl a b => a.plain && b.plain
  | .mi a b => a.plain && b.plain
  | .sel a b => a.plain && b.plain
  | .ls j a _ _ _ => decide (j < TB) && a.plain
  | .ln a => a.plain
  | .sb a b c => a.plain && (b.plain && c.plain)
  | .cc a b => a.plain && b.plain
  | .st a b c _ _ => a.plain && (b.plain && c.plain)
  | .dq a b => a.plain && b.plain
theorem plain_D (base : Env) (xs ys : List (Int × List Int)) : ∀ e : E, e.plain = true → @E.D (envT base xs) e = @E.D (envT base ys) e := by
  intro e
  induction e with
  | num n => intro _; rfl
  | nl => intro _; rfl
  | nm i lo hi =>
    intro h
    have h : i < TB := of_decide_eq_true h
    show (clampI lo hi (if TB ≤ i then _ else base.val i), ([] : List Int)) = (clampI lo hi (if TB ≤ i then _ else base.val i), [])
    rw [if_neg (by omega), if_neg (by omega)]
  | ap f a lo hi ih =>
    intro h
    show (clampI lo (hiA f hi (@E.D (envT base xs) a).2) (base.app (f % HB) (@E.D (envT base xs) a).2), ([] : List Int)) = _
    rw [ih h]; rfl
  | ls j a lo hi n ih =>
    intro h
    simp only [E.plain, Bool.and_eq_true, decide_eq_true_eq] at h
    show ((0 : Int), (((if TB ≤ j then _ else base.lst j (@E.D (envT base xs) a).2) : List Int).take n).map (clampI lo hi)) = (0, (((if TB ≤ j then _ else base.lst j (@E.D (envT base ys) a).2) : List Int).take n).map (clampI lo hi))
    rw [if_neg (by omega), if_neg (by omega), ih h.2]
  | cn a b iha ihb | op _ _ a b iha ihb | pl a b iha ihb | mi a b iha ihb | sel a b iha ihb | cc a b iha ihb | dq a b iha ihb =>
    intro h
    simp only [E.plain, Bool.and_eq_true] at h
    simp only [E.D]
    rw [iha h.1, ihb h.2]
  | wr k a ih =>
    intro h
    simp only [E.D]
    rw [ih h]
  | ln a ih =>
    intro h
    simp only [E.D]
    rw [ih h]
  | sb a b c iha ihb ihc =>
    intro h
    simp only [E.plain, Bool.and_eq_true] at h
    simp only [E.D]
    rw [iha h.1, ihb h.2.1, ihc h.2.2]
  | st a b c lo hi iha ihb ihc =>
    intro h
    simp only [E.plain, Bool.and_eq_true] at h
    simp only [E.D]
    rw [iha h.1, ihb h.2.1, ihc h.2.2]
/-- within a variable's bounds -/
def TV.has (v : TV) (x : Int × List Int) : Prop := if v.isL then x.1 = 0 ∧ x.2.length ≤ v.n ∧ ∀ y ∈ x.2, v.lo ≤ y ∧ y ≤ v.hi else (v.lo ≤ x.1 ∧ x.1 ≤ v.hi) ∧ x.2 = []
def hasAll : List TV → List (Int × List Int) → Prop
  | [], [] => True
  | v :: vs, x :: xs => v.has x ∧ hasAll vs xs
  | _, _ => False
theorem hasAll_get : ∀ {vs : List TV} {xs : List (Int × List Int)}, hasAll vs xs → vs.length = xs.length ∧ ∀ (i : Nat) v, vs[i]? = some v → v.has (xs.getD i (0, []))
  | [], [], _ => ⟨rfl, fun i v h => by simp at h⟩
  | [], _ :: _, h => h.elim
  | _ :: _, [], h => h.elim
  | v :: vs, x :: xs, h => by
    obtain ⟨q1, q2⟩ := hasAll_get h.2
    refine ⟨by simp [q1], fun i u hu => ?_⟩
    cases i with
    | zero => have : v = u := by simpa using hu
              subst this; exact h.1
    | succ i => exact q2 i u (by simpa using hu)
theorem leaf_D (base : Env) {v : TV} {xs : List (Int × List Int)} {i : Nat} (h : v.has (xs.getD i (0, []))) : @E.D (envT base xs) (v.leaf i) = xs.getD i (0, []) := by
  unfold TV.has at h
  unfold TV.leaf
  by_cases hl : v.isL = true
  · rw [if_pos hl] at h ⊢
    show ((0 : Int), (((if TB ≤ TB + i then (xs.getD (TB + i - TB) (0, [])).2 else base.lst (TB + i) []) : List Int).take v.n).map (clampI v.lo v.hi)) = _
    rw [if_pos (Nat.le_add_right _ _), Nat.add_sub_cancel_left]
    revert h
    generalize xs.getD i (0, []) = y
    rintro ⟨h0, h1, h2⟩
    obtain ⟨y0, y1⟩ := y
    have h0 : y0 = 0 := h0
    subst h0
    rw [List.take_of_length_le h1]
    exact congrArg (Prod.mk 0) ((List.map_congr_left fun x hx => clamp_eq (h2 x hx)).trans (List.map_id _))
  · rw [if_neg hl] at h ⊢
    show (clampI v.lo v.hi (if TB ≤ TB + i then (xs.getD (TB + i - TB) (0, [])).1 else base.val (TB + i)), ([] : List Int)) = _
    rw [if_pos (Nat.le_add_right _ _), Nat.add_sub_cancel_left]
    revert h
    generalize xs.getD i (0, []) = y
    rintro ⟨h0, h1⟩
    obtain ⟨y0, y1⟩ := y
    have h1 : y1 = [] := h1
    subst h1
    rw [clamp_eq h0]
/-- the check of a state against a template: a variable is what its term says, all else is the same -/
def isLeaf (vs : List TV) (b : E) : Option Nat :=
  match b with
  | .nm i lo hi => if TB ≤ i then (match vs[i - TB]? with
    | some v => if !v.isL && (v.lo == lo && v.hi == hi) then some (i - TB) else none
    | none => none) else none
  | .ls j .nl lo hi n => if TB ≤ j then (match vs[j - TB]? with
    | some v => if v.isL && (v.lo == lo && (v.hi == hi && v.n == n)) then some (j - TB) else none
    | none => none) else none
  | _ => none
def qT (vs : List TV) (l : List E) (a b : E) : Bool :=
  match isLeaf vs b with
  | some i => (match l[i]? with
    | some e => a.beq e
    | none => false)
  | none => a.plain && a.beq b
theorem leaf_n {v : TV} (h : v.isL = false) {j : Nat} (hj : TB ≤ j) : E.nm j v.lo v.hi = v.leaf (j - TB) := by
  obtain ⟨k, rfl⟩ : ∃ k, j = TB + k := ⟨j - TB, by omega⟩
  rw [Nat.add_sub_cancel_left]
  unfold TV.leaf
  rw [h]
  exact (if_neg Bool.false_ne_true).symm
theorem leaf_l {v : TV} (h : v.isL = true) {j : Nat} (hj : TB ≤ j) : E.ls j .nl v.lo v.hi v.n = v.leaf (j - TB) := by
  obtain ⟨k, rfl⟩ : ∃ k, j = TB + k := ⟨j - TB, by omega⟩
  rw [Nat.add_sub_cancel_left]
  unfold TV.leaf
  rw [h]
  exact (if_pos rfl).symm
theorem isLeaf_eq {vs : List TV} {b : E} {i : Nat} (h : isLeaf vs b = some i) : ∃ v, vs[i]? = some v ∧ b = v.leaf i := by
  unfold isLeaf at h
  split at h
  · rename_i j lo hi
    split at h
    · rename_i hj
      split at h
      · rename_i v hv
        split at h
        · rename_i hc
          obtain rfl := Option.some.inj h
          simp only [Bool.and_eq_true, Bool.not_eq_true', beq_iff_eq] at hc
          obtain ⟨h1, rfl, rfl⟩ := hc
          exact ⟨v, hv, leaf_n h1 hj⟩
        · cases h
      · cases h
    · cases h
  · rename_i j lo hi n
    split at h
    · rename_i hj
      split at h
      · rename_i v hv
        split at h
        · rename_i hc
          obtain rfl := Option.some.inj h
          simp only [Bool.and_eq_true, beq_iff_eq] at hc
          obtain ⟨h1, rfl, rfl, rfl⟩ := hc
          exact ⟨v, hv, leaf_l h1 hj⟩
        · cases h
      · cases h
    · cases h
  · cases h
/-- from values xs to values ys that the terms have there -/
theorem qT_ok (base : Env) {vs : List TV} {xs ys : List (Int × List Int)} {l : List E} (hv : hasAll vs ys) (hl : ∀ (i : Nat) e, l[i]? = some e → @E.D (envT base xs) e = ys.getD i (0, [])) :
    SimOk (envT base xs) (envT base ys) (qT vs l) := by
  intro a b h
  unfold qT at h
  split at h
  · rename_i i hi
    obtain ⟨v, h1, rfl⟩ := isLeaf_eq hi
    split at h
    · rename_i e he
      rw [E.beq_eq h, hl i e he, leaf_D base ((hasAll_get hv).2 i v h1)]
    · cases h
  · rw [Bool.and_eq_true] at h
    have := E.beq_eq h.2
    subst this
    exact plain_D base xs ys a h.1
end Go.SX
