/- Loops by templates: terms put for variables, rounds, the loop. -/
import Derived.Test.YtfacghikjnjjmaaSxT
namespace Go.SX
open Go
set_option linter.unusedSectionVars false
def E.put (vs : List TV) (l : List E) : E → E
  | .num n => .num n
  | .nm i lo hi => match isLeaf vs (.nm i lo hi) with
    | some k => l.getD k .nl
    | none => .nm i lo hi
  | .ap f a lo hi => .ap f (a.put vs l) lo hi
  | .nl => .nl
  | .cn a b => .cn (a.put vs l) (b.put vs l)
  | .op o k a b => .op o k (a.put vs l) (b.put vs l)
  | .wr k a => .wr k (a.put vs l)
  | .pl a b => .pl (a.put vs l) (b.put vs l)
  | .mi a b => .mi (a.put vs l) (b.put vs l)
  | .sel a b => .sel (a.put vs l) (b.put vs l)
  | .ls j a lo hi n => match isLeaf vs (.ls j a lo hi n) with
    | some k => l.getD k .nl
    | none => .ls j (a.put vs l) lo hi n
  | .ln a => .ln (a.put vs l)
  | .sb a b c => .sb (a.put vs l) (b.put vs l) (c.put vs l)
  | .cc a b => .cc (a.put vs l) (b.put vs l)
  | .st a b c lo hi => .st (a.put vs l) (b.put vs l) (c.put vs l) lo hi
  | .dq a b => .dq (a.put vs l) (b.put vs l)
/-- its variables are the template's -/
def E.putOk (vs : List TV) : E → Bool
  | .num _ => true
  | .nm i lo hi => (isLeaf vs (.nm i lo hi)).isSome || decide (i < TB)
  | .ap _ a _ _ => a.putOk vs
  | .nl => true
  | .cn a b => a.putOk vs && b.putOk vs
  | .op _ _ a b => a.putOk vs && b.putOk vs
  | .wr _ a => a.putOk vs
  | .pl a b => a.putOk vs && b.putOk vs
  | .mi a b => a.putOk vs && b.putOk vs
  | .sel a b => a.putOk vs && b.putOk vs
  | .ls j a lo hi n => (isLeaf vs (.ls j a lo hi n)).isSome || (decide (j < TB) && a.putOk vs)
  | .ln a => a.putOk vs
  | .sb a b c => a.putOk vs && (b.putOk vs && c.putOk vs)
  | .cc a b => a.putOk vs && b.putOk vs
  | .st a b c _ _ => a.putOk vs && (b.putOk vs && c.putOk vs)
  | .dq a b => a.putOk vs && b.putOk vs
section
variable {base : Env} {vs : List TV} {xs ys : List (Int × List Int)} {l : List E}
theorem leaf_put (hv : hasAll vs ys) (hlen : vs.length ≤ l.length) (hl : ∀ (i : Nat) e, l[i]? = some e → @E.D (envT base xs) e = ys.getD i (0, [])) {b : E} {k : Nat} (h : isLeaf vs b = some k) :
    @E.D (envT base xs) (l.getD k .nl) = @E.D (envT base ys) b := by
  obtain ⟨v, h1, rfl⟩ := isLeaf_eq h
  rw [leaf_D base ((hasAll_get hv).2 k v h1)]
  have hk : k < l.length := by have := (List.getElem?_eq_some_iff.1 h1).1; omega
  rw [List.getD_eq_getElem?_getD, List.getElem?_eq_getElem hk]
  exact hl k l[k] (List.getElem?_eq_getElem hk)
theorem put_D (hv : hasAll vs ys) (hlen : vs.length ≤ l.length) (hl : ∀ (i : Nat) e, l[i]? = some e → @E.D (envT base xs) e = ys.getD i (0, [])) : ∀ e : E, e.putOk vs = true → @E.D (envT base xs) (e.put vs l) = @E.D (envT base ys) e := by
  intro e
  induction e with
  | num n => intro _; rfl
  | nl => intro _; rfl
  | nm i lo hi =>
    intro h
    simp only [E.put]
    split
    · rename_i k hk
      exact leaf_put hv hlen hl hk
    · rename_i hk
      simp only [E.putOk, hk, Option.isSome_none, Bool.false_or] at h
      exact plain_D base xs ys _ h
  | ap f a lo hi ih =>
    intro h
    show (clampI lo (hiA f hi (@E.D (envT base xs) (a.put vs l)).2) (base.app (f % HB) (@E.D (envT base xs) (a.put vs l)).2), ([] : List Int)) = _
    rw [ih h]; rfl
  | ls j a lo hi n ih =>
    intro h
    simp only [E.put]
    split
    · rename_i k hk
      exact leaf_put hv hlen hl hk
    · rename_i hk
      simp only [E.putOk, hk, Option.isSome_none, Bool.false_or, Bool.and_eq_true, decide_eq_true_eq] at h
      show ((0 : Int), (((if TB ≤ j then _ else base.lst j (@E.D (envT base xs) (a.put vs l)).2) : List Int).take n).map (clampI lo hi)) = (0, (((if TB ≤ j then _ else base.lst j (@E.D (envT base ys) a).2) : List Int).take n).map (clampI lo hi))
      rw [if_neg (by omega), if_neg (by omega), ih h.2]
  | cn a b iha ihb | op _ _ a b iha ihb | pl a b iha ihb | mi a b iha ihb | sel a b iha ihb | cc a b iha ihb | dq a b iha ihb =>
    intro h
    simp only [E.putOk, Bool.and_eq_true] at h
    simp only [E.put, E.D]
    rw [iha h.1, ihb h.2]
  | wr k a ih =>
    intro h
    simp only [E.put, E.D]
    rw [ih h]
  | ln a ih =>
    intro h
    simp only [E.put, E.D]
    rw [ih h]
  | sb a b c iha ihb ihc =>
    intro h
    simp only [E.putOk, Bool.and_eq_true] at h
    simp only [E.put, E.D]
    rw [iha h.1, ihb h.2.1, ihc h.2.2]
  | st a b c lo hi iha ihb ihc =>
    intro h
    simp only [E.putOk, Bool.and_eq_true] at h
    simp only [E.put, E.D]
    rw [iha h.1, ihb h.2.1, ihc h.2.2]
end
/-- comparisons alone -/
def EB.put (vs : List TV) (l : List E) : EB → EB
  | .eq a b => .eq (a.put vs l) (b.put vs l)
  | .lt a b => .lt (a.put vs l) (b.put vs l)
  | .nt a => .nt (a.put vs l)
  | .an a b => .an (a.put vs l) (b.put vs l)
  | .or a b => .or (a.put vs l) (b.put vs l)
  | .iff a b => .iff (a.put vs l) (b.put vs l)
  | .lq a b => .lq (a.put vs l) (b.put vs l)
  | .kb b => .kb b
def EB.putOk (vs : List TV) : EB → Bool
  | .eq a b => a.putOk vs && b.putOk vs
  | .lt a b => a.putOk vs && b.putOk vs
  | .nt a => a.putOk vs
  | .an a b => a.putOk vs && b.putOk vs
  | .or a b => a.putOk vs && b.putOk vs
  | .iff a b => a.putOk vs && b.putOk vs
  | .lq a b => a.putOk vs && b.putOk vs
  | .kb _ => true
theorem putB_den {base : Env} {vs : List TV} {xs ys : List (Int × List Int)} {l : List E} (hv : hasAll vs ys) (hlen : vs.length ≤ l.length) (hl : ∀ (i : Nat) e, l[i]? = some e → @E.D (envT base xs) e = ys.getD i (0, [])) :
    ∀ b : EB, b.putOk vs = true → @EB.den (envT base xs) (b.put vs l) = @EB.den (envT base ys) b := by
  have d1 : ∀ e : E, e.putOk vs = true → @E.den (envT base xs) (e.put vs l) = @E.den (envT base ys) e := fun e h => congrArg Prod.fst (put_D hv hlen hl e h)
  have d2 : ∀ e : E, e.putOk vs = true → @E.dens (envT base xs) (e.put vs l) = @E.dens (envT base ys) e := fun e h => congrArg Prod.snd (put_D hv hlen hl e h)
  intro b
  induction b with
  | kb b => intro _; rfl
  | eq x y =>
    intro h
    simp only [EB.putOk, Bool.and_eq_true] at h
    simp only [EB.put, EB.den]
    rw [d1 x h.1, d1 y h.2]
  | lt x y =>
    intro h
    simp only [EB.putOk, Bool.and_eq_true] at h
    simp only [EB.put, EB.den]
    rw [d1 x h.1, d1 y h.2]
  | lq x y =>
    intro h
    simp only [EB.putOk, Bool.and_eq_true] at h
    simp only [EB.put, EB.den]
    rw [d2 x h.1, d2 y h.2]
  | nt a ih =>
    intro h
    simp only [EB.put, EB.den]
    rw [ih h]
  | an a b iha ihb | or a b iha ihb | iff a b iha ihb =>
    intro h
    simp only [EB.putOk, Bool.and_eq_true] at h
    simp only [EB.put, EB.den]
    rw [iha h.1, ihb h.2]
/-! Which terms are lists. -/
def E.isLst : E → Bool
  | .nl | .cn _ _ | .ls _ _ _ _ _ | .sb _ _ _ | .cc _ _ | .st _ _ _ _ _ => true
  | _ => false
section
variable [Env]
theorem isLst_D {e : E} : (e.isLst = true → e.D.1 = 0) ∧ (e.isLst = false → e.D.2 = []) := by
  constructor
  · intro h; cases e <;> first | rfl | cases h
  · intro h; cases e <;> first | rfl | cases h
/-- what must hold of a variable's term -/
def tvAsk (v : TV) (e : E) : Option (List B) :=
  if e.isLst = v.isL then
    if v.isL then (if decide (v.lo ≤ e.R.2.1) && decide (e.R.2.2 ≤ v.hi) then some [B.le (.ex (.ln e)) (.c (v.n : Int))] else none)
    else some [B.le (.c v.lo) (xOf e), B.le (xOf e) (.c v.hi)]
  else none
def tvsAsk : List TV → List E → Option (List B)
  | [], [] => some []
  | v :: vs, e :: l => match tvAsk v e, tvsAsk vs l with
    | some a, some b => some (a ++ b)
    | _, _ => none
  | _, _ => none
theorem tvAsk_ok {v : TV} {e : E} {q : List B} (h : tvAsk v e = some q) (hq : ∀ b ∈ q, b.den = true) : v.has e.D := by
  unfold tvAsk at h
  split at h
  · rename_i hl
    unfold TV.has
    split at h
    · rename_i hv
      rw [if_pos hv]
      split at h
      · rename_i hr
        cases h
        rw [Bool.and_eq_true, decide_eq_true_eq, decide_eq_true_eq] at hr
        have h1 := hq _ (List.mem_cons_self ..)
        rw [le_den] at h1
        have h1 : ((e.D.2.length : Nat) : Int) ≤ (v.n : Int) := h1
        refine ⟨isLst_D.1 (by rw [hl]; exact hv), by omega, fun y hy => ?_⟩
        have := (E.R_in e).2 y (List.mem_cons_of_mem _ hy)
        obtain ⟨a, b⟩ := this
        exact ⟨Int.le_trans hr.1 a, Int.le_trans b hr.2⟩
      · cases h
    · rename_i hv
      rw [if_neg hv]
      cases h
      have h1 := hq _ (List.mem_cons_self ..)
      have h2 := hq _ (List.mem_cons_of_mem _ (List.mem_cons_self ..))
      rw [le_den, xOf_den] at h1 h2
      exact ⟨⟨h1, h2⟩, isLst_D.2 (by rw [hl]; simpa using hv)⟩
  · cases h
theorem tvsAsk_ok : ∀ {vs : List TV} {l : List E} {q : List B}, tvsAsk vs l = some q → (∀ b ∈ q, b.den = true) → hasAll vs (l.map E.D)
  | [], [], _, _, _ => True.intro
  | [], _ :: _, _, h, _ => by cases h
  | _ :: _, [], _, h, _ => by cases h
  | v :: vs, e :: l, q, h, hq => by
    simp only [tvsAsk] at h
    split at h
    · rename_i a b h1 h2
      cases h
      exact ⟨tvAsk_ok h1 fun x hx => hq x (List.mem_append_left _ hx), tvsAsk_ok h2 fun x hx => hq x (List.mem_append_right _ hx)⟩
    · cases h
end
/-! Terms alike: the same, or numbers that are one by their sums. -/
/-- lists one behind another, one by one -/
def flatE : E → E
  | .cc a b => ccE (flatE a) (flatE b)
  | .cn a b => .cn a (flatE b)
  | e => e
theorem flatE_dens [Env] : ∀ e : E, (flatE e).dens = e.dens
  | .cc a b => by show (ccE (flatE a) (flatE b)).dens = a.dens ++ b.dens; rw [ccE_dens, flatE_dens a, flatE_dens b]
  | .cn a b => by show a.den :: (flatE b).dens = a.den :: b.dens; rw [flatE_dens b]
  | .num _ => rfl
  | .nm _ _ _ => rfl
  | .ap _ _ _ _ => rfl
  | .nl => rfl
  | .op _ _ _ _ => rfl
  | .wr _ _ => rfl
  | .pl _ _ => rfl
  | .mi _ _ => rfl
  | .sel _ _ => rfl
  | .ls _ _ _ _ _ => rfl
  | .ln _ => rfl
  | .sb _ _ _ => rfl
  | .st _ _ _ _ _ => rfl
  | .dq _ _ => rfl
def sameE (a b : E) : Bool := a.beq b || ((!a.isLst && (!b.isLst && ((Lin.sub a.lin b.lin).t.isEmpty && (Lin.sub a.lin b.lin).k == 0))) || (a.isLst && (b.isLst && (flatE a).beq (flatE b))))
theorem sameE_D [Env] {a b : E} (h : sameE a b = true) : a.D = b.D := by
  unfold sameE at h
  rw [Bool.or_eq_true] at h
  rcases h with h | h
  · rw [E.beq_eq h]
  rw [Bool.or_eq_true] at h
  rcases h with h | h
  rotate_left
  · simp only [Bool.and_eq_true] at h
    refine Prod.ext ?_ ?_
    · rw [isLst_D.1 h.1, isLst_D.1 h.2.1]
    · show a.dens = b.dens
      rw [← flatE_dens a, E.beq_eq h.2.2, flatE_dens b]
  · simp only [Bool.and_eq_true, Bool.not_eq_true'] at h
    obtain ⟨h1, h2, h3, h4⟩ := h
    have q1 : (Lin.sub a.lin b.lin).den = a.den - b.den := by
      unfold Lin.sub
      rw [Lin.add_den, E.lin_den, E.lin_den]; omega
    have q2 : (Lin.sub a.lin b.lin).den = 0 := by
      have ht : (Lin.sub a.lin b.lin).t = [] := by simpa using h3
      have hk : (Lin.sub a.lin b.lin).k = 0 := eq_of_beq h4
      rw [Lin.den, ht, hk]; rfl
    refine Prod.ext ?_ ?_
    · show a.den = b.den
      omega
    · rw [isLst_D.2 h1, isLst_D.2 h2]
/-- a template's terms are the told ones put for its variables -/
def qP (vs : List TV) (l : List E) (a b : E) : Bool := b.putOk vs && sameE a (b.put vs l)
theorem qP_ok (base : Env) {vs : List TV} {xs ys : List (Int × List Int)} {l : List E} (hv : hasAll vs ys) (hlen : vs.length ≤ l.length) (hl : ∀ (i : Nat) e, l[i]? = some e → @E.D (envT base xs) e = ys.getD i (0, [])) :
    SimOk (envT base xs) (envT base ys) (qP vs l) := by
  intro a b h
  unfold qP at h
  rw [Bool.and_eq_true] at h
  rw [@sameE_D (envT base xs) a _ h.2]
  exact put_D hv hlen hl b h.1
/-- it names variables alone -/
def E.putC (vs : List TV) : E → Bool
  | .num _ => true
  | .nm i lo hi => (isLeaf vs (.nm i lo hi)).isSome
  | .ap _ _ _ _ => false
  | .nl => true
  | .cn a b => a.putC vs && b.putC vs
  | .op _ _ a b => a.putC vs && b.putC vs
  | .wr _ a => a.putC vs
  | .pl a b => a.putC vs && b.putC vs
  | .mi a b => a.putC vs && b.putC vs
  | .sel a b => a.putC vs && b.putC vs
  | .ls j a lo hi n => (isLeaf vs (.ls j a lo hi n)).isSome
  | .ln a => a.putC vs
  | .sb a b c => a.putC vs && (b.putC vs && c.putC vs)
  | .cc a b => a.putC vs && b.putC vs
  | .st a b c _ _ => a.putC vs && (b.putC vs && c.putC vs)
  | .dq a b => a.putC vs && b.putC vs
theorem putC_D (amb base : Env) {vs : List TV} {ys : List (Int × List Int)} {l : List E} (hv : hasAll vs ys) (hlen : vs.length ≤ l.length) (hl : ∀ (i : Nat) e, l[i]? = some e → @E.D amb e = ys.getD i (0, [])) :
    ∀ e : E, e.putC vs = true → @E.D amb (e.put vs l) = @E.D (envT base ys) e := by
  have leaf : ∀ {b : E} {k : Nat}, isLeaf vs b = some k → @E.D amb (l.getD k .nl) = @E.D (envT base ys) b := by
    intro b k h
    obtain ⟨v, h1, rfl⟩ := isLeaf_eq h
    rw [leaf_D base ((hasAll_get hv).2 k v h1)]
    have hk : k < l.length := by have := (List.getElem?_eq_some_iff.1 h1).1; omega
    rw [List.getD_eq_getElem?_getD, List.getElem?_eq_getElem hk]
    exact hl k l[k] (List.getElem?_eq_getElem hk)
  intro e
  induction e with
  | num n => intro _; rfl
  | nl => intro _; rfl
  | nm i lo hi =>
    intro h
    simp only [E.put]
    split
    · rename_i k hk
      exact leaf hk
    · rename_i hk
      simp only [E.putC, hk, Option.isSome_none, Bool.false_eq_true] at h
  | ap f a lo hi ih => intro h; cases h
  | ls j a lo hi n ih =>
    intro h
    simp only [E.put]
    split
    · rename_i k hk
      exact leaf hk
    · rename_i hk
      simp only [E.putC, hk, Option.isSome_none, Bool.false_eq_true] at h
  | cn a b iha ihb | op _ _ a b iha ihb | pl a b iha ihb | mi a b iha ihb | sel a b iha ihb | cc a b iha ihb | dq a b iha ihb =>
    intro h
    simp only [E.putC, Bool.and_eq_true] at h
    simp only [E.put, E.D]
    rw [iha h.1, ihb h.2]
  | wr k a ih =>
    intro h
    simp only [E.put, E.D]
    rw [ih h]
  | ln a ih =>
    intro h
    simp only [E.put, E.D]
    rw [ih h]
  | sb a b c iha ihb ihc =>
    intro h
    simp only [E.putC, Bool.and_eq_true] at h
    simp only [E.put, E.D]
    rw [iha h.1, ihb h.2.1, ihc h.2.2]
  | st a b c lo hi iha ihb ihc =>
    intro h
    simp only [E.putC, Bool.and_eq_true] at h
    simp only [E.put, E.D]
    rw [iha h.1, ihb h.2.1, ihc h.2.2]
/-- into a template, out of one -/
def qIn (vs : List TV) (l : List E) (a b : E) : Bool := b.putC vs && sameE a (b.put vs l)
def qOut (vs : List TV) (l : List E) (a b : E) : Bool := a.putC vs && sameE (a.put vs l) b
theorem qIn_ok (amb base : Env) {vs : List TV} {ys : List (Int × List Int)} {l : List E} (hv : hasAll vs ys) (hlen : vs.length ≤ l.length) (hl : ∀ (i : Nat) e, l[i]? = some e → @E.D amb e = ys.getD i (0, [])) : SimOk amb (envT base ys) (qIn vs l) := by
  intro a b h
  unfold qIn at h
  rw [Bool.and_eq_true] at h
  rw [@sameE_D amb a _ h.2]
  exact putC_D amb base hv hlen hl b h.1
theorem qOut_ok (amb base : Env) {vs : List TV} {ys : List (Int × List Int)} {l : List E} (hv : hasAll vs ys) (hlen : vs.length ≤ l.length) (hl : ∀ (i : Nat) e, l[i]? = some e → @E.D amb e = ys.getD i (0, [])) : SimOk (envT base ys) amb (qOut vs l) := by
  intro a b h
  unfold qOut at h
  rw [Bool.and_eq_true] at h
  rw [← @sameE_D amb _ b h.2]
  exact (putC_D amb base hv hlen hl a h.1).symm
end Go.SX
