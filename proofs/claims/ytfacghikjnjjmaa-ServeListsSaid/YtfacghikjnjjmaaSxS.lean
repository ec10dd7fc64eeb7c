/- States under two environments: what is known under the one is known under the other (for loops whose states are told by a template). -/
import Derived.Test.YtfacghikjnjjmaaSxW
namespace Go.SX
open Go
set_option linter.unusedSectionVars false
/-! A check of terms, and what it must say: the same number, the same list. -/
section
variable (q : E → E → Bool)
def simX : X → X → Bool
  | .c a, .c b => a == b
  | x, y => match x.e?, y.e? with
    | some a, some b => q a b
    | _, _ => false
def simEB : EB → EB → Bool
  | .kb a, .kb b => a == b
  | .eq a b, .eq c d => q a c && q b d
  | .lt a b, .lt c d => q a c && q b d
  | .nt a, .nt b => simEB a b
  | .an a b, .an c d => simEB a c && simEB b d
  | .or a b, .or c d => simEB a c && simEB b d
  | .iff a b, .iff c d => simEB a c && simEB b d
  | .lq a b, .lq c d => q a c && q b d
  | _, _ => false
def simB : B → B → Bool
  | .c a, .c b => a == b
  | .c a, .ex (.eq t (.num 1)) => q (.num (if a then 1 else 0)) t
  | x, y => match x.e?, y.e? with
    | some a, some b => simEB q a b
    | _, _ => false
def simSc : Sc → Sc → Bool
  | _, .any => true
  | .int k x, .int j y => decide (k = j) && simX q x y
  | .bool a, .bool b => simB q a b
  | .str a, .str b => a.data.toList == b.data.toList
  | a, .strt e => match a.strE? with
    | some d => q d e
    | none => false
  | .flt k n, .flt j m => decide (k = j) && n == m
  | .nilp, .nilp => true
  | .ptr id r s f h, .ptr id' r' s' f' h' => id == id' && (simX q r r' && (s == s' && (f == f' && h == h')))
  | .nils, .nils => true
  | .sl nn id o l s, .sl nn' id' o' l' s' => (!nn' || nn) && (id == id' && (simX q o o' && (simX q l l' && s == s')))
  | .nilm, .nilm => true
  | .mp a, .mp b => a == b
  | .fn a, .fn b => a == b
  | .nilf, .nilf => true
  | .nili, .nili => true
  | _, _ => false
def simL : List Sc → List Sc → Bool
  | [], [] => true
  | a :: l, b :: m => simSc q a b && simL l m
  | _, _ => false
def simP : Part → Part → Bool
  | .inl a, .inl b => simSc q a b
  | .inr a, .inr b => simL q a b
  | _, _ => false
def simPs : List Part → List Part → Bool
  | [], [] => true
  | a :: l, b :: m => simP q a b && simPs l m
  | _, _ => false
def simAV : AV → AV → Bool
  | _, .one .any => false
  | .one a, .one b => simSc q a b
  | .agg a, .agg b => simL q a b
  | .tup a, .tup b => simPs q a b
  | .ifc t p, .ifc t' p' => decide (t = t') && simP q p p'
  | _, _ => false
def simC : Cells → Cells → Bool
  | .vals a, .vals b => simL q a b
  | .ex k a, .ex j b => k.beq j && q a b
  | .tb k a, .tb j b => semRows.kdsEq k j && q a b
  | .vals a, .ex k b => match cellsE k a .nl with
    | some e => q e b
    | none => false
  | .vals a, .tb ks b => match kcellsE ks ks.length a 0 with
    | some e => q e b
    | none => false
  | _, _ => false
def simAO : AO → AO → Bool
  | _, .dead => true
  | .row o s c, .row o' s' c' => (!o' || o) && (s == s' && simC q c c')
  | .mapo a, .mapo b => a.isEmpty && b.isEmpty
  | _, _ => false
def simSt : St → St → Bool
  | [], [] => true
  | a :: l, b :: m => simAO q a b && simSt l m
  | _, _ => false
end
theorem kcellsE_kd {ks : List Kd} {w : Nat} : ∀ {l : List Sc} {i : Nat} {e : E}, kcellsE ks w l i = some e → ∀ (j : Nat) s, l[j]? = some s → s.kd? = some (ks.getD ((i + j) % w) .bool)
  | [], _, _, _, j, s, h => by simp at h
  | x :: r, i, e, h, j, s, hs => by
    cases x <;> first | (cases h; done) | skip
    · simp only [kcellsE] at h
      split at h
      · rename_i hk
        split at h
        · rename_i a l ha hl
          cases j with
          | zero => cases hs; rw [Nat.add_zero, Kd.beq_eq hk]; rfl
          | succ j => rw [show i + (j + 1) = i + 1 + j by omega]; exact kcellsE_kd hl j s (by simpa using hs)
        · cases h
      · cases h
    · simp only [kcellsE] at h
      split at h
      · rename_i hk
        split at h
        · rename_i a l ha hl
          cases j with
          | zero =>
            cases hs
            have hk := Kd.beq_eq hk
            have : ks.getD (i % w) .bool = .bool := by
              rw [List.getD_eq_getElem?_getD] at hk ⊢
              cases hx : ks[i % w]? with
              | none => rfl
              | some y => rw [hx] at hk; exact hk
            rw [Nat.add_zero, this]; rfl
          | succ j => rw [show i + (j + 1) = i + 1 + j by omega]; exact kcellsE_kd hl j s (by simpa using hs)
        · cases h
      · cases h
/-- the check is right of two environments -/
def SimOk (e1 e2 : Env) (q : E → E → Bool) : Prop := ∀ a b, q a b = true → @E.D e1 a = @E.D e2 b
section
variable {e1 e2 : Env} {q : E → E → Bool}
theorem simX_den (hq : SimOk e1 e2 q) {x y : X} (h : simX q x y = true) : @X.den e1 x = @X.den e2 y := by
  unfold simX at h
  split at h
  · rename_i a b
    exact (eq_of_beq h : a = b)
  · split at h
    · rename_i a b ha hb
      rw [← @X.e?_den e1 _ _ ha, ← @X.e?_den e2 _ _ hb]
      exact congrArg Prod.fst (hq a b h)
    · cases h
theorem simEB_den (hq : SimOk e1 e2 q) : ∀ {a b : EB}, simEB q a b = true → @EB.den e1 a = @EB.den e2 b := by
  have d1 : ∀ {a b : E}, q a b = true → @E.den e1 a = @E.den e2 b := fun h => congrArg Prod.fst (hq _ _ h)
  have d2 : ∀ {a b : E}, q a b = true → @E.dens e1 a = @E.dens e2 b := fun h => congrArg Prod.snd (hq _ _ h)
  intro a
  induction a with
  | kb x => intro b h; cases b <;> first | (cases h; done) | exact eq_of_beq h
  | eq x y =>
    intro b h
    cases b <;> first | (cases h; done) | skip
    simp only [simEB, Bool.and_eq_true] at h
    show (@E.den e1 x == @E.den e1 y) = _
    rw [d1 h.1, d1 h.2]; rfl
  | lt x y =>
    intro b h
    cases b <;> first | (cases h; done) | skip
    simp only [simEB, Bool.and_eq_true] at h
    show decide (@E.den e1 x < @E.den e1 y) = _
    rw [d1 h.1, d1 h.2]; rfl
  | nt x ih =>
    intro b h
    cases b <;> first | (cases h; done) | skip
    show (!@EB.den e1 x) = _
    rw [ih h]; rfl
  | an x y ih ih2 =>
    intro b h
    cases b <;> first | (cases h; done) | skip
    simp only [simEB, Bool.and_eq_true] at h
    show (@EB.den e1 x && @EB.den e1 y) = _
    rw [ih h.1, ih2 h.2]; rfl
  | or x y ih ih2 =>
    intro b h
    cases b <;> first | (cases h; done) | skip
    simp only [simEB, Bool.and_eq_true] at h
    show (@EB.den e1 x || @EB.den e1 y) = _
    rw [ih h.1, ih2 h.2]; rfl
  | iff x y ih ih2 =>
    intro b h
    cases b <;> first | (cases h; done) | skip
    simp only [simEB, Bool.and_eq_true] at h
    show (@EB.den e1 x == @EB.den e1 y) = _
    rw [ih h.1, ih2 h.2]; rfl
  | lq x y =>
    intro b h
    cases b <;> first | (cases h; done) | skip
    simp only [simEB, Bool.and_eq_true] at h
    show (@E.dens e1 x == @E.dens e1 y) = _
    rw [d2 h.1, d2 h.2]; rfl
theorem simB_den (hq : SimOk e1 e2 q) {x y : B} (h : simB q x y = true) : @B.den e1 x = @B.den e2 y := by
  unfold simB at h
  split at h
  · rename_i a b
    exact (eq_of_beq h : a = b)
  · rename_i a t
    have h1 : @E.den e1 (.num (if a then 1 else 0)) = @E.den e2 t := congrArg Prod.fst (hq _ _ h)
    have h1 : (if a then (1 : Int) else 0) = @E.den e2 t := h1
    show a = (@E.den e2 t == (1 : Int))
    rw [← h1]
    cases a <;> rfl
  · split at h
    · rename_i a b ha hb
      rw [← @B.e?_den e1 _ _ ha, ← @B.e?_den e2 _ _ hb]
      exact simEB_den hq h
    · cases h
theorem simSc_rel (hq : SimOk e1 e2 q) {a b : Sc} (h : simSc q a b = true) {ρ : Nat → Loc} {n : Nat} {v : Value} (hv : @SRel e1 ρ n a v) : @SRel e2 ρ n b v := by
  unfold simSc at h
  split at h
  · exact True.intro
  · simp only [Bool.and_eq_true, decide_eq_true_eq] at h
    obtain ⟨rfl, h⟩ := h
    have := simX_den hq h
    exact ⟨by rw [← this]; exact hv.1, by rw [← this]; exact hv.2⟩
  · show v = .bool _
    rw [← simB_den hq h]; exact hv
  · rename_i x y
    have : x = y := by
      apply ByteArray.ext
      apply Array.toList_inj.1
      exact eq_of_beq h
    subst this
    exact hv
  · rename_i e
    split at h
    · rename_i d hd
      have hb : ∃ l, a.bytes? = some l := by
        cases a <;> first | (cases hd; done) | exact ⟨_, rfl⟩
      obtain ⟨l, hl⟩ : ∃ l, @Sc.bytes? e1 a = some l := by
        cases a <;> first | (cases hd; done) | exact ⟨_, rfl⟩
      obtain ⟨k1, k2, k3⟩ := @bytes?_rel e1 ρ n a v l hv hl
      have h1 : (@E.D e1 d).2 = l := @strE_bytes e1 _ _ _ hl hd
      have h2 : (@E.D e2 e).2 = l := by rw [← hq d e h, h1]
      exact ⟨by rw [h2]; exact k1, by rw [h2]; exact k2, by rw [h2]; exact k3⟩
    · cases h
  · simp only [Bool.and_eq_true, decide_eq_true_eq, beq_iff_eq] at h
    obtain ⟨rfl, rfl⟩ := h
    exact hv
  · exact hv
  · simp only [Bool.and_eq_true, beq_iff_eq] at h
    obtain ⟨rfl, h, rfl, rfl, rfl⟩ := h
    obtain ⟨h1, h2, r, h3, h4⟩ := hv
    exact ⟨h1, h2, r, by rw [← simX_den hq h]; exact h3, h4⟩
  · exact hv
  · rename_i nn id o l s nn' id' o' l' s'
    simp only [Bool.and_eq_true, beq_iff_eq] at h
    obtain ⟨hn, rfl, ho, hl, rfl⟩ := h
    obtain ⟨a, b, h1, h2, h3, h4, h5⟩ := hv
    refine ⟨a, b, by rw [← simX_den hq ho]; exact h1, by rw [← simX_den hq hl]; exact h2, h3, h4, ?_⟩
    rcases h5 with ⟨k1, k2, k3⟩ | k | k
    · refine .inl ⟨?_, k2, k3⟩
      subst k1
      simpa using hn
    · exact .inr (.inl k)
    · exact .inr (.inr k)
  · exact hv
  · rw [← eq_of_beq h]; exact hv
  · rw [← eq_of_beq h]; exact hv
  · exact hv
  · exact hv
  · cases h
theorem simL_rel (hq : SimOk e1 e2 q) {ρ : Nat → Loc} {n : Nat} : ∀ {a b : List Sc} {vs : List Value}, simL q a b = true → @LRel e1 ρ n a vs → @LRel e2 ρ n b vs
  | [], [], vs, _, h => ⟨h.1, fun i s v hs _ => by simp at hs⟩
  | [], _ :: _, _, h, _ => by cases h
  | _ :: _, [], _, h, _ => by cases h
  | a :: l, b :: m, vs, h, hv => by
    simp only [simL, Bool.and_eq_true] at h
    cases vs with
    | nil => exact absurd hv.1 (by simp)
    | cons v vs =>
      have hr : @LRel e1 ρ n l vs := ⟨by simpa using hv.1, fun i s x a b => hv.2 (i + 1) s x (by simpa using a) (by simpa using b)⟩
      obtain ⟨q1, q2⟩ := simL_rel hq h.2 hr
      refine ⟨by simp [q1], fun i s x hs hx => ?_⟩
      cases i with
      | zero =>
        have e1 : b = s := by simpa using hs
        have e2 : v = x := by simpa using hx
        subst e1; subst e2
        exact simSc_rel hq h.1 (hv.2 0 a v rfl rfl)
      | succ i => exact q2 i s x (by simpa using hs) (by simpa using hx)
theorem simP_rel (hq : SimOk e1 e2 q) {ρ : Nat → Loc} {n : Nat} {a b : Part} {v : Value} (h : simP q a b = true) (hv : @PRel e1 ρ n a v) : @PRel e2 ρ n b v := by
  cases a with
  | inl x => cases b with
    | inl y => exact simSc_rel hq h hv
    | inr y => cases h
  | inr x => cases b with
    | inl y => cases h
    | inr y =>
      obtain ⟨cs, k1, k2⟩ := hv
      exact ⟨cs, k1, simL_rel hq h k2⟩
theorem simPs_get : ∀ {a b : List Part}, simPs q a b = true → a.length = b.length ∧ ∀ (i : Nat) p, b[i]? = some p → ∃ o, a[i]? = some o ∧ simP q o p = true
  | [], [], _ => ⟨rfl, fun i p h => by simp at h⟩
  | [], _ :: _, h => by cases h
  | _ :: _, [], h => by cases h
  | a :: l, b :: m, h => by
    simp only [simPs, Bool.and_eq_true] at h
    obtain ⟨q1, q2⟩ := simPs_get h.2
    refine ⟨by simp [q1], fun i p hp => ?_⟩
    cases i with
    | zero =>
      have : b = p := by simpa using hp
      subst this
      exact ⟨a, rfl, h.1⟩
    | succ i =>
      obtain ⟨o, k1, k2⟩ := q2 i p (by simpa using hp)
      exact ⟨o, by simpa using k1, k2⟩
theorem simAV_rel (hq : SimOk e1 e2 q) {ρ : Nat → Loc} {n : Nat} {a b : AV} {v : Value} (h : simAV q a b = true) (hv : @ARel e1 ρ n a v) : @ARel e2 ρ n b v := by
  unfold simAV at h
  split at h
  · cases h
  · exact simSc_rel hq h hv
  · obtain ⟨cs, k1, k2⟩ := hv
    exact ⟨cs, k1, simL_rel hq h k2⟩
  · obtain ⟨vs, k1, k2, k3⟩ := hv
    obtain ⟨l1, l2⟩ := simPs_get h
    refine ⟨vs, k1, by rw [← l1]; exact k2, fun i p x hp hx => ?_⟩
    obtain ⟨o, o1, o2⟩ := l2 i p hp
    exact simP_rel hq o2 (k3 i o x o1 hx)
  · simp only [Bool.and_eq_true, decide_eq_true_eq] at h
    obtain ⟨rfl, h⟩ := h
    obtain ⟨x, k1, k2⟩ := hv
    exact ⟨x, k1, simP_rel hq h k2⟩
  · cases h
theorem simC_len (hq : SimOk e1 e2 q) {a b : Cells} (h : simC q a b = true) : @Cells.len e1 a = @Cells.len e2 b := by
  unfold simC at h
  split at h
  · rename_i a b
    have : ∀ {a b : List Sc}, simL q a b = true → a.length = b.length := by
      intro a
      induction a with
      | nil => intro b h; cases b <;> first | rfl | cases h
      | cons x l ih =>
        intro b h
        cases b with
        | nil => cases h
        | cons y m => simp only [simL, Bool.and_eq_true] at h; simp [ih h.2]
    exact this h
  · rename_i k a j b
    rw [Bool.and_eq_true] at h
    show (@E.D e1 a).2.length = (@E.D e2 b).2.length
    rw [hq a b h.2]
  · rename_i k a j b
    rw [Bool.and_eq_true] at h
    show (@E.D e1 a).2.length = (@E.D e2 b).2.length
    rw [hq a b h.2]
  · rename_i a k b
    split at h
    · rename_i e he
      have h1 := (@cellsE_dens e1 k a e .nl he).1
      show a.length = (@E.D e2 b).2.length
      rw [← hq e b h]
      have h1 : (@E.D e1 e).2 = a.map (@Sc.vI e1) ++ [] := h1
      rw [h1]; simp
    · cases h
  · rename_i a ks b
    split at h
    · rename_i e he
      have h1 : (@E.D e1 e).2 = a.map (@Sc.vI e1) := @kcellsE_den e1 _ _ _ _ _ he
      show a.length = (@E.D e2 b).2.length
      rw [← hq e b h, h1]; simp
    · cases h
  · cases h
theorem simC_rel (hq : SimOk e1 e2 q) {a b : Cells} (h : simC q a b = true) {ρ : Nat → Loc} {n : Nat} {w : World} {blk base : Nat} (hv : @CRel e1 ρ n w blk base a) : @CRel e2 ρ n w blk base b := by
  unfold simC at h
  split at h
  · rename_i a b
    intro i s hs
    have hget : ∀ {a b : List Sc} {i : Nat} {s : Sc}, simL q a b = true → b[i]? = some s → ∃ o, a[i]? = some o ∧ simSc q o s = true := by
      intro a
      induction a with
      | nil => intro b i s h hs; cases b with
        | nil => simp at hs
        | cons _ _ => cases h
      | cons x l ih =>
        intro b i s h hs
        cases b with
        | nil => cases h
        | cons y m =>
          simp only [simL, Bool.and_eq_true] at h
          cases i with
          | zero =>
            have : y = s := by simpa using hs
            subst this
            exact ⟨x, rfl, h.1⟩
          | succ i =>
            obtain ⟨o, k1, k2⟩ := ih h.2 (by simpa using hs)
            exact ⟨o, by simpa using k1, k2⟩
    obtain ⟨o, k1, k2⟩ := hget h hs
    obtain ⟨v, v1, v2⟩ := hv i o k1
    exact ⟨v, v1, simSc_rel hq k2 v2⟩
  · rename_i k a j b
    rw [Bool.and_eq_true] at h
    cases Kd.beq_eq h.1
    have hd := hq a b h.2
    intro i s hs
    have hs : (if i < (@E.D e2 b).2.length then some (k.sc ((@E.D e2 b).2.getD i 0)) else none) = some s := hs
    rw [← hd] at hs
    obtain ⟨v, v1, v2⟩ := hv i s hs
    refine ⟨v, v1, ?_⟩
    split at hs
    · cases hs
      exact (@Kd.sc_rel e2 _ _ _ _ _).2 ((@Kd.sc_rel e1 _ _ _ _ _).1 v2)
    · cases hs
  · rename_i k a j b
    rw [Bool.and_eq_true] at h
    cases kdsEq_eq h.1
    have hd := hq a b h.2
    intro i s hs
    have hs : (if i < (@E.D e2 b).2.length then some ((k.getD (i % k.length) .bool).sc ((@E.D e2 b).2.getD i 0)) else none) = some s := hs
    rw [← hd] at hs
    obtain ⟨v, v1, v2⟩ := hv i s hs
    refine ⟨v, v1, ?_⟩
    split at hs
    · cases hs
      exact (@Kd.sc_rel e2 _ _ _ _ _).2 ((@Kd.sc_rel e1 _ _ _ _ _).1 v2)
    · cases hs
  · rename_i a k b
    split at h
    · rename_i e he
      obtain ⟨h1, h2⟩ := @cellsE_dens e1 k a e .nl he
      have h1 : (@E.D e1 e).2 = a.map (@Sc.vI e1) ++ [] := h1
      have hd := hq e b h
      intro i s hs
      have hs : (if i < (@E.D e2 b).2.length then some (k.sc ((@E.D e2 b).2.getD i 0)) else none) = some s := hs
      rw [← hd, h1, List.append_nil, List.length_map] at hs
      split at hs
      · rename_i hlt
        cases hs
        obtain ⟨v, v1, v2⟩ := hv i a[i] (List.getElem?_eq_getElem hlt)
        refine ⟨v, v1, ?_⟩
        have hk := h2 a[i] (List.getElem_mem ..)
        have e3 : (a.map (@Sc.vI e1)).getD i 0 = @Sc.vI e1 a[i] := by rw [List.getD_eq_getElem?_getD, List.getElem?_map, List.getElem?_eq_getElem hlt]; rfl
        rw [e3]
        exact (@Kd.sc_rel e2 _ _ _ _ _).2 ((@Kd.sc_rel e1 _ _ _ _ _).1 (@kd_sc e1 _ _ _ _ _ hk v2))
      · cases hs
    · cases h
  · rename_i a ks b
    split at h
    · rename_i e he
      have h1 : (@E.D e1 e).2 = a.map (@Sc.vI e1) := @kcellsE_den e1 _ _ _ _ _ he
      have hd := hq e b h
      intro i s hs
      have hs : (if i < (@E.D e2 b).2.length then some ((ks.getD (i % ks.length) .bool).sc ((@E.D e2 b).2.getD i 0)) else none) = some s := hs
      rw [← hd, h1, List.length_map] at hs
      split at hs
      · rename_i hlt
        cases hs
        obtain ⟨v, v1, v2⟩ := hv i a[i] (List.getElem?_eq_getElem hlt)
        refine ⟨v, v1, ?_⟩
        have hk := kcellsE_kd he i a[i] (List.getElem?_eq_getElem hlt)
        rw [Nat.zero_add] at hk
        have e3 : (a.map (@Sc.vI e1)).getD i 0 = @Sc.vI e1 a[i] := by rw [List.getD_eq_getElem?_getD, List.getElem?_map, List.getElem?_eq_getElem hlt]; rfl
        rw [e3]
        exact (@Kd.sc_rel e2 _ _ _ _ _).2 ((@Kd.sc_rel e1 _ _ _ _ _).1 (@kd_sc e1 _ _ _ _ _ hk v2))
      · cases hs
    · cases h
  · cases h
/-- an object under another environment -/
structure Like2 (e1 e2 : Env) (o1 o2 : AO) : Prop where
  obj : ∀ ρ n w l, @ORel e1 ρ n w l o1 → @ORel e2 ρ n w l o2
  own : o2.own = true → o1.own = true
  dead : o2 ≠ .dead → o1 ≠ .dead
  foot : ∀ w l b, foot w l o2 b → foot w l o1 b
theorem simAO_like (hq : SimOk e1 e2 q) {a b : AO} (h : simAO q a b = true) : Like2 e1 e2 a b := by
  unfold simAO at h
  split at h
  · exact ⟨fun _ _ _ _ _ => True.intro, fun h => (by cases h), fun h => absurd rfl h, fun _ _ _ h => by rw [foot_row (fun _ _ e => by cases e)] at h; exact .inl h⟩
  · rename_i o s c o' s' c'
    simp only [Bool.and_eq_true, beq_iff_eq] at h
    obtain ⟨ho, rfl, hc⟩ := h
    have hown : o' = true → o = true := fun e => by subst e; simpa using ho
    refine ⟨fun ρ n w l hh => ⟨fun hl => by rw [← simC_len hq hc]; exact hh.1 hl, fun hl => ⟨simC_rel hq hc (hh.2 hl).1, fun e => ?_⟩⟩, hown, fun _ e => (by cases e), fun w l b hb => ?_⟩
    · rw [← simC_len hq hc]
      exact (hh.2 hl).2 (hown e)
    · rw [foot_row (fun _ _ e => by cases e)] at hb ⊢
      exact hb
  · rename_i a b
    simp only [Bool.and_eq_true, List.isEmpty_iff] at h
    obtain ⟨rfl, rfl⟩ := h
    refine ⟨fun ρ n w l hh => ?_, id, fun _ e => (by cases e), fun w l b hb => hb⟩
    obtain ⟨h1, es', h2, h3, en, cl, h4, h5, _⟩ := hh
    have h2 : es' = [] := h2.eq_nil
    subst h2
    exact ⟨h1, [], .refl _, h3, en, cl, h4, h5, fun i k v e hi => by simp at hi⟩
  · cases h
theorem simSt_like (hq : SimOk e1 e2 q) : ∀ {σ τ : St}, simSt q σ τ = true → σ.length = τ.length ∧ ∀ i, Like2 e1 e2 (σ.at i) (τ.at i)
  | [], [], _ => ⟨rfl, fun _ => simAO_like hq (a := .dead) (b := .dead) rfl⟩
  | [], _ :: _, h => by cases h
  | _ :: _, [], h => by cases h
  | a :: l, b :: m, h => by
    simp only [simSt, Bool.and_eq_true] at h
    obtain ⟨q1, q2⟩ := simSt_like hq h.2
    refine ⟨by simp [q1], fun i => ?_⟩
    cases i with
    | zero => exact simAO_like hq h.1
    | succ i => exact q2 i
theorem Rel.sim (hq : SimOk e1 e2 q) {σ τ : St} (h : simSt q σ τ = true) {ρ : Nat → Loc} {w : World} (hr : @Rel e1 ρ σ w) : @Rel e2 ρ τ w := by
  obtain ⟨hl, hk⟩ := simSt_like hq h
  obtain ⟨h1, h2, h3⟩ := hr
  refine @Rel.mk e2 ρ τ w (fun i => by rw [← hl]; exact (hk i).obj _ _ _ _ (h1 i)) (fun i j hij ho hu b hb1 hb2 => h2 i j hij ⟨ho.1, (hk i).own ho.2⟩ ⟨hu.1, (hk j).dead hu.2⟩ b ((hk i).foot _ _ _ hb1) ((hk j).foot _ _ _ hb2)) (fun i hu => h3 i ⟨hu.1, (hk i).dead hu.2⟩)
/-- a frame that is told slot by slot -/
theorem FRel.sim (hq : SimOk e1 e2 q) {ρ : Nat → Loc} {n : Nat} {f : Fr} {ts : Array Value} (h : @FRel e1 ρ n f ts) {g0 : Fr} (h0 : @FRel e2 ρ n g0 ts) : ∀ {l : List (Nat × AV)}, (l.all fun p => simAV q (f.get p.1) p.2) = true → @FRel e2 ρ n (setsF l g0) ts := by
  intro l hl
  refine @setsF_rel e2 ρ n ts l g0 h0 fun p hp => ?_
  exact simAV_rel hq (List.all_eq_true.1 hl p hp) (h.2.1 p.1)
end
end Go.SX
