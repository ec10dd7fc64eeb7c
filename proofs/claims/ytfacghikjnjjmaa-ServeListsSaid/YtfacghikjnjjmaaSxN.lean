/- Numbers and bools as data: known ones, and Lean's own terms. -/
import Derived.Calls
import Derived.Orders
import Derived.KernelRfl
import Derived.Below
namespace Go.SX
open Go

/-- terms: names, uninterpreted functions, operations; lists for the functions' arguments -/
inductive E where
  | num (n : Int)
  | nm (i : Nat) (lo hi : Int)
  | ap (f : Nat) (a : E) (lo hi : Int)
  | nl
  | cn (a b : E)
  | op (o : BinOp) (k : IntKind) (a b : E)
  | wr (k : IntKind) (a : E)
  | pl (a b : E)
  | mi (a b : E)
  | sel (r l : E)
  | ls (i : Nat) (a : E) (lo hi : Int) (n : Nat)
  | ln (l : E)
  | sb (l o m : E)
  | cc (a b : E)
  /-- a list with another entry; within bounds -/
  | st (r a l : E) (lo hi : Int)
  /-- 0 just where two lists are one -/
  | dq (a b : E)
  deriving Inhabited
inductive EB where
  | kb (b : Bool)
  | eq (a b : E)
  | lt (a b : E)
  | nt (a : EB)
  | an (a b : EB)
  | or (a b : EB)
  | iff (a b : EB)
  /-- lists' equality -/
  | lq (a b : E)
  deriving Inhabited
inductive X where
  | c (n : Int)
  | sem (n : Int)
  | ex (e : E)
  deriving Inhabited
inductive B where
  | c (b : Bool)
  | sem (b : Bool)
  | ex (b : EB)
  deriving Inhabited
/-- what names and functions are -/
class Env where
  val : Nat → Int
  app : Nat → List Int → Int
  lst : Nat → List Int → List Int

def E.beq : E → E → Bool
  | .num a, .num b => a == b
  | .nm i a b, .nm j c d => i == j && (a == c && b == d)
  | .ap f x a b, .ap g y c d => f == g && (x.beq y && (a == c && b == d))
  | .nl, .nl => true
  | .cn a b, .cn c d => a.beq c && b.beq d
  | .op o k a b, .op p j c d => decide (o = p) && (decide (k = j) && (a.beq c && b.beq d))
  | .wr k a, .wr j b => decide (k = j) && a.beq b
  | .pl a b, .pl c d => a.beq c && b.beq d
  | .mi a b, .mi c d => a.beq c && b.beq d
  | .sel a b, .sel c d => a.beq c && b.beq d
  | .ls i a b c d, .ls j e f g h => i == j && (a.beq e && (b == f && (c == g && d == h)))
  | .ln a, .ln b => a.beq b
  | .sb a b c, .sb d e f => a.beq d && (b.beq e && c.beq f)
  | .cc a b, .cc c d => a.beq c && b.beq d
  | .st a b c d e, .st f g h i j => a.beq f && (b.beq g && (c.beq h && (d == i && e == j)))
  | .dq a b, .dq c d => a.beq c && b.beq d
  | _, _ => false
theorem E.beq_eq : ∀ {a b : E}, a.beq b = true → a = b
  | .num a, b, h => by
    cases b <;> first | (cases h; done) | skip
    simp only [E.beq, beq_iff_eq] at h; rw [h]
  | .nm i a b, y, h => by
    cases y <;> first | (cases h; done) | skip
    simp only [E.beq, Bool.and_eq_true, beq_iff_eq] at h
    obtain ⟨h1, h2, h3⟩ := h; rw [h1, h2, h3]
  | .ap f x a b, y, h => by
    cases y <;> first | (cases h; done) | skip
    simp only [E.beq, Bool.and_eq_true, beq_iff_eq] at h
    obtain ⟨h1, h2, h3, h4⟩ := h; rw [h1, E.beq_eq h2, h3, h4]
  | .nl, y, h => by cases y <;> first | (cases h; done) | rfl
  | .cn a b, y, h => by
    cases y <;> first | (cases h; done) | skip
    simp only [E.beq, Bool.and_eq_true] at h
    rw [E.beq_eq h.1, E.beq_eq h.2]
  | .op o k a b, y, h => by
    cases y <;> first | (cases h; done) | skip
    simp only [E.beq, Bool.and_eq_true, decide_eq_true_eq] at h
    obtain ⟨h1, h2, h3, h4⟩ := h; rw [h1, h2, E.beq_eq h3, E.beq_eq h4]
  | .wr k a, y, h => by
    cases y <;> first | (cases h; done) | skip
    simp only [E.beq, Bool.and_eq_true, decide_eq_true_eq] at h
    rw [h.1, E.beq_eq h.2]
  | .pl a b, y, h => by
    cases y <;> first | (cases h; done) | skip
    simp only [E.beq, Bool.and_eq_true] at h
    rw [E.beq_eq h.1, E.beq_eq h.2]
  | .mi a b, y, h => by
    cases y <;> first | (cases h; done) | skip
    simp only [E.beq, Bool.and_eq_true] at h
    rw [E.beq_eq h.1, E.beq_eq h.2]
  | .sel a b, y, h => by
    cases y <;> first | (cases h; done) | skip
    simp only [E.beq, Bool.and_eq_true] at h
    rw [E.beq_eq h.1, E.beq_eq h.2]
  | .ls i a b c d, y, h => by
    cases y <;> first | (cases h; done) | skip
    simp only [E.beq, Bool.and_eq_true, beq_iff_eq] at h
    obtain ⟨h1, h2, h3, h4, h5⟩ := h; rw [h1, E.beq_eq h2, h3, h4, h5]
  | .ln a, y, h => by
    cases y <;> first | (cases h; done) | skip
    simp only [E.beq] at h
    rw [E.beq_eq h]
  | .sb a b c, y, h => by
    cases y <;> first | (cases h; done) | skip
    simp only [E.beq, Bool.and_eq_true] at h
    rw [E.beq_eq h.1, E.beq_eq h.2.1, E.beq_eq h.2.2]
  | .cc a b, y, h => by
    cases y <;> first | (cases h; done) | skip
    simp only [E.beq, Bool.and_eq_true] at h
    rw [E.beq_eq h.1, E.beq_eq h.2]
  | .st a b c d e, y, h => by
    cases y <;> first | (cases h; done) | skip
    simp only [E.beq, Bool.and_eq_true, beq_iff_eq] at h
    obtain ⟨h1, h2, h3, h4, h5⟩ := h
    rw [E.beq_eq h1, E.beq_eq h2, E.beq_eq h3, h4, h5]
  | .dq a b, y, h => by
    cases y <;> first | (cases h; done) | skip
    simp only [E.beq, Bool.and_eq_true] at h
    rw [E.beq_eq h.1, E.beq_eq h.2]

def EB.beq : EB → EB → Bool
  | .kb a, .kb b => a == b
  | .eq a b, .eq c d => a.beq c && b.beq d
  | .lt a b, .lt c d => a.beq c && b.beq d
  | .nt a, .nt b => a.beq b
  | .an a b, .an c d => a.beq c && b.beq d
  | .or a b, .or c d => a.beq c && b.beq d
  | .iff a b, .iff c d => a.beq c && b.beq d
  | .lq a b, .lq c d => a.beq c && b.beq d
  | _, _ => false
theorem EB.beq_eq : ∀ {a b : EB}, a.beq b = true → a = b
  | .kb a, b, h => by
    cases b <;> first | (cases h; done) | skip
    simp only [EB.beq, beq_iff_eq] at h; rw [h]
  | .eq a b, y, h => by
    cases y <;> first | (cases h; done) | skip
    simp only [EB.beq, Bool.and_eq_true] at h
    rw [E.beq_eq h.1, E.beq_eq h.2]
  | .lt a b, y, h => by
    cases y <;> first | (cases h; done) | skip
    simp only [EB.beq, Bool.and_eq_true] at h
    rw [E.beq_eq h.1, E.beq_eq h.2]
  | .nt a, y, h => by
    cases y <;> first | (cases h; done) | skip
    simp only [EB.beq] at h
    rw [EB.beq_eq h]
  | .an a b, y, h => by
    cases y <;> first | (cases h; done) | skip
    simp only [EB.beq, Bool.and_eq_true] at h
    rw [EB.beq_eq h.1, EB.beq_eq h.2]
  | .or a b, y, h => by
    cases y <;> first | (cases h; done) | skip
    simp only [EB.beq, Bool.and_eq_true] at h
    rw [EB.beq_eq h.1, EB.beq_eq h.2]
  | .iff a b, y, h => by
    cases y <;> first | (cases h; done) | skip
    simp only [EB.beq, Bool.and_eq_true] at h
    rw [EB.beq_eq h.1, EB.beq_eq h.2]
  | .lq a b, y, h => by
    cases y <;> first | (cases h; done) | skip
    simp only [EB.beq, Bool.and_eq_true] at h
    rw [E.beq_eq h.1, E.beq_eq h.2]

/-- what an operation on numbers of a kind gives -/
def semI (o : BinOp) (k : IntKind) (a b : Int) : Int :=
  match o with
  | .add => k.wrap (a + b)
  | .sub => k.wrap (a - b)
  | .mul => k.wrap (a * b)
  | .quo => k.wrap (a.tdiv b)
  | .rem => a.tmod b
  | .and => k.wrap (BitVec.ofInt k.bits a &&& BitVec.ofInt k.bits b).toNat
  | .or => k.wrap (BitVec.ofInt k.bits a ||| BitVec.ofInt k.bits b).toNat
  | .xor => k.wrap (BitVec.ofInt k.bits a ^^^ BitVec.ofInt k.bits b).toNat
  | .andNot => k.wrap (BitVec.ofInt k.bits a &&& ~~~BitVec.ofInt k.bits b).toNat
  | .shl => k.wrap (a * 2 ^ min b.toNat k.bits)
  | .shr => a.fdiv (2 ^ min b.toNat k.bits)
  | _ => 0

def clampI (lo hi n : Int) : Int := if lo ≤ n ∧ n ≤ hi then n else lo
def minI (a b : Int) : Int := if a ≤ b then a else b
def maxI (a b : Int) : Int := if a ≤ b then b else a
/-- functions from here on give no more than their first argument -/
def HB : Nat := 1099511627776
def hiA (f : Nat) (hi : Int) (l : List Int) : Int := if HB ≤ f then minI hi (l.headD 0) else hi
section
variable [Env]
def E.D : E → Int × List Int
  | .num n => (n, [])
  | .nm i lo hi => (clampI lo hi (Env.val i), [])
  | .ap f a lo hi => (clampI lo (hiA f hi a.D.2) (Env.app (f % HB) a.D.2), [])
  | .nl => (0, [])
  | .cn a b => (0, a.D.1 :: b.D.2)
  | .op o k a b => (semI o k a.D.1 b.D.1, [])
  | .wr k a => (k.wrap a.D.1, [])
  | .pl a b => (a.D.1 + b.D.1, [])
  | .mi a b => (a.D.1 - b.D.1, [])
  | .sel r l => (l.D.2.getD r.D.1.toNat 0, [])
  | .ls i a lo hi n => (0, ((Env.lst i a.D.2).take n).map (clampI lo hi))
  | .ln l => ((l.D.2.length : Int), [])
  | .sb l o m => (0, (l.D.2.drop o.D.1.toNat).take m.D.1.toNat)
  | .cc a b => (0, a.D.2 ++ b.D.2)
  | .st r a l lo hi => (0, (l.D.2.set r.D.1.toNat a.D.1).map (clampI lo hi))
  | .dq a b => (if a.D.2 = b.D.2 then 0 else 1, [])
def E.den (e : E) : Int := e.D.1
def E.dens (e : E) : List Int := e.D.2
def EB.den : EB → Bool
  | .kb b => b
  | .eq a b => a.den == b.den
  | .lt a b => decide (a.den < b.den)
  | .nt a => !a.den
  | .an a b => a.den && b.den
  | .or a b => a.den || b.den
  | .iff a b => a.den == b.den
  | .lq a b => a.dens == b.dens
def X.den : X → Int
  | .c n => n
  | .sem n => n
  | .ex e => e.den
def B.den : B → Bool
  | .c b => b
  | .sem b => b
  | .ex b => b.den
end
/-- an entry of a list -/
def selE (r : E) : E → E
  | .cn a b => match r with
    | .num n => if n ≤ 0 then a else selE (.num (n - 1)) b
    | r => .sel r (.cn a b)
  | l => .sel r l
theorem selE_den [Env] : ∀ (l r : E), (selE r l).den = l.D.2.getD r.den.toNat 0
  | .cn a b, r => by
    unfold selE
    split
    · rename_i n
      split
      · rename_i h
        show a.D.1 = (a.D.1 :: b.D.2).getD (E.den (.num n)).toNat 0
        have : (E.den (.num n)).toNat = 0 := by show n.toNat = 0; omega
        rw [this]; rfl
      · rename_i h
        rw [selE_den b]
        show b.D.2.getD (n - 1).toNat 0 = (a.D.1 :: b.D.2).getD n.toNat 0
        rw [show n.toNat = (n - 1).toNat + 1 by omega]; rfl
    · rfl
  | .num _, _ => rfl
  | .nm _ _ _, _ => rfl
  | .ap _ _ _ _, _ => rfl
  | .nl, _ => rfl
  | .op _ _ _ _, _ => rfl
  | .wr _ _, _ => rfl
  | .pl _ _, _ => rfl
  | .mi _ _, _ => rfl
  | .sel _ _, _ => rfl
  | .ls _ _ _ _ _, _ => rfl
  | .ln _, _ => rfl
  | .sb _ _ _, _ => rfl
  | .st _ _ _ _ _, _ => rfl
  | .dq _ _, _ => rfl
  | .cc _ _, _ => rfl
def xOf : E → X
  | .num n => .c n
  | e => .ex e
theorem xOf_den [Env] (e : E) : (xOf e).den = e.den := by cases e <;> rfl
/-- terms, unless they are Lean's own -/
def X.e? : X → Option E
  | .c n => some (.num n)
  | .ex e => some e
  | .sem _ => none
def B.e? : B → Option EB
  | .c b => some (.kb b)
  | .ex e => some e
  | .sem _ => none
/-! Ranges. -/
theorem two_le_pow (n : Nat) (h : 1 ≤ n) : (2 : Int) ≤ 2 ^ n := by
  have : (2 : Int) ^ 1 ≤ 2 ^ n := by
    have := Nat.pow_le_pow_right (n := 2) (by omega) h
    exact_mod_cast this
  simpa using this
theorem wrap_has (k : IntKind) (n : Int) : k.has (k.wrap n) := by
  cases k <;> simp only [IntKind.has, IntKind.wrap, IntKind.min, IntKind.max, IntKind.signed, IntKind.bits, Bool.true_and, Bool.false_and, Bool.false_eq_true, if_true, if_false, Nat.reduceSub, Int.reducePow, Int.reduceNeg, Int.reduceSub] <;> first
    | (split <;> (rename_i h; simp at h; omega))
    | omega
theorem wrap_of_has {k : IntKind} {n : Int} (h : k.has n) : k.wrap n = n := by
  cases k <;> simp only [IntKind.has, IntKind.wrap, IntKind.min, IntKind.max, IntKind.signed, IntKind.bits, Bool.true_and, Bool.false_and, Bool.false_eq_true, if_true, if_false, Nat.reduceSub, Int.reducePow, Int.reduceNeg, Int.reduceSub] at h ⊢ <;> first
    | (split <;> (rename_i h; simp at h; omega))
    | omega
theorem has_bounds (k : IntKind) : k.min ≤ 0 ∧ 0 ≤ k.max ∧ (k.signed = false → k.min = 0) ∧ (k.signed = true → k.min = -(k.max + 1)) := by
  cases k <;> simp [IntKind.min, IntKind.max, IntKind.signed, IntKind.bits]
theorem has_zero (k : IntKind) : k.has 0 := ⟨(has_bounds k).1, (has_bounds k).2.1⟩
theorem emod_le' {a : Int} (h : 0 ≤ a) (b : Int) : a % b ≤ a := by
  have h1 := Int.mul_ediv_add_emod a b
  by_cases hb : b = 0
  · subst hb; simp
  rcases Int.lt_or_gt_of_ne hb with h2 | h2
  · rw [← Int.emod_neg]
    have h1 := Int.mul_ediv_add_emod a (-b)
    have h3 : 0 ≤ a / (-b) := Int.ediv_nonneg h (by omega)
    have := Int.mul_nonneg (show 0 ≤ -b by omega) h3
    omega
  · have h3 : 0 ≤ a / b := Int.ediv_nonneg h (by omega)
    have := Int.mul_nonneg (show 0 ≤ b by omega) h3
    omega
theorem tmod_has {k : IntKind} {a b : Int} (h : k.has a) : k.has (a.tmod b) := by
  obtain ⟨h1, h2⟩ := h
  have hb := has_bounds k
  rcases Int.le_total 0 a with ha | ha
  · have := Int.tmod_nonneg b ha
    have : a.tmod b ≤ a := by
      rw [Int.tmod_eq_emod_of_nonneg ha]
      exact emod_le' ha b
    exact ⟨by omega, by omega⟩
  · have e : a.tmod b = -((-a).tmod b) := by rw [Int.neg_tmod, Int.neg_neg]
    have h3 := Int.tmod_nonneg b (show 0 ≤ -a by omega)
    have h4 : (-a).tmod b ≤ -a := by
      rw [Int.tmod_eq_emod_of_nonneg (by omega)]
      exact emod_le' (by omega) b
    rw [e]
    exact ⟨by omega, by omega⟩
theorem fdiv_has {k : IntKind} {a : Int} {n : Nat} (h : k.has a) : k.has (a.fdiv (2 ^ n)) := by
  obtain ⟨h1, h2⟩ := h
  have hb := has_bounds k
  have hp : (0 : Int) < 2 ^ n := Int.pow_pos (by omega)
  rw [Int.fdiv_eq_ediv_of_nonneg _ (by omega)]
  rcases Int.le_total 0 a with ha | ha
  · have h3 := Int.ediv_nonneg ha (show (0 : Int) ≤ 2 ^ n by omega)
    have h4 := Int.ediv_le_self (2 ^ n) ha
    exact ⟨by omega, by omega⟩
  · have h3 : a / 2 ^ n ≤ 0 := by
      have := Int.ediv_le_ediv (c := 2 ^ n) hp ha
      simpa using this
    have h4 : a ≤ a / 2 ^ n := by
      rw [Int.le_ediv_iff_mul_le hp]
      have h5 : 0 ≤ (-a) * (2 ^ n - 1) := Int.mul_nonneg (by omega) (by omega)
      rw [Int.mul_sub, Int.mul_one, Int.neg_mul] at h5
      omega
    exact ⟨by omega, by omega⟩
theorem semI_has {o : BinOp} {k : IntKind} {a b : Int} (h : k.has a) : k.has (semI o k a b) := by
  cases o <;> simp only [semI] <;> first
    | exact wrap_has _ _
    | exact tmod_has h
    | exact fdiv_has h
    | exact has_zero k

/-! Ranges of terms. -/
def fitR (k : IntKind) (r : Int × Int) : Bool := decide (k.min ≤ r.1) && decide (r.2 ≤ k.max)
def kR (k : IntKind) : Int × Int := (k.min, k.max)
def orK (k : IntKind) (r : Int × Int) : Int × Int := if fitR k r then r else kR k
/-- 2^m - 1 of the least m that is great enough -/
def onesOf (n : Int) : Int := 2 ^ (Nat.log2 n.toNat + 1) - 1
def opR (o : BinOp) (k : IntKind) (a b : Int × Int) : Int × Int :=
  match o with
  | .add => orK k (a.1 + b.1, a.2 + b.2)
  | .sub => orK k (a.1 - b.2, a.2 - b.1)
  | .mul => if 0 ≤ a.1 ∧ 0 ≤ b.1 then orK k (0, a.2 * b.2) else kR k
  | .and => if 0 ≤ b.1 ∧ b.2 ≤ k.max then (0, b.2) else if 0 ≤ a.1 ∧ a.2 ≤ k.max then (0, a.2) else kR k
  | .or => if 0 ≤ a.1 ∧ 0 ≤ b.1 ∧ onesOf (maxI a.2 b.2) ≤ k.max ∧ a.2 < 2 ^ k.bits ∧ b.2 < 2 ^ k.bits then (maxI a.1 b.1, onesOf (maxI a.2 b.2)) else kR k
  | .xor => if 0 ≤ a.1 ∧ 0 ≤ b.1 ∧ onesOf (maxI a.2 b.2) ≤ k.max then (0, onesOf (maxI a.2 b.2)) else kR k
  | .andNot => kR k
  | .quo => if 0 ≤ a.1 ∧ 0 < b.1 then orK k (0, a.2 / b.1) else kR k
  | .shl => if 0 ≤ a.1 ∧ 0 ≤ b.1 then orK k (a.1, a.2 * 2 ^ min b.2.toNat k.bits) else kR k
  | .shr => if b.1 = b.2 then (a.1.fdiv (2 ^ min b.2.toNat k.bits), a.2.fdiv (2 ^ min b.2.toNat k.bits)) else (minI a.1 0, maxI a.2 0)
  | .rem => if 0 ≤ a.1 ∧ 0 < b.1 then (0, minI a.2 (b.2 - 1)) else (minI a.1 0, maxI a.2 0)
  | _ => (0, 0)
/-- how long a list is -/
def E.L : E → Int × Int
  | .cn _ b => (b.L.1 + 1, b.L.2 + 1)
  | .ls _ _ _ _ n => (0, (n : Int))
  | .sb l _ _ => (0, l.L.2)
  | .cc a b => (a.L.1 + b.L.1, a.L.2 + b.L.2)
  | .st _ _ l _ _ => l.L
  | _ => (0, 0)
/-- of a term; of a list's members and 0 -/
def E.R : E → (Int × Int) × (Int × Int)
  | .num n => ((n, n), (0, 0))
  | .nm _ lo hi => ((lo, maxI lo hi), (0, 0))
  | .ap _ _ lo hi => ((lo, maxI lo hi), (0, 0))
  | .nl => ((0, 0), (0, 0))
  | .cn a b => ((0, 0), (minI a.R.1.1 b.R.2.1, maxI a.R.1.2 b.R.2.2))
  | .op o k a b => (opR o k a.R.1 b.R.1, (0, 0))
  | .wr k a => (orK k a.R.1, (0, 0))
  | .pl a b => ((a.R.1.1 + b.R.1.1, a.R.1.2 + b.R.1.2), (0, 0))
  | .mi a b => ((a.R.1.1 - b.R.1.2, a.R.1.2 - b.R.1.1), (0, 0))
  | .sel _ l => (l.R.2, (0, 0))
  | .ls _ _ lo hi _ => ((0, 0), (minI lo 0, maxI (maxI lo hi) 0))
  | .ln l => (l.L, (0, 0))
  | .sb l _ _ => ((0, 0), l.R.2)
  | .cc a b => ((0, 0), (minI a.R.2.1 b.R.2.1, maxI a.R.2.2 b.R.2.2))
  | .st _ _ _ lo hi => ((0, 0), (minI lo 0, maxI (maxI lo hi) 0))
  | .dq _ _ => ((0, 1), (0, 0))
def inR (n : Int) (r : Int × Int) : Prop := r.1 ≤ n ∧ n ≤ r.2
theorem minI_le (a b : Int) : minI a b ≤ a ∧ minI a b ≤ b := by unfold minI; split <;> omega
theorem le_maxI (a b : Int) : a ≤ maxI a b ∧ b ≤ maxI a b := by unfold maxI; split <;> omega
theorem clamp_in (lo hi n : Int) : inR (clampI lo hi n) (lo, maxI lo hi) := by
  unfold clampI inR maxI
  split <;> split <;> simp <;> omega
theorem hiA_le (f : Nat) (hi : Int) (l : List Int) : hiA f hi l ≤ hi := by
  unfold hiA minI
  split <;> (try split) <;> omega
theorem clampA_in (f : Nat) (lo hi n : Int) (l : List Int) : inR (clampI lo (hiA f hi l) n) (lo, maxI lo hi) := by
  have h1 := clamp_in lo (hiA f hi l) n
  have h2 := hiA_le f hi l
  unfold inR maxI at *
  simp only at *
  constructor
  · exact h1.1
  · have := h1.2
    split at this <;> split <;> omega
theorem clampA_head {f : Nat} {lo hi n : Int} {l : List Int} (hf : HB ≤ f) (h : lo ≤ l.headD 0) : clampI lo (hiA f hi l) n ≤ l.headD 0 := by
  have h2 : hiA f hi l ≤ l.headD 0 := by
    unfold hiA minI
    rw [if_pos hf]
    split <;> omega
  unfold clampI
  split
  · omega
  · exact h
theorem clamp_eq {lo hi n : Int} (h : lo ≤ n ∧ n ≤ hi) : clampI lo hi n = n := if_pos h
theorem wrap_in (k : IntKind) (n : Int) : inR (k.wrap n) (kR k) := wrap_has k n
theorem fitR_has {k : IntKind} {r : Int × Int} {n : Int} (h : fitR k r = true) (hn : inR n r) : k.has n := by
  unfold fitR at h
  rw [Bool.and_eq_true, decide_eq_true_eq, decide_eq_true_eq] at h
  exact ⟨by have := hn.1; omega, by have := hn.2; omega⟩
theorem orK_in {k : IntKind} {r : Int × Int} {n : Int} (hn : inR n r) : inR (k.wrap n) (orK k r) := by
  unfold orK
  split
  · rename_i h
    rw [wrap_of_has (fitR_has h hn)]; exact hn
  · exact wrap_in k n
theorem ofInt_le (w : Nat) (a : Int) (h : 0 ≤ a) : ((BitVec.ofInt w a).toNat : Int) ≤ a := by
  rw [BitVec.toNat_ofInt]
  have h2 : (0 : Int) < ((2 ^ w : Nat) : Int) := by exact_mod_cast Nat.two_pow_pos w
  have := Int.emod_nonneg a (b := ((2 ^ w : Nat) : Int)) (by omega)
  have := emod_le' h ((2 ^ w : Nat) : Int)
  omega
theorem ones_lt (n : Int) (a : Nat) (h : (a : Int) ≤ n) : a < 2 ^ (Nat.log2 n.toNat + 1) :=
  Nat.lt_of_le_of_lt (by omega : a ≤ n.toNat) Nat.lt_log2_self
theorem ones_in {k : IntKind} {n : Int} {m : Nat} (h : m < 2 ^ (Nat.log2 n.toNat + 1)) (hk : onesOf n ≤ k.max) : inR (k.wrap m) (0, onesOf n) := by
  have h1 : (m : Int) ≤ onesOf n := by
    unfold onesOf
    have : (m : Int) < ((2 ^ (Nat.log2 n.toNat + 1) : Nat) : Int) := by exact_mod_cast h
    rw [Int.natCast_pow] at this
    have e : ((2 : Nat) : Int) = 2 := rfl
    rw [e] at this
    omega
  have hb := has_bounds k
  rw [wrap_of_has ⟨by omega, by omega⟩]
  exact ⟨by simp, h1⟩
theorem fdiv_mono {a b c : Int} (hc : 0 < c) (h : a ≤ b) : a.fdiv c ≤ b.fdiv c := by
  rw [Int.fdiv_eq_ediv_of_nonneg _ (by omega), Int.fdiv_eq_ediv_of_nonneg _ (by omega)]
  exact Int.ediv_le_ediv hc h
theorem op_in {o : BinOp} {k : IntKind} {a b : Int} {ra rb : Int × Int} (ha : inR a ra) (hb : inR b rb) : inR (semI o k a b) (opR o k ra rb) := by
  obtain ⟨a1, a2⟩ := ha
  obtain ⟨b1, b2⟩ := hb
  cases o <;> simp only [semI, opR]
  case add => exact orK_in ⟨by simp; omega, by simp; omega⟩
  case sub => exact orK_in ⟨by simp; omega, by simp; omega⟩
  case mul =>
    split
    · rename_i h
      refine orK_in ⟨Int.mul_nonneg (by omega) (by omega), ?_⟩
      exact Int.mul_le_mul a2 b2 (by omega) (by omega)
    · exact wrap_in _ _
  case and =>
    have e : (BitVec.ofInt k.bits a &&& BitVec.ofInt k.bits b).toNat = (BitVec.ofInt k.bits a).toNat &&& (BitVec.ofInt k.bits b).toNat := BitVec.toNat_and ..
    have hk := has_bounds k
    rw [e]
    have h2 : (BitVec.ofInt k.bits a).toNat &&& (BitVec.ofInt k.bits b).toNat ≤ (BitVec.ofInt k.bits b).toNat := Nat.and_le_right
    have h3 : (BitVec.ofInt k.bits a).toNat &&& (BitVec.ofInt k.bits b).toNat ≤ (BitVec.ofInt k.bits a).toNat := Nat.and_le_left
    have h4 := ofInt_le k.bits a
    have h5 := ofInt_le k.bits b
    generalize (BitVec.ofInt k.bits a).toNat &&& (BitVec.ofInt k.bits b).toNat = m at *
    generalize (BitVec.ofInt k.bits a).toNat = x at *
    generalize (BitVec.ofInt k.bits b).toNat = y at *
    split
    · rename_i h
      have h6 := h5 (by omega)
      rw [wrap_of_has ⟨by omega, by omega⟩]
      exact ⟨by simp, by simp; omega⟩
    · split
      · rename_i h
        have h6 := h4 (by omega)
        rw [wrap_of_has ⟨by omega, by omega⟩]
        exact ⟨by simp, by simp; omega⟩
      · exact wrap_in _ _
  case or =>
    split
    · rename_i h
      have h1 := ofInt_le k.bits a (by omega)
      have h2 := ofInt_le k.bits b (by omega)
      have hm := le_maxI ra.2 rb.2
      have ha : (BitVec.ofInt k.bits a).toNat = a.toNat := by
        rw [BitVec.toNat_ofInt, Int.emod_eq_of_lt (by omega) (by rw [Int.natCast_pow]; exact Int.lt_of_le_of_lt a2 h.2.2.2.1)]
      have hb : (BitVec.ofInt k.bits b).toNat = b.toNat := by
        rw [BitVec.toNat_ofInt, Int.emod_eq_of_lt (by omega) (by rw [Int.natCast_pow]; exact Int.lt_of_le_of_lt b2 h.2.2.2.2)]
      rw [BitVec.toNat_or, ha, hb]
      have q1 : a.toNat ≤ a.toNat ||| b.toNat := Nat.left_le_or
      have q2 : b.toNat ≤ a.toNat ||| b.toNat := Nat.right_le_or
      have q3 : a.toNat ||| b.toNat < 2 ^ (Nat.log2 (maxI ra.2 rb.2).toNat + 1) := Nat.or_lt_two_pow (ones_lt _ _ (by omega)) (ones_lt _ _ (by omega))
      generalize a.toNat ||| b.toNat = m at *
      have q4 := ones_in q3 h.2.2.1
      have hk := has_bounds k
      refine ⟨?_, q4.2⟩
      have q5 : (m : Int) ≤ onesOf (maxI ra.2 rb.2) := by
        unfold onesOf
        have : (m : Int) < ((2 ^ (Nat.log2 (maxI ra.2 rb.2).toNat + 1) : Nat) : Int) := by exact_mod_cast q3
        rw [Int.natCast_pow] at this
        have e : ((2 : Nat) : Int) = 2 := rfl
        rw [e] at this
        omega
      rw [wrap_of_has ⟨by omega, by omega⟩]
      show maxI ra.1 rb.1 ≤ _
      unfold maxI
      split <;> omega
    · exact wrap_in _ _
  case xor =>
    split
    · rename_i h
      have h1 := ofInt_le k.bits a (by omega)
      have h2 := ofInt_le k.bits b (by omega)
      have hm := le_maxI ra.2 rb.2
      refine ones_in ?_ h.2.2
      rw [BitVec.toNat_xor]
      exact Nat.xor_lt_two_pow (ones_lt _ _ (by omega)) (ones_lt _ _ (by omega))
    · exact wrap_in _ _
  case andNot => exact wrap_in _ _
  case quo =>
    split
    · rename_i h
      rw [Int.tdiv_eq_ediv_of_nonneg (by omega)]
      refine orK_in ⟨Int.ediv_nonneg (by omega) (by omega), ?_⟩
      have hm : (a / b) * rb.1 ≤ (a / b) * b := Int.mul_le_mul_of_nonneg_left b1 (Int.ediv_nonneg (by omega) (by omega))
      have hd := Int.ediv_mul_le a (show b ≠ 0 by omega)
      exact (Int.le_ediv_iff_mul_le h.2).2 (by omega)
    · exact wrap_in _ _
  case shl =>
    split
    · rename_i h
      have hp : (0 : Int) < 2 ^ min b.toNat k.bits := Int.pow_pos (by omega)
      have hle : (2 : Int) ^ min b.toNat k.bits ≤ 2 ^ min rb.2.toNat k.bits := by
        have : 2 ^ min b.toNat k.bits ≤ 2 ^ min rb.2.toNat k.bits := Nat.pow_le_pow_right (by omega) (by omega)
        exact_mod_cast this
      refine orK_in ⟨?_, Int.mul_le_mul a2 hle (Int.le_of_lt hp) (by omega)⟩
      have := Int.mul_le_mul_of_nonneg_left (show (1 : Int) ≤ 2 ^ min b.toNat k.bits by omega) (show 0 ≤ a by omega)
      show ra.1 ≤ _
      omega
    · exact wrap_in _ _
  case shr =>
    have hp : (0 : Int) < 2 ^ min b.toNat k.bits := Int.pow_pos (by omega)
    split
    · rename_i h
      have e : b = rb.2 := by omega
      subst e
      exact ⟨fdiv_mono hp a1, fdiv_mono hp a2⟩
    · have m1 := minI_le ra.1 0
      have m2 := le_maxI ra.2 0
      have h3 : (0 : Int).fdiv (2 ^ min b.toNat k.bits) = 0 := Int.zero_fdiv _
      rcases Int.le_total 0 a with h | h
      · have h4 := fdiv_mono hp h
        have h5 : a.fdiv (2 ^ min b.toNat k.bits) ≤ a := by
          rw [Int.fdiv_eq_ediv_of_nonneg _ (by omega)]
          exact Int.ediv_le_self _ h
        exact ⟨by simp; omega, by simp; omega⟩
      · have h4 := fdiv_mono hp h
        have h5 : a ≤ a.fdiv (2 ^ min b.toNat k.bits) := by
          rw [Int.fdiv_eq_ediv_of_nonneg _ (by omega), Int.le_ediv_iff_mul_le hp]
          have h5 : 0 ≤ (-a) * (2 ^ min b.toNat k.bits - 1) := Int.mul_nonneg (by omega) (by omega)
          rw [Int.mul_sub, Int.mul_one, Int.neg_mul] at h5
          omega
        exact ⟨by simp; omega, by simp; omega⟩
  case rem =>
    have m1 := minI_le ra.1 0
    have m2 := le_maxI ra.2 0
    split
    · rename_i h
      rw [Int.tmod_eq_emod_of_nonneg (by omega)]
      have h1 := Int.emod_nonneg a (b := b) (by omega)
      have h2 := Int.emod_lt_of_pos a (show 0 < b by omega)
      have h3 := emod_le' (show 0 ≤ a by omega) b
      refine ⟨h1, ?_⟩
      show _ ≤ minI ra.2 (rb.2 - 1)
      unfold minI
      split <;> omega
    · rcases Int.le_total 0 a with h | h
      · have h1 := Int.tmod_nonneg b h
        have h2 : a.tmod b ≤ a := by
          rw [Int.tmod_eq_emod_of_nonneg h]; exact emod_le' h b
        exact ⟨by simp; omega, by simp; omega⟩
      · have e : a.tmod b = -((-a).tmod b) := by rw [Int.neg_tmod, Int.neg_neg]
        have h1 := Int.tmod_nonneg b (show 0 ≤ -a by omega)
        have h2 : (-a).tmod b ≤ -a := by
          rw [Int.tmod_eq_emod_of_nonneg (by omega)]; exact emod_le' (by omega) b
        exact ⟨by simp; omega, by simp; omega⟩
  all_goals exact ⟨by simp, by simp⟩
theorem E.L_in [Env] : ∀ e : E, e.L.1 ≤ (e.D.2.length : Int) ∧ (e.D.2.length : Int) ≤ e.L.2
  | .cn a b => by
    have := E.L_in b
    simp only [E.L, E.D, List.length_cons]; omega
  | .ls i a lo hi n => by
    simp only [E.L, E.D, List.length_map, List.length_take]; omega
  | .sb l o m => by
    have := E.L_in l
    simp only [E.L, E.D, List.length_take, List.length_drop]; omega
  | .cc a b => by
    have := E.L_in a
    have := E.L_in b
    simp only [E.L, E.D, List.length_append]; omega
  | .st r a l lo hi => by
    have := E.L_in l
    simp only [E.L, E.D, List.length_map, List.length_set]; omega
  | .dq _ _ => ⟨Int.le_refl _, Int.le_refl _⟩
  | .num _ => ⟨Int.le_refl _, Int.le_refl _⟩
  | .nm _ _ _ => ⟨Int.le_refl _, Int.le_refl _⟩
  | .ap _ _ _ _ => ⟨Int.le_refl _, Int.le_refl _⟩
  | .nl => ⟨Int.le_refl _, Int.le_refl _⟩
  | .op _ _ _ _ => ⟨Int.le_refl _, Int.le_refl _⟩
  | .wr _ _ => ⟨Int.le_refl _, Int.le_refl _⟩
  | .pl _ _ => ⟨Int.le_refl _, Int.le_refl _⟩
  | .mi _ _ => ⟨Int.le_refl _, Int.le_refl _⟩
  | .sel _ _ => ⟨Int.le_refl _, Int.le_refl _⟩
  | .ln _ => ⟨Int.le_refl _, Int.le_refl _⟩
theorem E.R_in [Env] : ∀ e : E, inR e.D.1 e.R.1 ∧ ∀ n ∈ (0 : Int) :: e.D.2, inR n e.R.2
  | .num n => ⟨⟨Int.le_refl _, Int.le_refl _⟩, fun n h => by simp only [E.D, List.mem_singleton] at h; subst h; exact ⟨Int.le_refl _, Int.le_refl _⟩⟩
  | .nm i lo hi => ⟨clamp_in _ _ _, fun n h => by simp only [E.D, List.mem_singleton] at h; subst h; exact ⟨Int.le_refl _, Int.le_refl _⟩⟩
  | .ap f a lo hi => ⟨clampA_in _ _ _ _ _, fun n h => by simp only [E.D, List.mem_singleton] at h; subst h; exact ⟨Int.le_refl _, Int.le_refl _⟩⟩
  | .nl => ⟨⟨Int.le_refl _, Int.le_refl _⟩, fun n h => by simp only [E.D, List.mem_singleton] at h; subst h; exact ⟨Int.le_refl _, Int.le_refl _⟩⟩
  | .cn a b => by
    obtain ⟨h1, _⟩ := E.R_in a
    obtain ⟨_, h2⟩ := E.R_in b
    refine ⟨⟨Int.le_refl _, Int.le_refl _⟩, fun n h => ?_⟩
    have m1 := minI_le a.R.1.1 b.R.2.1
    have m2 := le_maxI a.R.1.2 b.R.2.2
    simp only [E.D, List.mem_cons] at h
    have : inR n a.R.1 ∨ inR n b.R.2 := by
      rcases h with rfl | rfl | h
      · exact .inr (h2 _ (by simp))
      · exact .inl h1
      · exact .inr (h2 _ (by simp [h]))
    show minI a.R.1.1 b.R.2.1 ≤ n ∧ n ≤ maxI a.R.1.2 b.R.2.2
    rcases this with ⟨h3, h4⟩ | ⟨h3, h4⟩ <;> exact ⟨by omega, by omega⟩
  | .op o k a b => ⟨op_in (E.R_in a).1 (E.R_in b).1, fun n h => by simp only [E.D, List.mem_singleton] at h; subst h; exact ⟨Int.le_refl _, Int.le_refl _⟩⟩
  | .wr k a => ⟨orK_in (E.R_in a).1, fun n h => by simp only [E.D, List.mem_singleton] at h; subst h; exact ⟨Int.le_refl _, Int.le_refl _⟩⟩
  | .pl a b => by
    obtain ⟨⟨h1, h2⟩, _⟩ := E.R_in a
    obtain ⟨⟨h3, h4⟩, _⟩ := E.R_in b
    refine ⟨⟨?_, ?_⟩, fun n h => by simp only [E.D, List.mem_singleton] at h; subst h; exact ⟨Int.le_refl _, Int.le_refl _⟩⟩
    · show _ ≤ a.D.1 + b.D.1; simp only [E.R]; omega
    · show a.D.1 + b.D.1 ≤ _; simp only [E.R]; omega
  | .mi a b => by
    obtain ⟨⟨h1, h2⟩, _⟩ := E.R_in a
    obtain ⟨⟨h3, h4⟩, _⟩ := E.R_in b
    refine ⟨⟨?_, ?_⟩, fun n h => by simp only [E.D, List.mem_singleton] at h; subst h; exact ⟨Int.le_refl _, Int.le_refl _⟩⟩
    · show _ ≤ a.D.1 - b.D.1; simp only [E.R]; omega
    · show a.D.1 - b.D.1 ≤ _; simp only [E.R]; omega
  | .sel r l => by
    obtain ⟨_, h⟩ := E.R_in l
    refine ⟨?_, fun n h => by simp only [E.D, List.mem_singleton] at h; subst h; exact ⟨Int.le_refl _, Int.le_refl _⟩⟩
    show inR (l.D.2.getD r.D.1.toNat 0) l.R.2
    rw [List.getD_eq_getElem?_getD]
    cases hx : l.D.2[r.D.1.toNat]? with
    | none => exact h _ (by simp)
    | some y => exact h _ (List.mem_cons_of_mem _ (List.mem_of_getElem? hx))
  | .ls i a lo hi n => by
    refine ⟨⟨Int.le_refl _, Int.le_refl _⟩, fun x h => ?_⟩
    have m1 := minI_le lo 0
    have m2 := le_maxI lo hi
    have m3 := le_maxI (maxI lo hi) 0
    show minI lo 0 ≤ x ∧ x ≤ maxI (maxI lo hi) 0
    rcases List.mem_cons.1 h with rfl | h
    · exact ⟨by omega, by omega⟩
    · obtain ⟨y, _, rfl⟩ := List.mem_map.1 h
      obtain ⟨h1, h2⟩ := clamp_in lo hi y
      simp only at h1 h2
      exact ⟨by omega, by omega⟩
  | .ln l => ⟨E.L_in l, fun n h => by simp only [E.D, List.mem_singleton] at h; subst h; exact ⟨Int.le_refl _, Int.le_refl _⟩⟩
  | .sb l o m => by
    obtain ⟨_, h⟩ := E.R_in l
    refine ⟨⟨Int.le_refl _, Int.le_refl _⟩, fun x hx => ?_⟩
    rcases List.mem_cons.1 hx with rfl | hx
    · exact h _ (by simp)
    · exact h _ (List.mem_cons_of_mem _ (List.mem_of_mem_drop (List.mem_of_mem_take hx)))
  | .cc a b => by
    obtain ⟨_, h1⟩ := E.R_in a
    obtain ⟨_, h2⟩ := E.R_in b
    refine ⟨⟨Int.le_refl _, Int.le_refl _⟩, fun n h => ?_⟩
    have m1 := minI_le a.R.2.1 b.R.2.1
    have m2 := le_maxI a.R.2.2 b.R.2.2
    have : inR n a.R.2 ∨ inR n b.R.2 := by
      rcases List.mem_cons.1 h with rfl | h
      · exact .inl (h1 _ (by simp))
      · rcases List.mem_append.1 h with h | h
        · exact .inl (h1 _ (List.mem_cons_of_mem _ h))
        · exact .inr (h2 _ (List.mem_cons_of_mem _ h))
    show minI a.R.2.1 b.R.2.1 ≤ n ∧ n ≤ maxI a.R.2.2 b.R.2.2
    rcases this with ⟨h3, h4⟩ | ⟨h3, h4⟩ <;> exact ⟨by omega, by omega⟩
  | .st r a l lo hi => by
    refine ⟨⟨Int.le_refl _, Int.le_refl _⟩, fun x h => ?_⟩
    have m1 := minI_le lo 0
    have m2 := le_maxI lo hi
    have m3 := le_maxI (maxI lo hi) 0
    show minI lo 0 ≤ x ∧ x ≤ maxI (maxI lo hi) 0
    rcases List.mem_cons.1 h with rfl | h
    · exact ⟨by omega, by omega⟩
    · obtain ⟨y, _, rfl⟩ := List.mem_map.1 h
      obtain ⟨h1, h2⟩ := clamp_in lo hi y
      simp only at h1 h2
      exact ⟨by omega, by omega⟩
  | .dq a b => by
    refine ⟨?_, fun n h => by simp only [E.D, List.mem_singleton] at h; subst h; exact ⟨Int.le_refl _, Int.le_refl _⟩⟩
    show (0 : Int) ≤ (if a.D.2 = b.D.2 then 0 else 1) ∧ (if a.D.2 = b.D.2 then (0 : Int) else 1) ≤ 1
    split <;> omega
theorem E.rng [Env] (e : E) : e.R.1.1 ≤ e.den ∧ e.den ≤ e.R.1.2 := (E.R_in e).1
/-- a wrap that does nothing is left out -/
def E.mkWr (k : IntKind) (e : E) : E := if fitR k e.R.1 then e else match e with
  | .wr j a => if k.bits ≤ j.bits then (if fitR k a.R.1 then a else .wr k a) else .wr k (.wr j a)
  | e => .wr k e
theorem wrap_wrap {k j : IntKind} (h : k.bits ≤ j.bits) (n : Int) : k.wrap (j.wrap n) = k.wrap n := by
  cases k <;> cases j <;> simp only [IntKind.bits] at h <;> first
    | (exfalso; omega)
    | (simp only [IntKind.wrap, IntKind.signed, IntKind.bits, Bool.true_and, Bool.false_and, Bool.false_eq_true, if_false, Nat.reduceSub, Int.reducePow]
       repeat' split
       all_goals (simp_all; try omega))
theorem E.mkWr_den [Env] (k : IntKind) (e : E) : (e.mkWr k).den = k.wrap e.den := by
  unfold E.mkWr
  split
  · rename_i h
    exact (wrap_of_has (fitR_has h (E.rng e))).symm
  · split
    · rename_i j a _
      split
      · rename_i hb
        have e1 : k.wrap (E.den (.wr j a)) = k.wrap a.den := wrap_wrap hb _
        split
        · rename_i h
          rw [e1]; exact (wrap_of_has (fitR_has h (E.rng a))).symm
        · rw [e1]; rfl
      · rfl
    · rfl

/-- an operation that does nothing is left out -/
def E.mkOp (o : BinOp) (k : IntKind) (a b : E) : E :=
  match o, a, b with
  | .or, .num n, b => if n = 0 ∧ 0 ≤ b.R.1.1 ∧ b.R.1.2 ≤ k.max then b else .op .or k (.num n) b
  | .add, .num n, b => if n = 0 ∧ fitR k b.R.1 then b else .op .add k (.num n) b
  | .add, a, .num n => if n = 0 ∧ fitR k a.R.1 then a else .op .add k a (.num n)
  | .sub, a, .num n => if n = 0 ∧ fitR k a.R.1 then a else .op .sub k a (.num n)
  | o, a, b => .op o k a b
theorem or_zero_of {k : IntKind} {n : Int} (h : 0 ≤ n) (h2 : n ≤ k.max) : semI .or k 0 n = n := by
  have hk := has_bounds k
  have hm : n < 2 ^ k.bits := by
    cases k <;> simp only [IntKind.max, IntKind.signed, IntKind.bits, Bool.false_eq_true, if_true, if_false, Nat.reduceSub, Int.reducePow, Int.reduceSub] at h2 ⊢ <;> omega
  simp only [semI]
  have e0 : BitVec.ofInt k.bits 0 = 0#k.bits := by simp
  rw [e0, BitVec.zero_or, BitVec.toNat_ofInt, Int.emod_eq_of_lt h (by rw [Int.natCast_pow]; exact hm)]
  have : ((n.toNat : Nat) : Int) = n := by omega
  rw [this, wrap_of_has ⟨by omega, h2⟩]
theorem E.mkOp_den [Env] (o : BinOp) (k : IntKind) (a b : E) : (E.mkOp o k a b).den = semI o k a.den b.den := by
  unfold E.mkOp
  split
  · rename_i n b
    split
    · rename_i h
      obtain ⟨rfl, h1, h2⟩ := h
      have := b.rng
      exact (or_zero_of (by omega) (by omega)).symm
    · rfl
  · rename_i n b
    split
    · rename_i h
      obtain ⟨rfl, h1⟩ := h
      have := wrap_of_has (fitR_has h1 b.rng)
      show b.den = k.wrap (0 + b.den)
      rw [Int.zero_add, this]
    · rfl
  · rename_i n _
    split
    · rename_i h
      obtain ⟨rfl, h1⟩ := h
      have := wrap_of_has (fitR_has h1 (E.rng _))
      show _ = k.wrap (_ + 0)
      rw [Int.add_zero]; exact this.symm
    · rfl
  · rename_i n
    split
    · rename_i h
      obtain ⟨rfl, h1⟩ := h
      have := wrap_of_has (fitR_has h1 (E.rng _))
      show _ = k.wrap (_ - 0)
      rw [Int.sub_zero]; exact this.symm
    · rfl
  · rfl

section
variable [Env]
theorem X.e?_den {x : X} {e : E} (h : x.e? = some e) : e.den = x.den := by cases x <;> cases h <;> rfl
theorem B.e?_den {x : B} {e : EB} (h : x.e? = some e) : e.den = x.den := by cases x <;> cases h <;> rfl
def X.bin (o : BinOp) (k : IntKind) (x y : X) : X :=
  match x, y with
  | .c a, .c b => .c (semI o k a b)
  | x, y => match x.e?, y.e? with
    | some a, some b => .ex (E.mkOp o k a b)
    | _, _ => .sem (semI o k x.den y.den)
def X.wrap (k : IntKind) : X → X
  | .c n => .c (k.wrap n)
  | .sem n => .sem (k.wrap n)
  | .ex e => .ex (e.mkWr k)
/-- plain sums, differences -/
def X.plus (x y : X) : X :=
  match x, y with
  | .c a, .c b => .c (a + b)
  | x, y => match x.e?, y.e? with
    | some a, some b => .ex (.pl a b)
    | _, _ => .sem (x.den + y.den)
def X.minus (x y : X) : X :=
  match x, y with
  | .c a, .c b => .c (a - b)
  | x, y => match x.e?, y.e? with
    | some a, some b => .ex (.mi a b)
    | _, _ => .sem (x.den - y.den)
def B.mkNot : B → B
  | .c b => .c (!b)
  | .sem b => .sem (!b)
  | .ex b => .ex (.nt b)
def B.mkAnd : B → B → B
  | .c true, y => y
  | .c false, _ => .c false
  | x, .c true => x
  | _, .c false => .c false
  | .ex a, .ex b => .ex (.an a b)
  | x, y => .sem (x.den && y.den)
def B.mkOr : B → B → B
  | .c false, y => y
  | .c true, _ => .c true
  | x, .c false => x
  | _, .c true => .c true
  | .ex a, .ex b => .ex (.or a b)
  | x, y => .sem (x.den || y.den)
def B.mkIff : B → B → B
  | .c true, y => y
  | .c false, y => y.mkNot
  | x, .c true => x
  | x, .c false => x.mkNot
  | .ex a, .ex b => if a.beq b then .c true else .ex (.iff a b)
  | x, y => .sem (x.den == y.den)
def B.mkEq (x y : X) : B :=
  match x, y with
  | .c a, .c b => .c (a == b)
  | x, y => match x.e?, y.e? with
    | some a, some b => if a.beq b then .c true else .ex (.eq a b)
    | _, _ => .sem (x.den == y.den)
def B.mkLt (x y : X) : B :=
  match x, y with
  | .c a, .c b => .c (decide (a < b))
  | x, y => match x.e?, y.e? with
    | some a, some b => .ex (.lt a b)
    | _, _ => .sem (decide (x.den < y.den))
/-- a number as a known one -/
def X.kn? : X → Option Int
  | .c n => some n
  | _ => none

theorem bin_den (o : BinOp) (k : IntKind) (x y : X) : (X.bin o k x y).den = semI o k x.den y.den := by cases x <;> cases y <;> first | rfl | exact E.mkOp_den ..
theorem wrap_den (k : IntKind) (x : X) : (x.wrap k).den = k.wrap x.den := by
  cases x with
  | ex e => exact E.mkWr_den k e
  | _ => rfl
theorem plus_den (x y : X) : (x.plus y).den = x.den + y.den := by cases x <;> cases y <;> rfl
theorem minus_den (x y : X) : (x.minus y).den = x.den - y.den := by cases x <;> cases y <;> rfl
theorem mkNot_den (x : B) : x.mkNot.den = !x.den := by cases x <;> rfl
theorem mkAnd_den (x y : B) : (B.mkAnd x y).den = (x.den && y.den) := by
  cases x with
  | c b => cases b <;> cases y <;> simp [B.mkAnd, B.den]
  | sem b => cases y with
    | c b' => cases b' <;> simp [B.mkAnd, B.den]
    | _ => rfl
  | ex b => cases y with
    | c b' => cases b' <;> simp [B.mkAnd, B.den]
    | _ => rfl
theorem mkOr_den (x y : B) : (B.mkOr x y).den = (x.den || y.den) := by
  cases x with
  | c b => cases b <;> cases y <;> simp [B.mkOr, B.den]
  | sem b => cases y with
    | c b' => cases b' <;> simp [B.mkOr, B.den]
    | _ => rfl
  | ex b => cases y with
    | c b' => cases b' <;> simp [B.mkOr, B.den]
    | _ => rfl
theorem mkIff_den (x y : B) : (B.mkIff x y).den = (x.den == y.den) := by
  cases x with
  | c b => cases b with
    | true => cases y <;> simp [B.mkIff, B.den]
    | false => rw [B.mkIff, mkNot_den]; cases y <;> simp [B.den]
  | sem b => cases y with
    | c b' => cases b' <;> simp [B.mkIff, B.den, B.mkNot]
    | _ => rfl
  | ex b => cases y with
    | c b' => cases b' <;> simp [B.mkIff, B.den, B.mkNot, EB.den]
    | sem b' => rfl
    | ex b' =>
      simp only [B.mkIff]
      split
      · rename_i h
        rw [EB.beq_eq h]; simp [B.den]
      · rfl
theorem mkEq_ex (a b : E) : B.den (if a.beq b then .c true else .ex (.eq a b)) = (a.den == b.den) := by
  split
  · rename_i h
    rw [E.beq_eq h]; simp [B.den]
  · rfl
theorem mkEq_den (x y : X) : (B.mkEq x y).den = (x.den == y.den) := by
  cases x <;> cases y <;> first
    | rfl
    | exact mkEq_ex _ _
theorem mkLt_den (x y : X) : (B.mkLt x y).den = decide (x.den < y.den) := by cases x <;> cases y <;> first | rfl | simp [B.mkLt, X.e?, B.den, EB.den, X.den, E.den, E.D]
end
theorem kn?_den {x : X} {n : Int} (h : x.kn? = some n) : x = .c n := by cases x <;> cases h; rfl

/-- bools as numbers -/
def bI (b : Bool) : Int := bif b then 1 else 0
def iB (n : Int) : Bool := n == 1
theorem iB_bI (b : Bool) : iB (bI b) = b := by cases b <;> rfl

/-- kinds of scalars -/
inductive Kd where
  | int (k : IntKind)
  | bool
  deriving Inhabited
def IntKind.beq' : IntKind → IntKind → Bool := fun a b => decide (a = b)
def Kd.beq : Kd → Kd → Bool
  | .int k, .int k' => decide (k = k')
  | .bool, .bool => true
  | _, _ => false
theorem Kd.beq_eq {a b : Kd} (h : a.beq b = true) : a = b := by
  cases a <;> cases b <;> first | rfl | (cases h; done) | skip
  simp only [Kd.beq, decide_eq_true_eq] at h
  rw [h]
end Go.SX
