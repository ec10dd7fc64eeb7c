/- Numbers and bools as data: known ones, and Lean's own terms. -/
import Derived.Calls
import Derived.Orders
import Derived.KernelRfl
import Derived.Below
namespace Go.SX
open Go

inductive X where
  | c (n : Int)
  | sem (n : Int)
  deriving Inhabited
inductive B where
  | c (b : Bool)
  | sem (b : Bool)
  deriving Inhabited

/-- what an operation on numbers of a kind gives -/
def semI (o : BinOp) (k : IntKind) (a b : Int) : Int :=
  match o with
  | .add => k.wrap (a + b)
  | .sub => k.wrap (a - b)
  | .mul => k.wrap (a * b)
  | .quo => k.wrap (a.tdiv b)
  | .rem => a.tmod b
  | .and => k.wrap (BitVec.ofInt k.bits a &&& BitVec.ofInt k.bits b).toNat
  | .or => k.wrap (BitVec.ofInt k.bits a ||| BitVec.ofInt k.bits b).toNat
  | .xor => k.wrap (BitVec.ofInt k.bits a ^^^ BitVec.ofInt k.bits b).toNat
  | .andNot => k.wrap (BitVec.ofInt k.bits a &&& ~~~BitVec.ofInt k.bits b).toNat
  | .shl => k.wrap (a * 2 ^ min b.toNat k.bits)
  | .shr => a.fdiv (2 ^ min b.toNat k.bits)
  | _ => 0

def X.den : X → Int
  | .c n => n
  | .sem n => n
def B.den : B → Bool
  | .c b => b
  | .sem b => b
def X.bin (o : BinOp) (k : IntKind) : X → X → X
  | .c a, .c b => .c (semI o k a b)
  | x, y => .sem (semI o k x.den y.den)
def X.wrap (k : IntKind) : X → X
  | .c n => .c (k.wrap n)
  | x => .sem (k.wrap x.den)
/-- plain sums, differences -/
def X.plus : X → X → X
  | .c a, .c b => .c (a + b)
  | x, y => .sem (x.den + y.den)
def X.minus : X → X → X
  | .c a, .c b => .c (a - b)
  | x, y => .sem (x.den - y.den)
def B.mkNot : B → B
  | .c b => .c (!b)
  | x => .sem (!x.den)
def B.mkAnd : B → B → B
  | .c true, y => y
  | .c false, _ => .c false
  | x, .c true => x
  | _, .c false => .c false
  | x, y => .sem (x.den && y.den)
def B.mkOr : B → B → B
  | .c false, y => y
  | .c true, _ => .c true
  | x, .c false => x
  | _, .c true => .c true
  | x, y => .sem (x.den || y.den)
def B.mkIff : B → B → B
  | .c true, y => y
  | .c false, y => y.mkNot
  | x, .c true => x
  | x, .c false => x.mkNot
  | x, y => .sem (x.den == y.den)
def B.mkEq : X → X → B
  | .c a, .c b => .c (a == b)
  | x, y => .sem (x.den == y.den)
def B.mkLt : X → X → B
  | .c a, .c b => .c (decide (a < b))
  | x, y => .sem (decide (x.den < y.den))
/-- a number as a known one -/
def X.kn? : X → Option Int
  | .c n => some n
  | .sem _ => none

theorem bin_den (o : BinOp) (k : IntKind) (x y : X) : (X.bin o k x y).den = semI o k x.den y.den := by cases x <;> cases y <;> rfl
theorem wrap_den (k : IntKind) (x : X) : (x.wrap k).den = k.wrap x.den := by cases x <;> rfl
theorem plus_den (x y : X) : (x.plus y).den = x.den + y.den := by cases x <;> cases y <;> rfl
theorem minus_den (x y : X) : (x.minus y).den = x.den - y.den := by cases x <;> cases y <;> rfl
theorem mkNot_den (x : B) : x.mkNot.den = !x.den := by cases x <;> rfl
theorem mkAnd_den (x y : B) : (B.mkAnd x y).den = (x.den && y.den) := by
  cases x with
  | c b => cases b <;> cases y <;> simp [B.mkAnd, B.den]
  | sem b => cases y with
    | c b' => cases b' <;> simp [B.mkAnd, B.den]
    | sem b' => rfl
theorem mkOr_den (x y : B) : (B.mkOr x y).den = (x.den || y.den) := by
  cases x with
  | c b => cases b <;> cases y <;> simp [B.mkOr, B.den]
  | sem b => cases y with
    | c b' => cases b' <;> simp [B.mkOr, B.den]
    | sem b' => rfl
theorem mkIff_den (x y : B) : (B.mkIff x y).den = (x.den == y.den) := by
  cases x with
  | c b => cases b with
    | true => cases y <;> simp [B.mkIff, B.den]
    | false => rw [B.mkIff, mkNot_den]; cases y <;> simp [B.den]
  | sem b => cases y with
    | c b' => cases b' <;> simp [B.mkIff, B.den, B.mkNot]
    | sem b' => rfl
theorem mkEq_den (x y : X) : (B.mkEq x y).den = (x.den == y.den) := by cases x <;> cases y <;> rfl
theorem mkLt_den (x y : X) : (B.mkLt x y).den = decide (x.den < y.den) := by cases x <;> cases y <;> rfl
theorem kn?_den {x : X} {n : Int} (h : x.kn? = some n) : x = .c n := by cases x <;> cases h; rfl

/-! Ranges. -/
theorem two_le_pow (n : Nat) (h : 1 ≤ n) : (2 : Int) ≤ 2 ^ n := by
  have : (2 : Int) ^ 1 ≤ 2 ^ n := by
    have := Nat.pow_le_pow_right (n := 2) (by omega) h
    exact_mod_cast this
  simpa using this
theorem wrap_has (k : IntKind) (n : Int) : k.has (k.wrap n) := by
  cases k <;> simp only [IntKind.has, IntKind.wrap, IntKind.min, IntKind.max, IntKind.signed, IntKind.bits, Bool.true_and, Bool.false_and, Bool.false_eq_true, if_true, if_false, Nat.reduceSub, Int.reducePow, Int.reduceNeg, Int.reduceSub] <;> first
    | (split <;> (rename_i h; simp at h; omega))
    | omega
theorem wrap_of_has {k : IntKind} {n : Int} (h : k.has n) : k.wrap n = n := by
  cases k <;> simp only [IntKind.has, IntKind.wrap, IntKind.min, IntKind.max, IntKind.signed, IntKind.bits, Bool.true_and, Bool.false_and, Bool.false_eq_true, if_true, if_false, Nat.reduceSub, Int.reducePow, Int.reduceNeg, Int.reduceSub] at h ⊢ <;> first
    | (split <;> (rename_i h; simp at h; omega))
    | omega
theorem has_bounds (k : IntKind) : k.min ≤ 0 ∧ 0 ≤ k.max ∧ (k.signed = false → k.min = 0) ∧ (k.signed = true → k.min = -(k.max + 1)) := by
  cases k <;> simp [IntKind.min, IntKind.max, IntKind.signed, IntKind.bits]
theorem has_zero (k : IntKind) : k.has 0 := ⟨(has_bounds k).1, (has_bounds k).2.1⟩
theorem emod_le' {a : Int} (h : 0 ≤ a) (b : Int) : a % b ≤ a := by
  have h1 := Int.mul_ediv_add_emod a b
  by_cases hb : b = 0
  · subst hb; simp
  rcases Int.lt_or_gt_of_ne hb with h2 | h2
  · rw [← Int.emod_neg]
    have h1 := Int.mul_ediv_add_emod a (-b)
    have h3 : 0 ≤ a / (-b) := Int.ediv_nonneg h (by omega)
    have := Int.mul_nonneg (show 0 ≤ -b by omega) h3
    omega
  · have h3 : 0 ≤ a / b := Int.ediv_nonneg h (by omega)
    have := Int.mul_nonneg (show 0 ≤ b by omega) h3
    omega
theorem tmod_has {k : IntKind} {a b : Int} (h : k.has a) : k.has (a.tmod b) := by
  obtain ⟨h1, h2⟩ := h
  have hb := has_bounds k
  rcases Int.le_total 0 a with ha | ha
  · have := Int.tmod_nonneg b ha
    have : a.tmod b ≤ a := by
      rw [Int.tmod_eq_emod_of_nonneg ha]
      exact emod_le' ha b
    exact ⟨by omega, by omega⟩
  · have e : a.tmod b = -((-a).tmod b) := by rw [Int.neg_tmod, Int.neg_neg]
    have h3 := Int.tmod_nonneg b (show 0 ≤ -a by omega)
    have h4 : (-a).tmod b ≤ -a := by
      rw [Int.tmod_eq_emod_of_nonneg (by omega)]
      exact emod_le' (by omega) b
    rw [e]
    exact ⟨by omega, by omega⟩
theorem fdiv_has {k : IntKind} {a : Int} {n : Nat} (h : k.has a) : k.has (a.fdiv (2 ^ n)) := by
  obtain ⟨h1, h2⟩ := h
  have hb := has_bounds k
  have hp : (0 : Int) < 2 ^ n := Int.pow_pos (by omega)
  rw [Int.fdiv_eq_ediv_of_nonneg _ (by omega)]
  rcases Int.le_total 0 a with ha | ha
  · have h3 := Int.ediv_nonneg ha (show (0 : Int) ≤ 2 ^ n by omega)
    have h4 := Int.ediv_le_self (2 ^ n) ha
    exact ⟨by omega, by omega⟩
  · have h3 : a / 2 ^ n ≤ 0 := by
      have := Int.ediv_le_ediv (c := 2 ^ n) hp ha
      simpa using this
    have h4 : a ≤ a / 2 ^ n := by
      rw [Int.le_ediv_iff_mul_le hp]
      have h5 : 0 ≤ (-a) * (2 ^ n - 1) := Int.mul_nonneg (by omega) (by omega)
      rw [Int.mul_sub, Int.mul_one, Int.neg_mul] at h5
      omega
    exact ⟨by omega, by omega⟩
theorem semI_has {o : BinOp} {k : IntKind} {a b : Int} (h : k.has a) : k.has (semI o k a b) := by
  cases o <;> simp only [semI] <;> first
    | exact wrap_has _ _
    | exact tmod_has h
    | exact fdiv_has h
    | exact has_zero k

/-- bools as numbers -/
def bI (b : Bool) : Int := bif b then 1 else 0
def iB (n : Int) : Bool := n == 1
theorem iB_bI (b : Bool) : iB (bI b) = b := by cases b <;> rfl

/-- kinds of scalars -/
inductive Kd where
  | int (k : IntKind)
  | bool
  deriving Inhabited
def IntKind.beq' : IntKind → IntKind → Bool := fun a b => decide (a = b)
def Kd.beq : Kd → Kd → Bool
  | .int k, .int k' => decide (k = k')
  | .bool, .bool => true
  | _, _ => false
theorem Kd.beq_eq {a b : Kd} (h : a.beq b = true) : a = b := by
  cases a <;> cases b <;> first | rfl | (cases h; done) | skip
  simp only [Kd.beq, decide_eq_true_eq] at h
  rw [h]
end Go.SX
