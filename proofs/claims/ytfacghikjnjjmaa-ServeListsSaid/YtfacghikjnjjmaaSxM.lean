/- The tree of ways; linear forms of terms, what is known on a way, and which ways may be taken. -/
import Derived.Test.YtfacghikjnjjmaaSxN
namespace Go.SX
open Go
set_option linter.unusedSectionVars false

section
variable [Env]
/-! The tree of ways. -/
inductive Out (α : Type) where
  | fail (why : String)
  | ok (a : α)
  | grd (g : B) (o : Out α)
  | br (b : B) (t e : Unit → Out α)

def Out.run {α : Type} : Out α → Option α
  | .fail _ => none
  | .ok a => some a
  | .grd g o => bif g.den then o.run else none
  | .br b t e => bif b.den then (t ()).run else (e ()).run
/-- what becomes of each way -/
def Out.val {α β : Type} (k : α → Option β) : Out α → Option β
  | .fail _ => none
  | .ok a => k a
  | .grd g o => bif g.den then o.val k else none
  | .br b t e => bif b.den then (t ()).val k else (e ()).val k

def Out.bind {α β : Type} : Out α → (α → Out β) → Out β
  | .fail w, _ => .fail w
  | .ok a, k => k a
  | .grd g o, k => .grd g (o.bind k)
  | .br b t e, k => .br b (fun _ => (t ()).bind k) (fun _ => (e ()).bind k)

def Out.named {α : Type} (o : Out α) (s : String) : Out α :=
  match o with
  | .fail w => .fail (s ++ " " ++ w)
  | x => x

def Out.get {α : Type} : Option α → Out α
  | some a => .ok a
  | none => .fail "1"
/-- guards and ways that are known -/
def Out.guard {α : Type} (g : B) (o : Out α) : Out α :=
  match g with
  | .c true => o
  | .c false => .fail "guard"
  | g => .grd g o
def Out.ite {α : Type} (b : B) (t e : Unit → Out α) : Out α :=
  match b with
  | .c true => t ()
  | .c false => e ()
  | b => .br b t e

end
abbrev Tm := List (Int × E)
structure Lin where
  k : Int
  t : Tm
def addT (c : Int) (e : E) : Tm → Tm
  | [] => if c == 0 then [] else [(c, e)]
  | (d, e') :: r => if e.beq e' then (if c + d == 0 then r else (c + d, e') :: r) else (d, e') :: addT c e r
/-- m times the first, and the second -/
def addL (m : Int) : Tm → Tm → Tm
  | [], l => l
  | (c, e) :: r, l => addL m r (addT (m * c) e l)
def Lin.add (m : Int) (a b : Lin) : Lin := ⟨m * a.k + b.k, addL m a.t b.t⟩
def Lin.scale (m : Int) (a : Lin) : Lin := if m == 0 then ⟨0, []⟩ else ⟨m * a.k, a.t.map fun x => (m * x.1, x.2)⟩
def atom (e : E) : Lin := ⟨0, [(1, e)]⟩
def divBy (p : Int) (l : Lin) : Bool := l.k % p == 0 && l.t.all fun x => x.1 % p == 0
/-- is a a multiple of a power of two, b below it, their sum of the kind? -/
def disj (k : IntKind) (ra rb : Int × Int) (la : Lin) : Bool :=
  decide (0 ≤ ra.1) && decide (0 ≤ rb.1) && decide (ra.2 + rb.2 ≤ k.max) && decide (ra.2 < 2 ^ k.bits) && decide (rb.2 < 2 ^ k.bits) && divBy (onesOf rb.2 + 1) la
/-- what is a multiple of p, and the rest -/
def quoT (p : Int) : Tm → Tm
  | [] => []
  | (c, e) :: r => if c % p == 0 then (c / p, e) :: quoT p r else quoT p r
def remT (p : Int) : Tm → Tm
  | [] => []
  | (c, e) :: r => if c % p == 0 then remT p r else (c, e) :: remT p r
def Lin.quo (p : Int) (l : Lin) : Lin := ⟨l.k / p, quoT p l.t⟩
def Lin.rem (p : Int) (l : Lin) : Lin := ⟨l.k % p, remT p l.t⟩
def tR : Tm → Int × Int
  | [] => (0, 0)
  | (c, e) :: r => if 0 ≤ c then (c * e.R.1.1 + (tR r).1, c * e.R.1.2 + (tR r).2) else (c * e.R.1.2 + (tR r).1, c * e.R.1.1 + (tR r).2)
def Lin.R (l : Lin) : Int × Int := (l.k + (tR l.t).1, l.k + (tR l.t).2)
def within (r : Int × Int) (hi : Int) : Bool := decide (0 ≤ r.1) && decide (r.2 < hi)
def lrR (a b : Int × Int) : Int × Int := (maxI a.1 b.1, minI a.2 b.2)
def lnL : E → Lin
  | .nl => ⟨0, []⟩
  | .cn _ b => Lin.add 1 ⟨1, []⟩ (lnL b)
  | .cc a b => Lin.add 1 (lnL a) (lnL b)
  | .st _ _ l _ _ => lnL l
  | e => atom (.ln e)
/-- a number without its last byte -/
def sh8 (u e : E) : Bool :=
  match e with
  | .op .shr k a (.num n) => decide (n.toNat ≤ k.bits) && ((n == 8 && a.beq u) || (match u with
    | .op .shr k' a' (.num m) => decide (0 ≤ m) && (decide (m.toNat ≤ k'.bits) && (n == m + 8 && a.beq a'))
    | _ => false))
  | _ => false
def findW (all : Tm) : Tm → Option (Int × E × E)
  | [] => none
  | (c, .wr .u8 u) :: r => match all.find? (fun p => p.1 == 256 * c && sh8 u p.2) with
    | some p => some (c, u, p.2)
    | none => findW all r
  | _ :: r => findW all r
/-- bytes of a number put together again -/
def teleT : Nat → Tm → Tm
  | 0, t => t
  | n + 1, t => match findW t t with
    | some (c, u, e) => teleT n (addT c u (addT (-256 * c) e (addT (-c) (.wr .u8 u) t)))
    | none => t
def Lin.tele (l : Lin) : Lin := ⟨l.k, teleT l.t.length l.t⟩
/-- whatever the kind, a number is shifted so -/
def shK (k : IntKind) (c : Int) : IntKind := if decide (c.toNat ≤ k.bits) && decide (k.bits ≤ 32) then .u32 else k
/-- a term that is one other term alone -/
def oneE (a : E) (l : Lin) : E :=
  match l with
  | ⟨0, [(1, e)]⟩ => e
  | _ => a
def E.lin : E → Lin
  | .num n => ⟨n, []⟩
  | .ln e => lnL e
  | .pl a b => Lin.add 1 a.lin b.lin
  | .mi a b => Lin.add (-1) b.lin a.lin
  | .op o k a b =>
    match o with
    | .add => if fitR k ((lrR a.R.1 a.lin.R).1 + (lrR b.R.1 b.lin.R).1, (lrR a.R.1 a.lin.R).2 + (lrR b.R.1 b.lin.R).2) then Lin.add 1 a.lin b.lin else atom (.op .add k a b)
    | .sub => if fitR k ((lrR a.R.1 a.lin.R).1 - (lrR b.R.1 b.lin.R).2, (lrR a.R.1 a.lin.R).2 - (lrR b.R.1 b.lin.R).1) then Lin.add (-1) b.lin a.lin else atom (.op .sub k a b)
    | .mul => match a, b with
      | a, .num c => if 0 ≤ c && fitR k ((lrR a.R.1 a.lin.R).1 * c, (lrR a.R.1 a.lin.R).2 * c) then a.lin.scale c else atom (.op .mul k a (.num c))
      | .num c, b => if 0 ≤ c && fitR k ((lrR b.R.1 b.lin.R).1 * c, (lrR b.R.1 b.lin.R).2 * c) then b.lin.scale c else atom (.op .mul k (.num c) b)
      | a, b => atom (.op .mul k a b)
    | .shl => match b with
      | .num c => if fitR k ((lrR a.R.1 a.lin.R).1 * 2 ^ min c.toNat k.bits, (lrR a.R.1 a.lin.R).2 * 2 ^ min c.toNat k.bits) then a.lin.scale (2 ^ min c.toNat k.bits) else atom (.op .shl k a (.num c))
      | b => atom (.op .shl k a b)
    | .or => if disj k (lrR a.R.1 a.lin.R) (lrR b.R.1 b.lin.R) a.lin then (Lin.add 1 a.lin b.lin).tele else if disj k (lrR b.R.1 b.lin.R) (lrR a.R.1 a.lin.R) b.lin then (Lin.add 1 b.lin a.lin).tele else atom (.op .or k a b)
    | .and => match b with
      | .num c => if decide (0 ≤ c) && decide (onesOf c = c) && decide (c ≤ k.max) && decide (0 ≤ (lrR a.R.1 a.lin.R).1) && decide ((lrR a.R.1 a.lin.R).2 < 2 ^ k.bits) && within (a.lin.rem (c + 1)).R (c + 1) then a.lin.rem (c + 1) else
        if decide (0 ≤ c) && decide (c ≤ k.max) && decide (0 ≤ (lrR a.R.1 a.lin.R).1) && decide ((lrR a.R.1 a.lin.R).2 < 2 ^ k.bits) && (a.lin.rem (onesOf c + 1)).t.isEmpty then ⟨semI .and k (a.lin.rem (onesOf c + 1)).k c, []⟩ else atom (.op .and k a (.num c))
      | b => atom (.op .and k a b)
    | .shr => match b with
      | .num c => if within (a.lin.rem (2 ^ min c.toNat k.bits)).R (2 ^ min c.toNat k.bits) then a.lin.quo (2 ^ min c.toNat k.bits) else atom (.op .shr (shK k c) a (.num c))
      | b => atom (.op .shr k a b)
    | .rem => match b with
      | .num c => if decide (0 < c) && decide (0 ≤ (lrR a.R.1 a.lin.R).1) && within (a.lin.rem c).R c then a.lin.rem c else atom (.op .rem k (oneE a a.lin) (.num c))
      | b => atom (.op .rem k a b)
    | .quo => match b with
      | .num c => if decide (0 < c) && decide (0 ≤ (lrR a.R.1 a.lin.R).1) && decide ((lrR a.R.1 a.lin.R).2 ≤ k.max) && within (a.lin.rem c).R c then a.lin.quo c else atom (.op .quo k (oneE a a.lin) (.num c))
      | b => atom (.op .quo k a b)
    | o => atom (.op o k a b)
  | .wr k a => if fitR k (lrR a.R.1 a.lin.R) then a.lin else if fitR k (a.lin.rem (2 ^ k.bits)).R then a.lin.rem (2 ^ k.bits) else atom (.wr k a)
  | e => atom e


section
variable [Env]
def tden : Tm → Int
  | [] => 0
  | (c, e) :: r => c * e.den + tden r
def Lin.den (l : Lin) : Int := l.k + tden l.t
theorem addT_den (c : Int) (e : E) : ∀ l, tden (addT c e l) = c * e.den + tden l
  | [] => by
    unfold addT
    split
    · rename_i h
      have : c = 0 := by simpa using h
      subst this; simp [tden]
    · rfl
  | (d, e') :: r => by
    unfold addT
    split
    · rename_i h
      cases E.beq_eq h
      split
      · rename_i h
        have : c + d = 0 := by simpa using h
        have h2 : c = -d := by omega
        subst h2
        simp only [tden, Int.neg_mul]; omega
      · simp only [tden, Int.add_mul]; omega
    · simp only [tden, addT_den c e r]; omega
theorem addL_den (m : Int) : ∀ a l, tden (addL m a l) = m * tden a + tden l
  | [], l => by simp [addL, tden]
  | (c, e) :: r, l => by
    simp only [addL, addL_den m r, addT_den, tden, Int.mul_add, Int.mul_assoc]; omega
theorem Lin.add_den (m : Int) (a b : Lin) : (Lin.add m a b).den = m * a.den + b.den := by
  simp only [Lin.add, Lin.den, addL_den, Int.mul_add]; omega
theorem tmap_den (m : Int) : ∀ l : Tm, tden (l.map fun x => (m * x.1, x.2)) = m * tden l
  | [] => by simp [tden]
  | (c, e) :: r => by simp only [List.map_cons, tden, tmap_den m r, Int.mul_add, Int.mul_assoc]
theorem Lin.scale_den (m : Int) (a : Lin) : (a.scale m).den = m * a.den := by
  unfold Lin.scale
  split
  · rename_i h
    have : m = 0 := by simpa using h
    subst this; simp [Lin.den, tden]
  · simp only [Lin.den, tmap_den, Int.mul_add]
theorem atom_den (e : E) : (atom e).den = e.den := by simp [atom, Lin.den, tden]
theorem tdiv_den {p : Int} : ∀ {l : Tm}, (l.all fun x => x.1 % p == 0) = true → p ∣ tden l
  | [], _ => Int.dvd_zero p
  | (c, e) :: r, h => by
    simp only [List.all_cons, Bool.and_eq_true, beq_iff_eq] at h
    exact Int.dvd_add (Int.dvd_trans (Int.dvd_of_emod_eq_zero h.1) (Int.dvd_mul_right _ _)) (tdiv_den h.2)
theorem divBy_den {p : Int} {l : Lin} (h : divBy p l = true) : p ∣ l.den := by
  simp only [divBy, Bool.and_eq_true, beq_iff_eq] at h
  exact Int.dvd_add (Int.dvd_of_emod_eq_zero h.1) (tdiv_den h.2)
theorem ofInt_toNat {w : Nat} {a : Int} (h : 0 ≤ a) (h2 : a < 2 ^ w) : (BitVec.ofInt w a).toNat = a.toNat := by
  rw [BitVec.toNat_ofInt]
  have : a % ((2 ^ w : Nat) : Int) = a := Int.emod_eq_of_lt h (by rw [Int.natCast_pow]; exact h2)
  rw [this]
theorem lrR_in {n : Int} {a b : Int × Int} (h : a.1 ≤ n ∧ n ≤ a.2) (h2 : b.1 ≤ n ∧ n ≤ b.2) : (lrR a b).1 ≤ n ∧ n ≤ (lrR a b).2 := by
  unfold lrR maxI minI
  constructor <;> simp only <;> split <;> omega
theorem disj_or {k : IntKind} {a b : E} {r1 r2 : Int × Int} (ra : r1.1 ≤ a.den ∧ a.den ≤ r1.2) (rb : r2.1 ≤ b.den ∧ b.den ≤ r2.2) (h : disj k r1 r2 a.lin = true) (ha : a.lin.den = a.den) : semI .or k a.den b.den = a.den + b.den := by
  simp only [disj, Bool.and_eq_true, decide_eq_true_eq] at h
  obtain ⟨⟨⟨⟨⟨h1, h2⟩, h3⟩, h4⟩, h5⟩, h6⟩ := h
  have hd := divBy_den h6
  rw [ha] at hd
  have hk := has_bounds k
  simp only [semI]
  rw [BitVec.toNat_or, ofInt_toNat (by omega) (by omega), ofInt_toNat (by omega) (by omega)]
  have hlt : b.den.toNat < 2 ^ (Nat.log2 r2.2.toNat + 1) := ones_lt _ _ (by omega)
  have e : onesOf r2.2 + 1 = 2 ^ (Nat.log2 r2.2.toNat + 1) := by unfold onesOf; omega
  rw [e] at hd
  obtain ⟨q, hq⟩ := hd
  have hp : (0 : Int) < 2 ^ (Nat.log2 r2.2.toNat + 1) := Int.pow_pos (by omega)
  have hq0 : 0 ≤ q := by
    rcases Int.lt_or_le q 0 with hn | hn
    · have := Int.mul_neg_of_pos_of_neg hp hn
      omega
    · exact hn
  have ea : a.den.toNat = 2 ^ (Nat.log2 r2.2.toNat + 1) * q.toNat := by
    rw [hq, Int.toNat_mul (by omega) hq0, Int.toNat_pow_of_nonneg (by omega)]; rfl
  rw [ea, ← Nat.two_pow_add_eq_or_of_lt hlt, ← ea]
  have : ((a.den.toNat + b.den.toNat : Nat) : Int) = a.den + b.den := by omega
  rw [this, wrap_of_has ⟨by omega, by omega⟩]
theorem semI_or_comm (k : IntKind) (a b : Int) : semI .or k a b = semI .or k b a := by
  simp only [semI]; rw [BitVec.or_comm]
theorem quoT_den {p : Int} (hp : p ≠ 0) : ∀ l : Tm, tden l = p * tden (quoT p l) + tden (remT p l)
  | [] => by simp [tden, quoT, remT]
  | (c, e) :: r => by
    have ih := quoT_den hp r
    simp only [quoT, remT]
    split
    · rename_i h
      have h : c % p = 0 := eq_of_beq h
      have h2 : c = p * (c / p) := by have := Int.mul_ediv_add_emod c p; omega
      simp only [tden, Int.mul_add]
      rw [← Int.mul_assoc, ← h2]; omega
    · simp only [tden]; omega
theorem Lin.quo_den {p : Int} (hp : p ≠ 0) (l : Lin) : l.den = p * (l.quo p).den + (l.rem p).den := by
  have h1 := quoT_den hp l.t
  have h2 := Int.mul_ediv_add_emod l.k p
  simp only [Lin.den, Lin.quo, Lin.rem, Int.mul_add]
  omega
theorem tR_in : ∀ l : Tm, (tR l).1 ≤ tden l ∧ tden l ≤ (tR l).2
  | [] => ⟨Int.le_refl _, Int.le_refl _⟩
  | (c, e) :: r => by
    have h := tR_in r
    have re := e.rng
    simp only [tR, tden]
    split
    · rename_i hc
      have h1 := Int.mul_le_mul_of_nonneg_left re.1 hc
      have h2 := Int.mul_le_mul_of_nonneg_left re.2 hc
      exact ⟨by simp only; omega, by simp only; omega⟩
    · have h1 := Int.mul_le_mul_of_nonpos_left (a := c) (by omega) re.1
      have h2 := Int.mul_le_mul_of_nonpos_left (a := c) (by omega) re.2
      exact ⟨by simp only; omega, by simp only; omega⟩
theorem Lin.R_in (l : Lin) : l.R.1 ≤ l.den ∧ l.den ≤ l.R.2 := by
  have := tR_in l.t
  exact ⟨by show l.k + _ ≤ l.k + _; omega, by show l.k + _ ≤ l.k + _; omega⟩
theorem within_ok {l : Lin} {hi : Int} (h : within l.R hi = true) : 0 ≤ l.den ∧ l.den < hi := by
  simp only [within, Bool.and_eq_true, decide_eq_true_eq] at h
  have := l.R_in
  omega
theorem and_ones {k : IntKind} {a c : Int} (hc : 0 ≤ c) (ho : onesOf c = c) (hk : c ≤ k.max) (ha : 0 ≤ a) (hb : a < 2 ^ k.bits) : semI .and k a c = a % (c + 1) := by
  have hkb := has_bounds k
  have hm : c < 2 ^ k.bits := by
    cases k <;> simp only [IntKind.max, IntKind.signed, IntKind.bits, Bool.false_eq_true, if_true, if_false, Nat.reduceSub, Int.reducePow, Int.reduceSub] at hk ⊢ <;> omega
  simp only [semI]
  rw [BitVec.toNat_and, ofInt_toNat ha hb, ofInt_toNat hc hm]
  have e : c = (2 : Int) ^ (Nat.log2 c.toNat + 1) - 1 := by unfold onesOf at ho; omega
  have e2 : c.toNat = 2 ^ (Nat.log2 c.toNat + 1) - 1 := by
    have : ((2 ^ (Nat.log2 c.toNat + 1) : Nat) : Int) = (2 : Int) ^ (Nat.log2 c.toNat + 1) := by rw [Int.natCast_pow]; rfl
    omega
  have e3 : ((2 ^ (Nat.log2 c.toNat + 1) : Nat) : Int) = c + 1 := by rw [Int.natCast_pow]; have : ((2 : Nat) : Int) = 2 := rfl; rw [this]; omega
  rw [e2, Nat.and_two_pow_sub_one_eq_mod]
  have h1 : ((a.toNat % 2 ^ (Nat.log2 c.toNat + 1) : Nat) : Int) = a % (c + 1) := by
    rw [Int.natCast_emod, e3]
    have : ((a.toNat : Nat) : Int) = a := by omega
    rw [this]
  rw [h1]
  have h2 := Int.emod_nonneg a (b := c + 1) (by omega)
  have h3 := Int.emod_lt_of_pos a (show 0 < c + 1 by omega)
  exact wrap_of_has ⟨by omega, by omega⟩
theorem and_low {k : IntKind} {a c : Int} (hc : 0 ≤ c) (hk : c ≤ k.max) (ha : 0 ≤ a) (hb : a < 2 ^ k.bits) : semI .and k a c = semI .and k (a % (onesOf c + 1)) c := by
  have hm : c < 2 ^ k.bits := by
    cases k <;> simp only [IntKind.max, IntKind.signed, IntKind.bits, Bool.false_eq_true, if_true, if_false, Nat.reduceSub, Int.reducePow, Int.reduceSub] at hk ⊢ <;> omega
  have ho : onesOf c + 1 = ((2 ^ (Nat.log2 c.toNat + 1) : Nat) : Int) := by
    rw [Int.natCast_pow]; unfold onesOf
    have : ((2 : Nat) : Int) = 2 := rfl
    rw [this]; omega
  have hr0 := Int.emod_nonneg a (b := onesOf c + 1) (by rw [ho]; have := Nat.two_pow_pos (Nat.log2 c.toNat + 1); omega)
  have hr1 := emod_le' ha (onesOf c + 1)
  have hlt : c.toNat < 2 ^ (Nat.log2 c.toNat + 1) := Nat.lt_log2_self
  simp only [semI]
  rw [BitVec.toNat_and, BitVec.toNat_and, ofInt_toNat ha hb, ofInt_toNat hc hm, ofInt_toNat hr0 (by omega)]
  congr 2
  have e1 : (a % (onesOf c + 1)).toNat = a.toNat % 2 ^ (Nat.log2 c.toNat + 1) := by
    rw [ho]
    have : a = ((a.toNat : Nat) : Int) := by omega
    rw [this, ← Int.natCast_emod, Int.toNat_natCast, Int.toNat_natCast]
  rw [e1]
  apply Nat.eq_of_testBit_eq
  intro i
  rw [Nat.testBit_and, Nat.testBit_and, Nat.testBit_mod_two_pow]
  by_cases hi : i < Nat.log2 c.toNat + 1
  · simp [hi]
  · have : c.toNat.testBit i = false := Nat.testBit_lt_two_pow (Nat.lt_of_lt_of_le hlt (Nat.pow_le_pow_right (by omega) (by omega)))
    simp [this]
theorem wrap_period (k : IntKind) (q n : Int) : k.wrap (2 ^ k.bits * q + n) = k.wrap n := by
  have h : (2 ^ k.bits * q + n) % 2 ^ k.bits = n % 2 ^ k.bits := by
    rw [Int.add_comm, Int.add_mul_emod_self_left]
  simp only [IntKind.wrap, h]
theorem lnL_den : ∀ e : E, (lnL e).den = (e.D.2.length : Int)
  | .nl => rfl
  | .cn a b => by
    have := lnL_den b
    simp only [lnL, Lin.add_den]
    show 1 * (1 + 0) + _ = ((a.D.1 :: b.D.2).length : Int)
    rw [List.length_cons]; push_cast; omega
  | .cc a b => by
    have := lnL_den a; have := lnL_den b
    simp only [lnL, Lin.add_den]
    show _ = ((a.D.2 ++ b.D.2).length : Int)
    rw [List.length_append]; push_cast; omega
  | .st r a l lo hi => by
    have := lnL_den l
    show (lnL l).den = ((((l.D.2.set r.D.1.toNat a.D.1).map (clampI lo hi)).length : Nat) : Int)
    rw [List.length_map, List.length_set]; exact this
  | .num _ => atom_den _
  | .dq _ _ => atom_den _
  | .nm _ _ _ => atom_den _
  | .ap _ _ _ _ => atom_den _
  | .op _ _ _ _ => atom_den _
  | .wr _ _ => atom_den _
  | .pl _ _ => atom_den _
  | .mi _ _ => atom_den _
  | .sel _ _ => atom_den _
  | .ls _ _ _ _ _ => atom_den _
  | .ln _ => atom_den _
  | .sb _ _ _ => atom_den _
theorem shK_ok (k : IntKind) (c a : Int) : semI .shr (shK k c) a c = semI .shr k a c := by
  unfold shK
  split
  · rename_i h
    simp only [Bool.and_eq_true, decide_eq_true_eq] at h
    show a.fdiv (2 ^ min c.toNat 32) = a.fdiv (2 ^ min c.toNat k.bits)
    rw [show min c.toNat 32 = min c.toNat k.bits by omega]
  · rfl
theorem sh8_den {u e : E} (h : sh8 u e = true) : 256 * e.den + (E.wr .u8 u).den = u.den := by
  have hw : (E.wr .u8 u).den = u.den % 256 := rfl
  have key : ∀ x : Int, 256 * x.fdiv 256 + x % 256 = x := fun x => by
    rw [Int.fdiv_eq_ediv_of_nonneg _ (by omega)]
    omega
  rw [hw]
  unfold sh8 at h
  split at h
  · rename_i k a n
    rw [Bool.and_eq_true, decide_eq_true_eq, Bool.or_eq_true] at h
    obtain ⟨hn, h⟩ := h
    rcases h with h | h
    · rw [Bool.and_eq_true, beq_iff_eq] at h
      obtain ⟨rfl, h⟩ := h
      have h := E.beq_eq h
      subst h
      have he : (E.op .shr k a (.num 8)).den = a.den.fdiv 256 := by
        show a.den.fdiv (2 ^ min (8 : Int).toNat k.bits) = _
        rw [Nat.min_eq_left hn]; rfl
      rw [he]
      exact key _
    · split at h
      · rename_i k' a' m
        simp only [Bool.and_eq_true, decide_eq_true_eq, beq_iff_eq] at h
        obtain ⟨hm, hm2, rfl, h⟩ := h
        have h := E.beq_eq h
        subst h
        have he : (E.op .shr k a (.num (m + 8))).den = (E.op .shr k' a (.num m)).den.fdiv 256 := by
          show a.den.fdiv (2 ^ min (m + 8).toNat k.bits) = (a.den.fdiv (2 ^ min m.toNat k'.bits)).fdiv 256
          rw [Nat.min_eq_left hn, Nat.min_eq_left hm2]
          have e1 : (m + 8).toNat = m.toNat + 8 := by omega
          have hp : (0 : Int) < 2 ^ m.toNat := Int.pow_pos (by omega)
          rw [e1, Int.pow_add]
          have e8 : (2 : Int) ^ 8 = 256 := rfl
          rw [e8, Int.fdiv_eq_ediv_of_nonneg _ (Int.mul_nonneg (Int.le_of_lt hp) (by decide)), Int.fdiv_eq_ediv_of_nonneg _ (Int.le_of_lt hp), Int.fdiv_eq_ediv_of_nonneg _ (by decide), Int.ediv_ediv_of_nonneg (Int.le_of_lt hp)]
        rw [he]
        exact key _
      · cases h
  · cases h
theorem findW_ok {all : Tm} {c : Int} {u e : E} : ∀ {t : Tm}, findW all t = some (c, u, e) → sh8 u e = true
  | [], h => by cases h
  | (d, x) :: r, h => by
    unfold findW at h
    split at h
    · cases h
    · rename_i c' u' r' heq
      split at h
      · rename_i p hp
        cases h
        have := List.find?_some hp
        rw [Bool.and_eq_true] at this
        exact this.2
      · have : r' = r := by cases heq; rfl
        subst this
        exact findW_ok h
    · rename_i heq
      cases heq
      exact findW_ok h
theorem teleT_den : ∀ (n : Nat) (t : Tm), tden (teleT n t) = tden t
  | 0, _ => rfl
  | n + 1, t => by
    unfold teleT
    split
    · rename_i c u e h
      have h1 := sh8_den (findW_ok h)
      rw [teleT_den n, addT_den, addT_den, addT_den]
      have h2 : c * u.den = c * (256 * e.den) + c * (E.wr .u8 u).den := by rw [← Int.mul_add, h1]
      have h3 : -256 * c * e.den = -(c * (256 * e.den)) := by rw [Int.mul_comm (-256) c, Int.mul_assoc, Int.neg_mul, Int.mul_neg]
      have h4 : -c * (E.wr .u8 u).den = -(c * (E.wr .u8 u).den) := Int.neg_mul ..
      rw [h3, h4]
      omega
    · rfl
theorem tele_den (l : Lin) : l.tele.den = l.den := by
  show l.k + tden (teleT l.t.length l.t) = _
  rw [teleT_den]; rfl
theorem oneE_den {a : E} {l : Lin} (h : l.den = a.den) : (oneE a l).den = a.den := by
  unfold oneE
  split
  · rename_i e
    rw [← h]
    show _ = 0 + (1 * e.den + 0)
    omega
  · rfl
theorem E.lin_den : ∀ e : E, e.lin.den = e.den
  | .num n => by simp [E.lin, Lin.den, tden, E.den, E.D]
  | .pl a b => by
    have := E.lin_den a; have := E.lin_den b
    simp only [E.lin, Lin.add_den]; show _ = a.den + b.den; omega
  | .mi a b => by
    have := E.lin_den a; have := E.lin_den b
    simp only [E.lin, Lin.add_den]; show _ = a.den - b.den; omega
  | .wr k a => by
    have ha := E.lin_den a
    have ra := lrR_in a.rng (ha ▸ Lin.R_in a.lin)
    simp only [E.lin]
    split
    · rename_i h
      rw [ha]; exact (wrap_of_has (fitR_has h ra)).symm
    · split
      · rename_i h
        have hp : (2 : Int) ^ k.bits ≠ 0 := by have : (0 : Int) < 2 ^ k.bits := Int.pow_pos (by omega); omega
        have hq := Lin.quo_den hp a.lin
        rw [ha] at hq
        show _ = k.wrap a.den
        rw [hq, wrap_period, wrap_of_has (fitR_has h (Lin.R_in _))]
      · exact atom_den _
  | .nm _ _ _ => atom_den _
  | .ap _ _ _ _ => atom_den _
  | .nl => atom_den _
  | .cn _ _ => atom_den _
  | .sel _ _ => atom_den _
  | .ls _ _ _ _ _ => atom_den _
  | .ln e => lnL_den e
  | .st _ _ _ _ _ => atom_den _
  | .dq _ _ => atom_den _
  | .sb _ _ _ => atom_den _
  | .cc _ _ => atom_den _
  | .op o k a b => by
    have ha := E.lin_den a; have hb := E.lin_den b
    have ra := lrR_in a.rng (ha ▸ Lin.R_in a.lin)
    have rb := lrR_in b.rng (hb ▸ Lin.R_in b.lin)
    unfold E.lin
    split
    · split
      · rename_i h
        rw [Lin.add_den, ha, hb]
        exact (by omega : 1 * a.den + b.den = a.den + b.den).trans (wrap_of_has (fitR_has h ⟨by show _ ≤ a.den + b.den; simp only; omega, by show a.den + b.den ≤ _; simp only; omega⟩)).symm
      · exact atom_den _
    · split
      · rename_i h
        rw [Lin.add_den, ha, hb]
        exact (by omega : -1 * b.den + a.den = a.den - b.den).trans (wrap_of_has (fitR_has h ⟨by show _ ≤ a.den - b.den; simp only; omega, by show a.den - b.den ≤ _; simp only; omega⟩)).symm
      · exact atom_den _
    · split
      · rename_i c
        split
        · rename_i h
          simp only [Bool.and_eq_true, decide_eq_true_eq] at h
          rw [Lin.scale_den, ha]
          have h1 := Int.mul_le_mul_of_nonneg_right ra.1 h.1
          have h2 := Int.mul_le_mul_of_nonneg_right ra.2 h.1
          exact (Int.mul_comm _ _).trans (wrap_of_has (fitR_has h.2 ⟨h1, h2⟩)).symm
        · exact atom_den _
      · rename_i c _
        split
        · rename_i h
          simp only [Bool.and_eq_true, decide_eq_true_eq] at h
          rw [Lin.scale_den, hb]
          have h1 := Int.mul_le_mul_of_nonneg_right rb.1 h.1
          have h2 := Int.mul_le_mul_of_nonneg_right rb.2 h.1
          have := (wrap_of_has (fitR_has h.2 ⟨h1, h2⟩))
          rw [Int.mul_comm _ c] at this
          exact this.symm
        · exact atom_den _
      · exact atom_den _
    · split
      · rename_i c
        split
        · rename_i h
          rw [Lin.scale_den, ha]
          have hp : (0 : Int) ≤ 2 ^ min c.toNat k.bits := Int.le_of_lt (Int.pow_pos (by omega))
          have h1 := Int.mul_le_mul_of_nonneg_right ra.1 hp
          have h2 := Int.mul_le_mul_of_nonneg_right ra.2 hp
          exact (Int.mul_comm _ _).trans (wrap_of_has (fitR_has h (n := a.den * 2 ^ min c.toNat k.bits) ⟨h1, h2⟩)).symm
        · exact atom_den _
      · exact atom_den _
    · split
      · rename_i h
        rw [tele_den, Lin.add_den, ha, hb]
        exact (by omega : 1 * a.den + b.den = a.den + b.den).trans (disj_or ra rb h ha).symm
      · split
        · rename_i h
          rw [tele_den, Lin.add_den, ha, hb]
          exact (by omega : 1 * b.den + a.den = b.den + a.den).trans ((disj_or rb ra h hb).symm.trans (semI_or_comm k _ _))
        · exact atom_den _
    · split
      · rename_i c
        split
        · rename_i h
          simp only [Bool.and_eq_true, decide_eq_true_eq] at h
          obtain ⟨⟨⟨⟨⟨h1, h2⟩, h3⟩, h4⟩, h5⟩, h6⟩ := h
          have hw := within_ok h6
          have hq := Lin.quo_den (p := c + 1) (by omega) a.lin
          rw [ha] at hq
          show _ = semI .and k a.den c
          rw [and_ones h1 h2 h3 (by omega) (by omega), hq, Int.mul_add_emod_self_left, Int.emod_eq_of_lt hw.1 hw.2]
        · split
          · rename_i h
            simp only [Bool.and_eq_true, decide_eq_true_eq] at h
            obtain ⟨⟨⟨⟨h1, h3⟩, h4⟩, h5⟩, h6⟩ := h
            have ho : 0 < onesOf c + 1 := by unfold onesOf; have : (0 : Int) < 2 ^ (Nat.log2 c.toNat + 1) := Int.pow_pos (by omega); omega
            have hq := Lin.quo_den (p := onesOf c + 1) (by omega) a.lin
            have hk : (a.lin.rem (onesOf c + 1)).den = (a.lin.rem (onesOf c + 1)).k := by
              have : (a.lin.rem (onesOf c + 1)).t = [] := by simpa using h6
              rw [Lin.den, this]; simp [tden]
            rw [ha, hk] at hq
            have hrk : (a.lin.rem (onesOf c + 1)).k = a.lin.k % (onesOf c + 1) := rfl
            have hr0 := Int.emod_nonneg a.lin.k (b := onesOf c + 1) (by omega)
            have hr1 := Int.emod_lt_of_pos a.lin.k ho
            have he : a.den % (onesOf c + 1) = (a.lin.rem (onesOf c + 1)).k := by
              rw [hq, Int.mul_add_emod_self_left, hrk, Int.emod_eq_of_lt hr0 hr1]
            show (semI .and k (a.lin.rem (onesOf c + 1)).k c) + 0 = semI .and k a.den c
            rw [Int.add_zero, ← he]
            exact (and_low h1 h3 (by omega) (by omega)).symm
          · exact atom_den _
      · exact atom_den _
    · split
      · rename_i c
        split
        · rename_i h
          have hp : (0 : Int) < 2 ^ min c.toNat k.bits := Int.pow_pos (by omega)
          have hw := within_ok h
          have hq := Lin.quo_den (p := 2 ^ min c.toNat k.bits) (by omega) a.lin
          rw [ha] at hq
          show _ = a.den.fdiv (2 ^ min c.toNat k.bits)
          rw [Int.fdiv_eq_ediv_of_nonneg _ (by omega), hq, Int.mul_add_ediv_left _ _ (by omega), Int.ediv_eq_zero_of_lt hw.1 hw.2, Int.add_zero]
        · exact (atom_den _).trans (shK_ok k c a.den)
      · exact atom_den _
    · split
      · rename_i c
        split
        · rename_i h
          simp only [Bool.and_eq_true, decide_eq_true_eq] at h
          obtain ⟨⟨h1, h2⟩, h3⟩ := h
          have hw := within_ok h3
          have hq := Lin.quo_den (p := c) (by omega) a.lin
          rw [ha] at hq
          show _ = a.den.tmod c
          rw [Int.tmod_eq_emod_of_nonneg (by omega), hq, Int.mul_add_emod_self_left, Int.emod_eq_of_lt hw.1 hw.2]
        · refine (atom_den _).trans ?_
          show semI .rem k (oneE a a.lin).den c = semI .rem k a.den c
          rw [oneE_den ha]
      · exact atom_den _
    · split
      · rename_i c
        split
        · rename_i h
          simp only [Bool.and_eq_true, decide_eq_true_eq] at h
          obtain ⟨⟨⟨h1, h2⟩, h4⟩, h3⟩ := h
          have hw := within_ok h3
          have hq := Lin.quo_den (p := c) (by omega) a.lin
          rw [ha] at hq
          have hd : a.den / c = (a.lin.quo c).den := by rw [hq, Int.mul_add_ediv_left _ _ (by omega), Int.ediv_eq_zero_of_lt hw.1 hw.2, Int.add_zero]
          have h5 := Int.ediv_nonneg (a := a.den) (b := c) (by omega) (by omega)
          have h6 := Int.ediv_le_self (a := a.den) c (by omega)
          have hk := has_bounds k
          show _ = k.wrap (a.den.tdiv c)
          rw [Int.tdiv_eq_ediv_of_nonneg (by omega), wrap_of_has ⟨by omega, by omega⟩, hd]
        · refine (atom_den _).trans ?_
          show semI .quo k (oneE a a.lin).den c = semI .quo k a.den c
          rw [oneE_den ha]
      · exact atom_den _
    · exact atom_den _
end

def ccE : E → E → E
  | .nl, b => b
  | .cn a r, b => .cn a (ccE r b)
  | .cc a r, b => .cc a (ccE r b)
  | a, .nl => a
  | a, b => .cc a b
section
variable [Env]
theorem ccE_dens : ∀ a b : E, (ccE a b).dens = a.dens ++ b.dens
  | .nl, b => rfl
  | .cn a r, b => by show a.den :: (ccE r b).dens = (a.den :: r.dens) ++ b.dens; rw [ccE_dens r b]; rfl
  | .cc a r, b => by show a.dens ++ (ccE r b).dens = (a.dens ++ r.dens) ++ b.dens; rw [ccE_dens r b, List.append_assoc]
  | .num _, b => by cases b <;> first | rfl | exact (List.append_nil _).symm
  | .nm _ _ _, b => by cases b <;> first | rfl | exact (List.append_nil _).symm
  | .ap _ _ _ _, b => by cases b <;> first | rfl | exact (List.append_nil _).symm
  | .op _ _ _ _, b => by cases b <;> first | rfl | exact (List.append_nil _).symm
  | .wr _ _, b => by cases b <;> first | rfl | exact (List.append_nil _).symm
  | .pl _ _, b => by cases b <;> first | rfl | exact (List.append_nil _).symm
  | .mi _ _, b => by cases b <;> first | rfl | exact (List.append_nil _).symm
  | .sel _ _, b => by cases b <;> first | rfl | exact (List.append_nil _).symm
  | .ls _ _ _ _ _, b => by cases b <;> first | rfl | exact (List.append_nil _).symm
  | .ln _, b => by cases b <;> first | rfl | exact (List.append_nil _).symm
  | .sb _ _ _, b => by cases b <;> first | rfl | exact (List.append_nil _).symm
  | .st _ _ _ _ _, b => by cases b <;> first | rfl | exact (List.append_nil _).symm
  | .dq _ _, b => by cases b <;> first | rfl | exact (List.append_nil _).symm
end
def isZL (l : Lin) : Bool := l.t.isEmpty && l.k == 0
def nnL (l : Lin) : Bool := decide (0 ≤ l.R.1)
def zL : Lin := ⟨0, []⟩
def oneL : Lin := ⟨1, []⟩
def dL (a b : Lin) : Lin := Lin.add (-1) b a
/-- of a list, from a place on, so many -/
def subE : E → Lin → Lin → Option E
  | .cn a r, o, m =>
    if isZL m then some .nl
    else if isZL o then (if nnL (dL m oneL) then (subE r zL (dL m oneL)).map fun t => .cn a t else none)
    else if nnL (dL o oneL) then subE r (dL o oneL) m else none
  | .cc a r, o, m =>
    if isZL m then some .nl
    else if nnL (dL o (lnL a)) then subE r (dL o (lnL a)) m
    else if isZL o then
      (if isZL (dL m (lnL a)) then some a
      else if nnL (dL m (lnL a)) then (subE r zL (dL m (lnL a))).map fun t => ccE a t
      else if nnL (dL (lnL a) m) then subE a zL m else none)
    else none
  | e, o, m =>
    if isZL m then some .nl
    else if isZL o && isZL (dL m (lnL e)) then some e else none
section
variable [Env]
theorem isZL_den {l : Lin} (h : isZL l = true) : l.den = 0 := by
  unfold isZL at h
  rw [Bool.and_eq_true, beq_iff_eq] at h
  have : l.t = [] := by simpa using h.1
  rw [Lin.den, this, h.2]; simp [tden]
theorem nnL_den {l : Lin} (h : nnL l = true) : 0 ≤ l.den := by
  have h : 0 ≤ l.R.1 := of_decide_eq_true h
  have := l.R_in
  omega
theorem dL_den (a b : Lin) : (dL a b).den = a.den - b.den := by rw [dL, Lin.add_den]; omega
theorem zL_den : zL.den = 0 := by simp [zL, Lin.den, tden]
theorem oneL_den : oneL.den = 1 := by simp [oneL, Lin.den, tden]
theorem subE_leaf {e : E} {o m : Lin} {t : E} (h : (if isZL m then some E.nl else if isZL o && isZL (dL m (lnL e)) then some e else none) = some t) : t.dens = (e.dens.drop o.den.toNat).take m.den.toNat := by
  split at h
  · rename_i hz
    cases h
    rw [isZL_den hz]; simp [E.dens, E.D]
  · split at h
    · rename_i hz
      rw [Bool.and_eq_true] at hz
      cases h
      have h1 := isZL_den hz.1
      have h2 := isZL_den hz.2
      rw [dL_den, lnL_den] at h2
      have h2 : m.den - ((e.dens.length : Nat) : Int) = 0 := h2
      rw [h1, show m.den.toNat = e.dens.length by omega]
      simp
    · cases h
theorem subE_dens : ∀ {e : E} {o m : Lin} {t : E}, subE e o m = some t → 0 ≤ o.den → 0 ≤ m.den → t.dens = (e.dens.drop o.den.toNat).take m.den.toNat
  | .cn a r, o, m, t, h, ho, hm => by
    simp only [subE] at h
    split at h
    · rename_i hz
      cases h
      rw [isZL_den hz]; simp [E.dens, E.D]
    · split at h
      · rename_i hz
        split at h
        · rename_i hn
          have hn := nnL_den hn
          obtain ⟨t', h1, rfl⟩ := Option.map_eq_some_iff.1 h
          have ih := subE_dens h1 (by rw [zL_den]; exact Int.le_refl _) hn
          rw [zL_den] at ih
          rw [dL_den, oneL_den] at hn ih
          rw [isZL_den hz]
          show a.den :: t'.dens = ((a.den :: r.dens).drop 0).take m.den.toNat
          rw [ih, show m.den.toNat = (m.den - 1).toNat + 1 by omega]
          rfl
        · cases h
      · split at h
        · rename_i hn
          have hn := nnL_den hn
          have ih := subE_dens h hn hm
          rw [dL_den, oneL_den] at hn ih
          rw [ih]
          show _ = ((a.den :: r.dens).drop o.den.toNat).take m.den.toNat
          rw [show o.den.toNat = (o.den - 1).toNat + 1 by omega]
          rfl
        · cases h
  | .cc a r, o, m, t, h, ho, hm => by
    have hla : (lnL a).den = ((a.dens.length : Nat) : Int) := lnL_den a
    simp only [subE] at h
    split at h
    · rename_i hz
      cases h
      rw [isZL_den hz]; simp [E.dens, E.D]
    · split at h
      · rename_i hn
        have hn := nnL_den hn
        have ih := subE_dens h hn hm
        rw [dL_den, hla] at hn ih
        rw [ih]
        show _ = ((a.dens ++ r.dens).drop o.den.toNat).take m.den.toNat
        rw [List.drop_append, show a.dens.drop o.den.toNat = [] from List.drop_eq_nil_of_le (by omega), List.nil_append]
        congr 2
        omega
      · split at h
        · rename_i hz
          have ho0 := isZL_den hz
          split at h
          · rename_i hz2
            cases h
            have := isZL_den hz2
            rw [dL_den, hla] at this
            show a.dens = ((a.dens ++ r.dens).drop o.den.toNat).take m.den.toNat
            rw [ho0, show m.den.toNat = a.dens.length by omega]
            simp
          · split at h
            · rename_i hn
              have hn := nnL_den hn
              obtain ⟨t', h1, rfl⟩ := Option.map_eq_some_iff.1 h
              have ih := subE_dens h1 (by rw [zL_den]; exact Int.le_refl _) hn
              rw [zL_den] at ih
              rw [dL_den, hla] at hn ih
              rw [ccE_dens, ih, ho0]
              show a.dens ++ (r.dens.drop 0).take _ = ((a.dens ++ r.dens).drop 0).take m.den.toNat
              rw [List.drop_zero, List.drop_zero, List.take_append, List.take_of_length_le (show a.dens.length ≤ m.den.toNat by omega)]
              congr 2
              omega
            · split at h
              · rename_i hn
                have hn := nnL_den hn
                rw [dL_den, hla] at hn
                have ih := subE_dens h (by rw [zL_den]; exact Int.le_refl _) hm
                rw [zL_den] at ih
                rw [ih, ho0]
                show (a.dens.drop 0).take m.den.toNat = ((a.dens ++ r.dens).drop 0).take m.den.toNat
                rw [List.drop_zero, List.drop_zero, List.take_append_of_le_length (by omega)]
              · cases h
        · cases h
  | .num n, o, m, t, h, ho, hm => subE_leaf h
  | .nm _ _ _, o, m, t, h, ho, hm => subE_leaf h
  | .ap _ _ _ _, o, m, t, h, ho, hm => subE_leaf h
  | .nl, o, m, t, h, ho, hm => subE_leaf h
  | .op _ _ _ _, o, m, t, h, ho, hm => subE_leaf h
  | .wr _ _, o, m, t, h, ho, hm => subE_leaf h
  | .pl _ _, o, m, t, h, ho, hm => subE_leaf h
  | .mi _ _, o, m, t, h, ho, hm => subE_leaf h
  | .sel _ _, o, m, t, h, ho, hm => subE_leaf h
  | .ls _ _ _ _ _, o, m, t, h, ho, hm => subE_leaf h
  | .ln _, o, m, t, h, ho, hm => subE_leaf h
  | .sb _ _ _, o, m, t, h, ho, hm => subE_leaf h
  | .st _ _ _ _ _, o, m, t, h, ho, hm => subE_leaf h
  | .dq _ _, o, m, t, h, ho, hm => subE_leaf h
end
/-- a list with another entry -/
def setE (r a e : E) : E := .st r a e (minI a.R.1.1 e.R.2.1) (maxI a.R.1.2 e.R.2.2)
section
variable [Env]
/-- the same list by a name that an environment has -/
def nmS (r a e : E) : E := .ls 78 .nl (minI a.R.1.1 e.R.2.1) (maxI a.R.1.2 e.R.2.2) e.L.2.toNat
theorem dq0 {a b : E} (h : (E.dq a b).den = 0) : a.dens = b.dens := by
  have h : (if a.D.2 = b.D.2 then (0 : Int) else 1) = 0 := h
  split at h
  · assumption
  · cases h
theorem nmS_dens {r a e : E} (h : (E.dq (nmS r a e) (setE r a e)).den = 0) : (nmS r a e).dens = (setE r a e).dens := by
  have h : (if (nmS r a e).D.2 = (setE r a e).D.2 then (0 : Int) else 1) = 0 := h
  split at h
  · assumption
  · cases h
theorem setE_dens {r a e : E} {n : Nat} (hr : r.den = n) : (setE r a e).dens = e.dens.set n a.den := by
  show (e.D.2.set r.D.1.toNat a.D.1).map (clampI _ _) = _
  rw [show r.D.1 = (n : Int) from hr, Int.toNat_natCast]
  show (e.dens.set n a.den).map (clampI _ _) = _
  have m1 := minI_le a.R.1.1 e.R.2.1
  have m2 := le_maxI a.R.1.2 e.R.2.2
  have h1 := a.rng
  refine (List.map_congr_left fun x hx => ?_).trans (List.map_id _)
  refine clamp_eq ?_
  rcases List.mem_or_eq_of_mem_set hx with hx | rfl
  · obtain ⟨h2, h3⟩ := (E.R_in e).2 x (List.mem_cons_of_mem _ hx)
    exact ⟨by omega, by omega⟩
  · exact ⟨by omega, by omega⟩
end
/-- a sum as it is written always, if no number stands with its terms -/
def sumE : Tm → Int → Option E
  | [], k => some (.num k)
  | (c, e) :: r, k => if c == 1 then (sumE r k).map fun s => .pl e s else if c == -1 then (sumE r k).map fun s => .mi s e else none
def normE (e : E) : E :=
  match sumE e.lin.t e.lin.k with
  | some s => s
  | none => e
section
variable [Env]
theorem sumE_den : ∀ {t : Tm} {k : Int} {s : E}, sumE t k = some s → s.den = k + tden t
  | [], k, s, h => by cases h; show k = k + 0; omega
  | (c, e) :: r, k, s, h => by
    simp only [sumE] at h
    split at h
    · rename_i hc
      have : c = 1 := eq_of_beq hc
      subst this
      obtain ⟨s', h1, rfl⟩ := Option.map_eq_some_iff.1 h
      have := sumE_den h1
      show e.den + s'.den = k + (1 * e.den + tden r)
      omega
    · split at h
      · rename_i hc
        have : c = -1 := eq_of_beq hc
        subst this
        obtain ⟨s', h1, rfl⟩ := Option.map_eq_some_iff.1 h
        have := sumE_den h1
        show s'.den - e.den = k + (-1 * e.den + tden r)
        omega
      · cases h
theorem normE_den (e : E) : (normE e).den = e.den := by
  unfold normE
  split
  · rename_i s h
    rw [sumE_den h]
    exact E.lin_den e
  · rfl
end
/-- an entry, where it can be seen -/
def selL : E → Lin → Option E
  | .cn a r, i => if isZL i then some a else if nnL (dL i oneL) then selL r (dL i oneL) else none
  | .cc a r, i => if nnL (dL i (lnL a)) then selL r (dL i (lnL a)) else if nnL (dL (dL (lnL a) oneL) i) then selL a i else none
  | e, i => (sumE i.t i.k).map fun s => .sel s e
section
variable [Env]
theorem selL_leaf {e : E} {i : Lin} {t : E} (h : ((sumE i.t i.k).map fun s => E.sel s e) = some t) : t.den = e.dens.getD i.den.toNat 0 := by
  obtain ⟨s, h1, rfl⟩ := Option.map_eq_some_iff.1 h
  have := sumE_den h1
  show e.D.2.getD s.den.toNat 0 = _
  rw [this]; rfl
theorem selL_den : ∀ {e : E} {i : Lin} {t : E}, selL e i = some t → 0 ≤ i.den → t.den = e.dens.getD i.den.toNat 0
  | .cn a r, i, t, h, hi => by
    simp only [selL] at h
    split at h
    · rename_i hz
      cases h
      rw [isZL_den hz]; rfl
    · split at h
      · rename_i hn
        have hn := nnL_den hn
        have ih := selL_den h hn
        rw [dL_den, oneL_den] at hn ih
        rw [ih]
        show _ = (a.den :: r.dens).getD i.den.toNat 0
        rw [show i.den.toNat = (i.den - 1).toNat + 1 by omega]
        rfl
      · cases h
  | .cc a r, i, t, h, hi => by
    have hla : (lnL a).den = ((a.dens.length : Nat) : Int) := lnL_den a
    simp only [selL] at h
    split at h
    · rename_i hn
      have hn := nnL_den hn
      have ih := selL_den h hn
      rw [dL_den, hla] at hn ih
      rw [ih]
      show _ = (a.dens ++ r.dens).getD i.den.toNat 0
      rw [List.getD_eq_getElem?_getD, List.getD_eq_getElem?_getD, List.getElem?_append_right (by omega)]
      congr 2
      omega
    · split at h
      · rename_i hn
        have hn := nnL_den hn
        rw [dL_den, dL_den, oneL_den, hla] at hn
        have ih := selL_den h hi
        rw [ih]
        show _ = (a.dens ++ r.dens).getD i.den.toNat 0
        rw [List.getD_eq_getElem?_getD, List.getD_eq_getElem?_getD, List.getElem?_append_left (by omega)]
      · cases h
  | .num n, i, t, h, hi => selL_leaf h
  | .nm _ _ _, i, t, h, hi => selL_leaf h
  | .ap _ _ _ _, i, t, h, hi => selL_leaf h
  | .nl, i, t, h, hi => selL_leaf h
  | .op _ _ _ _, i, t, h, hi => selL_leaf h
  | .wr _ _, i, t, h, hi => selL_leaf h
  | .pl _ _, i, t, h, hi => selL_leaf h
  | .mi _ _, i, t, h, hi => selL_leaf h
  | .sel _ _, i, t, h, hi => selL_leaf h
  | .ls _ _ _ _ _, i, t, h, hi => selL_leaf h
  | .ln _, i, t, h, hi => selL_leaf h
  | .sb _ _ _, i, t, h, hi => selL_leaf h
  | .st _ _ _ _ _, i, t, h, hi => selL_leaf h
  | .dq _ _, i, t, h, hi => selL_leaf h
end
/-- an entry -/
def selAt (r e : E) : E :=
  match selL e r.lin with
  | some t => t
  | none => selE (normE r) e
section
variable [Env]
theorem selAt_den {r e : E} (h : 0 ≤ r.den) : (selAt r e).den = e.D.2.getD r.den.toNat 0 := by
  unfold selAt
  split
  · rename_i t ht
    have := selL_den ht (by rw [E.lin_den]; exact h)
    rw [E.lin_den] at this
    exact this
  · rw [selE_den, normE_den]
end
/-- an entry of a part is the list's -/
def entE (i : Nat) : E → E
  | .sb l (.num o) (.num m) => if decide (0 ≤ o) && decide ((i : Int) < m) then selAt (.num (o + i)) l else .sel (.num i) (.sb l (.num o) (.num m))
  | d => selAt (.num i) d
def eqBs (d : E) : List Int → Nat → EB
  | [], _ => .kb true
  | x :: r, i => .an (.eq (entE i d) (.num x)) (eqBs d r (i + 1))
/-- is a list just that one? -/
def eqLs (d : E) (l : List Int) : EB := .an (.eq (.ln d) (.num (l.length : Int))) (eqBs d l 0)
section
variable [Env]
theorem entE_den (i : Nat) (d : E) : (entE i d).den = d.dens.getD i 0 := by
  unfold entE
  split
  · rename_i l o m
    split
    · rename_i h
      rw [Bool.and_eq_true, decide_eq_true_eq, decide_eq_true_eq] at h
      rw [selAt_den (by show 0 ≤ o + (i : Int); omega)]
      show l.D.2.getD (o + (i : Int)).toNat 0 = ((l.D.2.drop o.toNat).take m.toNat).getD i 0
      rw [List.getD_eq_getElem?_getD, List.getD_eq_getElem?_getD, List.getElem?_take, if_pos (by omega), List.getElem?_drop]
      rw [show (o + (i : Int)).toNat = o.toNat + i by omega]
    · rfl
  · rw [selAt_den (by show (0 : Int) ≤ (i : Int); omega)]; rfl
theorem eqBs_den (d : E) : ∀ (l : List Int) (i : Nat), (eqBs d l i).den = true ↔ ∀ j x, l[j]? = some x → d.dens.getD (i + j) 0 = x
  | [], i => by simp [eqBs, EB.den]
  | x :: r, i => by
    have ih := eqBs_den d r (i + 1)
    show ((entE i d).den == x && (eqBs d r (i + 1)).den) = true ↔ _
    rw [Bool.and_eq_true, ih, entE_den, beq_iff_eq]
    constructor
    · intro ⟨h1, h2⟩ j y hj
      cases j with
      | zero => cases hj; exact h1
      | succ j => rw [show i + (j + 1) = i + 1 + j by omega]; exact h2 j y (by simpa using hj)
    · intro h
      refine ⟨h 0 x rfl, fun j y hj => ?_⟩
      rw [show i + 1 + j = i + (j + 1) by omega]
      exact h (j + 1) y (by simpa using hj)
theorem eqLs_den (d : E) (l : List Int) : (eqLs d l).den = (d.dens == l) := by
  rw [Bool.eq_iff_iff, beq_iff_eq]
  show (((d.dens.length : Nat) : Int) == ((l.length : Nat) : Int) && (eqBs d l 0).den) = true ↔ _
  rw [Bool.and_eq_true, eqBs_den, beq_iff_eq]
  constructor
  · intro ⟨h1, h2⟩
    have h1 : d.dens.length = l.length := by omega
    refine List.ext_getElem h1 fun i h3 h4 => ?_
    have := h2 i _ (List.getElem?_eq_getElem h4)
    rw [Nat.zero_add, List.getD_eq_getElem?_getD, List.getElem?_eq_getElem h3] at this
    exact this
  · intro h
    subst h
    refine ⟨rfl, fun j x hj => ?_⟩
    rw [Nat.zero_add, List.getD_eq_getElem?_getD, hj]; rfl
end
/-! What is known. -/
inductive Fk where
  | ge (l : Lin)
  | eq (l : Lin)
  | ne (l : Lin)
section
variable [Env]
def Fk.holds : Fk → Prop
  | .ge l => 0 ≤ l.den
  | .eq l => l.den = 0
  | .ne l => l.den ≠ 0
def Holds (fs : List Fk) : Prop := ∀ f ∈ fs, f.holds
end
def Lin.sub (a b : Lin) : Lin := Lin.add (-1) b a
def Lin.pls (a b : Lin) : Lin := Lin.add 1 b a
/-- is it 0 or more? -/
def geBy (d : Lin) : List Fk → Option Bool
  | [] => none
  | .ge f :: r => if decide (0 ≤ (d.sub f).R.1) then some true else if decide ((d.pls f).R.2 < 0) then some false else geBy d r
  | .eq f :: r => if decide (0 ≤ (d.sub f).R.1) || decide (0 ≤ (d.pls f).R.1) then some true else if decide ((d.pls f).R.2 < 0) || decide ((d.sub f).R.2 < 0) then some false else geBy d r
  | .ne _ :: r => geBy d r
/-- a range, cut by what is known of a term -/
def cutR (e : E) : List Fk → Int × Int → Int × Int
  | [], r => r
  | .ge f :: fs, r => match f.t with
    | [(c, e')] => if e.beq e' then (if c == 1 then cutR e fs (maxI r.1 (-f.k), r.2) else if c == -1 then cutR e fs (r.1, minI r.2 f.k) else cutR e fs r) else cutR e fs r
    | _ => cutR e fs r
  | .eq f :: fs, r => match f.t with
    | [(c, e')] => if e.beq e' then (if c == 1 then (-f.k, -f.k) else if c == -1 then (f.k, f.k) else cutR e fs r) else cutR e fs r
    | _ => cutR e fs r
  | .ne _ :: fs, r => cutR e fs r
/-- a term's range by what is known -/
def E.RF (fs : List Fk) : E → Int × Int
  | .op o k a b => cutR (.op o k a b) fs (opR o k (a.RF fs) (b.RF fs))
  | .wr k a => cutR (.wr k a) fs (orK k (a.RF fs))
  | .pl a b => ((a.RF fs).1 + (b.RF fs).1, (a.RF fs).2 + (b.RF fs).2)
  | .mi a b => ((a.RF fs).1 - (b.RF fs).2, (a.RF fs).2 - (b.RF fs).1)
  | .num n => (n, n)
  | e => cutR e fs e.R.1
def tRF (fs : List Fk) : Tm → Int × Int
  | [] => (0, 0)
  | (c, e) :: r => if 0 ≤ c then (c * (e.RF fs).1 + (tRF fs r).1, c * (e.RF fs).2 + (tRF fs r).2) else (c * (e.RF fs).2 + (tRF fs r).1, c * (e.RF fs).1 + (tRF fs r).2)
def Lin.RF (fs : List Fk) (l : Lin) : Int × Int := (l.k + (tRF fs l.t).1, l.k + (tRF fs l.t).2)
def isT : Option Bool → Bool
  | some b => b
  | none => false
/-- what holds of functions that give no more than their first argument -/
def inhT (fs : List Fk) : Tm → List Fk
  | [] => []
  | (_, .ap f (.cn n r) lo hi) :: t =>
    if decide (HB ≤ f) && (decide (lo ≤ n.lin.R.1) || isT (geBy (Lin.sub n.lin ⟨lo, []⟩) fs)) then
      .ge (Lin.sub n.lin (atom (.ap f (.cn n r) lo hi))) :: inhT fs t else inhT fs t
  | (_, .op .rem k a b) :: t =>
    if decide (0 ≤ a.R.1.1) && decide (1 ≤ b.R.1.1) then .ge (Lin.add 1 ⟨-1, []⟩ (Lin.sub b.lin (atom (.op .rem k a b)))) :: inhT fs t else inhT fs t
  | _ :: t => inhT fs t
def ge1 (d : Lin) (all : List Fk) : Option Bool := if decide (0 ≤ d.R.1) then some true else if decide (d.R.2 < 0) then some false else geBy d all
/-- by each of some equations, and one fact more -/
def viaLen (d : Lin) (all : List Fk) : List Fk → Option Bool
  | [] => none
  | .eq f :: r => match ge1 (d.sub f) all with
    | some b => some b
    | none => match ge1 (d.pls f) all with
      | some b => some b
      | none => viaLen d all r
  | _ :: r => viaLen d all r
/-- without what divides all its numbers -/
def Lin.nrm (d : Lin) : Lin :=
  match d.t with
  | (c, _) :: _ => if decide (2 ≤ c.natAbs) && d.t.all (fun x => x.1 % (c.natAbs : Int) == 0) then ⟨d.k / (c.natAbs : Int), d.t.map fun x => (x.1 / (c.natAbs : Int), x.2)⟩ else d
  | [] => d
/-- by an equation between terms, and one fact more -/
def viaEq (d : Lin) (all : List Fk) : List Fk → Option Bool
  | [] => none
  | .eq f :: r => if decide (f.t.length < 2) then viaEq d all r else match geBy (d.sub f).nrm all with
    | some b => some b
    | none => match geBy (d.pls f).nrm all with
      | some b => some b
      | none => viaEq d all r
  | _ :: r => viaEq d all r
/-- what is asked of a part's place: by ranges, facts, remainders, equations -/
def kn0 (fs : List Fk) (d : Lin) : Bool := decide (0 ≤ d.R.1) || (isT (geBy d fs) || (isT (geBy d (inhT fs d.t)) || isT (viaEq d fs fs)))
/-- how long parts of lists are -/
def lenK (kn : Lin → Bool) : Tm → List Fk
  | [] => []
  | (_, .ln (.sb l o m)) :: t =>
    if kn o.lin && (kn m.lin && kn (Lin.sub (Lin.sub (lnL l) o.lin) m.lin)) then .eq (Lin.sub (atom (.ln (.sb l o m))) m.lin) :: lenK kn t else lenK kn t
  | _ :: t => lenK kn t
def kn1 (fs : List Fk) (d : Lin) : Bool := kn0 fs d || isT (viaLen d fs (lenK (kn0 fs) d.t))
def lenT (fs : List Fk) (t : Tm) : List Fk := lenK (kn1 fs) t
def decGe (fs : List Fk) (d : Lin) : Option Bool :=
  if decide (0 ≤ d.R.1) then some true else if decide (d.R.2 < 0) then some false else
  match geBy d fs with
  | some b => some b
  | none => match geBy d (inhT fs d.t) with
  | some b => some b
  | none => if fs.isEmpty then none else if decide (0 ≤ (d.RF fs).1) then some true else if decide ((d.RF fs).2 < 0) then some false else match viaEq d fs fs with
    | some b => some b
    | none => viaLen d fs (lenT fs d.t)
def Lin.isK (l : Lin) : Bool := l.t.isEmpty
def eqBy (d : Lin) : List Fk → Option Bool
  | [] => none
  | .ge f :: r => if decide (0 < (d.sub f).R.1) || decide ((d.pls f).R.2 < 0) then some false else eqBy d r
  | .eq f :: r => if (d.sub f).isK then some ((d.sub f).k == 0) else if (d.pls f).isK then some ((d.pls f).k == 0) else eqBy d r
  | .ne f :: r => if (d.sub f).isK && (d.sub f).k == 0 || (d.pls f).isK && (d.pls f).k == 0 then some false else eqBy d r
/-- all are multiples, but one isn't -/
def oddK (d : Lin) : Bool :=
  match d.t with
  | [] => false
  | (c, _) :: r => (r.all fun x => x.1 % c == 0) && !(d.k % c == 0)
def decEq0 (fs : List Fk) (d : Lin) : Option Bool :=
  if oddK d then some false else
  if d.isK then some (d.k == 0) else if decide (0 < d.R.1) || decide (d.R.2 < 0) then some false else
  match eqBy d fs with
  | some b => some b
  | none => match decGe fs d, decGe fs (Lin.add (-1) d ⟨0, []⟩) with
    | some true, some true => some true
    | some false, _ => some false
    | _, some false => some false
    | _, _ => none
def eqP (fs : List Fk) (r s : E) : Bool := isT (decEq0 fs (Lin.sub r.lin s.lin))
/-- are two terms alike, but for places that are equal by what is known? -/
def likeE (fs : List Fk) : E → E → Bool
  | .sel r l, .sel s m => (l.beq m || likeE fs l m) && eqP fs r s
  | .sb l o n, .sb m p q => (l.beq m || likeE fs l m) && (eqP fs o p && eqP fs n q)
  | .cn a b, .cn c d => (a.beq c || (likeE fs a c || eqP fs a c)) && (b.beq d || likeE fs b d)
  | .cc a b, .cc c d => (a.beq c || likeE fs a c) && (b.beq d || likeE fs b d)
  | .ap f a lo hi, .ap g b lo' hi' => f == g && (lo == lo' && (hi == hi' && (a.beq b || likeE fs a b)))
  | .ls f a lo hi n, .ls g b lo' hi' n' => f == g && (lo == lo' && (hi == hi' && (n == n' && (a.beq b || likeE fs a b))))
  | .ln a, .ln b => a.beq b || likeE fs a b
  | .nl, .nl => true
  | _, _ => false
/-- what is alike is one -/
def addS (fs : List Fk) (c : Int) (e : E) : Tm → Tm
  | [] => [(c, e)]
  | (d, e') :: t => if likeE fs e e' then (if c + d == 0 then t else (c + d, e') :: t) else (d, e') :: addS fs c e t
def mrgS (fs : List Fk) : Tm → Tm
  | [] => []
  | (c, e) :: t => addS fs c e (mrgS fs t)
/-- by a fact of as many terms that are alike -/
def eqLike (d : Lin) (all : List Fk) : List Fk → Option Bool
  | [] => none
  | .eq f :: r => if f.t.length == d.t.length && ((mrgS all (d.sub f).t).isEmpty) then some ((d.sub f).k == 0) else eqLike d all r
  | .ne f :: r => if f.t.length == d.t.length && ((d.sub f).k == 0 && (mrgS all (d.sub f).t).isEmpty) then some false else eqLike d all r
  | .ge _ :: r => eqLike d all r
def decEqL (fs : List Fk) (d : Lin) : Option Bool :=
  match decEq0 fs d with
  | some b => some b
  | none => match if (mrgS fs d.t).length < d.t.length then decEq0 fs ⟨d.k, mrgS fs d.t⟩ else none with
    | some b => some b
    | none => if decide (1 < d.t.length) then eqLike d fs fs else none
section
variable [Env]
theorem Lin.sub_den (a b : Lin) : (a.sub b).den = a.den - b.den := by rw [Lin.sub, Lin.add_den]; omega
theorem Lin.pls_den (a b : Lin) : (a.pls b).den = a.den + b.den := by rw [Lin.pls, Lin.add_den]; omega
theorem isK_den {l : Lin} (h : l.isK = true) : l.den = l.k := by
  unfold Lin.isK at h
  have : l.t = [] := by simpa using h
  rw [Lin.den, this]; simp [tden]
theorem geBy_ok {d : Lin} : ∀ {fs : List Fk} {b : Bool}, geBy d fs = some b → Holds fs → b = decide (0 ≤ d.den)
  | [], b, h, _ => by cases h
  | f :: r, b, h, hf => by
    have hr : Holds r := fun x hx => hf x (List.mem_cons_of_mem _ hx)
    have h0 := hf f (List.mem_cons_self ..)
    cases f with
    | ne f => exact geBy_ok (fs := r) h hr
    | ge f =>
      have h0 : 0 ≤ f.den := h0
      have r1 := (d.sub f).R_in
      have r2 := (d.pls f).R_in
      rw [Lin.sub_den] at r1
      rw [Lin.pls_den] at r2
      simp only [geBy] at h
      split at h
      · rename_i g; cases h
        have g : 0 ≤ (d.sub f).R.1 := of_decide_eq_true g
        exact (decide_eq_true (by omega)).symm
      · split at h
        · rename_i g; cases h
          have g : (d.pls f).R.2 < 0 := of_decide_eq_true g
          exact (decide_eq_false (by omega)).symm
        · exact geBy_ok (fs := r) h hr
    | eq f =>
      have h0 : f.den = 0 := h0
      have r1 := (d.sub f).R_in
      have r2 := (d.pls f).R_in
      rw [Lin.sub_den] at r1
      rw [Lin.pls_den] at r2
      simp only [geBy, Bool.or_eq_true, decide_eq_true_eq] at h
      split at h
      · rename_i g; cases h
        exact (decide_eq_true (by omega)).symm
      · split at h
        · rename_i g; cases h
          exact (decide_eq_false (by omega)).symm
        · exact geBy_ok (fs := r) h hr
theorem cutR_in {e : E} : ∀ {fs : List Fk} {r : Int × Int}, Holds fs → inR e.den r → inR e.den (cutR e fs r)
  | [], r, _, h => h
  | f :: fs, r, hf, h => by
    have hr : Holds fs := fun x hx => hf x (List.mem_cons_of_mem _ hx)
    have h0 := hf f (List.mem_cons_self ..)
    obtain ⟨h1, h2⟩ := h
    cases f with
    | ne f => exact cutR_in (fs := fs) hr ⟨h1, h2⟩
    | ge f =>
      have h0 : 0 ≤ f.den := h0
      simp only [cutR]
      split
      · rename_i c e' he
        have hd : f.den = f.k + (c * e'.den + 0) := by rw [Lin.den, he]; rfl
        split
        · rename_i hb
          cases E.beq_eq hb
          split
          · rename_i hc
            have : c = 1 := eq_of_beq hc
            subst this
            refine cutR_in hr ⟨?_, h2⟩
            show maxI _ _ ≤ _
            unfold maxI
            split <;> omega
          · split
            · rename_i hc
              have : c = -1 := eq_of_beq hc
              subst this
              refine cutR_in hr ⟨h1, ?_⟩
              show _ ≤ minI _ _
              unfold minI
              split <;> omega
            · exact cutR_in hr ⟨h1, h2⟩
        · exact cutR_in hr ⟨h1, h2⟩
      · exact cutR_in hr ⟨h1, h2⟩
    | eq f =>
      have h0 : f.den = 0 := h0
      simp only [cutR]
      split
      · rename_i c e' he
        have hd : f.den = f.k + (c * e'.den + 0) := by rw [Lin.den, he]; rfl
        split
        · rename_i hb
          cases E.beq_eq hb
          split
          · rename_i hc
            have : c = 1 := eq_of_beq hc
            subst this
            exact ⟨by simp only; omega, by simp only; omega⟩
          · split
            · rename_i hc
              have : c = -1 := eq_of_beq hc
              subst this
              exact ⟨by simp only; omega, by simp only; omega⟩
            · exact cutR_in hr ⟨h1, h2⟩
        · exact cutR_in hr ⟨h1, h2⟩
      · exact cutR_in hr ⟨h1, h2⟩
theorem E.RF_in {fs : List Fk} (hf : Holds fs) : ∀ e : E, inR e.den (e.RF fs)
  | .op o k a b => cutR_in hf (op_in (E.RF_in hf a) (E.RF_in hf b))
  | .wr k a => cutR_in hf (orK_in (E.RF_in hf a))
  | .pl a b => by
    obtain ⟨h1, h2⟩ := E.RF_in hf a
    obtain ⟨h3, h4⟩ := E.RF_in hf b
    refine ⟨?_, ?_⟩
    · show _ ≤ a.den + b.den; simp only [E.RF]; omega
    · show a.den + b.den ≤ _; simp only [E.RF]; omega
  | .mi a b => by
    obtain ⟨h1, h2⟩ := E.RF_in hf a
    obtain ⟨h3, h4⟩ := E.RF_in hf b
    refine ⟨?_, ?_⟩
    · show _ ≤ a.den - b.den; simp only [E.RF]; omega
    · show a.den - b.den ≤ _; simp only [E.RF]; omega
  | .num n => ⟨Int.le_refl _, Int.le_refl _⟩
  | .nm i lo hi => cutR_in hf (E.rng _)
  | .ap _ _ _ _ => cutR_in hf (E.rng _)
  | .nl => cutR_in hf (E.rng _)
  | .cn _ _ => cutR_in hf (E.rng _)
  | .sel _ _ => cutR_in hf (E.rng _)
  | .ls _ _ _ _ _ => cutR_in hf (E.rng _)
  | .ln _ => cutR_in hf (E.rng _)
  | .sb _ _ _ => cutR_in hf (E.rng _)
  | .st _ _ _ _ _ => cutR_in hf (E.rng _)
  | .dq _ _ => cutR_in hf (E.rng _)
  | .cc _ _ => cutR_in hf (E.rng _)
theorem tRF_in {fs : List Fk} (hf : Holds fs) : ∀ l : Tm, (tRF fs l).1 ≤ tden l ∧ tden l ≤ (tRF fs l).2
  | [] => ⟨Int.le_refl _, Int.le_refl _⟩
  | (c, e) :: r => by
    have h := tRF_in hf r
    have re := E.RF_in hf e
    simp only [tRF, tden]
    split
    · rename_i hc
      have h1 := Int.mul_le_mul_of_nonneg_left re.1 hc
      have h2 := Int.mul_le_mul_of_nonneg_left re.2 hc
      exact ⟨by simp only; omega, by simp only; omega⟩
    · have h1 := Int.mul_le_mul_of_nonpos_left (a := c) (by omega) re.1
      have h2 := Int.mul_le_mul_of_nonpos_left (a := c) (by omega) re.2
      exact ⟨by simp only; omega, by simp only; omega⟩
theorem Lin.RF_in {fs : List Fk} (hf : Holds fs) (l : Lin) : (l.RF fs).1 ≤ l.den ∧ l.den ≤ (l.RF fs).2 := by
  have := tRF_in hf l.t
  exact ⟨by show l.k + _ ≤ l.k + _; omega, by show l.k + _ ≤ l.k + _; omega⟩
theorem inhT_ok {fs : List Fk} (hf : Holds fs) : ∀ t : Tm, Holds (inhT fs t)
  | [] => fun f h => by cases h
  | (c, e) :: t => by
    have ih := inhT_ok hf t
    have skip : inhT fs ((c, e) :: t) = inhT fs t ∨ (∃ f n r lo hi, e = .ap f (.cn n r) lo hi) ∨ ∃ k a b, e = .op .rem k a b := by
      cases e with
      | ap f a lo hi =>
        cases a with
        | cn n r => exact .inr (.inl ⟨_, _, _, _, _, rfl⟩)
        | _ => exact .inl rfl
      | op o k a b =>
        cases o with
        | rem => exact .inr (.inr ⟨_, _, _, rfl⟩)
        | _ => exact .inl rfl
      | _ => exact .inl rfl
    rcases skip with h | ⟨f, n, r, lo, hi, rfl⟩ | ⟨k, a, b, rfl⟩
    · rw [h]; exact ih
    rotate_left
    · simp only [inhT]
      split
      · rename_i h
        rw [Bool.and_eq_true, decide_eq_true_eq, decide_eq_true_eq] at h
        have ra := a.rng
        have rb := b.rng
        intro x hx
        rcases List.mem_cons.1 hx with rfl | hx
        · show 0 ≤ (Lin.add 1 ⟨-1, []⟩ (Lin.sub b.lin (atom (.op .rem k a b)))).den
          rw [Lin.add_den, Lin.sub_den, E.lin_den, atom_den]
          show 0 ≤ 1 * (-1 + 0) + (b.den - a.den.tmod b.den)
          have := Int.emod_lt_of_pos a.den (show 0 < b.den by omega)
          rw [Int.tmod_eq_emod_of_nonneg (by omega)]
          omega
        · exact ih x hx
      · exact ih
    · simp only [inhT]
      split
      · rename_i h
        rw [Bool.and_eq_true, decide_eq_true_eq, Bool.or_eq_true, decide_eq_true_eq] at h
        have hn : lo ≤ n.den := by
          rcases h.2 with h2 | h2
          · have := n.lin.R_in
            rw [E.lin_den] at this
            omega
          · cases hb : geBy (Lin.sub n.lin ⟨lo, []⟩) fs with
            | none => rw [hb] at h2; cases h2
            | some b =>
              rw [hb] at h2
              have h2 : b = true := h2
              have := geBy_ok hb hf
              rw [h2, Lin.sub_den, E.lin_den] at this
              have h3 := of_decide_eq_true this.symm
              have h4 : Lin.den ⟨lo, []⟩ = lo := by show lo + 0 = lo; omega
              rw [h4] at h3
              omega
        intro x hx
        rcases List.mem_cons.1 hx with rfl | hx
        · show 0 ≤ (Lin.sub n.lin (atom (.ap f (.cn n r) lo hi))).den
          rw [Lin.sub_den, E.lin_den, atom_den]
          have := clampA_head (l := (E.cn n r).D.2) (n := Env.app (f % HB) (E.cn n r).D.2) (hi := hi) h.1 (show lo ≤ ((E.cn n r).D.2).headD 0 from hn)
          have : E.den (.ap f (.cn n r) lo hi) ≤ n.den := this
          omega
        · exact ih x hx
      · exact ih
theorem tden_div {g : Int} : ∀ {t : Tm}, (t.all fun x => x.1 % g == 0) = true → tden t = g * tden (t.map fun x => (x.1 / g, x.2))
  | [], _ => by simp [tden]
  | (c, e) :: r, h => by
    simp only [List.all_cons, Bool.and_eq_true, beq_iff_eq] at h
    have ih := tden_div (t := r) h.2
    have hc : g * (c / g) = c := Int.mul_ediv_cancel' (Int.dvd_of_emod_eq_zero h.1)
    show c * e.den + tden r = g * (c / g * e.den + tden (r.map fun x => (x.1 / g, x.2)))
    rw [ih, Int.mul_add, ← Int.mul_assoc, hc]
theorem nrm_sign (d : Lin) : decide (0 ≤ d.nrm.den) = decide (0 ≤ d.den) := by
  unfold Lin.nrm
  split
  · rename_i c e r hd
    split
    · rename_i h
      rw [Bool.and_eq_true, decide_eq_true_eq] at h
      have hg : (0 : Int) < (c.natAbs : Int) := by omega
      generalize (c.natAbs : Int) = g at h hg
      have h1 := tden_div h.2
      have h2 : d.den = d.k + g * tden (d.t.map fun x => (x.1 / g, x.2)) := by show d.k + tden d.t = _; rw [h1]
      rw [h2]
      show decide (0 ≤ d.k / g + tden (d.t.map fun x => (x.1 / g, x.2))) = _
      generalize tden (d.t.map fun x => (x.1 / g, x.2)) = T
      refine decide_eq_decide.2 ⟨fun h => ?_, fun h => ?_⟩
      · have h3 : -T ≤ d.k / g := by omega
        have h4 := (Int.le_ediv_iff_mul_le hg).1 h3
        rw [Int.neg_mul, Int.mul_comm] at h4
        omega
      · have h4 : -T * g ≤ d.k := by rw [Int.neg_mul, Int.mul_comm]; omega
        have h3 := (Int.le_ediv_iff_mul_le hg).2 h4
        omega
    · rfl
  · rfl
theorem viaEq_ok {d : Lin} {all : List Fk} (hf : Holds all) : ∀ {fs : List Fk} {b : Bool}, viaEq d all fs = some b → Holds fs → b = decide (0 ≤ d.den)
  | [], b, h, _ => by cases h
  | f :: r, b, h, ha => by
    have h0 := ha f (List.mem_cons_self ..)
    have hr : Holds r := fun x hx => ha x (List.mem_cons_of_mem _ hx)
    cases f with
    | ge f => exact viaEq_ok hf (fs := r) h hr
    | ne f => exact viaEq_ok hf (fs := r) h hr
    | eq f =>
      have h0 : f.den = 0 := h0
      simp only [viaEq] at h
      split at h
      · exact viaEq_ok hf (fs := r) h hr
      · split at h
        · rename_i b' hb
          cases h
          have := geBy_ok hb hf
          rwa [nrm_sign, Lin.sub_den, h0, Int.sub_zero] at this
        · split at h
          · rename_i b' hb
            cases h
            have := geBy_ok hb hf
            rwa [nrm_sign, Lin.pls_den, h0, Int.add_zero] at this
          · exact viaEq_ok hf (fs := r) h hr
theorem ge1_ok {d : Lin} {fs : List Fk} {b : Bool} (h : ge1 d fs = some b) (hf : Holds fs) : b = decide (0 ≤ d.den) := by
  have r := d.R_in
  simp only [ge1, decide_eq_true_eq] at h
  split at h
  · cases h; exact (decide_eq_true (by omega)).symm
  · split at h
    · cases h; exact (decide_eq_false (by omega)).symm
    · exact geBy_ok h hf
theorem viaLen_ok {d : Lin} {all : List Fk} (hf : Holds all) : ∀ {fs : List Fk} {b : Bool}, viaLen d all fs = some b → Holds fs → b = decide (0 ≤ d.den)
  | [], b, h, _ => by cases h
  | f :: r, b, h, ha => by
    have h0 := ha f (List.mem_cons_self ..)
    have hr : Holds r := fun x hx => ha x (List.mem_cons_of_mem _ hx)
    cases f with
    | ge f => exact viaLen_ok hf (fs := r) h hr
    | ne f => exact viaLen_ok hf (fs := r) h hr
    | eq f =>
      have h0 : f.den = 0 := h0
      simp only [viaLen] at h
      split at h
      · rename_i b' hb
        cases h
        have := ge1_ok hb hf
        rwa [Lin.sub_den, h0, Int.sub_zero] at this
      · split at h
        · rename_i b' hb
          cases h
          have := ge1_ok hb hf
          rwa [Lin.pls_den, h0, Int.add_zero] at this
        · exact viaLen_ok hf (fs := r) h hr
theorem isT_ge {d : Lin} {fs : List Fk} (h : isT (geBy d fs) = true) (hf : Holds fs) : 0 ≤ d.den := by
  cases hb : geBy d fs with
  | none => rw [hb] at h; cases h
  | some b =>
    rw [hb] at h
    have h : b = true := h
    have := geBy_ok hb hf
    rw [h] at this
    exact of_decide_eq_true this.symm
theorem isT_of {o : Option Bool} {d : Lin} (h : isT o = true) (ho : ∀ b, o = some b → b = decide (0 ≤ d.den)) : 0 ≤ d.den := by
  cases hb : o with
  | none => rw [hb] at h; cases h
  | some b =>
    rw [hb] at h
    have h : b = true := h
    have := ho b hb
    rw [h] at this
    exact of_decide_eq_true this.symm
theorem kn0_ok {d : Lin} {fs : List Fk} (h : kn0 fs d = true) (hf : Holds fs) : 0 ≤ d.den := by
  have r := d.R_in
  unfold kn0 at h
  rw [Bool.or_eq_true, Bool.or_eq_true, Bool.or_eq_true, decide_eq_true_eq] at h
  rcases h with h | h | h | h
  · omega
  · exact isT_ge h hf
  · exact isT_ge h (inhT_ok hf _)
  · exact isT_of h fun b hb => viaEq_ok hf hb hf
theorem lenK_ok {kn : Lin → Bool} (hk : ∀ d, kn d = true → 0 ≤ d.den) : ∀ t : Tm, Holds (lenK kn t)
  | [] => fun f h => by cases h
  | (c, e) :: t => by
    have ih := lenK_ok hk t
    have skip : lenK kn ((c, e) :: t) = lenK kn t ∨ ∃ l o m, e = .ln (.sb l o m) := by
      cases e with
      | ln a =>
        cases a with
        | sb l o m => exact .inr ⟨_, _, _, rfl⟩
        | _ => exact .inl rfl
      | _ => exact .inl rfl
    rcases skip with h | ⟨l, o, m, rfl⟩
    · rw [h]; exact ih
    · simp only [lenK]
      split
      · rename_i h
        rw [Bool.and_eq_true, Bool.and_eq_true] at h
        have h1 := hk _ h.1
        have h2 := hk _ h.2.1
        have h3 := hk _ h.2.2
        rw [Lin.sub_den, Lin.sub_den, lnL_den, E.lin_den, E.lin_den] at h3
        rw [E.lin_den] at h1 h2
        have h3 : 0 ≤ ((l.dens.length : Nat) : Int) - o.den - m.den := h3
        intro x hx
        rcases List.mem_cons.1 hx with rfl | hx
        · show (Lin.sub (atom (.ln (.sb l o m))) m.lin).den = 0
          rw [Lin.sub_den, atom_den, E.lin_den]
          show ((((l.dens.drop o.den.toNat).take m.den.toNat).length : Nat) : Int) - m.den = 0
          rw [List.length_take, List.length_drop]
          omega
        · exact ih x hx
      · exact ih
theorem kn1_ok {d : Lin} {fs : List Fk} (h : kn1 fs d = true) (hf : Holds fs) : 0 ≤ d.den := by
  unfold kn1 at h
  rw [Bool.or_eq_true] at h
  rcases h with h | h
  · exact kn0_ok h hf
  · exact isT_of h fun b hb => viaLen_ok hf hb (lenK_ok (fun d hd => kn0_ok hd hf) _)
theorem lenT_ok {fs : List Fk} (hf : Holds fs) (t : Tm) : Holds (lenT fs t) := lenK_ok (fun _ hd => kn1_ok hd hf) t
theorem decGe_ok {fs : List Fk} {d : Lin} {b : Bool} (h : decGe fs d = some b) (hf : Holds fs) : b = decide (0 ≤ d.den) := by
  have r := d.R_in
  simp only [decGe, decide_eq_true_eq] at h
  split at h
  · cases h; exact (decide_eq_true (by omega)).symm
  · split at h
    · cases h; exact (decide_eq_false (by omega)).symm
    · split at h
      · rename_i b hb
        cases h; exact geBy_ok hb hf
      · split at h
        · rename_i b hb
          cases h; exact geBy_ok hb (inhT_ok hf _)
        have rf := Lin.RF_in hf d
        split at h
        · cases h
        · split at h
          · cases h; exact (decide_eq_true (by omega)).symm
          · split at h
            · cases h; exact (decide_eq_false (by omega)).symm
            · split at h
              · rename_i b hb
                cases h; exact viaEq_ok hf hb hf
              · exact viaLen_ok hf h (lenT_ok hf _)
theorem eqBy_ok {d : Lin} : ∀ {fs : List Fk} {b : Bool}, eqBy d fs = some b → Holds fs → b = (d.den == 0)
  | [], b, h, _ => by cases h
  | f :: r, b, h, hf => by
    have hr : Holds r := fun x hx => hf x (List.mem_cons_of_mem _ hx)
    have h0 := hf f (List.mem_cons_self ..)
    have ffalse : d.den ≠ 0 → false = (d.den == 0) := fun h => (beq_eq_false_iff_ne.2 h).symm
    cases f with
    | ge f =>
      have h0 : 0 ≤ f.den := h0
      have r1 := (d.sub f).R_in
      have r2 := (d.pls f).R_in
      rw [Lin.sub_den] at r1
      rw [Lin.pls_den] at r2
      simp only [eqBy, Bool.or_eq_true, decide_eq_true_eq] at h
      split at h
      · cases h; exact ffalse (by omega)
      · exact eqBy_ok (fs := r) h hr
    | eq f =>
      have h0 : f.den = 0 := h0
      simp only [eqBy] at h
      split at h
      · rename_i g; cases h
        have := isK_den g
        rw [Lin.sub_den] at this
        rw [show d.den = (d.sub f).k by omega]
      · split at h
        · rename_i g; cases h
          have := isK_den g
          rw [Lin.pls_den] at this
          rw [show d.den = (d.pls f).k by omega]
        · exact eqBy_ok (fs := r) h hr
    | ne f =>
      have h0 : f.den ≠ 0 := h0
      simp only [eqBy, Bool.or_eq_true, Bool.and_eq_true, beq_iff_eq] at h
      split at h
      · rename_i g; cases h
        refine ffalse ?_
        rcases g with ⟨g1, g2⟩ | ⟨g1, g2⟩
        · have := isK_den g1
          rw [Lin.sub_den] at this
          omega
        · have := isK_den g1
          rw [Lin.pls_den] at this
          omega
      · exact eqBy_ok (fs := r) h hr
theorem oddK_ok {d : Lin} (h : oddK d = true) : d.den ≠ 0 := by
  unfold oddK at h
  split at h
  · cases h
  · rename_i c e r ht
    rw [Bool.and_eq_true] at h
    have h1 : c ∣ tden r := tdiv_den h.1
    have h2 : ¬ d.k % c = 0 := by simpa using h.2
    intro h0
    apply h2
    have hd : d.den = d.k + (c * e.den + tden r) := by rw [Lin.den, ht]; rfl
    have h3 : c ∣ c * e.den + tden r := Int.dvd_add (Int.dvd_mul_right _ _) h1
    have h4 : d.k = -(c * e.den + tden r) := by omega
    rw [h4]
    exact Int.emod_eq_zero_of_dvd (Int.dvd_neg.2 h3)
theorem decEq0_ok {fs : List Fk} {d : Lin} {b : Bool} (h : decEq0 fs d = some b) (hf : Holds fs) : b = (d.den == 0) := by
  have r := d.R_in
  simp only [decEq0, Bool.or_eq_true, decide_eq_true_eq] at h
  split at h
  · rename_i g
    cases h
    exact (beq_eq_false_iff_ne.2 (oddK_ok g)).symm
  split at h
  · rename_i g; cases h; rw [isK_den g]
  · split at h
    · cases h; exact (beq_eq_false_iff_ne.2 (by omega)).symm
    · split at h
      · rename_i b hb
        cases h; exact eqBy_ok hb hf
      · have hn : (Lin.add (-1) d ⟨0, []⟩).den = -d.den := by
          rw [Lin.add_den]
          show -1 * d.den + (0 + 0) = _
          omega
        split at h
        · rename_i h1 h2
          cases h
          have h1 := of_decide_eq_true (decGe_ok h1 hf).symm
          have h2 := of_decide_eq_true (decGe_ok h2 hf).symm
          rw [hn] at h2
          exact (beq_iff_eq.2 (by omega)).symm
        · rename_i h1
          cases h
          have h1 := of_decide_eq_false (decGe_ok h1 hf).symm
          exact (beq_eq_false_iff_ne.2 (by omega)).symm
        · rename_i h1 _
          cases h
          have h1 := of_decide_eq_false (decGe_ok h1 hf).symm
          rw [hn] at h1
          exact (beq_eq_false_iff_ne.2 (by omega)).symm
        · cases h
theorem eqP_ok {fs : List Fk} {r s : E} (h : eqP fs r s = true) (hf : Holds fs) : r.den = s.den := by
  unfold eqP at h
  cases hd : decEq0 fs (Lin.sub r.lin s.lin) with
  | none => rw [hd] at h; cases h
  | some b =>
    rw [hd] at h
    have h : b = true := h
    have := decEq0_ok hd hf
    rw [h, Lin.sub_den, E.lin_den, E.lin_den] at this
    have := beq_iff_eq.1 this.symm
    omega
theorem likeE_ok {fs : List Fk} (hf : Holds fs) : ∀ {a b : E}, likeE fs a b = true → a.D = b.D
  | .sel r l, b, h => by
    cases b <;> first | (cases h; done) | skip
    rename_i s m
    simp only [likeE, Bool.and_eq_true, Bool.or_eq_true] at h
    have e1 : l.D = m.D := by rcases h.1 with h1 | h1; exact congrArg _ (E.beq_eq h1); exact likeE_ok hf h1
    have e2 : r.D.1 = s.D.1 := eqP_ok h.2 hf
    simp only [E.D, e1, e2]
  | .sb l o n, b, h => by
    cases b <;> first | (cases h; done) | skip
    rename_i m p q
    simp only [likeE, Bool.and_eq_true, Bool.or_eq_true] at h
    have e1 : l.D = m.D := by rcases h.1 with h1 | h1; exact congrArg _ (E.beq_eq h1); exact likeE_ok hf h1
    have e2 : o.D.1 = p.D.1 := eqP_ok h.2.1 hf
    have e3 : n.D.1 = q.D.1 := eqP_ok h.2.2 hf
    simp only [E.D, e1, e2, e3]
  | .cn a b, y, h => by
    cases y <;> first | (cases h; done) | skip
    rename_i c d
    simp only [likeE, Bool.and_eq_true, Bool.or_eq_true] at h
    have e1 : a.D.1 = c.D.1 := by
      rcases h.1 with h1 | h1 | h1
      · rw [E.beq_eq h1]
      · rw [likeE_ok hf h1]
      · exact eqP_ok h1 hf
    have e2 : b.D = d.D := by rcases h.2 with h1 | h1; exact congrArg _ (E.beq_eq h1); exact likeE_ok hf h1
    simp only [E.D, e1, e2]
  | .cc a b, y, h => by
    cases y <;> first | (cases h; done) | skip
    rename_i c d
    simp only [likeE, Bool.and_eq_true, Bool.or_eq_true] at h
    have e1 : a.D = c.D := by rcases h.1 with h1 | h1; exact congrArg _ (E.beq_eq h1); exact likeE_ok hf h1
    have e2 : b.D = d.D := by rcases h.2 with h1 | h1; exact congrArg _ (E.beq_eq h1); exact likeE_ok hf h1
    simp only [E.D, e1, e2]
  | .ap f a lo hi, y, h => by
    cases y <;> first | (cases h; done) | skip
    rename_i g b lo' hi'
    simp only [likeE, Bool.and_eq_true, Bool.or_eq_true, beq_iff_eq] at h
    obtain ⟨rfl, rfl, rfl, h⟩ := h
    have e1 : a.D = b.D := by rcases h with h1 | h1; exact congrArg _ (E.beq_eq h1); exact likeE_ok hf h1
    simp only [E.D, e1]
  | .ls f a lo hi n, y, h => by
    cases y <;> first | (cases h; done) | skip
    rename_i g b lo' hi' n'
    simp only [likeE, Bool.and_eq_true, Bool.or_eq_true, beq_iff_eq] at h
    obtain ⟨rfl, rfl, rfl, rfl, h⟩ := h
    have e1 : a.D = b.D := by rcases h with h1 | h1; exact congrArg _ (E.beq_eq h1); exact likeE_ok hf h1
    simp only [E.D, e1]
  | .ln a, y, h => by
    cases y <;> first | (cases h; done) | skip
    rename_i b
    simp only [likeE, Bool.or_eq_true] at h
    have e1 : a.D = b.D := by rcases h with h1 | h1; exact congrArg _ (E.beq_eq h1); exact likeE_ok hf h1
    simp only [E.D, e1]
  | .nl, y, h => by cases y <;> first | rfl | (cases h; done)
  | .num _, y, h => by cases y <;> cases h
  | .nm _ _ _, y, h => by cases y <;> cases h
  | .op _ _ _ _, y, h => by cases y <;> cases h
  | .wr _ _, y, h => by cases y <;> cases h
  | .pl _ _, y, h => by cases y <;> cases h
  | .mi _ _, y, h => by cases y <;> cases h
  | .st _ _ _ _ _, y, h => by cases y <;> cases h
  | .dq _ _, y, h => by cases y <;> cases h
theorem addS_den {fs : List Fk} (hf : Holds fs) (c : Int) (e : E) : ∀ t, tden (addS fs c e t) = c * e.den + tden t
  | [] => by simp [addS, tden]
  | (d, e') :: t => by
    have ih := addS_den hf c e t
    unfold addS
    split
    · rename_i h
      have e2 : e.den = e'.den := congrArg Prod.fst (likeE_ok hf h)
      split
      · rename_i h0
        have h0 : c + d = 0 := by simpa using h0
        have : d = -c := by omega
        subst this
        simp only [tden, e2, Int.neg_mul]; omega
      · simp only [tden, e2, Int.add_mul]; omega
    · simp only [tden]; omega
theorem mrgS_den {fs : List Fk} (hf : Holds fs) : ∀ t, tden (mrgS fs t) = tden t
  | [] => rfl
  | (c, e) :: t => by
    unfold mrgS; rw [addS_den hf, mrgS_den hf t]; rfl
theorem eqLike_ok {d : Lin} {all : List Fk} (hf : Holds all) : ∀ {fs : List Fk} {b : Bool}, eqLike d all fs = some b → Holds fs → b = (d.den == 0)
  | [], b, h, _ => by cases h
  | f :: r, b, h, ha => by
    have h0 := ha f (List.mem_cons_self ..)
    have hr : Holds r := fun x hx => ha x (List.mem_cons_of_mem _ hx)
    have key : ∀ g : Lin, (mrgS all (d.sub g).t).isEmpty = true → d.den - g.den = (d.sub g).k := fun g hg => by
      have h1 := mrgS_den hf (d.sub g).t
      have h2 : mrgS all (d.sub g).t = [] := by simpa using hg
      rw [h2] at h1
      have h3 : (d.sub g).den = (d.sub g).k + tden (d.sub g).t := rfl
      rw [← h1, Lin.sub_den] at h3
      simp only [tden] at h3
      omega
    cases f with
    | ge f => exact eqLike_ok hf (fs := r) h hr
    | eq f =>
      have h0 : f.den = 0 := h0
      simp only [eqLike] at h
      split at h
      · rename_i g
        rw [Bool.and_eq_true] at g
        cases h
        have := key f g.2
        rw [show d.den = (d.sub f).k by omega]
      · exact eqLike_ok hf (fs := r) h hr
    | ne f =>
      have h0 : f.den ≠ 0 := h0
      simp only [eqLike] at h
      split at h
      · rename_i g
        rw [Bool.and_eq_true, Bool.and_eq_true, beq_iff_eq, beq_iff_eq] at g
        cases h
        have := key f g.2.2
        exact (beq_eq_false_iff_ne.2 (by omega)).symm
      · exact eqLike_ok hf (fs := r) h hr
theorem decEqL_ok {fs : List Fk} {d : Lin} {b : Bool} (h : decEqL fs d = some b) (hf : Holds fs) : b = (d.den == 0) := by
  unfold decEqL at h
  split at h
  · rename_i b' hb
    cases h
    exact decEq0_ok hb hf
  · split at h
    · rename_i b' hb
      cases h
      split at hb
      · have := decEq0_ok hb hf
        rw [this, Lin.den, mrgS_den hf]; rfl
      · cases hb
    · split at h
      · exact eqLike_ok hf h hf
      · cases h
end

/-! Ways. -/
def shrE (e : E) (n : Int) : E := .op .shr .u32 e (.num n)
/-- a number of 32 bits by its bytes -/
def byteL (e : E) : Lin := ⟨0, [(1, .wr .u8 e), (256, .wr .u8 (shrE e 8)), (65536, .wr .u8 (shrE e 16)), (16777216, shrE e 24)]⟩
/-- numbers whose lowest byte stands beside them are told by their bytes -/
def bytesL (l : Lin) : Tm → Lin → Lin
  | [], acc => acc
  | (c, e) :: r, acc => bytesL l r (if fitR .u32 e.R.1 && l.t.any (fun t => t.2.beq (.wr .u8 e)) then Lin.add c (Lin.sub (byteL e) (atom e)) acc else acc)
def E.isOr : E → Bool
  | .op .or _ _ _ => true
  | _ => false
def reT : Tm → Lin → Lin
  | [], acc => acc
  | (c, e) :: r, acc => reT r (if e.isOr then Lin.add c e.lin acc else ⟨acc.k, addT c e acc.t⟩)
/-- sums of bits as sums -/
def reL (l : Lin) : Lin := if l.t.any (fun x => x.2.isOr) then reT l.t ⟨l.k, []⟩ else l
def eqD (a b : E) : Lin := match reL (Lin.sub a.lin b.lin) with
  | d => bytesL d d.t d
/-- 0 or more just if a < b -/
def ltD (a b : E) : Lin := Lin.add 1 ⟨-1, []⟩ (Lin.sub b.lin a.lin)
def negD (d : Lin) : Lin := Lin.add (-1) d ⟨-1, []⟩
/-- what is told by a new fact is left out -/
def told : Fk → Fk → Bool
  | .eq d, .ne f => (f.sub d).isK
  | .ge d, .ge f => (f.sub d).isK && decide (0 ≤ (f.sub d).k)
  | .ge d, .ne f => (f.sub d).isK && decide (0 < (f.sub d).k) || (f.pls d).isK && decide ((f.pls d).k < 0)
  | _, _ => false
def addF (f : Fk) (fs : List Fk) : List Fk := f :: fs.filter fun g => !told f g
/-- d isn't 0: more, or less, if one of these is known not to be -/
def addNe (d : Lin) (fs : List Fk) : List Fk :=
  match decGe fs (Lin.add (-1) d ⟨0, []⟩) with
  | some true => addF (.ge (negD d)) fs
  | _ => match decGe fs d with
    | some true => addF (.ge (Lin.add 1 ⟨-1, []⟩ d)) fs
    | _ => .ne d :: fs
def condD (fs : List Fk) (o : Option Bool) (y n : List Fk) (k : List Fk → Bool → Bool) : Bool :=
  match o with
  | some v => k fs v
  | none => k y true && k n false
/-- goes on with what a condition is, both ways if that isn't known -/
def EB.ask : EB → List Fk → (List Fk → Bool → Bool) → Bool
  | .kb b, fs, k => k fs b
  | .eq a b, fs, k => condD fs (decEqL fs (eqD a b)) (addF (.eq (eqD a b)) fs) (addNe (eqD a b) fs) k
  | .lt a b, fs, k => condD fs (decGe fs (ltD a b)) (addF (.ge (ltD a b)) fs) (addF (.ge (negD (ltD a b))) fs) k
  | .nt a, fs, k => a.ask fs fun fs v => k fs !v
  | .an a b, fs, k => a.ask fs fun fs v => bif v then b.ask fs k else k fs false
  | .or a b, fs, k => a.ask fs fun fs v => bif v then k fs true else b.ask fs k
  | .iff a b, fs, k => a.ask fs fun fs v => b.ask fs fun fs w => k fs (v == w)
  | .lq a b, fs, k => if a.beq b || likeE fs a b then k fs true else k fs true && k fs false
def B.ask : B → List Fk → (List Fk → Bool → Bool) → Bool
  | .c b, fs, k => k fs b
  | .sem _, fs, k => k fs true && k fs false
  | .ex b, fs, k => b.ask fs k
/-- all ways that may be taken end well -/
def Out.good {α : Type} (leaf : List Fk → α → Bool) : Out α → List Fk → Bool
  | .fail _, _ => false
  | .ok a, fs => leaf fs a
  | .grd g o, fs => g.ask fs fun fs v => bif v then o.good leaf fs else false
  | .br b t e, fs => b.ask fs fun fs v => bif v then (t ()).good leaf fs else (e ()).good leaf fs

section
variable [Env]
theorem byteL_den {e : E} (h : fitR .u32 e.R.1 = true) : (byteL e).den = e.den := by
  have hr := fitR_has h e.rng
  obtain ⟨h1, h2⟩ := hr
  have h1 : 0 ≤ e.den := h1
  have h2 : e.den ≤ 4294967295 := h2
  have s8 : (shrE e 8).den = e.den / 256 := by
    show e.den.fdiv (2 ^ min (8 : Int).toNat 32) = _
    rw [Int.fdiv_eq_ediv_of_nonneg _ (by decide)]; rfl
  have s16 : (shrE e 16).den = e.den / 65536 := by
    show e.den.fdiv (2 ^ min (16 : Int).toNat 32) = _
    rw [Int.fdiv_eq_ediv_of_nonneg _ (by decide)]; rfl
  have s24 : (shrE e 24).den = e.den / 16777216 := by
    show e.den.fdiv (2 ^ min (24 : Int).toNat 32) = _
    rw [Int.fdiv_eq_ediv_of_nonneg _ (by decide)]; rfl
  have w8 : ∀ x : E, (E.wr .u8 x).den = x.den % 256 := fun x => by
    show IntKind.wrap .u8 x.den = _
    simp [IntKind.wrap, IntKind.signed, IntKind.bits]
  show 0 + (1 * (E.wr .u8 e).den + (256 * (E.wr .u8 (shrE e 8)).den + (65536 * (E.wr .u8 (shrE e 16)).den + (16777216 * (shrE e 24).den + 0)))) = _
  rw [w8, w8, w8, s8, s16, s24]
  omega
theorem bytesL_den {l : Lin} : ∀ (t : Tm) (acc : Lin), (bytesL l t acc).den = acc.den
  | [], acc => rfl
  | (c, e) :: r, acc => by
    rw [bytesL, bytesL_den r]
    split
    · rename_i h
      rw [Bool.and_eq_true] at h
      rw [Lin.add_den, Lin.sub_den, byteL_den h.1, atom_den]
      simp
    · rfl
theorem reT_den : ∀ (t : Tm) (acc : Lin), (reT t acc).den = tden t + acc.den
  | [], acc => by show acc.den = 0 + _; omega
  | (c, e) :: r, acc => by
    have h : (if e.isOr then Lin.add c e.lin acc else ⟨acc.k, addT c e acc.t⟩ : Lin).den = c * e.den + acc.den := by
      split
      · rw [Lin.add_den, E.lin_den]
      · show acc.k + tden (addT c e acc.t) = _ + (acc.k + tden acc.t)
        rw [addT_den]; omega
    show (reT r _).den = (c * e.den + tden r) + acc.den
    rw [reT_den r, h]; omega
theorem reL_den (l : Lin) : (reL l).den = l.den := by
  unfold reL
  split
  · rw [reT_den]
    show tden l.t + (l.k + 0) = l.k + tden l.t
    omega
  · rfl
theorem eqD_den (a b : E) : (eqD a b).den = a.den - b.den := by
  show (bytesL (reL (Lin.sub a.lin b.lin)) (reL (Lin.sub a.lin b.lin)).t (reL (Lin.sub a.lin b.lin))).den = _
  rw [bytesL_den, reL_den, Lin.sub_den, E.lin_den, E.lin_den]
theorem ltD_den (a b : E) : (ltD a b).den = b.den - a.den - 1 := by
  simp only [ltD, Lin.add_den, Lin.sub_den, E.lin_den]
  show 1 * (-1 + 0) + _ = _
  omega
theorem negD_den (d : Lin) : (negD d).den = -d.den - 1 := by
  simp only [negD, Lin.add_den]
  show -1 * _ + (-1 + 0) = _
  omega
theorem Holds.cons {f : Fk} {fs : List Fk} (h : f.holds) (hf : Holds fs) : Holds (f :: fs) := by
  intro x hx
  rcases List.mem_cons.1 hx with rfl | hx
  · exact h
  · exact hf x hx
theorem Holds.addF {f : Fk} {fs : List Fk} (h : f.holds) (hf : Holds fs) : Holds (addF f fs) := by
  refine Holds.cons h fun x hx => hf x ?_
  exact (List.mem_filter.1 hx).1
theorem Holds.addNe {d : Lin} {fs : List Fk} (h : d.den ≠ 0) (hf : Holds fs) : Holds (addNe d fs) := by
  unfold SX.addNe
  split
  · rename_i hd
    have := decGe_ok hd hf
    have h1 : 0 ≤ (Lin.add (-1) d ⟨0, []⟩).den := of_decide_eq_true this.symm
    rw [Lin.add_den] at h1
    have h2 : -1 * d.den + (0 + 0) ≥ 0 := h1
    exact hf.addF (show 0 ≤ (negD d).den by rw [negD_den]; omega)
  · split
    · rename_i hd
      have := decGe_ok hd hf
      have h1 : 0 ≤ d.den := of_decide_eq_true this.symm
      refine hf.addF (show 0 ≤ (Lin.add 1 ⟨-1, []⟩ d).den from ?_)
      rw [Lin.add_den]
      show 0 ≤ 1 * (-1 + 0) + d.den
      omega
    · exact hf.cons (f := .ne d) h
theorem EB.ask_ok : ∀ (b : EB) (fs : List Fk) (k : List Fk → Bool → Bool), b.ask fs k = true → Holds fs → ∃ fs', Holds fs' ∧ k fs' b.den = true
  | .kb b, fs, k, h, hf => ⟨fs, hf, h⟩
  | .eq a b, fs, k, h, hf => by
    have hd : (eqD a b).den = a.den - b.den := eqD_den a b
    simp only [EB.ask, condD] at h
    split at h
    · rename_i v hv
      have := decEqL_ok hv hf
      refine ⟨fs, hf, ?_⟩
      have e : EB.den (.eq a b) = v := by
        rw [this, Bool.eq_iff_iff]
        show (a.den == b.den) = true ↔ _
        rw [beq_iff_eq, beq_iff_eq, hd]
        omega
      rw [e]; exact h
    · rw [Bool.and_eq_true] at h
      cases hb : EB.den (.eq a b) with
      | true =>
        have hb : (a.den == b.den) = true := hb
        rw [beq_iff_eq] at hb
        exact ⟨_, hf.addF (f := .eq (eqD a b)) (by show (eqD a b).den = 0; omega), h.1⟩
      | false =>
        have hb : (a.den == b.den) = false := hb
        rw [beq_eq_false_iff_ne] at hb
        exact ⟨_, hf.addNe (show (eqD a b).den ≠ 0 by omega), h.2⟩
  | .lt a b, fs, k, h, hf => by
    have hd := ltD_den a b
    simp only [EB.ask, condD] at h
    split at h
    · rename_i v hv
      have := decGe_ok hv hf
      refine ⟨fs, hf, ?_⟩
      have e : EB.den (.lt a b) = v := by
        rw [this, Bool.eq_iff_iff]
        show decide (a.den < b.den) = true ↔ _
        rw [decide_eq_true_eq, decide_eq_true_eq, hd]
        omega
      rw [e]; exact h
    · rw [Bool.and_eq_true] at h
      cases hb : EB.den (.lt a b) with
      | true =>
        have hb : a.den < b.den := of_decide_eq_true hb
        exact ⟨_, hf.addF (f := .ge (ltD a b)) (by show 0 ≤ (ltD a b).den; omega), h.1⟩
      | false =>
        have hb : ¬ a.den < b.den := of_decide_eq_false hb
        exact ⟨_, hf.addF (f := .ge (negD (ltD a b))) (by show 0 ≤ (negD (ltD a b)).den; rw [negD_den]; omega), h.2⟩
  | .nt a, fs, k, h, hf => by
    obtain ⟨fs', h1, h2⟩ := EB.ask_ok a fs _ h hf
    exact ⟨fs', h1, h2⟩
  | .an a b, fs, k, h, hf => by
    obtain ⟨fs', h1, h2⟩ := EB.ask_ok a fs _ h hf
    cases ha : a.den with
    | true =>
      rw [ha] at h2
      obtain ⟨fs2, h3, h4⟩ := EB.ask_ok b fs' _ h2 h1
      refine ⟨fs2, h3, ?_⟩
      show k fs2 (a.den && b.den) = true
      rw [ha]; exact h4
    | false =>
      rw [ha] at h2
      refine ⟨fs', h1, ?_⟩
      show k fs' (a.den && b.den) = true
      rw [ha]; exact h2
  | .or a b, fs, k, h, hf => by
    obtain ⟨fs', h1, h2⟩ := EB.ask_ok a fs _ h hf
    cases ha : a.den with
    | true =>
      rw [ha] at h2
      refine ⟨fs', h1, ?_⟩
      show k fs' (a.den || b.den) = true
      rw [ha]; exact h2
    | false =>
      rw [ha] at h2
      obtain ⟨fs2, h3, h4⟩ := EB.ask_ok b fs' _ h2 h1
      refine ⟨fs2, h3, ?_⟩
      show k fs2 (a.den || b.den) = true
      rw [ha]; exact h4
  | .iff a b, fs, k, h, hf => by
    obtain ⟨fs', h1, h2⟩ := EB.ask_ok a fs _ h hf
    obtain ⟨fs2, h3, h4⟩ := EB.ask_ok b fs' _ h2 h1
    exact ⟨fs2, h3, h4⟩
  | .lq a b, fs, k, h, hf => by
    unfold EB.ask at h
    split at h
    · rename_i g
      rw [Bool.or_eq_true] at g
      have e : a.dens = b.dens := by
        rcases g with g | g
        · rw [E.beq_eq g]
        · exact congrArg Prod.snd (likeE_ok hf g)
      refine ⟨fs, hf, ?_⟩
      show k fs (a.dens == b.dens) = true
      rw [e, beq_self_eq_true]; exact h
    · rw [Bool.and_eq_true] at h
      refine ⟨fs, hf, ?_⟩
      show k fs (a.dens == b.dens) = true
      cases hb : (a.dens == b.dens) with
      | true => exact h.1
      | false => exact h.2
theorem B.ask_ok (b : B) (fs : List Fk) (k : List Fk → Bool → Bool) (h : b.ask fs k = true) (hf : Holds fs) : ∃ fs', Holds fs' ∧ k fs' b.den = true := by
  cases b with
  | c b => exact ⟨fs, hf, h⟩
  | sem b =>
    simp only [B.ask, Bool.and_eq_true] at h
    cases b with
    | true => exact ⟨fs, hf, h.1⟩
    | false => exact ⟨fs, hf, h.2⟩
  | ex b => exact EB.ask_ok b fs k h hf
theorem good_ok {α : Type} {leaf : List Fk → α → Bool} {Q : α → Prop} (hq : ∀ fs a, Holds fs → leaf fs a = true → Q a) : ∀ (o : Out α) (fs : List Fk), o.good leaf fs = true → Holds fs → ∃ a, o.run = some a ∧ Q a
  | .fail _, fs, h, _ => by cases h
  | .ok a, fs, h, hf => ⟨a, rfl, hq fs a hf h⟩
  | .grd g o, fs, h, hf => by
    obtain ⟨fs', h1, h2⟩ := B.ask_ok g fs _ h hf
    cases hg : g.den with
    | true =>
      rw [hg] at h2
      obtain ⟨a, h3, h4⟩ := good_ok hq o fs' h2 h1
      exact ⟨a, by simp only [Out.run, hg]; exact h3, h4⟩
    | false => rw [hg] at h2; cases h2
  | .br b t e, fs, h, hf => by
    obtain ⟨fs', h1, h2⟩ := B.ask_ok b fs _ h hf
    cases hb : b.den with
    | true =>
      rw [hb] at h2
      obtain ⟨a, h3, h4⟩ := good_ok hq (t ()) fs' h2 h1
      exact ⟨a, by simp only [Out.run, hb]; exact h3, h4⟩
    | false =>
      rw [hb] at h2
      obtain ⟨a, h3, h4⟩ := good_ok hq (e ()) fs' h2 h1
      exact ⟨a, by simp only [Out.run, hb]; exact h3, h4⟩
end

/-! All ways that end alike are one. -/
def cond1 {γ : Type} (fs : List Fk) (o : Option Bool) (y n : List Fk) (k : List Fk → Bool → Option γ) : Option γ :=
  match o with
  | some v => k fs v
  | none => match k y true with
    | some r => some r
    | none => k n false
def EB.ask1 {γ : Type} : EB → List Fk → (List Fk → Bool → Option γ) → Option γ
  | .kb b, fs, k => k fs b
  | .eq a b, fs, k => cond1 fs (decEqL fs (eqD a b)) (addF (.eq (eqD a b)) fs) (addNe (eqD a b) fs) k
  | .lt a b, fs, k => cond1 fs (decGe fs (ltD a b)) (addF (.ge (ltD a b)) fs) (addF (.ge (negD (ltD a b))) fs) k
  | .nt a, fs, k => a.ask1 fs fun fs v => k fs !v
  | .an a b, fs, k => a.ask1 fs fun fs v => bif v then b.ask1 fs k else k fs false
  | .or a b, fs, k => a.ask1 fs fun fs v => bif v then k fs true else b.ask1 fs k
  | .iff a b, fs, k => a.ask1 fs fun fs v => b.ask1 fs fun fs w => k fs (v == w)
  | .lq a b, fs, k => if a.beq b || likeE fs a b then k fs true else match k fs true with
    | some r => some r
    | none => k fs false
def B.ask1 {γ : Type} : B → List Fk → (List Fk → Bool → Option γ) → Option γ
  | .c b, fs, k => k fs b
  | .sem _, fs, k => match k fs true with
    | some r => some r
    | none => k fs false
  | .ex b, fs, k => b.ask1 fs k
/-- the first way that may be taken -/
def Out.first {α : Type} : Out α → List Fk → Option α
  | .fail _, _ => none
  | .ok a, _ => some a
  | .grd g o, fs => g.ask1 fs fun fs v => bif v then o.first fs else none
  | .br b t e, fs => b.ask1 fs fun fs v => bif v then (t ()).first fs else (e ()).first fs
section
variable [Env]
def Out.mrg {α : Type} (eq : α → α → Bool) (o : Out α) (fs : List Fk := []) : Out α :=
  match o with
  | .ok a => .ok a
  | o => match o.first fs with
    | some a => bif o.good (fun _ x => eq x a) fs then .ok a else o
    | none => o
theorem mrg_run {α : Type} {eq : α → α → Bool} (heq : ∀ x y, eq x y = true → x = y) (o : Out α) (fs : List Fk := []) (hf : Holds fs := by intro f h; cases h) : (o.mrg eq fs).run = o.run := by
  unfold Out.mrg
  split
  · rfl
  · split
    · rename_i a _
      cases hg : o.good (fun _ x => eq x a) fs with
      | false => rfl
      | true =>
        obtain ⟨b, h1, h2⟩ := good_ok (Q := fun x => x = a) (fun _ x _ h => heq x a h) o fs hg hf
        rw [h1, h2]; rfl
    · rfl
end
end Go.SX
