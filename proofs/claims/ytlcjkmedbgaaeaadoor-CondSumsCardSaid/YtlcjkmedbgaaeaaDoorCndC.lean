/- CondSums: true, whatever the numbers, where the table is as it is laid: ten cases of how two numbers stand to one another. -/
import Derived.Test.YtlcjkmedbgaaeaaDoorCndA
namespace Go.SX.Cnd
open Go Go.SX Go.Proofs Go.Proofs.YtlcjkmedbgaaeaaDoor
set_option maxRecDepth 1000000
set_option linter.unusedSectionVars false
@[reducible] def EvS (a b : Int) : Env := ⟨fun i => if i = 0 then a else b, fun _ _ => 0, fun _ _ => []⟩
abbrev nA : E := .nm 0 0 4294967295
abbrev nB : E := .nm 1 0 4294967295
abbrev eD : E := .op .sub .u32 nA nB
abbrev topE (e : E) : E := .op .shr .u32 e (.num 31)
abbrev eS : E := topE eD
abbrev eX : E := topE (.op .xor .u32 nA nB)
abbrev eY : E := topE (.op .xor .u32 nA eD)
abbrev sA : E := .wr .i32 nA
abbrev sB : E := .wr .i32 nB
/-- how two terms stand: 0 less, 1 alike, 2 more -/
def relF (k : Nat) (p q : E) : Fk := if k = 0 then .ge (ltD p q) else if k = 1 then .eq (eqD p q) else .ge (ltD q p)
def caseF (u s : Nat) (d x y : Int) : List Fk := [relF u nA nB, relF s sA sB, .eq (eqD eS (.num d)), .eq (eqD eX (.num x)), .eq (eqD eY (.num y))]
def cases5 : List (List Fk) := [caseF 0 0 1 0 0, caseF 0 0 1 0 1, caseF 1 1 0 0 0, caseF 1 1 0 0 1, caseF 2 2 0 0 0, caseF 2 2 0 0 1, caseF 2 0 0 1 1, caseF 2 0 1 1 0, caseF 0 2 0 1 0, caseF 0 2 1 1 1]
abbrev pts5 : List PT := [.inl u3, .inl u3]
abbrev rps5 : List Rp := [.n (.ex nA), .n (.ex nB)]
theorem sums5 [Env] : (cases5.all fun fs => (callE Tryd.prog env0 cfg0 12 5 (splitA pts5 (rpCells (flatT pts5) rps5 0)) [.row false 1 (.vals tab)]).good leafG fs) = true := by kernel_rfl
/-! Bits. -/
def top (a : Int) : Int := if a < 2147483648 then 0 else 1
theorem top_div {a : Int} (h : 0 ≤ a) (h2 : a < 4294967296) : a.fdiv 2147483648 = top a := by
  rw [Int.fdiv_eq_ediv_of_nonneg _ (by omega)]
  unfold top
  split <;> omega
theorem xor_top {a b : Int} (ha : 0 ≤ a) (ha2 : a < 4294967296) (hb : 0 ≤ b) (hb2 : b < 4294967296) : (semI .xor .u32 a b).fdiv 2147483648 = if top a = top b then 0 else 1 := by
  have e1 : (BitVec.ofInt 32 a).toNat = a.toNat := @ofInt_toNat (EvS 0 0) 32 a ha (by show a < 2 ^ 32; omega)
  have e2 : (BitVec.ofInt 32 b).toNat = b.toNat := @ofInt_toNat (EvS 0 0) 32 b hb (by show b < 2 ^ 32; omega)
  have hx : (BitVec.ofInt 32 a ^^^ BitVec.ofInt 32 b).toNat = a.toNat ^^^ b.toNat := by rw [BitVec.toNat_xor, e1, e2]
  have hlt : a.toNat ^^^ b.toNat < 2 ^ 32 := Nat.xor_lt_two_pow (by omega) (by omega)
  have hs : semI .xor .u32 a b = ((a.toNat ^^^ b.toNat : Nat) : Int) := by
    show IntKind.u32.wrap (BitVec.ofInt 32 a ^^^ BitVec.ofInt 32 b).toNat = _
    rw [hx]
    exact wrap_of_has ⟨by show (0 : Int) ≤ _; omega, by show _ ≤ (4294967295 : Int); omega⟩
  rw [hs, Int.fdiv_eq_ediv_of_nonneg _ (by omega)]
  have hd : (a.toNat ^^^ b.toNat) / 2147483648 = a.toNat / 2147483648 ^^^ b.toNat / 2147483648 := by
    have := Nat.shiftRight_xor_distrib (a := a.toNat) (b := b.toNat) (i := 31)
    rw [Nat.shiftRight_eq_div_pow, Nat.shiftRight_eq_div_pow, Nat.shiftRight_eq_div_pow] at this
    exact this
  have h1 : a.toNat / 2147483648 = (top a).toNat := by unfold top; split <;> omega
  have h2 : b.toNat / 2147483648 = (top b).toNat := by unfold top; split <;> omega
  have : (((a.toNat ^^^ b.toNat : Nat) : Int) / 2147483648) = (((a.toNat ^^^ b.toNat) / 2147483648 : Nat) : Int) := (Int.natCast_ediv (a.toNat ^^^ b.toNat) 2147483648).symm
  rw [this, hd, h1, h2]
  have t2 : ∀ c : Int, top c = 0 ∨ top c = 1 := fun c => by unfold top; split <;> simp
  rcases t2 a with h3 | h3 <;> rcases t2 b with h4 | h4 <;> rw [h3, h4] <;> decide
theorem wrap_i32 {a : Int} (h : 0 ≤ a) (h2 : a < 4294967296) : IntKind.i32.wrap a = if a < 2147483648 then a else a - 4294967296 := by
  simp only [IntKind.wrap, IntKind.signed, IntKind.bits, Bool.true_and, Nat.reduceSub, Int.reducePow]
  split <;> (rename_i h3; simp at h3; split <;> omega)
theorem wrap_sub {a b : Int} (h : 0 ≤ a) (h2 : a < 4294967296) (h3 : 0 ≤ b) (h4 : b < 4294967296) : IntKind.u32.wrap (a - b) = if a < b then a - b + 4294967296 else a - b := by
  simp only [IntKind.wrap, IntKind.signed, IntKind.bits, Bool.false_and, Bool.false_eq_true, if_false, Int.reducePow]
  split <;> omega
section
variable [Env]
theorem rel_lt {p q : E} (h : p.den < q.den) : (relF 0 p q).holds := by show 0 ≤ (ltD p q).den; rw [ltD_den]; omega
theorem rel_eq {p q : E} (h : p.den = q.den) : (relF 1 p q).holds := by show (eqD p q).den = 0; rw [eqD_den]; omega
theorem rel_gt {p q : E} (h : q.den < p.den) : (relF 2 p q).holds := by show 0 ≤ (ltD q p).den; rw [ltD_den]; omega
theorem eq_num {p : E} {n : Int} (h : p.den = n) : (Fk.eq (eqD p (.num n))).holds := by show (eqD p (.num n)).den = 0; rw [eqD_den]; show p.den - n = 0; omega
theorem case_ok {u s : Nat} {d x y : Int} (h1 : (relF u nA nB).holds) (h2 : (relF s sA sB).holds) (h3 : eS.den = d) (h4 : eX.den = x) (h5 : eY.den = y) : Holds (caseF u s d x y) := fun f hf => by
  simp only [caseF, List.mem_cons, List.not_mem_nil, or_false] at hf
  rcases hf with rfl | rfl | rfl | rfl | rfl
  · exact h1
  · exact h2
  · exact eq_num h3
  · exact eq_num h4
  · exact eq_num h5
end
theorem some_case {a b : Int} (ha : 0 ≤ a) (ha2 : a < 4294967296) (hb : 0 ≤ b) (hb2 : b < 4294967296) : ∃ fs ∈ cases5, @Holds (EvS a b) fs := by
  letI : Env := EvS a b
  have dA : nA.den = a := (show clampI 0 4294967295 a = a from clamp_eq ⟨ha, by omega⟩)
  have dB : nB.den = b := (show clampI 0 4294967295 b = b from clamp_eq ⟨hb, by omega⟩)
  have dSA : sA.den = if a < 2147483648 then a else a - 4294967296 := by show IntKind.i32.wrap nA.den = _; rw [dA, wrap_i32 ha ha2]
  have dSB : sB.den = if b < 2147483648 then b else b - 4294967296 := by show IntKind.i32.wrap nB.den = _; rw [dB, wrap_i32 hb hb2]
  have dD : eD.den = if a < b then a - b + 4294967296 else a - b := by show IntKind.u32.wrap (nA.den - nB.den) = _; rw [dA, dB, wrap_sub ha ha2 hb hb2]
  have hD : 0 ≤ eD.den ∧ eD.den < 4294967296 := by rw [dD]; split <;> omega
  have dS : eS.den = top eD.den := by show eD.den.fdiv (2 ^ min 31 32) = _; exact top_div hD.1 hD.2
  have dX : eX.den = if top a = top b then 0 else 1 := by show (semI .xor .u32 nA.den nB.den).fdiv (2 ^ min 31 32) = _; rw [dA, dB]; exact xor_top ha ha2 hb hb2
  have dY : eY.den = if top a = top eD.den then 0 else 1 := by show (semI .xor .u32 nA.den eD.den).fdiv (2 ^ min 31 32) = _; rw [dA]; exact xor_top ha ha2 hD.1 hD.2
  have rl : a < b → (relF 0 nA nB).holds := fun h => rel_lt (by rw [dA, dB]; exact h)
  have re : a = b → (relF 1 nA nB).holds := fun h => rel_eq (by rw [dA, dB]; exact h)
  have rg : b < a → (relF 2 nA nB).holds := fun h => rel_gt (by rw [dA, dB]; exact h)
  generalize hd : eD.den = d at dD dS dY
  unfold top at dS dX dY
  by_cases h1 : a < 2147483648 <;> by_cases h2 : b < 2147483648 <;> simp only [h1, h2, if_true, if_false] at dSA dSB dX dY
  · -- both below
    rcases Int.lt_trichotomy a b with h | h | h
    · have hs : (relF 0 sA sB).holds := rel_lt (by rw [dSA, dSB]; exact h)
      rw [if_pos h] at dD
      have h3 : ¬ d < 2147483648 := by omega
      simp only [h3, if_false] at dS dY
      exact ⟨caseF 0 0 1 0 1, by simp [cases5], case_ok (rl h) hs dS dX (by simpa using dY)⟩
    · have hs : (relF 1 sA sB).holds := rel_eq (by rw [dSA, dSB]; exact h)
      rw [if_neg (by omega)] at dD
      have h3 : d < 2147483648 := by omega
      simp only [h3, if_true] at dS dY
      exact ⟨caseF 1 1 0 0 0, by simp [cases5], case_ok (re h) hs dS dX (by simpa using dY)⟩
    · have hs : (relF 2 sA sB).holds := rel_gt (by rw [dSA, dSB]; exact h)
      rw [if_neg (by omega)] at dD
      have h3 : d < 2147483648 := by omega
      simp only [h3, if_true] at dS dY
      exact ⟨caseF 2 2 0 0 0, by simp [cases5], case_ok (rg h) hs dS dX (by simpa using dY)⟩
  · -- a below, b above
    have hs : (relF 2 sA sB).holds := rel_gt (by rw [dSA, dSB]; omega)
    by_cases h3 : d < 2147483648
    · simp only [h3, if_true] at dS dY
      exact ⟨caseF 0 2 0 1 0, by simp [cases5], case_ok (rl (by omega)) hs dS (by simpa using dX) (by simpa using dY)⟩
    · simp only [h3, if_false] at dS dY
      exact ⟨caseF 0 2 1 1 1, by simp [cases5], case_ok (rl (by omega)) hs dS (by simpa using dX) (by simpa using dY)⟩
  · have hs : (relF 0 sA sB).holds := rel_lt (by rw [dSA, dSB]; omega)
    by_cases h3 : d < 2147483648
    · simp only [h3, if_true] at dS dY
      exact ⟨caseF 2 0 0 1 1, by simp [cases5], case_ok (rg (by omega)) hs dS (by simpa using dX) (by simpa using dY)⟩
    · simp only [h3, if_false] at dS dY
      exact ⟨caseF 2 0 1 1 0, by simp [cases5], case_ok (rg (by omega)) hs dS (by simpa using dX) (by simpa using dY)⟩
  · rcases Int.lt_trichotomy a b with h | h | h
    · have hs : (relF 0 sA sB).holds := rel_lt (by rw [dSA, dSB]; omega)
      rw [if_pos h] at dD
      have h3 : ¬ d < 2147483648 := by omega
      simp only [h3, if_false] at dS dY
      exact ⟨caseF 0 0 1 0 0, by simp [cases5], case_ok (rl h) hs dS (by simpa using dX) (by simpa using dY)⟩
    · have hs : (relF 1 sA sB).holds := rel_eq (by rw [dSA, dSB]; omega)
      rw [if_neg (by omega)] at dD
      have h3 : d < 2147483648 := by omega
      simp only [h3, if_true] at dS dY
      exact ⟨caseF 1 1 0 0 1, by simp [cases5], case_ok (re h) hs dS (by simpa using dX) (by simpa using dY)⟩
    · have hs : (relF 2 sA sB).holds := rel_gt (by rw [dSA, dSB]; omega)
      rw [if_neg (by omega)] at dD
      have h3 : d < 2147483648 := by omega
      simp only [h3, if_true] at dS dY
      exact ⟨caseF 2 2 0 0 1, by simp [cases5], case_ok (rg h) hs dS (by simpa using dX) (by simpa using dY)⟩
theorem law5 {W : World} {args : Array Value} (hL : laidMetH Tryd.prog laid W) (cvs : List CV) (hv : ValsOk pts5 args.toList) (ha : AllV W (flatT pts5) cvs (flatV pts5 args.toList)) :
    Calls Tryd.prog 5 args W fun e W' => e = .returned (.bool true) ∧ Calm W W' := by
  have ht := of_laid hL
  obtain ⟨a, r, vr, rfl, hx, h⟩ := AllV.int (ts := [u3]) ha
  obtain ⟨b, r, vr, rfl, hy, h⟩ := AllV.int (ts := []) h
  obtain rfl := AllV.nil h
  have hx1 : 0 ≤ a := hx.1
  have hx2 : a ≤ 4294967295 := hx.2
  have hy1 : 0 ≤ b := hy.1
  have hy2 : b ≤ 4294967295 := hy.2
  obtain ⟨fs, hm, hf⟩ := some_case hx1 (by omega) hy1 (by omega)
  letI : Env := EvS a b
  refine law_glob (sound0 12) (rps := rps5) (fs := fs) rfl rfl rfl ?_ hf (List.all_eq_true.1 sums5 fs hm) hv ha (tab_cells ht) (heap_pos ht)
  show [CV.n (clampI 0 4294967295 a), .n (clampI 0 4294967295 b)] = _
  rw [clamp_eq ⟨hx1, hx2⟩, clamp_eq ⟨hy1, hy2⟩]
end Go.SX.Cnd
