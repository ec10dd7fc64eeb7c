/- Numbers as text: text.number and the document's Hex, as contracts by one list. -/
import Derived.Test.YtimbamlodfohmaaDoorTxtH0
namespace Go.SX.Txt
open Go Go.SX Go.Proofs
set_option maxRecDepth 1000000
set_option linter.unusedSectionVars false
/-- how many digits there are, but one -/
def nd (v : Int) : Nat := if v < 16 then 0 else if v < 256 then 1 else if v < 4096 then 2 else if v < 65536 then 3 else if v < 1048576 then 4 else if v < 16777216 then 5 else if v < 268435456 then 6 else 7
def hexL (v : Int) : List Int := digL (fun k => v / 16 ^ k % 16) (nd v)
@[reducible] def EvH (v : Int) : Env := ⟨fun k => v / 16 ^ k % 16, fun _ _ => 0, fun _ _ => []⟩
theorem hx_range (d : Int) : 0 ≤ hx d ∧ hx d < 256 := by
  unfold hx
  rw [List.getD_eq_getElem?_getD]
  cases h : L16[d.toNat]? with
  | none => exact ⟨by decide, by decide⟩
  | some x =>
    have h1 : (L16.all fun x => decide (0 ≤ x) && decide (x < 256)) = true := by decide
    have := List.all_eq_true.1 h1 x (List.mem_of_getElem? h)
    rw [Bool.and_eq_true, decide_eq_true_eq, decide_eq_true_eq] at this
    exact this
theorem digL_range (ds : Nat → Int) : ∀ k, ∀ x ∈ digL ds k, 0 ≤ x ∧ x < 256
  | 0, x, h => by
    rw [digL, List.mem_singleton] at h
    subst h; exact hx_range _
  | k + 1, x, h => by
    rw [digL, List.mem_cons] at h
    rcases h with rfl | h
    · exact hx_range _
    · exact digL_range ds k x h
theorem digL_len (ds : Nat → Int) : ∀ k, (digL ds k).length = k + 1
  | 0 => rfl
  | k + 1 => by rw [digL, List.length_cons, digL_len ds k]
theorem digL_congr {d e : Nat → Int} : ∀ k, (∀ i, i ≤ k → d i = e i) → digL d k = digL e k
  | 0, h => by rw [digL, digL, h 0 (Nat.le_refl _)]
  | k + 1, h => by rw [digL, digL, h (k + 1) (Nat.le_refl _), digL_congr k fun i hi => h i (by omega)]
theorem nd_cases {v : Int} (h0 : 0 ≤ v) (h1 : v ≤ 4294967295) : (nd v = 0 ∧ v < 16) ∨ (nd v = 1 ∧ 16 ≤ v ∧ v < 256) ∨ (nd v = 2 ∧ 256 ≤ v ∧ v < 4096) ∨ (nd v = 3 ∧ 4096 ≤ v ∧ v < 65536) ∨ (nd v = 4 ∧ 65536 ≤ v ∧ v < 1048576) ∨
    (nd v = 5 ∧ 1048576 ≤ v ∧ v < 16777216) ∨ (nd v = 6 ∧ 16777216 ≤ v ∧ v < 268435456) ∨ (nd v = 7 ∧ 268435456 ≤ v ∧ v < 4294967296) := by
  unfold nd
  (repeat' split) <;> omega
theorem nd_spec {v : Int} (h0 : 0 ≤ v) (h1 : v ≤ 4294967295) : v < 16 ^ (nd v + 1) ∧ (0 < nd v → (16 : Int) ^ nd v ≤ v) := by
  rcases nd_cases h0 h1 with ⟨e, h⟩ | ⟨e, h⟩ | ⟨e, h⟩ | ⟨e, h⟩ | ⟨e, h⟩ | ⟨e, h⟩ | ⟨e, h⟩ | ⟨e, h⟩ <;> rw [e] <;> refine ⟨?_, fun hp => ?_⟩
  · exact h
  · omega
  · exact h.2
  · exact h.1
  · exact h.2
  · exact h.1
  · exact h.2
  · exact h.1
  · exact h.2
  · exact h.1
  · exact h.2
  · exact h.1
  · exact h.2
  · exact h.1
  · exact h.2
  · exact h.1
theorem nd_le (v : Int) : nd v ≤ 7 := by
  unfold nd
  (repeat' split) <;> omega
theorem hexL_len (v : Int) : (hexL v).length ≤ 8 := by unfold hexL; rw [digL_len]; have := nd_le v; omega
theorem hexL_range (v : Int) : ∀ x ∈ hexL v, 0 ≤ x ∧ x < 256 := digL_range _ _
theorem top_ge {v : Int} {n : Nat} (hv : v < 16 ^ (n + 1)) (hl : (16 : Int) ^ n ≤ v) : 1 ≤ v / 16 ^ n ∧ v / 16 ^ n < 16 := by
  have hp : (0 : Int) < 16 ^ n := Int.pow_pos (by omega)
  refine ⟨(Int.le_ediv_iff_mul_le hp).2 (by omega), Int.ediv_lt_of_lt_mul hp ?_⟩
  rw [Int.mul_comm, ← Int.pow_succ]; exact hv
/-- the names' digits come to the number -/
theorem nmK_den {v : Int} (h0 : 0 ≤ v) (h1 : v ≤ 4294967295) : ∀ i, i ≤ nd v → @E.den (EvH v) (nmK (nd v) i) = v / 16 ^ i % 16 := by
  intro i hi
  obtain ⟨s1, s2⟩ := nd_spec h0 h1
  show clampI (if i = nd v ∧ 0 < nd v then 1 else 0) 15 (v / 16 ^ i % 16) = _
  refine clamp_eq ⟨?_, by omega⟩
  by_cases h : i = nd v ∧ 0 < nd v
  · rw [if_pos h]
    obtain ⟨rfl, h⟩ := h
    have := top_ge s1 (s2 h)
    rw [Int.emod_eq_of_lt (by omega) this.2]
    exact this.1
  · rw [if_neg h]; omega
theorem emod_mul16 (v a : Int) (ha : 0 < a) : v % (a * 16) = a * (v / a % 16) + v % a := by
  have h1 := Int.mul_ediv_add_emod v a
  have h2 := Int.mul_ediv_add_emod (v / a) 16
  have h3 := Int.emod_nonneg v (show a ≠ 0 by omega)
  have h4 := Int.emod_lt_of_pos v ha
  have h6 : a * (v / a) = a * 16 * (v / a / 16) + a * (v / a % 16) := by
    have : a * (v / a) = a * (16 * (v / a / 16) + v / a % 16) := by rw [h2]
    rw [this, Int.mul_add, Int.mul_assoc]
  have h5 : v = a * 16 * (v / a / 16) + (a * (v / a % 16) + v % a) := by omega
  have h7 : 0 ≤ a * (v / a % 16) := Int.mul_nonneg (by omega) (by omega)
  have h8 : a * (v / a % 16) ≤ a * 15 := Int.mul_le_mul_of_nonneg_left (by omega) (by omega)
  have h9 : (a * 16 * (v / a / 16) + (a * (v / a % 16) + v % a)) % (a * 16) = a * (v / a % 16) + v % a := by
    rw [Int.mul_add_emod_self_left]
    exact Int.emod_eq_of_lt (by omega) (by omega)
  rw [← h5] at h9
  exact h9
theorem mul_w (x c : Int) (hx : 0 ≤ x ∧ x ≤ 15) (hc : 0 ≤ c ∧ c ≤ 268435456) : semI .mul .i64 x c = x * c := by
  have h1 : 0 ≤ x * c := Int.mul_nonneg hx.1 hc.1
  have h2 : x * c ≤ 15 * 268435456 := Int.mul_le_mul hx.2 hc.2 hc.1 (by omega)
  exact wrap_of_has ⟨by show (-9223372036854775808 : Int) ≤ _; omega, by show _ ≤ (9223372036854775807 : Int); omega⟩
theorem clampD (lo v : Int) (k : Nat) (h : lo ≤ v / 16 ^ k % 16) : clampI lo 15 (v / 16 ^ k % 16) = v / 16 ^ k % 16 := clamp_eq ⟨h, by omega⟩
theorem dg_den {v : Int} : ∀ k : Nat, k ≤ 7 → @E.den (EvH v) (dg k) = v % 16 ^ (k + 1)
  | 0, _ => by
    show clampI 0 15 (v / 16 ^ 0 % 16) = _
    rw [clampD 0 v 0 (by omega)]
    show v / 1 % 16 = v % 16
    rw [Int.ediv_one]
  | k + 1, hk => by
    show semI .mul .i64 (clampI 0 15 (v / 16 ^ (k + 1) % 16)) (16 ^ (k + 1)) + @E.den (EvH v) (dg k) = _
    rw [clampD 0 v (k + 1) (by omega), dg_den k (by omega), mul_w _ _ ⟨by omega, by omega⟩ ?_]
    · have h1 : v % 16 ^ (k + 1 + 1) = v % (16 ^ (k + 1) * 16) := by rw [Int.pow_succ]
      rw [h1, emod_mul16 _ _ (Int.pow_pos (by omega)), Int.mul_comm]
    · match k, hk with
      | 0, _ => decide
      | 1, _ => decide
      | 2, _ => decide
      | 3, _ => decide
      | 4, _ => decide
      | 5, _ => decide
      | 6, _ => decide
      | n + 7, h => omega
theorem dgT_den {v : Int} (h0 : 0 ≤ v) (h1 : v ≤ 4294967295) : @E.den (EvH v) (dgT (nd v)) = v := by
  have key : ∀ n : Nat, n ≤ 7 → v < 16 ^ (n + 1) → (0 < n → (16 : Int) ^ n ≤ v) → @E.den (EvH v) (dgT n) = v := by
    intro n hn hv hlo
    cases n with
    | zero =>
      show clampI 0 15 (v / 16 ^ 0 % 16) = _
      rw [clampD 0 v 0 (by omega)]
      show v / 1 % 16 = v
      have hv : v < 16 := hv
      omega
    | succ k =>
      have hl := hlo (by omega)
      have hp : (0 : Int) < 16 ^ (k + 1) := Int.pow_pos (by omega)
      have hq : v / 16 ^ (k + 1) < 16 := by
        refine Int.ediv_lt_of_lt_mul hp ?_
        rw [Int.mul_comm, ← Int.pow_succ]; exact hv
      have hq1 : 1 ≤ v / 16 ^ (k + 1) := (Int.le_ediv_iff_mul_le hp).2 (by omega)
      have hm : v / 16 ^ (k + 1) % 16 = v / 16 ^ (k + 1) := Int.emod_eq_of_lt (by omega) hq
      show semI .mul .i64 (clampI 1 15 (v / 16 ^ (k + 1) % 16)) (16 ^ (k + 1)) + @E.den (EvH v) (dg k) = _
      rw [clampD 1 v (k + 1) (by omega), dg_den k (by omega), hm, mul_w _ _ ⟨by omega, by omega⟩ ?_]
      · have := Int.mul_ediv_add_emod v (16 ^ (k + 1))
        rw [Int.mul_comm] at this
        omega
      · match k, hn with
        | 0, _ => decide
        | 1, _ => decide
        | 2, _ => decide
        | 3, _ => decide
        | 4, _ => decide
        | 5, _ => decide
        | 6, _ => decide
        | n + 7, h => omega
  exact key (nd v) (nd_le v) (nd_spec h0 h1).1 (nd_spec h0 h1).2
theorem runsNum [Env] (n : Nat) (h : n ≤ 7) : hexRun 16 [48, 120] n = true := by
  match n, h with
  | 0, _ => exact num0
  | 1, _ => exact num1
  | 2, _ => exact num2
  | 3, _ => exact num3
  | 4, _ => exact num4
  | 5, _ => exact num5
  | 6, _ => exact num6
  | 7, _ => exact num7
  | n + 8, h => omega
theorem runsHex [Env] (n : Nat) (h : n ≤ 7) : hexRun 19 [] n = true := by
  match n, h with
  | 0, _ => exact hex0
  | 1, _ => exact hex1
  | 2, _ => exact hex2
  | 3, _ => exact hex3
  | 4, _ => exact hex4
  | 5, _ => exact hex5
  | 6, _ => exact hex6
  | 7, _ => exact hex7
  | n + 8, h => omega
end Go.SX.Txt
