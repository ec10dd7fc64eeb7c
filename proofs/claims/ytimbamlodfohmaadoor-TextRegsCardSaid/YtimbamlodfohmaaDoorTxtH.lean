/- Hexadecimal digits: what text.number, the document's Hex give of each number. -/
import Derived.Test.YtimbamlodfohmaaDoorTxtA
namespace Go.SX.Txt
open Go Go.SX Go.Proofs
set_option maxRecDepth 1000000
set_option linter.unusedSectionVars false
def L16 : List Int := [48, 49, 50, 51, 52, 53, 54, 55, 56, 57, 97, 98, 99, 100, 101, 102]
def hx (d : Int) : Int := L16.getD d.toNat 0
/-- digits as names -/
def dg : Nat → E
  | 0 => .nm 0 0 15
  | n + 1 => .pl (.op .mul .i64 (.nm (n + 1) 0 15) (.num (16 ^ (n + 1)))) (dg n)
def dgT : Nat → E
  | 0 => .nm 0 0 15
  | n + 1 => .pl (.op .mul .i64 (.nm (n + 1) 1 15) (.num (16 ^ (n + 1)))) (dg n)
def nmK (n k : Nat) : E := .nm k (if k = n ∧ 0 < n then 1 else 0) 15
/-- cells that are digits n, n - 1, .. of a table -/
def digits (n : Nat) : Nat → E → Bool
  | k, .cn (.sel i l) r =>
    (match l with
      | .cn (.num 48) _ => tabOk l
      | _ => false) && ((Lin.sub i.lin (nmK n k).lin).t.isEmpty && (Lin.sub i.lin (nmK n k).lin).k == 0) && (match k with
      | 0 => (match r with | .nl => true | _ => false)
      | k + 1 => digits n k r)
  | _, _ => false
where tabOk : E → Bool := fun l => (List.range 16).all fun d => match selE (.num (d : Int)) l with
  | .num m => m == hx (d : Int)
  | _ => false
/-- the digits' values -/
def digL (ds : Nat → Int) : Nat → List Int
  | 0 => [hx (ds 0)]
  | k + 1 => hx (ds (k + 1)) :: digL ds k
section
variable [Env]
theorem tabOk_den {l : E} (h : digits.tabOk l = true) {d : Int} (h0 : 0 ≤ d) (h1 : d ≤ 15) : l.D.2.getD d.toNat 0 = hx d := by
  unfold digits.tabOk at h
  have h2 := List.all_eq_true.1 h d.toNat (by rw [List.mem_range]; omega)
  have e : ((d.toNat : Nat) : Int) = d := by omega
  rw [e] at h2
  split at h2
  · rename_i m hm
    have h3 := selE_den l (.num d)
    rw [hm] at h3
    have h4 : m = hx d := eq_of_beq h2
    have h3 : m = l.D.2.getD d.toNat 0 := h3
    rw [← h3, h4]
  · cases h2
theorem digits_den {n : Nat} : ∀ {k : Nat} {e : E}, digits n k e = true → e.dens = digL (fun k => (nmK n k).den) k
  | k, e, h => by
    unfold digits at h
    split at h
    · rename_i i l r
      simp only [Bool.and_eq_true] at h
      obtain ⟨⟨h1, h2⟩, h3⟩ := h
      have hl : digits.tabOk l = true := by
        split at h1
        · exact h1
        · cases h1
      have hi : i.den = (nmK n k).den := by
        have q1 : (Lin.sub i.lin (nmK n k).lin).den = i.den - (nmK n k).den := by
          unfold Lin.sub
          rw [Lin.add_den, E.lin_den, E.lin_den]; omega
        have q2 : (Lin.sub i.lin (nmK n k).lin).den = 0 := by
          have ht : (Lin.sub i.lin (nmK n k).lin).t = [] := by simpa using h2.1
          have hk : (Lin.sub i.lin (nmK n k).lin).k = 0 := eq_of_beq h2.2
          rw [Lin.den, ht, hk]; rfl
        omega
      have hr : 0 ≤ (nmK n k).den ∧ (nmK n k).den ≤ 15 := by
        show 0 ≤ clampI (if k = n ∧ 0 < n then 1 else 0) 15 (Env.val k) ∧ clampI (if k = n ∧ 0 < n then 1 else 0) 15 (Env.val k) ≤ 15
        unfold clampI
        by_cases h : k = n ∧ 0 < n
        · rw [if_pos h]; split <;> omega
        · rw [if_neg h]; split <;> omega
      have hc : E.den (.sel i l) = hx (nmK n k).den := by
        show l.D.2.getD i.D.1.toNat 0 = _
        rw [show i.D.1 = (nmK n k).den from hi]
        exact tabOk_den hl hr.1 hr.2
      cases k with
      | zero =>
        have h3 : r = .nl := by
          cases r <;> first | rfl | cases h3
        subst h3
        show [E.den (.sel i l)] = _
        rw [hc]; rfl
      | succ k =>
        show E.den (.sel i l) :: r.dens = _
        rw [hc, digits_den h3]; rfl
    · cases h
def leafH (pre : List Int) (n : Nat) (_ : List Fk) (x : AV × St) : Bool :=
  match x.1 with
  | .one (.strt e) => match pre, e with
    | [], e => digits n n e
    | [a, b], .cn (.num c) (.cn (.num d) e) => a == c && (b == d && digits n n e)
    | _, _ => false
  | _ => false
noncomputable abbrev hexRun (g : FuncId) (pre : List Int) (n : Nat) : Bool := (callE Tryd.prog envB cfg0 30 g [.one (.int .u32 (.ex (dgT n)))] [tabR, dbtR]).good (leafH pre n) []
end
end Go.SX.Txt
