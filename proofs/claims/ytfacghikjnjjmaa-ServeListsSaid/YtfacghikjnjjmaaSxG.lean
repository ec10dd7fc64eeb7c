/- Which package variables' cells are which objects: none, but where a claim says so. -/
import Derived.Test.YtfacghikjnjjmaaSxM
namespace Go.SX
/-- a variable's number, its object's -/
def gmapL : List (Nat × Nat) := []
/-- the type of a strings.Builder, of a byte: where a claim says so -/
def bldL : Option (Go.TypeId × Go.TypeId) := none
/-- the bytes of a builder, as a memory: its mark at -1, their number at -2 -/
def bldM (l : List Int) : Int → Int := fun a => if a = -1 then 300 else if a = -2 then (l.length : Int) else l.getD a.toNat 0
def gmapOf : List (Nat × Nat) → Nat → Option Nat
  | [], _ => none
  | (a, b) :: r, g => bif Nat.beq a g then some b else gmapOf r g
theorem gmapOf_mem : ∀ {l : List (Nat × Nat)} {g id : Nat}, gmapOf l g = some id → (g, id) ∈ l
  | (a, b) :: r, g, id, h => by
    simp only [gmapOf] at h
    cases ha : Nat.beq a g with
    | true =>
      rw [ha] at h
      cases h
      rw [Nat.eq_of_beq_eq_true ha]
      exact List.mem_cons_self ..
    | false =>
      rw [ha] at h
      exact List.mem_cons_of_mem _ (gmapOf_mem h)
end Go.SX
