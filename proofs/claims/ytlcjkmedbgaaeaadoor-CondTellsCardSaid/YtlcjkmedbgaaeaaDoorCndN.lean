/- Conditions' names: what cond.Name gives of each number, as a contract. -/
import Derived.Test.YtlcjkmedbgaaeaaDoorCndA
namespace Go.SX.Cnd
open Go Go.SX Go.Proofs Go.Proofs.YtlcjkmedbgaaeaaDoor
set_option maxRecDepth 1000000
set_option linter.unusedSectionVars false
def namesL : List ByteArray := [⟨#[111]⟩, ⟨#[110, 111]⟩, ⟨#[98]⟩, ⟨#[97, 101]⟩, ⟨#[101]⟩, ⟨#[110, 101]⟩, ⟨#[98, 101]⟩, ⟨#[97]⟩, ⟨#[115]⟩, ⟨#[110, 115]⟩, ⟨#[112]⟩, ⟨#[110, 112]⟩, ⟨#[108]⟩, ⟨#[103, 101]⟩, ⟨#[108, 101]⟩, ⟨#[103]⟩]
def noName : ByteArray := ⟨#[]⟩
def nameS (i : Nat) : ByteArray := namesL.getD i noName
section
variable [Env]
def leafS (s : ByteArray) (_ : List Fk) (x : AV × St) : Bool :=
  match x.1 with
  | .one (.str b) => b.data.toList == s.data.toList
  | _ => false
abbrev cN : E := .nm 0 (-9223372036854775808) 9223372036854775807
abbrev tabR : St := [.row false 1 (.vals tab)]
theorem glob_str {call : FuncId → List AV → St → Out (AV × St)} (hc : CallSound Tryd.prog call) {g : FuncId} {x : X} {n : Int} {fs : List Fk} {s : ByteArray} (hf : Holds fs) (hx : x.den = n) (hk : IntKind.i64.has n)
    (h : (call g [.one (.int .i64 x)] tabR).good (leafS s) fs = true) {W : World}
    (htab : ∀ i c, tab[i]? = some c → ∃ v, W.cell? ⟨0, i, none⟩ = some v ∧ ∀ ρ n, SRel ρ n c v) (hsz : 0 < W.heap.size) :
    Calls Tryd.prog g #[.int .i64 n] W fun e W' => e = .returned (.string s) ∧ Calm W W' := by
  obtain ⟨⟨v, σ'⟩, h1, hb1⟩ := good_ok (Q := fun x : AV × St => x.1 = .one (.str s)) (fun fs a hf hl => by
    unfold leafS at hl
    split at hl
    · rename_i b e
      rw [e]
      have : b = s := by
        apply ByteArray.ext
        apply Array.toList_inj.1
        exact eq_of_beq hl
      rw [this]
    · cases hl) _ _ h hf
  simp only at hb1
  subst hb1
  obtain ⟨_, hden⟩ := hc _ _ _ _ _ h1
  let ρ : Nat → Loc := fun i => if i = 0 then ⟨true, 0, 0, 0⟩ else ⟨false, 0, 0, 0⟩
  have hno : ∀ i, ¬ owned ρ tabR i := fun i hi => by
    have h2 := hi.2
    cases i with
    | zero => cases h2
    | succ i => cases h2
  have hrel : Rel ρ tabR W := by
    refine ⟨fun i => ?_, fun i j _ ho => absurd ho (hno i), fun i hu => ?_⟩
    · cases i with
      | zero =>
        refine ⟨fun h => (by cases h), fun _ => ⟨fun i s hi => ?_, fun h => (by cases h)⟩⟩
        obtain ⟨v, h3, h4⟩ := htab i s hi
        refine ⟨v, ?_, h4 _ _⟩
        show W.cell? ⟨0, 0 + i, none⟩ = _
        rw [Nat.zero_add]; exact h3
      | succ i => exact True.intro
    · cases i with
      | zero => exact hsz
      | succ i => exact absurd hu.1 (by show ¬ (false = true); simp)
  have hgl : GlOk ρ 1 := fun g id hg => by
    have := gmapOf_mem hg
    rw [show gmapL = [(0, 0)] from rfl, List.mem_singleton] at this
    cases this
    exact ⟨by omega, rfl, rfl, rfl⟩
  refine (hden ρ W #[.int .i64 n] hrel hgl ⟨rfl, fun i a x' b c => ?_⟩).mono fun e w' he => ?_
  · cases i with
    | zero =>
      have hb : a = .one (.int .i64 x) := by simpa using b.symm
      have hc : x' = .int .i64 n := by simpa using c.symm
      subst hb; subst hc
      exact ⟨by rw [hx], by rw [hx]; exact hk⟩
    | succ i => simp at b
  obtain ⟨val, ρ', k1, k2, k3, k4⟩ := he
  have k2 : val = .string s := k2.1
  subst k2
  exact ⟨k1, k4.os, k4.tape, k4.output, k4.size, fun b hb => k4.keep b hb fun i hi => (hno i hi).elim⟩
end
end Go.SX.Cnd
