/- ImageBack: safe instructions: the other runs; what they are. -/
import Derived.Test.YtkbghbkfaloblaaImgS
namespace Go.SX.Img
open Go Go.SX Go.Proofs
set_option maxRecDepth 1000000
set_option linter.unusedSectionVars false
section
variable [Env]
theorem safe4 : safeRun ((qA 4).know true []) = true := by kernel_rfl
theorem safe5 : safeRun ((qA 5).know true []) = true := by kernel_rfl
theorem safe6 : safeRun ((qA 5).know false ((qA 4).know false ((qA 3).know false ((qA 2).know false ((qA 1).know false ((qA 0).know false [])))))) = true := by kernel_rfl
theorem safeAll : ∃ fs, Holds fs ∧ safeRun fs = true := by
  have h0 : Holds [] := fun f h => by cases h
  cases q0 : (qA 0).den with
  | true => exact ⟨_, know_ok q0 h0, safe0⟩
  | false => ?_
  cases q1 : (qA 1).den with
  | true => exact ⟨_, know_ok q1 h0, safe1⟩
  | false => ?_
  cases q2 : (qA 2).den with
  | true => exact ⟨_, know_ok q2 h0, safe2⟩
  | false => ?_
  cases q3 : (qA 3).den with
  | true => exact ⟨_, know_ok q3 h0, safe3⟩
  | false => ?_
  cases q4 : (qA 4).den with
  | true => exact ⟨_, know_ok q4 h0, safe4⟩
  | false => ?_
  cases q5 : (qA 5).den with
  | true => exact ⟨_, know_ok q5 h0, safe5⟩
  | false => exact ⟨_, know_ok q5 (know_ok q4 (know_ok q3 (know_ok q2 (know_ok q1 (know_ok q0 h0))))), safe6⟩
end
theorem hasSafe (cvs : List CV) (h : ∃ w vs, AllV w (flatT safeS.pts) cvs vs) : HasL Try.prog safeS cvs := by
  obtain ⟨w, vs, h⟩ := h
  letI : Env := E0 (namesOf cvs) (listsOf cvs)
  obtain ⟨fs, hf, hr⟩ := safeAll
  refine hasL_of_good (sound0 12) (s := safeS) (rpsOf (flatT safePts) 0 0) hf rfl ?_ (ok := shapeS) (fun l hl => ?_) hr
  · refine rpsOf_cvs rfl h (fun k hk => by rw [Nat.zero_add]; rfl) fun k hk => ?_
    have : listsOf cvs = [] := by
      obtain ⟨a, r, vr, rfl, _, h⟩ := AllV.int (ts := [u8, u8, u3]) h
      obtain ⟨b, r, vr, rfl, _, h⟩ := AllV.int (ts := [u8, u3]) h
      obtain ⟨c, r, vr, rfl, _, h⟩ := AllV.int (ts := [u3]) h
      obtain ⟨d, r, vr, rfl, _, h⟩ := AllV.int (ts := []) h
      obtain rfl := AllV.nil h
      rfl
    rw [this] at hk; simp at hk
  · unfold shapeS at hl
    rw [Bool.and_eq_true, decide_eq_true_eq, decide_eq_true_eq] at hl
    exact ⟨hl, True.intro⟩
theorem safe_sound (e : Env) (hL : ∀ l, e.lst 90 l = (ResL Try.prog safeS l).drop 1) (hA : ∀ i l, i < 1 → e.app (64 * 90 + i) l = (ResL Try.prog safeS l).getD i 0) : ∀ args σ v σ', @Out.run e _ (@xCon e 90 safeS args σ) = some (v, σ') → @Den e Try.prog 27 args σ v σ' :=
  @xCon_sound e Try.prog 90 safeS ⟨_, Try.func27, rfl⟩ rfl (by decide) hL hA hasSafe
end Go.SX.Img
