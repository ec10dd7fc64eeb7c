/- CondTells: true, whatever the input, where the table is as it is laid. -/
import Derived.Test.YtlcjkmedbgaaeaaDoorCndQ0
import Derived.Test.YtlcjkmedbgaaeaaDoorCndQ1
import Derived.Test.YtlcjkmedbgaaeaaDoorCndQ2
import Derived.Test.YtlcjkmedbgaaeaaDoorCndQ3
import Derived.Test.YtlcjkmedbgaaeaaDoorCndQ4
import Derived.Test.YtlcjkmedbgaaeaaDoorCndQ5
import Derived.Test.YtlcjkmedbgaaeaaDoorCndT0
import Derived.Test.YtlcjkmedbgaaeaaDoorCndT1
import Derived.Test.YtlcjkmedbgaaeaaDoorCndT2
import Derived.Test.YtlcjkmedbgaaeaaDoorCndT3
import Derived.Test.YtlcjkmedbgaaeaaDoorCndT4
import Derived.Test.YtlcjkmedbgaaeaaDoorCndT5
import Derived.Test.YtlcjkmedbgaaeaaDoorCndB
namespace Go.SX.Cnd
open Go Go.SX Go.Proofs Go.Proofs.YtlcjkmedbgaaeaaDoor
set_option maxRecDepth 1000000
set_option linter.unusedSectionVars false
abbrev pts3 : List PT := [.inl i6, flagsT]
abbrev rps3 : List Rp := .n (.ex cE) :: flR 1
section
variable [Env]
theorem envOkT : EnvOk Tryd.prog envN cfgT := by
  refine ⟨names, fun g c h => ?_, fun g fn c σ _ _ _ => ?_⟩
  · unfold envN at h
    split at h
    · rename_i e; subst e; cases h
      exact nameCon_sound
    · cases h
  · unfold cfgT
    split
    · exact LoopsOk.none (fun _ => rfl) c
    · split
      · exact LoopsOk.none (fun _ => rfl) c
      · exact LoopsOk.none (fun _ => rfl) c
theorem soundT (d : Nat) : CallSound Tryd.prog (callE Tryd.prog envN cfgT d) := call_sound mixed envOkT d
theorem loops3 : loopsC ((Tryd.f3.body).getD .skip) = [(4, loopOf Tryd.prog 3 0)] := by kernel_rfl
theorem rounds3 (i : Nat) (hi : i < 18) : isOk (round3 ((i : Int) - 1)) (fr3 (((i + 1 : Nat) : Int) - 1), mem3) = true := by
  match i, hi with
  | 0, _ => exact round3_0
  | 1, _ => exact round3_1
  | 2, _ => exact round3_2
  | 3, _ => exact round3_3
  | 4, _ => exact round3_4
  | 5, _ => exact round3_5
  | 6, _ => exact round3_6
  | 7, _ => exact round3_7
  | 8, _ => exact round3_8
  | 9, _ => exact round3_9
  | 10, _ => exact round3_10
  | 11, _ => exact round3_11
  | 12, _ => exact round3_12
  | 13, _ => exact round3_13
  | 14, _ => exact round3_14
  | 15, _ => exact round3_15
  | 16, _ => exact round3_16
  | 17, _ => exact round3_17
  | n + 18, h => omega
theorem run3 (fs : List Fk) (h : (fnR Tryd.prog (callE Tryd.prog envN cfgT 11) (cfgT 3) 4 (rdsOf sts3) Tryd.f3 [.one (.int .i64 (.ex cE)), .agg flagsS] [.row false 1 (.vals tab)]).good leafG fs = true) :
    (callE Tryd.prog envN cfgT 12 3 (splitA pts3 (rpCells (flatT pts3) rps3 0)) [.row false 1 (.vals tab)]).good leafG fs = true := by
  have hb : ∃ c, Tryd.f3.body = some c := ⟨_, rfl⟩
  obtain ⟨c, hb⟩ := hb
  have hl : loopsC c = [(4, loopOf Tryd.prog 3 0)] := by rw [← loops3, hb]; rfl
  rw [callE_rounds (id := 4) (rd := rdsOf sts3) (d := 11) rfl Tryd.func3 hb rfl]
  · exact h
  · intro p hp _
    rw [hl, List.mem_singleton] at hp
    subst hp
    refine rdsOf_ok sts3 fun i p q h1 h2 => ?_
    unfold sts3 at h1 h2
    rw [List.getElem?_map] at h1 h2
    have hi : i < 18 := by
      rcases Nat.lt_or_ge i 18 with h | h
      · exact h
      · rw [List.getElem?_eq_none (by simp; omega)] at h2; cases h2
    rw [List.getElem?_range (by omega)] at h1 h2
    cases h1; cases h2
    exact isOk_eq (rounds3 i hi)
end
theorem law3 {W : World} {args : Array Value} (hL : laidMetH Tryd.prog laid W) (cvs : List CV) (hv : ValsOk pts3 args.toList) (ha : AllV W (flatT pts3) cvs (flatV pts3 args.toList)) :
    Calls Tryd.prog 3 args W fun e W' => e = .returned (.bool true) ∧ Calm W W' := by
  have ht := of_laid hL
  obtain ⟨x, r, vr, rfl, hx, h⟩ := AllV.int (ts := flatT [flagsT]) ha
  obtain ⟨c, p, z, s, o, d, rfl⟩ := flags_of h
  letI : Env := EvN [x, bn c, bn p, bn z, bn s, bn o, bn d]
  have hcv : rpCVs (flatT pts3) rps3 = [.n x, .b c, .b p, .b z, .b s, .b o, .b d] := by
    show [CV.n (clampI (-9223372036854775808) 9223372036854775807 x), .b (clampI 0 1 (bn c) == 1), .b (clampI 0 1 (bn p) == 1), .b (clampI 0 1 (bn z) == 1), .b (clampI 0 1 (bn s) == 1), .b (clampI 0 1 (bn o) == 1), .b (clampI 0 1 (bn d) == 1)] = _
    have e : ∀ b : Bool, (clampI 0 1 (bn b) == (1 : Int)) = b := fun b => by cases b <;> rfl
    rw [e, e, e, e, e, e, show clampI (-9223372036854775808) 9223372036854775807 x = x from clamp_eq hx]
  have dx : cE.den = x := (show clampI (-9223372036854775808) 9223372036854775807 x = x from clamp_eq hx)
  have go : ∀ fs : List Fk, Holds fs → (fnR Tryd.prog (callE Tryd.prog envN cfgT 11) (cfgT 3) 4 (rdsOf sts3) Tryd.f3 [.one (.int .i64 (.ex cE)), .agg flagsS] [.row false 1 (.vals tab)]).good leafG fs = true → Calls Tryd.prog 3 args W fun e W' => e = .returned (.bool true) ∧ Calm W W' :=
    fun fs hf h => law_glob (soundT 12) (rps := rps3) (fs := fs) rfl rfl rfl hcv hf (run3 fs h) hv ha (tab_cells ht) (heap_pos ht)
  have one : ∀ f : Fk, f.holds → Holds [f] := fun f hf g hg => by rw [List.mem_singleton] at hg; subst hg; exact hf
  have eqn : ∀ n : Int, x = n → semI .rem .i64 n 2 = n % 2 → semI .quo .i64 n 2 = n / 2 → semI .and .i64 n 1 = n % 2 → semI .shr .i64 n 1 = n / 2 → Holds (gsJ n) := fun n h h1 h2 h3 h4 f hf => by
    subst h
    have one : ∀ (e : E) (m : Int), e.den = m → (Fk.eq (eqD e (.num m))).holds := fun e m h => by show (eqD e (.num m)).den = 0; rw [eqD_den]; show e.den - m = 0; omega
    simp only [gsJ, List.mem_cons, List.not_mem_nil, or_false] at hf
    rcases hf with rfl | rfl | rfl | rfl | rfl
    · exact one _ _ dx
    · exact one _ _ (by show semI .rem .i64 cE.den 2 = _; rw [dx]; exact h1)
    · exact one _ _ (by show semI .quo .i64 cE.den 2 = _; rw [dx]; exact h2)
    · exact one _ _ (by show semI .and .i64 cE.den 1 = _; rw [dx]; exact h3)
    · exact one _ _ (by show semI .shr .i64 cE.den 1 = _; rw [dx]; exact h4)
  by_cases h1 : x < 0
  · exact go _ (one _ (by show 0 ≤ (ltD cE (.num 0)).den; rw [ltD_den]; show 0 ≤ (0 : Int) - cE.den - 1; omega)) told3_16
  by_cases h2 : 15 < x
  · exact go _ (one _ (by show 0 ≤ (ltD (.num 15) cE).den; rw [ltD_den]; show 0 ≤ cE.den - 15 - 1; omega)) told3_17
  have h3 : x = 0 ∨ x = 1 ∨ x = 2 ∨ x = 3 ∨ x = 4 ∨ x = 5 ∨ x = 6 ∨ x = 7 ∨ x = 8 ∨ x = 9 ∨ x = 10 ∨ x = 11 ∨ x = 12 ∨ x = 13 ∨ x = 14 ∨ x = 15 := by omega
  rcases h3 with h3 | h3 | h3 | h3 | h3 | h3 | h3 | h3 | h3 | h3 | h3 | h3 | h3 | h3 | h3 | h3
  · exact go _ (eqn 0 h3 (by decide) (by decide) (by decide) (by decide)) told3_0
  · exact go _ (eqn 1 h3 (by decide) (by decide) (by decide) (by decide)) told3_1
  · exact go _ (eqn 2 h3 (by decide) (by decide) (by decide) (by decide)) told3_2
  · exact go _ (eqn 3 h3 (by decide) (by decide) (by decide) (by decide)) told3_3
  · exact go _ (eqn 4 h3 (by decide) (by decide) (by decide) (by decide)) told3_4
  · exact go _ (eqn 5 h3 (by decide) (by decide) (by decide) (by decide)) told3_5
  · exact go _ (eqn 6 h3 (by decide) (by decide) (by decide) (by decide)) told3_6
  · exact go _ (eqn 7 h3 (by decide) (by decide) (by decide) (by decide)) told3_7
  · exact go _ (eqn 8 h3 (by decide) (by decide) (by decide) (by decide)) told3_8
  · exact go _ (eqn 9 h3 (by decide) (by decide) (by decide) (by decide)) told3_9
  · exact go _ (eqn 10 h3 (by decide) (by decide) (by decide) (by decide)) told3_10
  · exact go _ (eqn 11 h3 (by decide) (by decide) (by decide) (by decide)) told3_11
  · exact go _ (eqn 12 h3 (by decide) (by decide) (by decide) (by decide)) told3_12
  · exact go _ (eqn 13 h3 (by decide) (by decide) (by decide) (by decide)) told3_13
  · exact go _ (eqn 14 h3 (by decide) (by decide) (by decide) (by decide)) told3_14
  · exact go _ (eqn 15 h3 (by decide) (by decide) (by decide) (by decide)) told3_15
end Go.SX.Cnd
