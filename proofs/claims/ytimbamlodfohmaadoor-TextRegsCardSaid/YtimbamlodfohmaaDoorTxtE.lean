/- TextRegs: true, whatever the input, where the tables are as they are laid. -/
import Derived.Test.YtimbamlodfohmaaDoorTxtQ0
import Derived.Test.YtimbamlodfohmaaDoorTxtQ1
import Derived.Test.YtimbamlodfohmaaDoorTxtQ2
import Derived.Test.YtimbamlodfohmaaDoorTxtQ3
import Derived.Test.YtimbamlodfohmaaDoorTxtQ4
namespace Go.SX.Txt
open Go Go.SX Go.Proofs Go.Proofs.YtimbamlodfohmaaDoor
set_option maxRecDepth 1000000
set_option linter.unusedSectionVars false
theorem told4_0 [Env] : (fnR Tryd.prog (callE Tryd.prog envR (cfgR 0) 11) (cfgR 0 4) 4 (rdsOf sts4) Tryd.f4 [.one (.int .i64 (.ex rE)), .one (.int .i64 (.ex zE)), .one (.int .u32 (.ex dE))] mem4).good leafG (szF 0) = true := by kernel_rfl
theorem told4_1 [Env] : (fnR Tryd.prog (callE Tryd.prog envR (cfgR 1) 11) (cfgR 1 4) 4 (rdsOf sts4) Tryd.f4 [.one (.int .i64 (.ex rE)), .one (.int .i64 (.ex zE)), .one (.int .u32 (.ex dE))] mem4).good leafG (szF 1) = true := by kernel_rfl
theorem told4_2 [Env] : (fnR Tryd.prog (callE Tryd.prog envR (cfgR 2) 11) (cfgR 2 4) 4 (rdsOf sts4) Tryd.f4 [.one (.int .i64 (.ex rE)), .one (.int .i64 (.ex zE)), .one (.int .u32 (.ex dE))] mem4).good leafG (szF 2) = true := by kernel_rfl
theorem told4_3 [Env] : (fnR Tryd.prog (callE Tryd.prog envR (cfgR 3) 11) (cfgR 3 4) 4 (rdsOf sts4) Tryd.f4 [.one (.int .i64 (.ex rE)), .one (.int .i64 (.ex zE)), .one (.int .u32 (.ex dE))] mem4).good leafG (szF 3) = true := by kernel_rfl
theorem told4_4 [Env] : (fnR Tryd.prog (callE Tryd.prog envR (cfgR 4) 11) (cfgR 4 4) 4 (rdsOf sts4) Tryd.f4 [.one (.int .i64 (.ex rE)), .one (.int .i64 (.ex zE)), .one (.int .u32 (.ex dE))] mem4).good leafG (szF 4) = true := by kernel_rfl
abbrev pts4 : List PT := [.inl i6, .inl i6, .inl u3]
abbrev rps4 : List Rp := [.n (.ex rE), .n (.ex zE), .n (.ex dE)]
@[reducible] def EvR (r z d : Int) : Env := ⟨fun i => ([r, z, d] : List Int).getD i 0, fun _ _ => 0, fun i l => if i = 60 then numsOf (regS fullL (l.headD 0)) else if i = 61 then hexL (l.headD 0) else []⟩
section
variable [Env]
theorem envOkR (h60 : ∀ l, Env.lst 60 l = numsOf (regS fullL (l.headD 0))) (h61 : ∀ l, Env.lst 61 l = hexL (l.headD 0)) (j : Nat) (hj : Holds (szF j)) : EnvOk Tryd.prog envR (cfgR j) := by
  refine ⟨names, fun g c h => ?_, fun g fn c σ _ _ _ => ?_⟩
  · unfold envR at h
    split at h
    · rename_i e; subst e; cases h; exact knownCon_sound
    split at h
    · rename_i e; subst e; cases h; exact fieldsCon_sound fldsL_ok
    split at h
    · rename_i e; subst e; cases h; exact regCon_sound h60
    split at h
    · rename_i e; subst e; cases h; exact hexCon_sound h61 ⟨by decide, by decide⟩ ⟨_, Tryd.func16, rfl⟩ (fun [_] => runsNum)
    split at h
    · rename_i e; subst e; cases h; exact hexCon_sound h61 ⟨by decide, by decide⟩ ⟨_, Tryd.func19, rfl⟩ (fun [_] => runsHex)
    split at h
    · rename_i e; subst e; cases h; exact reg32Con_sound h60
    split at h
    · rename_i e; subst e; cases h; exact joinCon_sound
    · cases h
  · unfold cfgR
    split
    · exact LoopsOk.none (fun _ => rfl) c hj
    · exact LoopsOk.none (fun _ => rfl) c
theorem loops4 : loopsC ((Tryd.f4.body).getD .skip) = [(4, loopOf Tryd.prog 4 0), (7, loopOf Tryd.prog 4 1)] := by kernel_rfl
theorem rounds4 (j : Nat) (hj : j < 5) (i : Nat) (hi : i < 10) : isOk (round4 j ((i : Int) - 1)) (fr4 (((i + 1 : Nat) : Int) - 1), mem4) = true := by
  match j, hj, i, hi with
  | 0, _, 0, _ => exact round4_0_0
  | 0, _, 1, _ => exact round4_0_1
  | 0, _, 2, _ => exact round4_0_2
  | 0, _, 3, _ => exact round4_0_3
  | 0, _, 4, _ => exact round4_0_4
  | 0, _, 5, _ => exact round4_0_5
  | 0, _, 6, _ => exact round4_0_6
  | 0, _, 7, _ => exact round4_0_7
  | 0, _, 8, _ => exact round4_0_8
  | 0, _, 9, _ => exact round4_0_9
  | 1, _, 0, _ => exact round4_1_0
  | 1, _, 1, _ => exact round4_1_1
  | 1, _, 2, _ => exact round4_1_2
  | 1, _, 3, _ => exact round4_1_3
  | 1, _, 4, _ => exact round4_1_4
  | 1, _, 5, _ => exact round4_1_5
  | 1, _, 6, _ => exact round4_1_6
  | 1, _, 7, _ => exact round4_1_7
  | 1, _, 8, _ => exact round4_1_8
  | 1, _, 9, _ => exact round4_1_9
  | 2, _, 0, _ => exact round4_2_0
  | 2, _, 1, _ => exact round4_2_1
  | 2, _, 2, _ => exact round4_2_2
  | 2, _, 3, _ => exact round4_2_3
  | 2, _, 4, _ => exact round4_2_4
  | 2, _, 5, _ => exact round4_2_5
  | 2, _, 6, _ => exact round4_2_6
  | 2, _, 7, _ => exact round4_2_7
  | 2, _, 8, _ => exact round4_2_8
  | 2, _, 9, _ => exact round4_2_9
  | 3, _, 0, _ => exact round4_3_0
  | 3, _, 1, _ => exact round4_3_1
  | 3, _, 2, _ => exact round4_3_2
  | 3, _, 3, _ => exact round4_3_3
  | 3, _, 4, _ => exact round4_3_4
  | 3, _, 5, _ => exact round4_3_5
  | 3, _, 6, _ => exact round4_3_6
  | 3, _, 7, _ => exact round4_3_7
  | 3, _, 8, _ => exact round4_3_8
  | 3, _, 9, _ => exact round4_3_9
  | 4, _, 0, _ => exact round4_4_0
  | 4, _, 1, _ => exact round4_4_1
  | 4, _, 2, _ => exact round4_4_2
  | 4, _, 3, _ => exact round4_4_3
  | 4, _, 4, _ => exact round4_4_4
  | 4, _, 5, _ => exact round4_4_5
  | 4, _, 6, _ => exact round4_4_6
  | 4, _, 7, _ => exact round4_4_7
  | 4, _, 8, _ => exact round4_4_8
  | 4, _, 9, _ => exact round4_4_9
  | n + 5, h, _, _ => omega
  | _, _, n + 10, h => omega
theorem run4 (j : Nat) (hj : j < 5) (h : (fnR Tryd.prog (callE Tryd.prog envR (cfgR j) 11) (cfgR j 4) 4 (rdsOf sts4) Tryd.f4 [.one (.int .i64 (.ex rE)), .one (.int .i64 (.ex zE)), .one (.int .u32 (.ex dE))] mem4).good leafG (szF j) = true) :
    (callE Tryd.prog envR (cfgR j) 12 4 (splitA pts4 (rpCells (flatT pts4) rps4 0)) [tabR, dbtR]).good leafG (szF j) = true := by
  have hb : ∃ c, Tryd.f4.body = some c := ⟨_, rfl⟩
  obtain ⟨c, hb⟩ := hb
  have hl : loopsC c = [(4, loopOf Tryd.prog 4 0), (7, loopOf Tryd.prog 4 1)] := by rw [← loops4, hb]; rfl
  rw [callE_rounds (id := 4) (rd := rdsOf sts4) (d := 11) rfl Tryd.func4 hb rfl]
  · exact h
  · intro p hp hp4
    rw [hl, List.mem_cons, List.mem_singleton] at hp
    rcases hp with rfl | rfl
    · refine rdsOf_ok sts4 fun i p q h1 h2 => ?_
      unfold sts4 at h1 h2
      rw [List.getElem?_map] at h1 h2
      have hi : i < 10 := by
        rcases Nat.lt_or_ge i 10 with h | h
        · exact h
        · rw [List.getElem?_eq_none (by simp; omega)] at h2; cases h2
      rw [List.getElem?_range (by omega)] at h1 h2
      cases h1; cases h2
      exact isOk_eq (rounds4 j hj i hi)
    · exact absurd hp4 (by decide)
end
theorem law4 {W : World} {args : Array Value} (hL : laidMetH Tryd.prog laid W) (cvs : List CV) (hv : ValsOk pts4 args.toList) (ha : AllV W (flatT pts4) cvs (flatV pts4 args.toList)) :
    Calls Tryd.prog 4 args W fun e W' => e = .returned (.bool true) ∧ Calm W W' := by
  obtain ⟨r, r1, v1, rfl, hr, h1⟩ := AllV.int (ts := [i6, u3]) ha
  obtain ⟨z, r2, v2, e2, hz, h2⟩ := AllV.int (ts := [u3]) h1
  obtain ⟨d, r3, v3, e3, hd, h3⟩ := AllV.int (ts := []) h2
  have e4 := AllV.nil h3
  subst e4; subst e3; subst e2
  letI : Env := EvR r z d
  have hcv : rpCVs (flatT pts4) rps4 = [.n r, .n z, .n d] := by
    show [CV.n (clampI (-9223372036854775808) 9223372036854775807 r), .n (clampI (-9223372036854775808) 9223372036854775807 z), .n (clampI 0 4294967295 d)] = _
    rw [show clampI (-9223372036854775808) 9223372036854775807 r = r from clamp_eq hr, show clampI (-9223372036854775808) 9223372036854775807 z = z from clamp_eq hz, show clampI 0 4294967295 d = d from clamp_eq hd]
  have dz : zE.den = z := (show clampI (-9223372036854775808) 9223372036854775807 z = z from clamp_eq hz)
  have go : ∀ j, j < 5 → Holds (szF j) → (fnR Tryd.prog (callE Tryd.prog envR (cfgR j) 11) (cfgR j 4) 4 (rdsOf sts4) Tryd.f4 [.one (.int .i64 (.ex rE)), .one (.int .i64 (.ex zE)), .one (.int .u32 (.ex dE))] mem4).good leafG (szF j) = true → Calls Tryd.prog 4 args W fun e W' => e = .returned (.bool true) ∧ Calm W W' :=
    fun j hj hf h => law_tabs (call_sound mixed (envOkR (fun l => rfl) (fun l => rfl) j hf) 12) (rps := rps4) (fs := szF j) rfl rfl hcv hf (run4 j hj h) hv ha hL
  have eq1 : ∀ m : Int, z = m → (Fk.eq (eqD zE (.num m))).holds := fun m h => by show (eqD zE (.num m)).den = 0; rw [eqD_den]; show zE.den - m = 0; omega
  have ne1 : ∀ m : Int, z ≠ m → (Fk.ne (eqD zE (.num m))).holds := fun m h => by show (eqD zE (.num m)).den ≠ 0; rw [eqD_den]; show zE.den - m ≠ 0; omega
  have one : ∀ f : Fk, f.holds → Holds [f] := fun f hf g hg => by rw [List.mem_singleton] at hg; subst hg; exact hf
  by_cases q1 : z = 1
  · exact go 0 (by omega) (one _ (eq1 1 q1)) told4_0
  by_cases q2 : z = 2
  · exact go 1 (by omega) (one _ (eq1 2 q2)) told4_1
  by_cases q3 : z = 4
  · exact go 2 (by omega) (one _ (eq1 4 q3)) told4_2
  by_cases q4 : z = 8
  · exact go 3 (by omega) (one _ (eq1 8 q4)) told4_3
  · refine go 4 (by omega) (fun f hf => ?_) told4_4
    simp only [szF, List.mem_cons, List.not_mem_nil, or_false] at hf
    rcases hf with rfl | rfl | rfl | rfl
    · exact ne1 1 q1
    · exact ne1 2 q2
    · exact ne1 4 q3
    · exact ne1 8 q4
end Go.SX.Txt
