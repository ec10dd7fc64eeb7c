/- ImageLimits: true, whatever the input: noughts as a list that the environment has. -/
import Derived.Test.YtkbghbkfaloblaaImgA
namespace Go.SX.Img
open Go Go.SX Go.Proofs
set_option maxRecDepth 1000000
set_option linter.unusedSectionVars false
@[reducible] noncomputable def EZ (xs : List Int) (ls : List (List Int)) : Env where
  val := (EV xs ls).val
  app := (EV xs ls).app
  lst i l := if i = 77 then List.replicate (l.headD 0).toNat 0 else (EV xs ls).lst i l
theorem envOkZ (xs : List Int) (ls : List (List Int)) : @EnvOk (EZ xs ls) Try.prog (@envK (EZ xs ls)) (@cfgS (EZ xs ls)) := by
  letI : Env := EZ xs ls
  refine ⟨names, fun g c h => ?_, fun g fn c σ hg hf hc => ?_⟩
  · unfold envK at h
    split at h
    · rename_i e; subst e; cases h
      exact trueCon_sound ⟨_, Try.func7, rfl⟩ law7
    · cases h
  · unfold cfgS
    split
    · rename_i e; subst e
      rw [Try.func17] at hf
      cases hf
      refine LoopsOk.of fun p hp g' hg' => ?_
      have hb : Try.f17.body.getD .skip = c := by rw [hc]; rfl
      rw [← hb, loops17, List.mem_singleton] at hp
      subst hp
      simp only [if_true, Option.some.injEq] at hg'
      subst hg'
      exact wCon_sound (j := 200) okS (EZ xs ls) (by decide) (by decide) 5 (res_own rfl (fun i l hi => envW_app (s := wS) rfl i l hi)) _
    · exact LoopsOk.none (fun _ => rfl) c
abbrev pts5 : List PT := [.inl u8, .inl u8]
abbrev rE : E := .op .rem .u8 (.nm 1 0 255) (.num 5)
abbrev mE : E := .op .add .i64 (.num 65534) rE
abbrev nE : E := .pl (.num 65534) rE
abbrev fct : Fk := .eq (eqD (.ln (zerosE mE)) nE)
theorem mE_nE [Env] : mE.den = nE.den := by
  have h : mE.lin = nE.lin := by kernel_rfl
  rw [← E.lin_den mE, ← E.lin_den nE, h]
theorem nE_in [Env] : 65534 ≤ nE.den ∧ nE.den ≤ 65538 := by
  have h := E.rng nE
  have hr : nE.R.1 = (65534, 65538) := by kernel_rfl
  rw [hr] at h
  exact h
theorem fct_ok (xs : List Int) (ls : List (List Int)) : @Fk.holds (EZ xs ls) fct := by
  letI : Env := EZ xs ls
  show (eqD (.ln (zerosE mE)) nE).den = 0
  have h1 : (E.ln (zerosE mE)).den = nE.den := by
    have h2 : (zerosE mE).dens = ((List.replicate mE.den.toNat 0).take big).map (clampI 0 0) := rfl
    show (((zerosE mE).dens.length : Nat) : Int) = _
    rw [h2, List.length_map, List.length_take, List.length_replicate, mE_nE]
    have := nE_in
    unfold big
    omega
  have h3 := eqD_den (E.ln (zerosE mE)) nE
  omega
section
variable [Env]
theorem limits5 : (callE Try.prog envK cfgS 12 5 (argsOf pts5) (objsOf pts5)).good leafTrue [fct] = true := by kernel_rfl
end
theorem law5 (cvs : List CV) (h : ∃ w vs, AllV w (flatT pts5) cvs vs) : PureSem Try.prog 5 pts5 [.inl bo] cvs [.b true] := by
  obtain ⟨w, vs, h⟩ := h
  letI : Env := EZ (namesOf cvs) (listsOf cvs)
  have h1 := lists_len cvs
  have h2 := AllV_len h
  have h2 : cvs.length = 2 := h2
  refine law_of_good (call_sound mixed (envOkZ (namesOf cvs) (listsOf cvs)) 12) (rpsOf (flatT pts5) 0 0) (fs := [fct]) (fun f hf => by rw [List.mem_singleton] at hf; subst hf; exact fct_ok _ _) (rpsOf_ok rfl) ?_ limits5
  refine rpsOf_cvs rfl h (fun k hk => by rw [Nat.zero_add]; rfl) fun k hk => ?_
  rw [Nat.zero_add]
  show (if k = 77 then _ else _) = _
  rw [if_neg (by omega)]
  rfl
end Go.SX.Img
