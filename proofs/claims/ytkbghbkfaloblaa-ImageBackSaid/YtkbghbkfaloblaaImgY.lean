/- ImageBack: true, whatever the input. -/
import Derived.Test.YtkbghbkfaloblaaImgX
namespace Go.SX.Img
open Go Go.SX Go.Proofs
set_option maxRecDepth 1000000
set_option linter.unusedSectionVars false
noncomputable def rs4 (j : Nat) : Option (List Int → Nat × List (Int × List Int)) := if j = 115 then some imaR else none
@[reducible] noncomputable def E4 (xs : List Int) (ls : List (List Int)) : Env := envR rs4 (E3 xs ls)
theorem g3_E4 (xs : List Int) (ls : List (List Int)) : G3 (E4 xs ls) := ⟨⟨(g3_E3 xs ls).toG1.over ⟨rfl, rfl, rfl, rfl, rfl, rfl, rfl⟩, (g3_E3 xs ls).code.over rfl⟩, (g3_E3 xs ls).cod.over rfl⟩
abbrev bL : CT := .lst [.int .u8]
abbrev pts3 : List PT := [.inr [bL, bL, u3, u3, u3], .inl (.lst pks), .inl bL, .inl u1, .inl u1, .inl u8, .inl u8]
section
variable [Env]
def envLw : FuncId → Option Con := fun g => if g = 7 then some (trueCon []) else if g = 8 then some (frameCon 0 (fxCon 115 imaS [])) else if g = 9 then some (putCon 9) else if g = 10 then some (putCon 10) else if g = 13 then some (frameCon 0 (fCon parS [])) else none
def cfgLw : FuncId → Cfg := fun g => if g = 3 then { lm := fun id => id = 22, lv := fun id => if id = 22 then some [114, 113, 112, 14] else none } else {}
theorem back3 : (callE Try.prog envLw cfgLw 12 3 (argsT 200 25 pts3) (objsT 200 25 pts3)).good leafTrue (knowsT 25 pts3) = true := by kernel_rfl
theorem back3l : ((longsT 200 25 (flatT pts3) 0 0).all fun f => (callE Try.prog envLw cfgLw 12 3 (argsT big big pts3) (objsT big big pts3)).good leafTrue (f.know true [])) = true := by kernel_rfl
end
theorem envOkLw (xs : List Int) (ls : List (List Int)) : @EnvOk (E4 xs ls) Try.prog (@envLw (E4 xs ls)) (@cfgLw) := by
  letI : Env := E4 xs ls
  refine ⟨names, fun g c h => ?_, fun g fn c σ _ _ _ => ?_⟩
  · unfold envLw at h
    split at h
    · rename_i e; subst e; cases h
      exact trueCon_sound ⟨_, Try.func7, rfl⟩ law7
    split at h
    · rename_i e; subst e; cases h
      exact imaS_sound _ (FnIs.R rfl)
    split at h
    · rename_i e; subst e; cases h
      exact put9_sound _ (g3_E4 xs ls).sum
    split at h
    · rename_i e; subst e; cases h
      exact put10_sound _ (g3_E4 xs ls).sum
    split at h
    · rename_i e; subst e; cases h
      exact par_sound _ (g3_E4 xs ls).sum
    · cases h
  · unfold cfgLw
    split
    · exact LoopsOk.none (fun _ => rfl) c
    · exact LoopsOk.none (fun _ => rfl) c
theorem lst_E4 (xs : List Int) (ls : List (List Int)) (i : Nat) (hi : i < 16) : (E4 xs ls).lst i [] = ls.getD i [] := by
  have h0 : i / 64 = 0 := by omega
  refine (envR_none (rs := rs4) (by rw [h0]; rfl) []).2.trans ((envR_none (rs := rs3) (by rw [h0]; rfl) []).2.trans ((envR_none (rs := rs2) (by rw [h0]; rfl) []).2.trans ((envR_none (rs := rs1) (by rw [h0]; rfl) []).2.trans ?_)))
  show (match lsigs i with | some s => _ | none => ls.getD i []) = _
  rw [show lsigs i = none from if_neg (by omega)]
theorem law3 (cvs : List CV) (h : ∃ w vs, AllV w (flatT pts3) cvs vs) : PureSem Try.prog 3 pts3 [.inl bo] cvs [.b true] :=
  law_canonT 200 25 (call := fun e => @callE e Try.prog (@envLw e) (@cfgLw) 12) (env := E4) (by decide) (by decide) (fun xs ls => ⟨fun i => rfl, fun i hi => lst_E4 xs ls i hi⟩)
    (fun xs ls => @call_sound (E4 xs ls) Try.prog _ _ mixed (envOkLw xs ls) 12) (by kernel_rfl) (by decide) (fun xs ls hk => ⟨_, hk, @back3 (E4 xs ls)⟩) (fun e => @back3l e) cvs h
end Go.SX.Img
