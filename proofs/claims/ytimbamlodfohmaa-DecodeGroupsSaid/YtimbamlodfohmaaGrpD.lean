/- DecodeGroups: true, whatever the input: its loop by one round. -/
import Derived.Test.YtimbamlodfohmaaSxW
import Derived.Test.YtimbamlodfohmaaGrpC
namespace Go.SX.One
open Go Go.SX Go.Proofs
set_option maxRecDepth 1000000
set_option linter.unusedSectionVars false
abbrev pts8 : List PT := [.inl u8, .inl u3]
def wG : WSig where
  ins := [(6, u8), (5, .lst [.int .u8]), (0, u8)]
  np := 1
  outs := []
  obs := []
  ex := fun _ => .exit 0
  nk := 1
  fn := 95
  kill := [32, 33, 36, 37, 38, 39, 40, 7, 41, 42, 43, 44, 45, 46, 9, 48, 49, 50, 51, 52, 53, 47, 54, 55, 10, 11, 57, 58, 59, 60, 61, 62, 56, 63, 64, 12, 13, 66, 67, 68, 65, 69, 70, 14, 15, 71, 72, 73, 74, 75, 76, 77, 78, 79, 80, 81, 82, 4, 83, 84, 86, 87, 88, 89, 85, 90, 91, 16, 17, 92, 93, 94, 34, 35, 6]
  wt := fun l => .br (.lt (l.getD 0 n0) (.num 8)) (.go [.op .add .u8 (l.getD 0 n0) (.num 1)]) (.stop 0 [])
  inv := fun l => [.lt (.ln (l.getD 1 n0)) (.num 101)]
  mea := fun l => .mi (.num 8) (l.getD 0 n0)
  rb := [(0, 8), (0, 100), (0, 255)]
def cfR : Cfg := { lm := fun id => id == 9, lv := fun id => if id = 9 then some [43, 42, 41, 7, 5, 6, 0, 4] else none }
theorem resp_wG : RespW wG := by
  intro e1 e2 l1 l2 h1 h2 h
  match l1, h1, l2, h2 with
  | [a, b, c], _, [a', b', c'], _ =>
    have h : [(@E.den e1 a, ([] : List Int)), (0, @E.dens e1 b), (@E.den e1 c, [])] = [(@E.den e2 a', ([] : List Int)), (0, @E.dens e2 b'), (@E.den e2 c', [])] := h
    simp only [List.cons.injEq, Prod.mk.injEq, and_true, true_and] at h
    obtain ⟨ha, hb, _⟩ := h
    have hlen : @E.den e1 (.ln b) = @E.den e2 (.ln b') := by show (((@E.dens e1 b).length : Nat) : Int) = ((@E.dens e2 b').length : Nat); rw [hb]
    refine ⟨?_, ?_⟩
    · show [decide (@E.den e1 (.ln b) < 101)] = [decide (@E.den e2 (.ln b') < 101)]
      rw [hlen]
    · show (8 : Int) - @E.den e1 a = 8 - @E.den e2 a'
      rw [ha]
def ws (j : Nat) : Option WSig := if j = 200 then some wG else none
section
variable [Env]
theorem round8 : roundB Try.prog (callE Try.prog envG cfg0 12) cfR wG (loopOf Try.prog 8 0) = true := by kernel_rfl
def cfgV : FuncId → Cfg := fun g => if g = 8 then { lc := fun id => if id = 5 then some (wCon 200 3 wG) else none } else {}
theorem lawRun8 : (callE Try.prog envG cfgV 12 8 (argsOf pts8) (objsOf pts8)).good leafTrue [] = true := by kernel_rfl
end
noncomputable abbrev base : Env := E2 [] []
theorem okG : WOk Try.prog base (fun e => @callE e Try.prog (@envG e) cfg0 12) cfR wG (loopOf Try.prog 8 0) where
  sound cvs := @call_sound (envC base cvs) Try.prog _ _ mixed (envOkG (envC base cvs) fun i l hi => app13 [] [] i l hi) 12
  names := names
  mixed := mixed
  loops cvs n := @LoopsOk.none (envC base cvs) _ _ _ (fun _ => rfl) _ (fun f h => by cases h)
  plain := rfl
  few := by decide
  np := by decide
  bnds := rfl
  sets := by kernel_rfl
  only := by kernel_rfl
  stays := by kernel_rfl
  ends := fun k => .inl ⟨0, rfl⟩
  resp := resp_wG
  round := fun cvs => @round8 (envC base cvs)
@[reducible] noncomputable def EV (xs : List Int) (ls : List (List Int)) : Env := envW base ws (E2 xs ls)
theorem loops8 : loopsC ((Try.f8.body).getD .skip) = [(5, loopOf Try.prog 8 0), (9, loopOf Try.prog 8 1)] := by kernel_rfl
theorem envOkV (xs : List Int) (ls : List (List Int)) : @EnvOk (EV xs ls) Try.prog (@envG (EV xs ls)) (@cfgV (EV xs ls)) := by
  letI : Env := EV xs ls
  have h0 := envOkG (EV xs ls) (fun i l hi => (envW_old (j := 13) rfl i l (by omega)).trans (app13 xs ls i l hi))
  refine ⟨names, h0.calls, fun g fn c σ hg hf hc => ?_⟩
  unfold cfgV
  split
  · rename_i e; subst e
    rw [Try.func8] at hf
    cases hf
    refine LoopsOk.of fun p hp g' hg' => ?_
    have hb : Try.f8.body.getD .skip = c := by rw [hc]; rfl
    rw [← hb, loops8, List.mem_cons, List.mem_singleton] at hp
    rcases hp with rfl | rfl
    · simp only [if_true, Option.some.injEq] at hg'
      subst hg'
      exact wCon_sound (j := 200) okG (EV xs ls) (by decide) (by decide) 3 (res_own rfl (fun i l hi => envW_app (s := wG) rfl i l hi)) _
    · cases hg'
  · exact LoopsOk.none (fun _ => rfl) c
theorem law8 (cvs : List CV) (h : ∃ w vs, AllV w (flatT pts8) cvs vs) : PureSem Try.prog 8 pts8 [.inl bo] cvs [.b true] :=
  law_canonW (call := fun e => @callE e Try.prog (@envG e) (@cfgV e) 12) (env := EV) (fun xs ls => ⟨fun i => rfl, fun i hi => rfl⟩)
    (fun xs ls => @call_sound (EV xs ls) Try.prog _ _ mixed (envOkV xs ls) 12) rfl (by decide) (fun e => @lawRun8 e) cvs h
end Go.SX.One
