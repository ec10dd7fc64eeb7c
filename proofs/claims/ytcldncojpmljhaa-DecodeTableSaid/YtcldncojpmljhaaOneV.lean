/- DecodeTable: true, whatever the input: its loop by one round. -/
import Derived.Test.YtcldncojpmljhaaSxW
import Derived.Test.YtcldncojpmljhaaOneT
namespace Go.SX.One
open Go Go.SX Go.Proofs
set_option maxRecDepth 1000000
set_option linter.unusedSectionVars false
abbrev pts4 : List PT := [.inl u8, .inl u8, .inl u3]
def wT : WSig where
  ins := [(8, i6), (7, .lst [.int .u8]), (0, u8), (1, u8)]
  np := 1
  outs := []
  obs := []
  ex := fun _ => .exit 0
  nk := 1
  fn := 78
  kill := [27, 28, 31, 32, 33, 34, 35, 36, 37, 38, 39, 40, 41, 42, 43, 44, 45, 46, 47, 48, 49, 50, 51, 52, 53, 54, 55, 56, 57, 58, 59, 60, 61, 62, 63, 64, 65, 66, 67, 68, 69, 70, 71, 72, 73, 74, 75, 76, 77, 6, 29, 30, 8]
  wt := fun l => .br (.lt (l.getD 0 n0) (.num 256)) (.go [.pl (l.getD 0 n0) (.num 1)]) (.stop 0 [])
  inv := fun l => [.lt (.ln (l.getD 1 n0)) (.num 101)]
  mea := fun l => .mi (.num 256) (l.getD 0 n0)
  rb := [(0, 256), (0, 0), (0, 255), (0, 255)]
theorem resp_wT : RespW wT := by
  intro e1 e2 l1 l2 h1 h2 h
  match l1, h1, l2, h2 with
  | [a, b, c, d], _, [a', b', c', d'], _ =>
    have h : [(@E.den e1 a, ([] : List Int)), (0, @E.dens e1 b), (@E.den e1 c, []), (@E.den e1 d, [])] = [(@E.den e2 a', ([] : List Int)), (0, @E.dens e2 b'), (@E.den e2 c', []), (@E.den e2 d', [])] := h
    simp only [List.cons.injEq, Prod.mk.injEq, and_true, true_and] at h
    obtain ⟨ha, hb, _⟩ := h
    have hlen : @E.den e1 (.ln b) = @E.den e2 (.ln b') := by show (((@E.dens e1 b).length : Nat) : Int) = ((@E.dens e2 b').length : Nat); rw [hb]
    refine ⟨?_, ?_⟩
    · show [decide (@E.den e1 (.ln b) < 101)] = [decide (@E.den e2 (.ln b') < 101)]
      rw [hlen]
    · show (256 : Int) - @E.den e1 a = 256 - @E.den e2 a'
      rw [ha]
def ws (j : Nat) : Option WSig := if j = 200 then some wT else none
section
variable [Env]
theorem round4 : roundB Try.prog (callE Try.prog envT cfg0 12) {} wT (loopOf Try.prog 4 0) = true := by kernel_rfl
def cfgV : FuncId → Cfg := fun g => if g = 4 then { lc := fun id => if id = 5 then some (wCon 200 wT) else none } else {}
theorem lawRun4 : (callE Try.prog envT cfgV 12 4 (argsOf pts4) (objsOf pts4)).good leafTrue [] = true := by kernel_rfl
end
noncomputable abbrev base : Env := E0 [] []
theorem okT : WOk Try.prog base (fun e => @callE e Try.prog (@envT e) cfg0 12) {} wT (loopOf Try.prog 4 0) where
  sound cvs := @call_sound (envC base cvs) Try.prog _ _ mixed (envOkT (envC base cvs) (fun l => lst100 [] [] l) (fun i l hi => app100 [] [] i l hi)) 12
  names := names
  mixed := mixed
  loops cvs n := @LoopsOk.none (envC base cvs) _ _ _ (fun _ => rfl) _
  plain := rfl
  few := by decide
  np := by decide
  bnds := rfl
  sets := by kernel_rfl
  only := by kernel_rfl
  stays := by kernel_rfl
  ends := fun k => .inl ⟨0, rfl⟩
  resp := resp_wT
  round := fun cvs => @round4 (envC base cvs)
@[reducible] noncomputable def EV (xs : List Int) (ls : List (List Int)) : Env := envW base ws (E0 xs ls)
theorem loops4 : loopsC ((Try.f4.body).getD .skip) = [(5, loopOf Try.prog 4 0)] := by kernel_rfl
theorem envOkV (xs : List Int) (ls : List (List Int)) : @EnvOk (EV xs ls) Try.prog (@envT (EV xs ls)) (@cfgV (EV xs ls)) := by
  letI : Env := EV xs ls
  have h0 := envOkT (EV xs ls) (fun l => lst100 xs ls l) (fun i l hi => (envW_old (j := 100) rfl i l (by omega)).trans (app100 xs ls i l hi))
  refine ⟨names, h0.calls, fun g fn c σ hg hf hc => ?_⟩
  unfold cfgV
  split
  · rename_i e; subst e
    rw [Try.func4] at hf
    cases hf
    refine LoopsOk.of fun p hp g' hg' => ?_
    have hb : Try.f4.body.getD .skip = c := by rw [hc]; rfl
    rw [← hb, loops4, List.mem_singleton] at hp
    subst hp
    simp only [if_true, Option.some.injEq] at hg'
    subst hg'
    exact wCon_sound (j := 200) okT (EV xs ls) (by decide) (by decide) (fun i l hi => envW_app (s := wT) rfl i l hi) _
  · exact LoopsOk.none (fun _ => rfl) c
theorem law4 (cvs : List CV) (h : ∃ w vs, AllV w (flatT pts4) cvs vs) : PureSem Try.prog 4 pts4 [.inl bo] cvs [.b true] :=
  law_canonW (call := fun e => @callE e Try.prog (@envT e) (@cfgV e) 12) (env := EV) (fun xs ls => ⟨fun i => rfl, fun i hi => by show (match lsigs i with | some s => (ResL Try.prog s []).drop s.m | none => ls.getD i []) = _; rw [lsigs16 i hi]⟩)
    (fun xs ls => @call_sound (EV xs ls) Try.prog _ _ mixed (envOkV xs ls) 12) rfl (by decide) (fun e => @lawRun4 e) cvs h
end Go.SX.One
