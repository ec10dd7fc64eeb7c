/- ImageOrder: true, whatever the input: the sum's loop by one round. -/
import Derived.Test.YtkbghbkfaloblaaSxW
import Derived.Test.YtkbghbkfaloblaaSxK
import Derived.Test.YtkbghbkfaloblaaRows
namespace Go.SX.Img
open Go Go.SX Go.Proofs
set_option maxRecDepth 1000000
set_option linter.unusedSectionVars false
def i6 : CT := .sc (.int .i64)
def u3 : CT := .sc (.int .u32)
def u1 : CT := .sc (.int .u16)
def u8 : CT := .sc (.int .u8)
def bo : CT := .sc .bool
abbrev bytesT : PT := .inl (.lst [.int .u8])
abbrev n0 : E := .num 0
theorem mixed : Try.prog.follows .mixedOrders = true := by kernel_rfl
theorem names : NamesOk Try.prog := by
  have h : Try.prog.funcs.toList.all (fun fn => !(fn.name == "runtime.NumGoroutine")) = true := by kernel_rfl
  intro g fn hg
  have := List.all_eq_true.1 h fn (by rw [← Array.getElem?_toList] at hg; exact List.mem_of_getElem? hg)
  simpa using this
def noSig : Nat → Option Sig := fun _ => none
def noL : Nat → Option LSig := fun _ => none
@[reducible] noncomputable def E0 (xs : List Int) (ls : List (List Int)) : Env := envL Try.prog noSig noL xs ls
def wS : WSig where
  ins := [(3, u3), (4, u3), (9, i6), (8, i6), (7, .lst [.int .u8])]
  np := 3
  outs := [(3, u3), (4, u3)]
  obs := [(0, 65520), (0, 65520)]
  ex := fun _ => .exit 0
  nk := 1
  fn := 27
  kill := [10, 11, 12, 6, 13, 14, 15, 16, 17, 3, 18, 19, 20, 21, 4, 22, 9]
  wt := fun l => .br (.lt (l.getD 2 n0) (l.getD 3 n0)) (
    let x := E.op .rem .u32 (.op .add .u32 (l.getD 0 n0) (.sel (.pl (l.getD 2 n0) n0) (l.getD 4 n0))) (.num 65521)
    .go [x, .op .rem .u32 (.op .add .u32 (l.getD 1 n0) x) (.num 65521), .pl (l.getD 2 n0) (.num 1)]) (.stop 0 [l.getD 0 n0, l.getD 1 n0])
  inv := fun l => [.eq (l.getD 3 n0) (.ln (l.getD 4 n0))]
  mea := fun l => .mi (l.getD 3 n0) (l.getD 2 n0)
  rb := [(0, 65520), (0, 65520), (0, 1099511627776), (0, 1099511627776), (0, 1099511627775)]
theorem resp_wS : RespW wS := by
  intro e1 e2 l1 l2 h1 h2 h
  match l1, h1, l2, h2 with
  | [a, b, c, d, e], _, [a', b', c', d', e'], _ =>
    have h : [(@E.den e1 a, ([] : List Int)), (@E.den e1 b, []), (@E.den e1 c, []), (@E.den e1 d, []), (0, @E.dens e1 e)] = [(@E.den e2 a', ([] : List Int)), (@E.den e2 b', []), (@E.den e2 c', []), (@E.den e2 d', []), (0, @E.dens e2 e')] := h
    simp only [List.cons.injEq, Prod.mk.injEq, and_true, true_and] at h
    obtain ⟨_, _, hc, hd, he⟩ := h
    have hlen : @E.den e1 (.ln e) = @E.den e2 (.ln e') := by show (((@E.dens e1 e).length : Nat) : Int) = ((@E.dens e2 e').length : Nat); rw [he]
    refine ⟨?_, ?_⟩
    · show [decide (@E.den e1 d = @E.den e1 (.ln e))] = [decide (@E.den e2 d' = @E.den e2 (.ln e'))]
      rw [hlen, hd]
    · show @E.den e1 d - @E.den e1 c = @E.den e2 d' - @E.den e2 c'
      rw [hc, hd]
def ws (j : Nat) : Option WSig := if j = 200 then some wS else none
section
variable [Env]
abbrev env0 : FuncId → Option Con := fun _ => none
abbrev cfg0 : FuncId → Cfg := fun _ => {}
theorem envOk0 : EnvOk Try.prog env0 cfg0 := ⟨names, fun g c h => (by cases h), fun g fn c σ _ _ _ => LoopsOk.none (fun _ => rfl) c⟩
theorem sound0 (d : Nat) : CallSound Try.prog (callE Try.prog env0 cfg0 d) := call_sound mixed envOk0 d
theorem known7 : (callE Try.prog env0 cfg0 12 7 (argsOf []) (objsOf [])).good leafTrue [] = true := by kernel_rfl
theorem round17 : roundB Try.prog (callE Try.prog env0 cfg0 12) {} wS (loopOf Try.prog 17 0) = true := by kernel_rfl
abbrev trueCon (pts : List PT) : Con := pCon pts [.inl bo] (fun _ => .c true) fun _ => [.b (.c true)]
theorem trueCon_sound {g : FuncId} {pts : List PT} (hf : ∃ fn, Try.prog.funcs[g]? = some fn ∧ fn.body.isSome = true) (h : ∀ cvs, (∃ w vs, AllV w (flatT pts) cvs vs) → PureSem Try.prog g pts [.inl bo] cvs [.b true]) :
    ∀ args σ v σ', (trueCon pts args σ).run = some (v, σ') → Den Try.prog g args σ v σ' :=
  pCon_sound hf rfl fun cvs _ hh => ⟨rfl, h cvs hh⟩
def envK : FuncId → Option Con := fun g => if g = 7 then some (trueCon []) else none
def cfgS : FuncId → Cfg := fun g => if g = 17 then { lc := fun id => if id = 3 then some (wCon 200 5 wS) else none } else {}
end
theorem law7 (cvs : List CV) (h : ∃ w vs, AllV w (flatT []) cvs vs) : PureSem Try.prog 7 [] [.inl bo] cvs [.b true] :=
  law_canon (sig := noSig) (lsig := noL) (call := fun e => @callE e Try.prog env0 cfg0 12) (fun xs ls _ => @sound0 (E0 xs ls) 12) (fun _ _ => rfl) rfl (by decide) (fun e => @known7 e) cvs h
noncomputable abbrev base : Env := E0 [] []
theorem okS : WOk Try.prog base (fun e => @callE e Try.prog (@env0) cfg0 12) {} wS (loopOf Try.prog 17 0) where
  sound cvs := @sound0 (envC base cvs) 12
  names := names
  mixed := mixed
  loops cvs n := @LoopsOk.none (envC base cvs) _ _ _ (fun _ => rfl) _ (fun f h => by cases h)
  plain := rfl
  few := by decide
  np := by decide
  bnds := rfl
  sets := by kernel_rfl
  only := by kernel_rfl
  stays := by kernel_rfl
  ends := fun k => .inl ⟨0, rfl⟩
  resp := resp_wS
  round := fun cvs => @round17 (envC base cvs)
@[reducible] noncomputable def EV (xs : List Int) (ls : List (List Int)) : Env := envW base ws (E0 xs ls)
theorem loops17 : loopsC ((Try.f17.body).getD .skip) = [(3, loopOf Try.prog 17 0)] := by kernel_rfl
theorem envOkS (xs : List Int) (ls : List (List Int)) : @EnvOk (EV xs ls) Try.prog (@envK (EV xs ls)) (@cfgS (EV xs ls)) := by
  letI : Env := EV xs ls
  refine ⟨names, fun g c h => ?_, fun g fn c σ hg hf hc => ?_⟩
  · unfold envK at h
    split at h
    · rename_i e; subst e; cases h
      exact trueCon_sound ⟨_, Try.func7, rfl⟩ law7
    · cases h
  · unfold cfgS
    split
    · rename_i e; subst e
      rw [Try.func17] at hf
      cases hf
      refine LoopsOk.of fun p hp g' hg' => ?_
      have hb : Try.f17.body.getD .skip = c := by rw [hc]; rfl
      rw [← hb, loops17, List.mem_singleton] at hp
      subst hp
      simp only [if_true, Option.some.injEq] at hg'
      subst hg'
      exact wCon_sound (j := 200) okS (EV xs ls) (by decide) (by decide) 5 (res_own rfl (fun i l hi => envW_app (s := wS) rfl i l hi)) _
    · exact LoopsOk.none (fun _ => rfl) c
abbrev pts6 : List PT := [bytesT, bytesT, .inl u1, .inl u8]
section
variable [Env]
theorem order6 : (callE Try.prog envK cfgS 12 6 (argsM 200 pts6) (objsM 200 pts6)).good leafTrue [] = true := by kernel_rfl
theorem order6l : ((longs 200 (flatT pts6) 0).all fun f => (callE Try.prog envK cfgS 12 6 (argsOf pts6) (objsOf pts6)).good leafTrue [f]) = true := by kernel_rfl
end
theorem law6 (cvs : List CV) (h : ∃ w vs, AllV w (flatT pts6) cvs vs) : PureSem Try.prog 6 pts6 [.inl bo] cvs [.b true] :=
  law_canonM 200 (call := fun e => @callE e Try.prog (@envK e) (@cfgS e) 12) (env := EV) (fun xs ls => ⟨fun i => rfl, fun i hi => rfl⟩)
    (fun xs ls => @call_sound (EV xs ls) Try.prog _ _ mixed (envOkS xs ls) 12) rfl (by decide) (fun e => @order6 e) (fun e => @order6l e) cvs h
end Go.SX.Img
