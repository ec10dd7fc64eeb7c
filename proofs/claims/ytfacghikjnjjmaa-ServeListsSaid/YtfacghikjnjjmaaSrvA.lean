/- ServeLists: true, whatever the input: its loop by a template, told by its own rounds. -/
import Derived.Test.YtfacghikjnjjmaaSxCl
import Derived.Test.YtfacghikjnjjmaaRows
namespace Go.SX.Srv
open Go Go.SX Go.Proofs
set_option maxRecDepth 1000000
set_option linter.unusedSectionVars false
abbrev bo : CT := .sc .bool
theorem mixed : Try.prog.follows .mixedOrders = true := by kernel_rfl
theorem names : NamesOk Try.prog := by
  have h : Try.prog.funcs.toList.all (fun fn => !(fn.name == "runtime.NumGoroutine")) = true := by kernel_rfl
  intro g fn hg
  have := List.all_eq_true.1 h fn (by rw [← Array.getElem?_toList] at hg; exact List.mem_of_getElem? hg)
  simpa using this
def noSig : Nat → Option Sig := fun _ => none
def noL : Nat → Option LSig := fun _ => none
@[reducible] noncomputable def E0 (xs : List Int) (ls : List (List Int)) : Env := envL Try.prog noSig noL xs ls
noncomputable abbrev base : Env := E0 [] []
def tl (n : Nat) : TV := ⟨true, 0, 255, n⟩
def tn (a b : Int) : TV := ⟨false, a, b, 0⟩
def tu (n : Nat) : TV := ⟨true, 0, 4294967295, n⟩
def clnF (g : FuncId) (k : Kd) (v : TV) (own : Bool) : FSig where
  vars := [v]
  g := g
  args := [.one (.sl true 0 (.c 0) (.ex (.ln (v.leaf 0))) 1)]
  st := [.row own 1 (.ex k (v.leaf 0))]
  inv := []
  wt := .stop 0 [v.leaf 0]
  nk := 1
  os := fun _ => [v]
  xres := fun _ => .one (.sl false 1 (.c 0) (.ex (.ln (v.leaf 0))) 1)
  xst := fun _ => [.row own 1 (.ex k (v.leaf 0)), .row true 1 (.ex k (v.leaf 0))]
def cks : List Kd := [.int .i64, .int .u32, .int .u32, .int .u32, .int .i64]
def calV : TV := ⟨true, -9223372036854775808, 9223372036854775807, 150⟩
def clnT (g : FuncId) (own : Bool) : FSig where
  vars := [tn 0 30, calV]
  g := g
  args := [.one (.sl true 0 (.c 0) (.ex ((tn 0 30).leaf 0)) 5)]
  st := [.row own 5 (.tb cks (calV.leaf 1))]
  inv := [.eq (.ln (calV.leaf 1)) (mulE 5 ((tn 0 30).leaf 0))]
  wt := .stop 0 [(tn 0 30).leaf 0, calV.leaf 1]
  nk := 1
  os := fun _ => [tn 0 30, calV]
  xres := fun _ => .one (.sl false 1 (.c 0) (.ex ((tn 0 30).leaf 0)) 5)
  xst := fun _ => [.row own 5 (.tb cks (calV.leaf 1)), .row true 5 (.tb cks (calV.leaf 1))]
def slv : List Nat := [9, 1, 7, 8, 2, 5, 6, 4]
def mS (j : Nat) : Nat := if j = 0 then 140737488351232 else 30
def bL3 : TV := ⟨true, 0, 1, 30⟩
def svs : List TV := [tl 140737488351232, tu 30, tu 30, bL3, tn 0 30, tn 0 30, tn 0 30, calV]
def vIn : E := (tl 140737488351232).leaf 0
def vK : E := (tu 30).leaf 1
def vR : E := (tu 30).leaf 2
def vL : E := bL3.leaf 3
def vc : E := (tn 0 30).leaf 4
def vr : E := (tn 0 30).leaf 5
def vi : E := (tn 0 30).leaf 6
def vT : E := calV.leaf 7
def slE (id : Nat) (o n : E) : Sc := .sl false id (.ex o) (.ex n) 1
def slZ (id : Nat) (n : E) : Sc := .sl false id (.c 0) (.ex n) 1
def ptA (id : Nat) : AV := .one (.ptr id (.c 0) 1 0 0)
def nI : Sc := .int .u32 (.c 0)
def fB : Sc := .bool (.c false)
def sFl : List (Nat × AV) := [(9, .one (.int .i64 (.ex vi))), (1, .one (slZ 3 (.ln vL))), (7, .one (.int .i64 (.ex vc))), (8, .one (.int .i64 (.ex vr))), (2, ptA 4), (5, ptA 5), (6, ptA 6), (4, .one fB)]
def sSt (n : E) : St := [.row false 1 (.ex (.int .u8) vIn), .row false 1 (.ex (.int .u32) vK), .row false 1 (.ex (.int .u32) vR), .row false 1 (.ex .bool vL),
  .row true 1 (.vals [slZ 0 (.ln vIn), slZ 1 (.ln vK), slZ 2 (.ln vR)]),
  .row true 1 (.vals [.ptr 7 (.c 0) 1 0 0, nI, nI, fB, fB, fB, nI, nI, fB, fB, fB]),
  .row true 1 (.vals [slZ 8 (.ln vIn), slE 9 vc (.mi (.ln vK) vc), slE 10 vr (.mi (.ln vR) vr), nI, nI, .nils, .sl false 11 (.c 0) (.ex n) 5]),
  .row true 1 (.vals [.mp 12]), .row true 1 (.ex (.int .u8) vIn), .row true 1 (.ex (.int .u32) vK), .row true 1 (.ex (.int .u32) vR), .row true 5 (.tb cks vT), .mapo []]
def srvL : TSig where
  vars := svs
  fn := 97
  fl := sFl
  st := sSt vi
  wt := .stop 0 []
  inv := [.eq (.ln vT) (mulE 5 vi), .lt vi (.pl (.ln vL) (.num 1)), .lt vc (.pl (.ln vK) (.num 1)), .lt vr (.pl (.ln vR) (.num 1))]
  mea := .mi (.ln vL) vi
  nk := 1
  os := fun _ => svs
  ex := fun _ => .exit 0
  xfl := fun _ => sFl
  xst := fun _ => sSt (.ln vL)
  gc := some (4, slv)
  xinv := fun _ => [.eq (.ln vT) (mulE 5 (.ln vL))]
def cfgS1 : Cfg := { lv := fun id => if id = 9 then some slv else none }
def sIn : List E := [.ls 0 .nl 0 255 140737488351232, .ls 1 .nl 0 4294967295 30, .ls 2 .nl 0 4294967295 30, .ls 3 .nl 0 1 30, .num 0, .num 0, .num 0, .nl]
def sKn : List EB := (srvL.xinv 0).map fun b => b.put svs (outTs 6401 (encTV svs sIn) [] sIn svs 0)
section
variable [Env]
abbrev env0 : FuncId → Option Con := fun _ => none
abbrev cfg0 : FuncId → Cfg := fun _ => {}
theorem envOk0 : EnvOk Try.prog env0 cfg0 := ⟨names, fun g c h => (by cases h), fun g fn c σ _ _ _ => LoopsOk.none (fun _ => rfl) c⟩
theorem sound0 (d : Nat) : CallSound Try.prog (callE Try.prog env0 cfg0 d) := call_sound mixed envOk0 d
theorem known10 : (callE Try.prog env0 cfg0 20 10 (argsOf []) (objsOf [])).good leafTrue [] = true := by kernel_rfl
def bF (own : Bool) : FSig := clnF 36 (.int .u8) (tl 140737488351232) own
def uF (own : Bool) : FSig := clnF 37 (.int .u32) (tu 1000) own
theorem runBt : fRun (callE Try.prog env0 cfg0 12) (bF true) = true := by kernel_rfl
theorem runBf : fRun (callE Try.prog env0 cfg0 12) (bF false) = true := by kernel_rfl
theorem runUt : fRun (callE Try.prog env0 cfg0 12) (uF true) = true := by kernel_rfl
theorem runUf : fRun (callE Try.prog env0 cfg0 12) (uF false) = true := by kernel_rfl
theorem runTt : fRun (callE Try.prog env0 cfg0 12) (clnT 42 true) = true := by kernel_rfl
theorem runTf : fRun (callE Try.prog env0 cfg0 12) (clnT 42 false) = true := by kernel_rfl
theorem nil36 : (callE Try.prog env0 cfg0 12 36 [.one .nils] []).run = some (.one .nils, []) := by kernel_rfl
theorem nil37 : (callE Try.prog env0 cfg0 12 37 [.one .nils] []).run = some (.one .nils, []) := by kernel_rfl
theorem nil42 : (callE Try.prog env0 cfg0 12 42 [.one .nils] []).run = some (.one .nils, []) := by kernel_rfl
abbrev trueCon (pts : List PT) : Con := pCon pts [.inl bo] (fun _ => .c true) fun _ => [.b (.c true)]
def envS : FuncId → Option Con := fun g => if g = 10 then some (trueCon []) else if g = 36 then some (cloneCon (bF true) (bF false)) else if g = 37 then some (cloneCon (uF true) (uF false)) else if g = 42 then some (cloneCon (clnT 42 true) (clnT 42 false)) else none
theorem trueCon_sound {g : FuncId} {pts : List PT} (hf : ∃ fn, Try.prog.funcs[g]? = some fn ∧ fn.body.isSome = true) (h : ∀ cvs, (∃ w vs, AllV w (flatT pts) cvs vs) → PureSem Try.prog g pts [.inl bo] cvs [.b true]) :
    ∀ args σ v σ', (trueCon pts args σ).run = some (v, σ') → Den Try.prog g args σ v σ' :=
  pCon_sound hf rfl fun cvs _ hh => ⟨rfl, h cvs hh⟩
end
theorem law10 (cvs : List CV) (h : ∃ w vs, AllV w (flatT []) cvs vs) : PureSem Try.prog 10 [] [.inl bo] cvs [.b true] :=
  law_canon (sig := noSig) (lsig := noL) (call := fun e => @callE e Try.prog env0 cfg0 20) (fun xs ls _ => @sound0 (E0 xs ls) 20) (fun _ _ => rfl) rfl (by decide) (fun e => @known10 e) cvs h
theorem cln {s : FSig} (e : Env) (hp : (s.inv.all (EB.putOk s.vars) && s.wt.ok s.vars) = true) (hr : ∀ [Env], fRun (callE Try.prog env0 cfg0 12) s = true) (hf : ∃ fn, Try.prog.funcs[s.g]? = some fn ∧ fn.body.isSome = true) :
    ∀ args σ v σ', @Out.run e _ (@frameCon 0 (@fCon e s []) args σ) = some (v, σ') → @Den e Try.prog s.g args σ v σ' :=
  @frameCon_sound e _ _ _ _ (fCon_sound (s := s) (call := fun e => @callE e Try.prog (@env0) cfg0 12) (fun xs => @sound0 (envT e xs) 12) hp (fun xs => @hr (envT e xs)) hf)
theorem envOkS [e : Env] : EnvOk Try.prog envS cfg0 := by
  refine ⟨names, fun g c h => ?_, fun g fn c σ _ _ _ => LoopsOk.none (fun _ => rfl) c⟩
  unfold envS at h
  split at h
  · rename_i e; subst e; cases h
    exact trueCon_sound ⟨_, Try.func10, rfl⟩ law10
  split at h
  · rename_i e; subst e; cases h
    exact cloneCon_sound (cln (s := bF true) _ (by kernel_rfl) runBt ⟨_, Try.func36, rfl⟩) (cln (s := bF false) _ (by kernel_rfl) runBf ⟨_, Try.func36, rfl⟩) (nil_den (sound0 12) nil36 rfl)
  split at h
  · rename_i e; subst e; cases h
    exact cloneCon_sound (cln (s := uF true) _ (by kernel_rfl) runUt ⟨_, Try.func37, rfl⟩) (cln (s := uF false) _ (by kernel_rfl) runUf ⟨_, Try.func37, rfl⟩) (nil_den (sound0 12) nil37 rfl)
  split at h
  · rename_i e; subst e; cases h
    exact cloneCon_sound (cln (s := clnT 42 true) _ (by kernel_rfl) runTt ⟨_, Try.func42, rfl⟩) (cln (s := clnT 42 false) _ (by kernel_rfl) runTf ⟨_, Try.func42, rfl⟩) (nil_den (sound0 12) nil42 rfl)
  · cases h
/-! The loop. -/
theorem roundS [Env] : roundA Try.prog (callE Try.prog envS cfg0 20) cfgS1 4 9 srvL (loopOf Try.prog 3 0) (knows srvL.inv) = true := by kernel_rfl
noncomputable def srvA : TSig := srvL.au base Try.prog (fun e => @callE e Try.prog (@envS e) cfg0 20) (fun _ => cfgS1) 4 9 (loopOf Try.prog 3 0)
theorem okS : TOk Try.prog base (fun e => @callE e Try.prog (@envS e) cfg0 20) (fun _ => cfgS1) 4 9 srvA (loopOf Try.prog 3 0) where
  sound xs := @call_sound (envT base xs) Try.prog _ _ mixed (@envOkS (envT base xs)) 20
  names := names
  mixed := mixed
  loops xs := @LoopsOk.none (envT base xs) _ _ _ (fun _ => rfl) _ (fun f h => by cases h)
  puts := by kernel_rfl
  big := by decide
  sem := fun h => by cases h
  round := fun h => by cases h
  roundA := fun g hg => ⟨rfl, (Option.some.inj hg).symm, fun xs hgd => ⟨_, @knows_ok (envT base xs) srvL.inv hgd.2, @roundS (envT base xs)⟩⟩
/-! The law. -/
noncomputable def rs1 (j : Nat) : Option (List Int → Nat × List (Int × List Int)) := if j = 100 then some (TmR base srvA) else none
@[reducible] noncomputable def E1 (xs : List Int) (ls : List (List Int)) : Env := envR rs1 (E0 xs ls)
abbrev u3L : CT := .lst [.int .u32]
abbrev ptsL : List PT := [.inr [.lst [.int .u8], u3L, u3L], .inl (.lst [.bool])]
section
variable [Env]
def cfgS2 : FuncId → Cfg := fun g => if g = 3 then { lv := fun id => if id = 9 then some slv else none, lc := fun id => if id = 9 then some (tmCon 100 srvL [] [(6, 5, 1000006)]) else none, ob := some 4 } else {}
theorem lists3 : (callE Try.prog envS cfgS2 20 3 (argsT mS 30 ptsL) (objsT mS 30 ptsL)).good leafTrue (knows sKn) = true := by kernel_rfl
theorem lists3l : ((longsT mS (fun j => j == 0) 30 (flatT ptsL) 0 0).all fun f => (callE Try.prog envS cfgS2 20 3 (argsT (fun _ => big) big ptsL) (objsT (fun _ => big) big ptsL)).good leafTrue (f.know true [])) = true := by kernel_rfl
theorem conS : tmCon 100 srvA [] [(6, 5, 1000006)] = tmCon 100 srvL [] [(6, 5, 1000006)] := by
  unfold srvA
  exact tmCon_au
end
theorem loops3 : loopsC ((Try.f3.body).getD .skip) = [(9, loopOf Try.prog 3 0)] := by kernel_rfl
theorem envOkL (xs : List Int) (ls : List (List Int)) : @EnvOk (E1 xs ls) Try.prog (@envS (E1 xs ls)) (@cfgS2 (E1 xs ls)) := by
  letI : Env := E1 xs ls
  refine ⟨names, envOkS.calls, fun g fn c σ _ hf hc => ?_⟩
  unfold cfgS2
  split
  · rename_i e; subst e
    rw [Try.func3] at hf
    cases hf
    refine LoopsOk.ob (n0 := 4) rfl σ fun p hp g' hg' => ?_
    have hb : Try.f3.body.getD .skip = c := by rw [hc]; rfl
    rw [← hb, loops3, List.mem_singleton] at hp
    subst hp
    have hg' : some (tmCon 100 srvL [] [(6, 5, 1000006)]) = some g' := hg'
    cases hg'
    rw [← conS]
    exact tmCon_sound (s := srvA) okS _ (by decide) (fun _ => show svs.length ≤ 60 by decide) (by kernel_rfl) rfl (fun p h => by cases h; rfl) (fun _ => .inl ⟨0, rfl⟩) (FnIs.R rfl).tm
  · exact LoopsOk.none (fun _ => rfl) c
theorem asksS [Env] : (match tvsAsk svs sIn with | some q => allAsk q [] | none => false) = true := by kernel_rfl
theorem invsS [Env] : allAsk (srvL.inv.map fun b => B.ex (b.put svs sIn)) [] = true := by kernel_rfl
theorem knowS (xs : List Int) (ls : List (List Int)) : ∀ b ∈ sKn, @EB.den (E1 xs ls) b = true := by
  letI : Env := E1 xs ls
  have h0 : Holds [] := fun f h => by cases h
  have ha := @asksS (E1 xs ls)
  cases hq : tvsAsk svs sIn with
  | none => rw [hq] at ha; cases ha
  | some q =>
    rw [hq] at ha
    intro b hb
    obtain ⟨c, hc, rfl⟩ := List.mem_map.1 hb
    exact exit_known (j := 100) (s := srvA) okS rfl (FnIs.R (rs := rs1) rfl) (by decide) (show svs.length ≤ 60 by decide) rfl rfl (by kernel_rfl) (by kernel_rfl) (l := sIn) rfl hq (allAsk_ok ha h0) (fun b hb => allAsk_ok invsS h0 (.ex (b.put svs sIn)) (List.mem_map.2 ⟨b, hb, rfl⟩)) c hc
theorem lst_E1 (xs : List Int) (ls : List (List Int)) (i : Nat) (hi : i < 16) : (E1 xs ls).lst i [] = ls.getD i [] := by
  have h0 : i / 64 = 0 := by omega
  exact (envR_none (rs := rs1) (by rw [h0]; rfl) []).2
theorem law3 (cvs : List CV) (h : ∃ w vs, AllV w (flatT ptsL) cvs vs) (hn : normV (flatT ptsL) cvs) (hs : ∀ xs, (listsOf cvs)[0]? = some xs → xs.length ≤ 140737488351232) : PureSem Try.prog 3 ptsL [.inl bo] cvs [.b true] :=
  law_canonN mS (fun j => j == 0) 30 (call := fun e => @callE e Try.prog (@envS e) (@cfgS2 e) 20) (env := E1) (by decide) (fun xs ls => ⟨fun i => rfl, fun i hi => lst_E1 xs ls i hi⟩)
    (fun xs ls => @call_sound (E1 xs ls) Try.prog _ _ mixed (envOkL xs ls) 20) (by kernel_rfl) (by decide) (fun xs ls _ => ⟨_, @knows_ok (E1 xs ls) sKn (knowS xs ls), @lists3 (E1 xs ls)⟩) (fun e => @lists3l e) cvs h hn fun k xs h1 h2 => by
      have : k = 0 := eq_of_beq h1
      subst this
      exact hs xs h2
end Go.SX.Srv
