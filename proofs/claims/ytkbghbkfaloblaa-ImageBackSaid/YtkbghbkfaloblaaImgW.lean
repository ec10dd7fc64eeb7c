/- ImageBack: pieces' code as a list, pieces' image: contracts. -/
import Derived.Test.YtkbghbkfaloblaaImgV1
import Derived.Test.YtkbghbkfaloblaaImgV2
namespace Go.SX.Img
open Go Go.SX Go.Proofs
set_option maxRecDepth 1000000
set_option linter.unusedSectionVars false
theorem codeAll [Env] (h : Holds (knows codeL.inv)) : ∃ fs, Holds fs ∧ codeRun fs = true := by
  cases q5 : (kQ 5).den with
  | true => exact ⟨_, know_ok q5 h, code5⟩
  | false =>
  cases q6 : (kQ 6).den with
  | true => exact ⟨_, know_ok q6 h, code6⟩
  | false =>
  cases q7 : (kQ 7).den with
  | true => exact ⟨_, know_ok q7 h, code7⟩
  | false =>
  cases q8 : (kQ 8).den with
  | true => exact ⟨_, know_ok q8 h, code8⟩
  | false =>
  cases q9 : (kQ 9).den with
  | true => exact ⟨_, know_ok q9 h, code9⟩
  | false => exact ⟨_, know_ok q9 (know_ok q8 (know_ok q7 (know_ok q6 (know_ok q5 h)))), code0⟩
theorem loops18 : loopsC ((Try.f18.body).getD .skip) = [(4, loopOf Try.prog 18 0), (15, loopOf Try.prog 18 1), (19, loopOf Try.prog 18 2), (37, loopOf Try.prog 18 3)] := by kernel_rfl
theorem loops180 : loopsC (loopOf Try.prog 18 0) = [(15, loopOf Try.prog 18 1), (19, loopOf Try.prog 18 2)] := by kernel_rfl
theorem nopOk (e : Env) (h : G1 e) : @LoopOk e Try.prog 1 (loopOf Try.prog 18 1) (@tmCon e 110 nopL [(6, .inl 5), (7, .inr .nl)] []) :=
  tmCon_sound okNop _ (by decide) (fun _ => show nvs.length ≤ 60 by decide) (by kernel_rfl) (by kernel_rfl) (fun _ => .inl ⟨3, rfl⟩) h.nop.tm
theorem momOk (e : Env) (h : G1 e) : @LoopOk e Try.prog 1 (loopOf Try.prog 18 2) (@tmCon e 111 momL [(9, .inl 5), (10, .inr .nl)] []) :=
  tmCon_sound okMom _ (by decide) (fun _ => show mvs.length ≤ 60 by decide) (by kernel_rfl) (by kernel_rfl) (fun _ => .inl ⟨5, rfl⟩) h.mom.tm
noncomputable def codeA : TSig := codeL.au base1 Try.prog (fun e => @callE e Try.prog (@envCo e) cfg0 12) (@cfC1) 1 4 (loopOf Try.prog 18 0)
theorem okCode : TOk Try.prog base1 (fun e => @callE e Try.prog (@envCo e) cfg0 12) (@cfC1) 1 4 codeA (loopOf Try.prog 18 0) where
  sound xs := @call_sound (envT base1 xs) Try.prog _ _ mixed (@envOkCo (envT base1 xs) ((g1_E1 [] []).T xs)) 12
  names := names
  mixed := mixed
  loops xs := @LoopsOk.of (envT base1 xs) _ _ _ _ (fun p hp g' hg' => by
    rw [loops180] at hp
    rcases List.mem_cons.1 hp with rfl | hp
    · have hg' : some (@tmCon (envT base1 xs) 110 nopL [(6, .inl 5), (7, .inr .nl)] []) = some g' := hg'
      cases hg'
      exact nopOk _ ((g1_E1 [] []).T xs)
    · have := List.mem_singleton.1 hp
      subst this
      have hg' : some (@tmCon (envT base1 xs) 111 momL [(9, .inl 5), (10, .inr .nl)] []) = some g' := hg'
      cases hg'
      exact momOk _ ((g1_E1 [] []).T xs)) (fun f h => by cases h)
  puts := by kernel_rfl
  big := by decide
  sem := fun h => by cases h
  round := fun h => by cases h
  roundA := fun g hg => ⟨rfl, (Option.some.inj hg).symm, fun xs hgd => @codeAll (envT base1 xs) (@knows_ok (envT base1 xs) codeL.inv hgd.2)⟩
/-! The function. -/
noncomputable def rs2 (j : Nat) : Option (List Int → Nat × List (Int × List Int)) := if j = 112 then some (TmR base1 codeA) else none
@[reducible] noncomputable def E2 (xs : List Int) (ls : List (List Int)) : Env := envR rs2 (E1 xs ls)
structure G2 (e : Env) : Prop extends G1 e where
  code : FnIs e 112 (TmR base1 codeA)
theorem G2.T {e : Env} (h : G2 e) (xs : List (Int × List Int)) : G2 (envT e xs) := ⟨h.toG1.T xs, h.code.T (by decide) xs⟩
theorem g2_E2 (xs : List Int) (ls : List (List Int)) : G2 (E2 xs ls) := ⟨(g1_E1 xs ls).over ⟨rfl, rfl, rfl, rfl, rfl, rfl, rfl⟩, FnIs.R rfl⟩
noncomputable abbrev base2 : Env := E2 [] []
section
variable [Env]
def cfC2 : Cfg := { lv := cfLv, lc := fun id => if id = 4 then some (tmCon 112 codeL [] [(5, 1, 1)]) else if id = 37 then some (tmCon 113 hltL [] []) else none, ob := some 1 }
def cfgC : FuncId → Cfg := fun g => if g = 18 then cfC2 else {}
end
def codeX : FSig where
  vars := [tn 0 25, tL, tn 0 1]
  g := 18
  args := [.one (.sl false 0 (.c 0) (.ex cN) 4), .one (.bool (.ex (.eq cD (.num 1))))]
  st := [.row false 4 (.tb pks cL)]
  inv := [.eq (.ln cL) (mulE 4 cN)]
  wt := .stop 0 []
  nk := 1
  os := fun _ => [tl 4000]
  xres := fun _ => .one (.sl false 1 (.c 0) (.ex (.ln ((tl 4000).leaf 0))) 1)
  xst := fun _ => [.dead, .row true 1 (.ex (.int .u8) ((tl 4000).leaf 0))]
theorem conCode [Env] : tmCon 112 codeA [] [(5, 1, 1)] = tmCon 112 codeL [] [(5, 1, 1)] := by
  unfold codeA
  exact tmCon_au
theorem conHlt [Env] : tmCon 113 hltA [] [] = tmCon 113 hltL [] [] := by
  unfold hltA
  exact tmCon_au
theorem envOkC [e : Env] (h : G2 e) : EnvOk Try.prog env0 cfgC := by
  refine ⟨names, fun g c h => (by cases h), fun g fn c σ _ hf hc => ?_⟩
  unfold cfgC
  split
  · rename_i e; subst e
    rw [Try.func18] at hf
    cases hf
    refine LoopsOk.ob (n0 := 1) rfl σ fun p hp g' hg' => ?_
    have hb : Try.f18.body.getD .skip = c := by rw [hc]; rfl
    rw [← hb, loops18] at hp
    rcases List.mem_cons.1 hp with rfl | hp
    · have hg' : some (tmCon 112 codeL [] [(5, 1, 1)]) = some g' := hg'
      cases hg'
      rw [← conCode]
      exact tmCon_sound (s := codeA) okCode _ (by decide) (fun _ => show ([tn 0 4000, tl 3400] : List TV).length ≤ 60 by decide) (by kernel_rfl) rfl (fun _ => .inl ⟨0, rfl⟩) h.code.tm
    rcases List.mem_cons.1 hp with rfl | hp
    · have hg' : (none : Option (Fr → St → Out (Ex × Fr × St))) = some g' := hg'
      cases hg'
    rcases List.mem_cons.1 hp with rfl | hp
    · have hg' : (none : Option (Fr → St → Out (Ex × Fr × St))) = some g' := hg'
      cases hg'
    · have := List.mem_singleton.1 hp
      subst this
      have hg' : some (tmCon 113 hltL [] []) = some g' := hg'
      cases hg'
      rw [← conHlt]
      exact tmCon_sound (s := hltA) okHlt _ (by decide) (fun _ => show ([tl 4000] : List TV).length ≤ 60 by decide) (by kernel_rfl) rfl (fun _ => .inl ⟨7, rfl⟩) h.hlt.tm
  · exact LoopsOk.none (fun _ => rfl) c
theorem runCode [Env] : fxRun (callE Try.prog env0 cfgC 12) codeX (knows codeX.inv) = true := by kernel_rfl
noncomputable def codeR : List Int → Nat × List (Int × List Int) := FxR base2 (fun e => @callE e Try.prog (@env0) (@cfgC e) 12) codeX
theorem codeX_sound (e : Env) (h : FnIs e 114 codeR) : ∀ args σ v σ', @Out.run e _ (@frameCon 0 (@fxCon e 114 codeX []) args σ) = some (v, σ') → @Den e Try.prog 18 args σ v σ' :=
  @frameCon_sound e _ _ _ _ (fxCon_sound (base := base2) (s := codeX) (call := fun e => @callE e Try.prog (@env0) (@cfgC e) 12) (fun xs => @call_sound (envT base2 xs) Try.prog _ _ mixed (@envOkC (envT base2 xs) ((g2_E2 [] []).T xs)) 12) (by kernel_rfl) (by decide) (fun _ => show ([tl 4000] : List TV).length ≤ 60 by decide)
    (fun xs _ hk => ⟨_, hk, @runCode (envT base2 xs)⟩) ⟨_, Try.func18, rfl⟩ h)
/-! The image. -/
noncomputable def rs3 (j : Nat) : Option (List Int → Nat × List (Int × List Int)) := if j = 114 then some codeR else none
@[reducible] noncomputable def E3 (xs : List Int) (ls : List (List Int)) : Env := envR rs3 (E2 xs ls)
structure G3 (e : Env) : Prop extends G2 e where
  cod : FnIs e 114 codeR
theorem G3.T {e : Env} (h : G3 e) (xs : List (Int × List Int)) : G3 (envT e xs) := ⟨h.toG2.T xs, h.cod.T (by decide) xs⟩
theorem g3_E3 (xs : List Int) (ls : List (List Int)) : G3 (E3 xs ls) := ⟨⟨(g2_E2 xs ls).toG1.over ⟨rfl, rfl, rfl, rfl, rfl, rfl, rfl⟩, (g2_E2 xs ls).code.over rfl⟩, FnIs.R rfl⟩
noncomputable abbrev base3 : Env := E3 [] []
def u32V : TV := tn 0 4294967295
def ivs : List TV := [tl 4000, tl 200, u32V, u32V, u32V]
def imC : E := (tl 4000).leaf 0
def imD : E := (tl 200).leaf 1
def imB : E := u32V.leaf 2
def imS : E := u32V.leaf 3
def imN : E := u32V.leaf 4
def imgA : AV := .agg [.sl false 0 (.c 0) (.ex (.ln imC)) 1, .sl false 1 (.c 0) (.ex (.ln imD)) 1, .int .u32 (.ex imB), .int .u32 (.ex imS), .int .u32 (.ex imN)]
def imgSt : St := [.row false 1 (.ex (.int .u8) imC), .row false 1 (.ex (.int .u8) imD)]
def fvs : List TV := [tn 0 25, tL, tn 0 1, tl 200, tn 0 65535, tn 0 65535, tn 0 255]
def fD : E := (tl 200).leaf 3
def imaS : FSig where
  vars := fvs
  g := 8
  args := [.one (.sl false 0 (.c 0) (.ex cN) 4), .one (.bool (.ex (.eq cD (.num 1)))), .one (.sl false 1 (.c 0) (.ex (.ln fD)) 1), intA .u16 ((tn 0 65535).leaf 4), intA .u16 ((tn 0 65535).leaf 5), intA .u8 ((tn 0 255).leaf 6)]
  st := [.row false 4 (.tb pks cL), .row false 1 (.ex (.int .u8) fD)]
  inv := [.eq (.ln cL) (mulE 4 cN)]
  wt := .stop 0 []
  nk := 1
  os := fun _ => ivs
  xres := fun _ => .agg [.sl false 2 (.c 0) (.ex (.ln imC)) 1, .sl false 1 (.c 0) (.ex (.ln imD)) 1, .int .u32 (.ex imB), .int .u32 (.ex imS), .int .u32 (.ex imN)]
  xst := fun _ => [.dead, .row false 1 (.ex (.int .u8) imD), .row true 1 (.ex (.int .u8) imC)]
section
variable [Env]
def envIm : FuncId → Option Con := fun g => if g = 18 then some (frameCon 0 (fxCon 114 codeX [])) else none
theorem runIma : fxRun (callE Try.prog envIm cfg0 12) imaS (knows imaS.inv) = true := by kernel_rfl
end
theorem envOkIm [e : Env] (h : G3 e) : EnvOk Try.prog envIm cfg0 := by
  refine ⟨names, fun g c hg => ?_, fun g fn c σ _ _ _ => LoopsOk.none (fun _ => rfl) c⟩
  unfold envIm at hg
  split at hg
  · rename_i e; subst e; cases hg
    exact codeX_sound _ h.cod
  · cases hg
noncomputable def imaR : List Int → Nat × List (Int × List Int) := FxR base3 (fun e => @callE e Try.prog (@envIm e) cfg0 12) imaS
theorem imaS_sound (e : Env) (h : FnIs e 115 imaR) : ∀ args σ v σ', @Out.run e _ (@frameCon 0 (@fxCon e 115 imaS []) args σ) = some (v, σ') → @Den e Try.prog 8 args σ v σ' :=
  @frameCon_sound e _ _ _ _ (fxCon_sound (base := base3) (s := imaS) (call := fun e => @callE e Try.prog (@envIm e) cfg0 12) (fun xs => @call_sound (envT base3 xs) Try.prog _ _ mixed (@envOkIm (envT base3 xs) ((g3_E3 [] []).T xs)) 12) (by kernel_rfl) (by decide) (fun _ => show ivs.length ≤ 60 by decide)
    (fun xs _ hk => ⟨_, hk, @runIma (envT base3 xs)⟩) ⟨_, Try.func8, rfl⟩ h)
end Go.SX.Img
