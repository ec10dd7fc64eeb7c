/- ImageBack: an image's bytes, by both; what they are read as. -/
import Derived.Test.YtkbghbkfaloblaaImgW
namespace Go.SX.Img
open Go Go.SX Go.Proofs
set_option maxRecDepth 1000000
set_option linter.unusedSectionVars false
def b4 (x r : E) : E := .cn (E.mkWr .u8 x) (.cn (E.mkWr .u8 (.op .shr .u32 x (.num 8))) (.cn (E.mkWr .u8 (.op .shr .u32 x (.num 16))) (.cn (E.mkWr .u8 (.op .shr .u32 x (.num 24))) r)))
def hdrE (r : E) : E := .cn (.num 83) (.cn (.num 65) (.cn (.num 76) (.cn (.num 84) (.cn (.num 1) (.cn (.num 0) (.cn (.num 0) (.cn (.num 0) (b4 (.ln imC) (b4 (.ln imD) (b4 imB (b4 imS (b4 imN r))))))))))))
def encS : E := .cn (.num 1) (.cn (.num 0) (.cn (.num 0) (.cn (.ln (hdrE (.cc imC imD))) (hdrE (.cc imC imD)))))
def sumF (i : Nat) : E := .ap (12800 + i) encS 0 65520
def sumI : E := .op .or .u32 (.op .shl .u32 (sumF 2) (.num 16)) (sumF 1)
def imgRow : E := hdrE (.cc imC (.cc imD (b4 sumI .nl)))
def rightT (y n : WT) : WT := .br (.lt (.ln imC) (.num 1)) n (.br (.lt (.num 262144) imB) n (.br (.lt imS (.num 64)) n (.br (.lt (.num 65536) imS) n (.br (.eq (.op .rem .u32 imS (.num 4)) (.num 0)) (.br (.lt imN (.ln imC)) (.br (.eq (.op .rem .u32 imN (.num 32)) (.num 0)) y n) n) n))))
def rightI : List EB := [.lt (.num 0) (.ln imC), .lt imB (.num 262145), .lt (.num 63) imS, .lt imS (.num 65537), .eq (.op .rem .u32 imS (.num 4)) (.num 0), .lt imN (.ln imC), .eq (.op .rem .u32 imN (.num 32)) (.num 0)]
def imgLen : E := .pl (.pl (.pl (.num 28) (.ln imC)) (.ln imD)) (.num 4)
def putS (g : FuncId) : FSig where
  vars := ivs
  g := g
  args := [imgA]
  st := imgSt
  inv := []
  wt := rightT (.stop 0 [imC, imD, imB, imS, imN]) (.stop 1 [imC, imD])
  nk := 2
  os := fun q => if q = 0 then ivs else [tl 4000, tl 200]
  xres := fun q => if q = 0 then .tup [.inl (.sl false 2 (.c 0) (.ex imgLen) 1), .inl (.int .i64 (.c 0))] else .tup [.inl .nils, .inl (.int .i64 (.c 23))]
  xst := fun q => if q = 0 then imgSt ++ [.row true 1 (.ex (.int .u8) imgRow)] else imgSt
def parS : FSig where
  vars := ivs
  g := 13
  args := [.one (.sl false 0 (.c 0) (.ex imgLen) 1)]
  st := [.row false 1 (.ex (.int .u8) imgRow)]
  inv := rightI
  wt := .stop 0 [imC, imD, imB, imS, imN]
  nk := 1
  os := fun _ => ivs
  xres := fun _ => .tup [.inr [.sl false 1 (.c 0) (.ex (.ln imC)) 1, .sl false 2 (.c 0) (.ex (.ln imD)) 1, .int .u32 (.ex imB), .int .u32 (.ex imS), .int .u32 (.ex imN)], .inl (.int .i64 (.c 0))]
  xst := fun _ => [.row false 1 (.ex (.int .u8) imgRow), .row true 1 (.ex (.int .u8) imC), .row true 1 (.ex (.int .u8) imD)]
def zvs : List TV := [tl 200, u32V, u32V, u32V]
def zD : E := (tl 200).leaf 0
/-- of no code -/
def putZ (g : FuncId) : FSig where
  vars := zvs
  g := g
  args := [.agg [.nils, .sl false 0 (.c 0) (.ex (.ln zD)) 1, .int .u32 (.ex (u32V.leaf 1)), .int .u32 (.ex (u32V.leaf 2)), .int .u32 (.ex (u32V.leaf 3))]]
  st := [.row false 1 (.ex (.int .u8) zD)]
  inv := []
  wt := .stop 0 [zD]
  nk := 1
  os := fun _ => [tl 200]
  xres := fun _ => .tup [.inl .nils, .inl (.int .i64 (.c 23))]
  xst := fun _ => [.row false 1 (.ex (.int .u8) zD)]
def nilFst : List AV → Bool
  | [.agg (.nils :: _)] => true
  | _ => false
section
variable [Env]
def cfgSm : FuncId → Cfg := fun g => if g = 17 then { lc := fun id => if id = 3 then some (wCon 200 4 wP) else none } else if g = 15 then { lc := fun id => if id = 3 then some (wCon 200 4 wR) else none } else {}
def putCon (g : FuncId) : Con := altCon nilFst (frameCon 0 (fCon (putZ g) [])) (frameCon 0 (fCon (putS g) []))
theorem run9 : fRun (callE Try.prog env0 cfgSm 12) (putS 9) = true := by kernel_rfl
theorem run10 : fRun (callE Try.prog env0 cfgSm 12) (putS 10) = true := by kernel_rfl
theorem run13 : fRun (callE Try.prog env0 cfgSm 12) parS = true := by kernel_rfl
theorem run9z : fRun (callE Try.prog env0 cfgSm 12) (putZ 9) = true := by kernel_rfl
theorem run10z : fRun (callE Try.prog env0 cfgSm 12) (putZ 10) = true := by kernel_rfl
end
theorem loops17' : loopsC ((Try.f17.body).getD .skip) = [(3, loopOf Try.prog 17 0)] := by kernel_rfl
theorem loops15' : loopsC ((Try.f15.body).getD .skip) = [(3, loopOf Try.prog 15 0)] := by kernel_rfl
theorem envOkSm [e : Env] (h : ∀ i l, i < 64 → e.app (64 * 200 + i) l = (Wh base wR l).getD i 0) : EnvOk Try.prog env0 cfgSm := by
  refine ⟨names, fun g c h => (by cases h), fun g fn c σ _ hf hc => ?_⟩
  unfold cfgSm
  split
  · rename_i e; subst e
    rw [Try.func17] at hf
    cases hf
    refine LoopsOk.of fun p hp g' hg' => ?_
    have hb : Try.f17.body.getD .skip = c := by rw [hc]; rfl
    rw [← hb, loops17', List.mem_singleton] at hp
    subst hp
    simp only [if_true, Option.some.injEq] at hg'
    subst hg'
    exact wCon_sound (j := 200) okP _ (by decide) (by decide) 4 (resP _ h) _
  · split
    · rename_i e; subst e
      rw [Try.func15] at hf
      cases hf
      refine LoopsOk.of fun p hp g' hg' => ?_
      have hb : Try.f15.body.getD .skip = c := by rw [hc]; rfl
      rw [← hb, loops15', List.mem_singleton] at hp
      subst hp
      simp only [if_true, Option.some.injEq] at hg'
      subst hg'
      exact wCon_sound (j := 200) okR _ (by decide) (by decide) 4 (res_own rfl h) _
    · exact LoopsOk.none (fun _ => rfl) c
theorem soundSm (e : Env) (h : ∀ i l, i < 64 → e.app (64 * 200 + i) l = (Wh base wR l).getD i 0) (xs : List (Int × List Int)) : @CallSound (envT e xs) Try.prog (@callE (envT e xs) Try.prog (@env0) (@cfgSm (envT e xs)) 12) :=
  @call_sound (envT e xs) Try.prog _ _ mixed (@envOkSm (envT e xs) h) 12
section
variable (e : Env) (h : ∀ i l, i < 64 → e.app (64 * 200 + i) l = (Wh base wR l).getD i 0)
include h
theorem put9_sound : ∀ args σ v σ', @Out.run e _ (@putCon e 9 args σ) = some (v, σ') → @Den e Try.prog 9 args σ v σ' :=
  @altCon_sound e _ _ _ _ _ (@frameCon_sound e _ _ _ _ (fCon_sound (s := putZ 9) (call := fun e => @callE e Try.prog (@env0) (@cfgSm e) 12) (soundSm e h) (by kernel_rfl) (fun xs => @run9z (envT e xs)) ⟨_, Try.func9, rfl⟩))
    (@frameCon_sound e _ _ _ _ (fCon_sound (s := putS 9) (call := fun e => @callE e Try.prog (@env0) (@cfgSm e) 12) (soundSm e h) (by kernel_rfl) (fun xs => @run9 (envT e xs)) ⟨_, Try.func9, rfl⟩))
theorem put10_sound : ∀ args σ v σ', @Out.run e _ (@putCon e 10 args σ) = some (v, σ') → @Den e Try.prog 10 args σ v σ' :=
  @altCon_sound e _ _ _ _ _ (@frameCon_sound e _ _ _ _ (fCon_sound (s := putZ 10) (call := fun e => @callE e Try.prog (@env0) (@cfgSm e) 12) (soundSm e h) (by kernel_rfl) (fun xs => @run10z (envT e xs)) ⟨_, Try.func10, rfl⟩))
    (@frameCon_sound e _ _ _ _ (fCon_sound (s := putS 10) (call := fun e => @callE e Try.prog (@env0) (@cfgSm e) 12) (soundSm e h) (by kernel_rfl) (fun xs => @run10 (envT e xs)) ⟨_, Try.func10, rfl⟩))
theorem par_sound : ∀ args σ v σ', @Out.run e _ (@frameCon 0 (@fCon e parS []) args σ) = some (v, σ') → @Den e Try.prog 13 args σ v σ' :=
  @frameCon_sound e _ _ _ _ (fCon_sound (s := parS) (call := fun e => @callE e Try.prog (@env0) (@cfgSm e) 12) (soundSm e h) (by kernel_rfl) (fun xs => @run13 (envT e xs)) ⟨_, Try.func13, rfl⟩)
end
end Go.SX.Img
