/- What bytes of an instruction's kind are, and that both readers give the same of all bytes: for the laws of the reader. -/
import Derived.Test.YtcldncojpmljhaaSxK
import Derived.Test.YtcldncojpmljhaaOneC
namespace Go.SX.One
open Go Go.SX Go.Proofs
set_option maxRecDepth 1000000
set_option linter.unusedSectionVars false
def bytesPts : List PT := [.inl u8, .inl u8, .inl u3]
def sigB : LSig := ⟨11, bytesPts, .u8, 15, fun _ => True, 13⟩
def lsigs (j : Nat) : Option LSig := if j = 100 then some sigB else none
@[reducible] noncomputable def E0 (xs : List Int) (ls : List (List Int)) : Env := envL Try.prog sigs lsigs xs ls
def q4 : EB := .eq (.op .rem .u32 (.nm 2 0 4294967295) (.num 4)) (.num 0)
def shapeB (l : List Sc) : Bool := decide (13 ≤ l.length) && decide (l.length ≤ 15)
section
variable [Env]
noncomputable def bytesRun (fs : List Fk) : Bool := (callE Try.prog env0 cfg0 12 11 (argsOf bytesPts) (objsOf bytesPts)).good (leafL .u8 shapeB) fs
theorem bytes0 : bytesRun (q4.know true []) = true := by kernel_rfl
theorem bytes1 : bytesRun (q4.know false []) = true := by kernel_rfl
theorem known10 : (callE Try.prog env0 cfg0 12 10 (argsOf []) (objsOf [])).good leafTrue [] = true := by kernel_rfl
theorem same12 : (callE Try.prog envD cfg0 12 12 (argsOf [bytesT]) (objsOf [bytesT])).good leafTrue [] = true := by kernel_rfl
end
theorem hasBytes (cvs : List CV) (h : ∃ w vs, AllV w (flatT sigB.pts) cvs vs) : HasL Try.prog sigB cvs := by
  obtain ⟨w, vs, h⟩ := h
  letI : Env := E0 (namesOf cvs) (listsOf cvs)
  have h0 : Holds [] := fun f h => by cases h
  have hw : ∃ fs, Holds fs ∧ bytesRun fs = true := by
    cases h1 : q4.den with
    | true => exact ⟨_, know_ok h1 h0, bytes0⟩
    | false => exact ⟨_, know_ok h1 h0, bytes1⟩
  obtain ⟨fs, hf, hr⟩ := hw
  refine hasL_of_good (sound0 12) (s := sigB) (rpsOf (flatT bytesPts) 0 0) hf rfl ?_ (ok := shapeB) (fun l hl => ?_) hr
  · refine rpsOf_cvs rfl h (fun k hk => by rw [Nat.zero_add]; rfl) fun k hk => ?_
    have : listsOf cvs = [] := by
      obtain ⟨a, r, vr, rfl, _, h⟩ := AllV.int (ts := [u8, u3]) h
      obtain ⟨b, r, vr, rfl, _, h⟩ := AllV.int (ts := [u3]) h
      obtain ⟨c, r, vr, rfl, _, h⟩ := AllV.int (ts := []) h
      obtain rfl := AllV.nil h
      rfl
    rw [this] at hk; simp at hk
  · unfold shapeB at hl
    rw [Bool.and_eq_true, decide_eq_true_eq, decide_eq_true_eq] at hl
    exact ⟨hl, True.intro⟩
theorem happ28 (xs : List Int) (ls : List (List Int)) : ∀ i l, i < 64 → (E0 xs ls).app (64 * 28 + i) l = (Res Try.prog sigRM l).getD i 0 := fun i l hi => envL_app (s := sigRM) rfl i l hi
theorem happ13 (xs : List Int) (ls : List (List Int)) : ∀ i l, i < 64 → (E0 xs ls).app (64 * 13 + i) l = (Res Try.prog sigOne l).getD i 0 := fun i l hi => envL_app (s := sigOne) rfl i l hi
theorem soundD (xs : List Int) (ls : List (List Int)) (d : Nat) : @CallSound (E0 xs ls) Try.prog (@callE (E0 xs ls) Try.prog (@envD (E0 xs ls)) cfg0 d) :=
  @call_sound (E0 xs ls) Try.prog _ _ mixed (@envOkD (E0 xs ls) (happ28 xs ls) (happ13 xs ls)) d
theorem lsigs16 : ∀ i, i < 16 → lsigs i = none := fun i hi => if_neg (by omega)
theorem law12 (cvs : List CV) (h : ∃ w vs, AllV w (flatT [bytesT]) cvs vs) : PureSem Try.prog 12 [bytesT] [.inl bo] cvs [.b true] :=
  law_canon (lsig := lsigs) (call := fun e => @callE e Try.prog (@envD e) cfg0 12) (fun xs ls _ => soundD xs ls 12) lsigs16 rfl (by decide) (fun e => @same12 e) cvs h
theorem law10 (cvs : List CV) (h : ∃ w vs, AllV w (flatT []) cvs vs) : PureSem Try.prog 10 [] [.inl bo] cvs [.b true] :=
  law_canon (sig := sigs) (lsig := lsigs) (call := fun e => @callE e Try.prog env0 cfg0 12) (fun xs ls _ => @sound0 (E0 xs ls) 12) lsigs16 rfl (by decide) (fun e => @known10 e) cvs h
section
variable [Env]
abbrev trueCon (pts : List PT) : Con := pCon pts [.inl bo] (fun _ => .c true) fun _ => [.b (.c true)]
theorem trueCon_sound {g : FuncId} {pts : List PT} (hf : ∃ fn, Try.prog.funcs[g]? = some fn ∧ fn.body.isSome = true) (h : ∀ cvs, (∃ w vs, AllV w (flatT pts) cvs vs) → PureSem Try.prog g pts [.inl bo] cvs [.b true]) :
    ∀ args σ v σ', (trueCon pts args σ).run = some (v, σ') → Den Try.prog g args σ v σ' :=
  pCon_sound hf rfl fun cvs _ hh => ⟨rfl, h cvs hh⟩
def envT : FuncId → Option Con := fun g =>
  if g = 10 then some (trueCon []) else if g = 12 then some (trueCon [bytesT]) else if g = 11 then some (xCon 100 sigB) else none
end
theorem envOkT (e : Env) (h1 : ∀ l, e.lst 100 l = (ResL Try.prog sigB l).drop 13) (h2 : ∀ i l, i < 13 → e.app (64 * 100 + i) l = (ResL Try.prog sigB l).getD i 0) : @EnvOk e Try.prog (@envT e) cfg0 := by
  letI : Env := e
  refine ⟨names, fun g c h => ?_, fun g fn c σ _ _ _ => LoopsOk.none (fun _ => rfl) c⟩
  unfold envT at h
  split at h
  · rename_i e; subst e; cases h
    exact trueCon_sound ⟨_, Try.func10, rfl⟩ law10
  · split at h
    · rename_i e; subst e; cases h
      exact trueCon_sound ⟨_, Try.func12, rfl⟩ law12
    · split at h
      · rename_i e; subst e; cases h
        exact xCon_sound (s := sigB) ⟨_, Try.func11, rfl⟩ rfl (by decide) h1 h2 hasBytes
      · cases h
theorem lst100 (xs : List Int) (ls : List (List Int)) (l : List Int) : (E0 xs ls).lst 100 l = (ResL Try.prog sigB l).drop 13 := envL_lst (P := Try.prog) (sig := sigs) (lsig := lsigs) (xs := xs) (ls := ls) (j := 100) (s := sigB) rfl l
theorem app100 (xs : List Int) (ls : List (List Int)) (i : Nat) (l : List Int) (hi : i < 13) : (E0 xs ls).app (64 * 100 + i) l = (ResL Try.prog sigB l).getD i 0 := envL_appL (s := sigB) rfl rfl i l (by omega)
theorem soundT (xs : List Int) (ls : List (List Int)) (d : Nat) : @CallSound (E0 xs ls) Try.prog (@callE (E0 xs ls) Try.prog (@envT (E0 xs ls)) cfg0 d) :=
  @call_sound (E0 xs ls) Try.prog _ _ mixed (envOkT (E0 xs ls) (lst100 xs ls) (app100 xs ls)) d
end Go.SX.One
