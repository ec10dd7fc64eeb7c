/- CondTurns: true, whatever the input, where the table is as it is laid. -/
import Derived.Test.YtlcjkmedbgaaeaaDoorCndA
namespace Go.SX.Cnd
open Go Go.SX Go.Proofs Go.Proofs.YtlcjkmedbgaaeaaDoor
set_option maxRecDepth 1000000
set_option linter.unusedSectionVars false
/-- a bool by its name -/
abbrev nb (i : Nat) : Rp := .b (.ex (.eq (.nm i 0 1) (.num 1)))
abbrev flR (i : Nat) : List Rp := [nb i, nb (i + 1), nb (i + 2), nb (i + 3), nb (i + 4), nb (i + 5)]
/-- numbers by names -/
@[reducible] def EvN (xs : List Int) : Env := ⟨fun i => xs.getD i 0, fun _ _ => 0, fun _ _ => []⟩
theorem nb_den (b : Bool) : (clampI 0 1 (if b then 1 else 0) == (1 : Int)) = b := by cases b <;> rfl
def bn (b : Bool) : Int := if b then 1 else 0
theorem flags_of {w : World} {cvs : List CV} {vs : List Value} (h : AllV w (flatT [flagsT]) cvs vs) : ∃ c p z s o d : Bool, cvs = [.b c, .b p, .b z, .b s, .b o, .b d] := by
  obtain ⟨c, r1, v1, e1, h1⟩ := AllV.bool (ts := [bo, bo, bo, bo, bo]) h
  obtain ⟨p, r2, v2, e2, h2⟩ := AllV.bool (ts := [bo, bo, bo, bo]) h1
  obtain ⟨z, r3, v3, e3, h3⟩ := AllV.bool (ts := [bo, bo, bo]) h2
  obtain ⟨s, r4, v4, e4, h4⟩ := AllV.bool (ts := [bo, bo]) h3
  obtain ⟨o, r5, v5, e5, h5⟩ := AllV.bool (ts := [bo]) h4
  obtain ⟨d, r6, v6, e6, h6⟩ := AllV.bool (ts := []) h5
  have e7 := AllV.nil h6
  subst e7; subst e6; subst e5; subst e4; subst e3; subst e2; subst e1
  exact ⟨c, p, z, s, o, d, rfl⟩
abbrev pts4 : List PT := [.inl u8, flagsT]
abbrev rps4 : List Rp := .n (.ex (.nm 0 0 255)) :: flR 1
theorem turns4 [Env] : (callE Tryd.prog env0 cfg0 12 4 (splitA pts4 (rpCells (flatT pts4) rps4 0)) [.row false 1 (.vals tab)]).good leafG [] = true := by kernel_rfl
theorem law4 {W : World} {args : Array Value} (hL : laidMetH Tryd.prog laid W) (cvs : List CV) (hv : ValsOk pts4 args.toList) (ha : AllV W (flatT pts4) cvs (flatV pts4 args.toList)) :
    Calls Tryd.prog 4 args W fun e W' => e = .returned (.bool true) ∧ Calm W W' := by
  have ht := of_laid hL
  obtain ⟨x, r, vr, rfl, hx, h⟩ := AllV.int (ts := flatT [flagsT]) ha
  obtain ⟨c, p, z, s, o, d, rfl⟩ := flags_of h
  letI : Env := EvN [x, bn c, bn p, bn z, bn s, bn o, bn d]
  refine law_glob (sound0 12) (rps := rps4) (fs := []) rfl rfl rfl ?_ (fun f h => by cases h) turns4 hv ha (tab_cells ht) (heap_pos ht)
  show [CV.n (clampI 0 255 x), .b (clampI 0 1 (bn c) == 1), .b (clampI 0 1 (bn p) == 1), .b (clampI 0 1 (bn z) == 1), .b (clampI 0 1 (bn s) == 1), .b (clampI 0 1 (bn o) == 1), .b (clampI 0 1 (bn d) == 1)] = _
  have e : ∀ b : Bool, (clampI 0 1 (bn b) == (1 : Int)) = b := fun b => by cases b <;> rfl
  rw [e, e, e, e, e, e, show clampI 0 255 x = x from clamp_eq hx]
end Go.SX.Cnd
