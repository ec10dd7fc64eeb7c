/- Laws where a package variable's cells are an object. -/
import Derived.Test.YtimbamlodfohmaaDoorGxR
import Derived.Test.YtimbamlodfohmaaDoorGx17
namespace Go.SX
open Go
set_option linter.unusedSectionVars false
variable [Env]
def leafG (fs : List Fk) (x : AV × St) : Bool :=
  match x.1 with
  | .one (.bool b) => b.ask fs fun _ v => v
  | _ => false
theorem law_glob {P : Program} {call : FuncId → List AV → St → Out (AV × St)} (hc : CallSound P call) {g gi : FuncId} {pts : List PT} {rps : List Rp} {cvs : List CV} {fs : List Fk} {tab : List Sc}
    (hmap : gmapL = [(gi, 0)]) (hsc : (flatT pts).all scT = true) (hok : rpsOk (flatT pts) rps = true) (hcv : rpCVs (flatT pts) rps = cvs) (hf : Holds fs)
    (h : (call g (splitA pts (rpCells (flatT pts) rps 0)) [.row false 1 (.vals tab)]).good leafG fs = true)
    {W : World} {args : Array Value} (hv : ValsOk pts args.toList) (ha : AllV W (flatT pts) cvs (flatV pts args.toList))
    (htab : ∀ i s, tab[i]? = some s → ∃ v, W.cell? ⟨gi, i, none⟩ = some v ∧ ∀ ρ n, SRel ρ n s v) (hsz : gi < W.heap.size) :
    Calls P g args W fun e W' => e = .returned (.bool true) ∧ Calm W W' := by
  obtain ⟨⟨v, σ'⟩, h1, b, hb1, hb2⟩ := good_ok (Q := fun x : AV × St => ∃ b : B, x.1 = .one (.bool b) ∧ b.den = true) (fun fs a hf hl => by
    unfold leafG at hl
    split at hl
    · rename_i b e
      obtain ⟨_, _, h2⟩ := B.ask_ok b fs _ hl hf
      exact ⟨b, e, h2⟩
    · cases hl) _ _ h hf
  simp only at hb1
  subst hb1
  obtain ⟨_, hden⟩ := hc _ _ _ _ _ h1
  let ρ : Nat → Loc := fun i => if i = 0 then ⟨true, gi, 0, 0⟩ else ⟨false, 0, 0, 0⟩
  have hno : ∀ i, ¬ owned ρ [.row false 1 (.vals tab)] i := fun i hi => by
    have h2 := hi.2
    cases i with
    | zero => cases h2
    | succ i => cases h2
  have hrel : Rel ρ [.row false 1 (.vals tab)] W := by
    refine ⟨fun i => ?_, fun i j _ ho => absurd ho (hno i), fun i hu => ?_⟩
    · cases i with
      | zero =>
        refine ⟨fun h => (by cases h), fun _ => ⟨fun i s hi => ?_, fun h => (by cases h)⟩⟩
        obtain ⟨v, h3, h4⟩ := htab i s hi
        refine ⟨v, ?_, h4 _ _⟩
        show W.cell? ⟨gi, 0 + i, none⟩ = _
        rw [Nat.zero_add]; exact h3
      | succ i => exact True.intro
    · cases i with
      | zero => exact hsz
      | succ i => exact absurd hu.1 (by show ¬ (false = true); simp)
  have hgl : GlOk ρ 1 := fun g id hg => by
    rw [hmap] at hg
    have := gmapOf_mem hg
    rw [List.mem_singleton] at this
    cases this
    exact ⟨by omega, rfl, rfl, rfl⟩
  rw [← hcv] at ha
  have hlr := rp_out (ρ := ρ) (n := 1) _ _ _ 0 hsc hok ha
  obtain ⟨e1, e2⟩ := split_ok pts args.toList _ hv hlr
  refine (hden ρ W args hrel hgl ⟨by simpa using e1, fun i a x b c => e2 i a x b (by simpa using c)⟩).mono fun e w' he => ?_
  obtain ⟨val, ρ', k1, k2, k3, k4⟩ := he
  have k2 : val = .bool b.den := k2
  rw [hb2] at k2
  subst k2
  exact ⟨k1, k4.os, k4.tape, k4.output, k4.size, fun b hb => k4.keep b hb fun i hi => (hno i hi).elim⟩
end Go.SX
