/- Texts: the evaluator over the seat's program; tables as objects; functions of one number that give known strings. -/
import Derived.Test.YtimbamlodfohmaaDoorTxtL
import Derived.Lib.LaidTab
import Derived.MakeChecks
namespace Go.SX.Txt
open Go Go.SX Go.Proofs
set_option maxRecDepth 1000000
set_option linter.unusedSectionVars false
def i6 : CT := .sc (.int .i64)
def u3 : CT := .sc (.int .u32)
def bo : CT := .sc .bool
theorem mixed : Tryd.prog.follows .mixedOrders = true := by kernel_rfl
theorem names : NamesOk Tryd.prog := by
  have h : Tryd.prog.funcs.toList.all (fun fn => !(fn.name == "runtime.NumGoroutine")) = true := by kernel_rfl
  intro g fn hg
  have := List.all_eq_true.1 h fn (by rw [← Array.getElem?_toList] at hg; exact List.mem_of_getElem? hg)
  simpa using this
/-- the second table's cells -/
def dbL : List Int := [0, 1, 56, 2, 57, 49, 28, 3, 61, 58, 42, 50, 38, 29, 17, 4, 62, 47, 59, 36, 45, 43, 51, 22, 53, 39, 33, 30, 24, 18, 12, 5, 63, 55, 48, 27, 60, 41, 37, 16, 46, 35, 44, 21, 52, 32, 23, 11, 54, 26, 40, 15, 34, 20, 31, 10, 25, 14, 19, 9, 13, 8, 7, 6]
def dbt : List Sc := dbL.map fun z => .int .u8 (.c z)
section
variable [Env]
abbrev cfg0 : FuncId → Cfg := fun _ => {}
def envB : FuncId → Option (List AV → St → Out (AV × St)) := fun g => if g = 12 then some (fieldsCon fldsL) else if g = 30 then some writeCon else if g = 32 then some stringCon else none
theorem callsB : ∀ g c, envB g = some c → ∀ args σ v σ', (c args σ).run = some (v, σ') → Den Tryd.prog g args σ v σ' := by
  intro g c h
  unfold envB at h
  split at h
  · rename_i e; subst e; cases h; exact fieldsCon_sound fldsL_ok
  · split at h
    · rename_i e; subst e; cases h; exact writeCon_sound
    · split at h
      · rename_i e; subst e; cases h; exact stringCon_sound
      · cases h
theorem envOkB : EnvOk Tryd.prog envB cfg0 := ⟨names, callsB, fun g fn c σ _ _ _ => LoopsOk.none (fun _ => rfl) c⟩
theorem soundB (d : Nat) : CallSound Tryd.prog (callE Tryd.prog envB cfg0 d) := call_sound mixed envOkB d
/-! Runs in a part of the state. -/
abbrev tabR : AO := .row false 1 (.vals tab)
abbrev dbtR : AO := .row false 1 (.vals dbt)
theorem int_cells {l : List Int} {i : Nat} {s : Sc} {v : Value} {ρ ρ' : Nat → Loc} {n n' : Nat} (hi : (l.map fun z => Sc.int .u8 (.c z))[i]? = some s) (h : SRel ρ n s v) : SRel ρ' n' s v := by
  rw [List.getElem?_map] at hi
  obtain ⟨z, _, rfl⟩ := Option.map_eq_some_iff.1 hi
  exact h
/-- the tables alone -/
def ρT (ρ : Nat → Loc) : Nat → Loc := fun i => if i < 2 then ρ i else ⟨false, 0, 0, 0⟩
theorem sub_rel {ρ : Nat → Loc} {σ : St} {w : World} (h : Rel ρ σ w) (hg : GlOk ρ σ.length) (h0 : σ.at 0 = tabR) (o1 : AO) (ho : o1 = .dead ∨ (o1 = dbtR ∧ σ.at 1 = dbtR)) :
    Rel (ρT ρ) [tabR, o1] w ∧ GlOk (ρT ρ) 2 ∧ ∀ i, ¬ owned (ρT ρ) [tabR, o1] i := by
  obtain ⟨a1, a2, a3, a4⟩ := hg 0 0 rfl
  obtain ⟨b1, b2, b3, b4⟩ := hg 5 1 rfl
  have e0 : ρT ρ 0 = ρ 0 := rfl
  have e1 : ρT ρ 1 = ρ 1 := rfl
  have hno : ∀ i, ¬ owned (ρT ρ) [tabR, o1] i := fun i hi => by
    have h2 := hi.2
    match i with
    | 0 => cases h2
    | 1 =>
      have h2 : o1.own = true := h2
      rcases ho with rfl | ⟨rfl, _⟩ <;> cases h2
    | n + 2 => cases h2
  refine ⟨⟨fun i => ?_, fun i j _ hi => absurd hi (hno i), fun i hu => ?_⟩, fun g id hgg => ?_, hno⟩
  · match i with
    | 0 =>
      have ho := h.obj 0
      rw [h0] at ho
      refine ⟨ho.1, fun hl => ⟨fun i s hi => ?_, fun h => by cases h⟩⟩
      obtain ⟨v, v1, v2⟩ := (ho.2 hl).1 i s hi
      exact ⟨v, v1, int_cells hi v2⟩
    | 1 =>
      rcases ho with rfl | ⟨rfl, h1⟩
      · exact True.intro
      · have ho := h.obj 1
        rw [h1] at ho
        refine ⟨ho.1, fun hl => ⟨fun i s hi => ?_, fun h => by cases h⟩⟩
        obtain ⟨v, v1, v2⟩ := (ho.2 hl).1 i s hi
        exact ⟨v, v1, int_cells hi v2⟩
    | n + 2 => exact True.intro
  · match i with
    | 0 => exact h.bnd 0 ⟨a2, by rw [h0]; intro h; cases h⟩
    | 1 =>
      rcases ho with rfl | ⟨rfl, h1⟩
      · exact absurd rfl hu.2
      · exact h.bnd 1 ⟨b2, by rw [h1]; intro h; cases h⟩
    | n + 2 => exact absurd rfl hu.2
  · have := gmapOf_mem hgg
    rw [show gmapL = [(0, 0), (5, 1)] from rfl, List.mem_cons, List.mem_singleton] at this
    rcases this with e | e
    · cases e; exact ⟨by omega, a2, a3, a4⟩
    · cases e; exact ⟨by omega, b2, b3, b4⟩
def leafS (s : ByteArray) (_ : List Fk) (x : AV × St) : Bool :=
  match x.1 with
  | .one (.str b) => b.data.toList == s.data.toList
  | _ => false
/-- what a function of one number gives is a known string -/
theorem str_run {call : FuncId → List AV → St → Out (AV × St)} (hc : CallSound Tryd.prog call) {g : FuncId} {x : X} {n : Int} {fs : List Fk} {s : ByteArray} {o1 : AO} (hf : Holds fs) (hx : x.den = n) (hk : IntKind.i64.has n)
    (h : (call g [.one (.int .i64 x)] [tabR, o1]).good (leafS s) fs = true) {ρ : Nat → Loc} {σ : St} {w : World} (hr : Rel ρ σ w) (hg : GlOk ρ σ.length) (h0 : σ.at 0 = tabR) (ho : o1 = .dead ∨ (o1 = dbtR ∧ σ.at 1 = dbtR)) :
    Calls Tryd.prog g #[.int .i64 n] w fun e w' => e = .returned (.string s) ∧ Calm w w' := by
  obtain ⟨⟨v, σ'⟩, h1, hb1⟩ := good_ok (Q := fun x : AV × St => x.1 = .one (.str s)) (fun fs a hf hl => by
    unfold leafS at hl
    split at hl
    · rename_i b e
      rw [e]
      have : b = s := by
        apply ByteArray.ext
        apply Array.toList_inj.1
        exact eq_of_beq hl
      rw [this]
    · cases hl) _ _ h hf
  simp only at hb1
  subst hb1
  obtain ⟨_, hden⟩ := hc _ _ _ _ _ h1
  obtain ⟨r1, r2, r3⟩ := sub_rel hr hg h0 o1 ho
  refine (hden _ w #[.int .i64 n] r1 r2 ⟨rfl, fun i a x' b c => ?_⟩).mono fun e w' he => ?_
  · cases i with
    | zero =>
      have hb : a = .one (.int .i64 x) := by simpa using b.symm
      have hc : x' = .int .i64 n := by simpa using c.symm
      subst hb; subst hc
      exact ⟨by rw [hx], by rw [hx]; exact hk⟩
    | succ i => simp at b
  obtain ⟨val, ρ', k1, k2, k3, k4⟩ := he
  have k2 : val = .string s := k2.1
  subst k2
  exact ⟨k1, k4.os, k4.tape, k4.output, k4.size, fun b hb => k4.keep b hb fun i hi => (r3 i hi).elim⟩
end
end Go.SX.Txt
