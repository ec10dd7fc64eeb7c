/- ImageBack: what the environments of its functions have; a round of the pieces' loop. -/
import Derived.Test.YtkbghbkfaloblaaImgU
namespace Go.SX.Img
open Go Go.SX Go.Proofs
set_option maxRecDepth 1000000
set_option linter.unusedSectionVars false
def wsR (j : Nat) : Option WSig := if j = 200 then some wR else none
noncomputable def rs1 (j : Nat) : Option (List Int → Nat × List (Int × List Int)) :=
  if j = 100 then some (TmR base putL) else if j = 110 then some (TmR base nopL) else if j = 111 then some (TmR base momL) else if j = 113 then some (TmR base hltA) else none
@[reducible] noncomputable def EL (xs : List Int) (ls : List (List Int)) : Env := envW base wsR (envL Try.prog noSig lsigs xs ls)
@[reducible] noncomputable def E1 (xs : List Int) (ls : List (List Int)) : Env := envR rs1 (EL xs ls)
structure G1 (e : Env) : Prop where
  put : FnIs e 100 (TmR base putL)
  nop : FnIs e 110 (TmR base nopL)
  mom : FnIs e 111 (TmR base momL)
  hlt : FnIs e 113 (TmR base hltA)
  safeL : ∀ l, e.lst 90 l = (ResL Try.prog safeS l).drop 1
  safeA : ∀ i l, i < 1 → e.app (64 * 90 + i) l = (ResL Try.prog safeS l).getD i 0
  sum : ∀ i l, i < 64 → e.app (64 * 200 + i) l = (Wh base wR l).getD i 0
theorem G1.T {e : Env} (h : G1 e) (xs : List (Int × List Int)) : G1 (envT e xs) :=
  ⟨h.put.T (by decide) xs, h.nop.T (by decide) xs, h.mom.T (by decide) xs, h.hlt.T (by decide) xs, fun l => h.safeL l, h.safeA, h.sum⟩
theorem G1.over {e : Env} {rs : Nat → Option (List Int → Nat × List (Int × List Int))} (h : G1 e) (hn : rs 100 = none ∧ rs 110 = none ∧ rs 111 = none ∧ rs 113 = none ∧ rs 1 = none ∧ rs 90 = none ∧ rs 200 = none) : G1 (envR rs e) where
  put := h.put.over hn.1
  nop := h.nop.over hn.2.1
  mom := h.mom.over hn.2.2.1
  hlt := h.hlt.over hn.2.2.2.1
  safeL l := (envR_none (f := 90) hn.2.2.2.2.1 l).2.trans (h.safeL l)
  safeA i l hi := (envR_none (f := 64 * 90 + i) (by rw [show (64 * 90 + i) / 64 = 90 by omega]; exact hn.2.2.2.2.2.1) l).1.trans (h.safeA i l hi)
  sum i l hi := (envR_none (f := 64 * 200 + i) (by rw [show (64 * 200 + i) / 64 = 200 by omega]; exact hn.2.2.2.2.2.2) l).1.trans (h.sum i l hi)
theorem g1_E1 (xs : List Int) (ls : List (List Int)) : G1 (E1 xs ls) where
  put := FnIs.R rfl
  nop := FnIs.R rfl
  mom := FnIs.R rfl
  hlt := FnIs.R rfl
  safeL l := (envR_none (f := 90) rfl l).2.trans (envL_lst (P := Try.prog) (sig := noSig) (lsig := lsigs) (xs := xs) (ls := ls) (j := 90) (s := safeS) rfl l)
  safeA i l hi := by
    have h90 : (64 * 90 + i) / 64 = 90 := by omega
    refine (envR_none (f := 64 * 90 + i) (by rw [h90]; rfl) l).1.trans ?_
    show (match wsR ((64 * 90 + i) / 64) with | some s => (Wh base s l).getD ((64 * 90 + i) % 64) 0 | none => (envL Try.prog noSig lsigs xs ls).app (64 * 90 + i) l) = _
    rw [h90]
    exact envL_appL (P := Try.prog) (sig := noSig) (lsig := lsigs) (xs := xs) (ls := ls) (j := 90) (s := safeS) rfl rfl i l (by omega)
  sum i l hi := (envR_none (f := 64 * 200 + i) (by rw [show (64 * 200 + i) / 64 = 200 by omega]; rfl) l).1.trans (envW_app (s := wR) rfl i l hi)
noncomputable abbrev base1 : Env := E1 [] []
/-! A round. -/
section
variable [Env]
def envCo : FuncId → Option Con := fun g => if g = 25 then some (frameCon 0 (fCon putX [])) else if g = 27 then some (xCon 90 safeS) else none
def cfC1 : Cfg := { lv := cfLv, lc := fun id => if id = 15 then some (tmCon 110 nopL [(6, .inl 5), (7, .inr .nl)] []) else if id = 19 then some (tmCon 111 momL [(9, .inl 5), (10, .inr .nl)] []) else none }
theorem envOkCo (h : G1 inferInstance) : EnvOk Try.prog envCo cfg0 := by
  refine ⟨names, fun g c hg => ?_, fun g fn c σ _ _ _ => LoopsOk.none (fun _ => rfl) c⟩
  unfold envCo at hg
  split at hg
  · rename_i e; subst e; cases hg
    exact putX_sound _ h.put
  · split at hg
    · rename_i e; subst e; cases hg
      exact safe_sound _ h.safeL h.safeA
    · cases hg
def kindE : E := .op .quo .u8 (.wr .u8 (.sel (.pl (mulE 4 (.pl (.num 0) cI)) (.num 0)) cL)) (.num 24)
def kQ (n : Int) : EB := .eq kindE (.num n)
noncomputable def codeRun (fs : List Fk) : Bool := roundA Try.prog (callE Try.prog envCo cfg0 12) cfC1 1 4 codeL (loopOf Try.prog 18 0) fs
end
end Go.SX.Img
