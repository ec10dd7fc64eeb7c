/- Environments in which functions are told by ways and values; contracts side by side. -/
import Derived.Test.YtfacghikjnjjmaaSxFn
import Derived.Test.YtfacghikjnjjmaaSxKt
namespace Go.SX
open Go
set_option linter.unusedSectionVars false
def FnIs (amb : Env) (j : Nat) (r : List Int → Nat × List (Int × List Int)) : Prop :=
  ∀ l, amb.app (64 * j) l = ((r l).1 : Int) ∧ ∀ i, i < 60 → amb.app (64 * j + 1 + i) l = ((r l).2.getD i (0, [])).1 ∧ amb.lst (64 * j + 1 + i) l = ((r l).2.getD i (0, [])).2
theorem FnIs.T {base : Env} {j : Nat} {r : List Int → Nat × List (Int × List Int)} (h : FnIs base j r) (hj : 64 * j + 64 ≤ TB) (xs : List (Int × List Int)) : FnIs (envT base xs) j r := fun l => by
  obtain ⟨h1, h2⟩ := h l
  refine ⟨h1, fun i hi => ⟨(h2 i hi).1, ?_⟩⟩
  show (if TB ≤ 64 * j + 1 + i then _ else base.lst (64 * j + 1 + i) l) = _
  rw [if_neg (by omega)]
  exact (h2 i hi).2
theorem FnIs.R {rs : Nat → Option (List Int → Nat × List (Int × List Int))} {e : Env} {j : Nat} {r : List Int → Nat × List (Int × List Int)} (h : rs j = some r) : FnIs (envR rs e) j r := fun l => envR_app h l
theorem envR_none {rs : Nat → Option (List Int → Nat × List (Int × List Int))} {e : Env} {f : Nat} (h : rs (f / 64) = none) (l : List Int) : (envR rs e).app f l = e.app f l ∧ (envR rs e).lst f l = e.lst f l := by
  constructor
  · show (match rs (f / 64) with | some s => _ | none => e.app f l) = _
    rw [h]
  · show (match rs (f / 64) with | some s => _ | none => e.lst f l) = _
    rw [h]
theorem FnIs.over {rs : Nat → Option (List Int → Nat × List (Int × List Int))} {e : Env} {j : Nat} {r : List Int → Nat × List (Int × List Int)} (h : FnIs e j r) (hn : rs j = none) : FnIs (envR rs e) j r := fun l => by
  obtain ⟨h1, h2⟩ := h l
  refine ⟨(envR_none (by rw [show 64 * j / 64 = j by omega]; exact hn) l).1.trans h1, fun i hi => ?_⟩
  have hj : (64 * j + 1 + i) / 64 = j := by omega
  have q := envR_none (rs := rs) (e := e) (f := 64 * j + 1 + i) (by rw [hj]; exact hn) l
  exact ⟨q.1.trans (h2 i hi).1, q.2.trans (h2 i hi).2⟩
theorem FnIs.tm {amb base : Env} {s : TSig} {j : Nat} (h : FnIs amb j (TmR base s)) : ∀ xs n xl k o, hasAll s.vars xs → titer base s n xs = some (xl, k, o) → amb.app (64 * j) (encX s.vars xs) = (k : Int) ∧ ∀ i, i < 60 → amb.app (64 * j + 1 + i) (encX s.vars xs) = (o.getD i (0, [])).1 ∧ amb.lst (64 * j + 1 + i) (encX s.vars xs) = (o.getD i (0, [])).2 := by
  intro xs n xl k o hv hn
  have h1 : TmR base s (encX s.vars xs) = (k, o) := TmR_eq (by rw [decX_encX hv]; exact hn)
  have h2 := h (encX s.vars xs)
  rw [h1] at h2
  exact h2
/-- one contract or another -/
def altCon (p : List AV → Bool) (c d : Con) : Con := fun args σ => if p args then c args σ else d args σ
theorem altCon_sound [Env] {P : Program} {g : FuncId} {p : List AV → Bool} {c d : Con} (hc : ∀ args σ v σ', (c args σ).run = some (v, σ') → Den P g args σ v σ') (hd : ∀ args σ v σ', (d args σ).run = some (v, σ') → Den P g args σ v σ') :
    ∀ args σ v σ', (altCon p c d args σ).run = some (v, σ') → Den P g args σ v σ' := by
  intro args σ v σ' h
  unfold altCon at h
  split at h
  · exact hc _ _ _ _ h
  · exact hd _ _ _ _ h
/-- loops by contracts, where so many objects are told -/
theorem LoopsOk.ob [Env] {P : Program} {cf : Cfg} {n0 : Nat} (ho : cf.ob = some n0) (σ : St) {c : Code} (h : ∀ p ∈ loopsC c, ∀ g, cf.lc p.1 = some g → LoopOk P n0 p.2 g) (hf : Holds cf.fs := by intro f h; cases h) : LoopsOk P cf (obN cf σ) c := by
  have : obN cf σ = n0 := by unfold obN; rw [ho]
  rw [this]
  exact LoopsOk.of h hf
/-- what is known behind a loop, in any environment that has it -/
theorem exit_known {P : Program} {base amb : Env} {call : Env → FuncId → List AV → St → Out (AV × St)} {cf : Env → Cfg} {n0 id j : Nat} {s : TSig} {b : Code} (ok : TOk P base call cf n0 id s b) (hau : s.auto.isSome = true) (h : FnIs amb j (TmR base s)) (hj : j < 1000000) (ho : (s.os 0).length ≤ 60) (hnk : s.nk = 1) (hkp : s.kp = [])
    (hi : s.inv.all (EB.putC s.vars) = true) (hx : (s.xinv 0).all (EB.putC (s.os 0)) = true) {l : List E} (hlen : s.vars.length = l.length) {q : List B} (hq : tvsAsk s.vars l = some q) (hqt : ∀ b ∈ q, @B.den amb b = true) (hit : ∀ b ∈ s.inv, @EB.den amb (b.put s.vars l) = true) :
    ∀ b ∈ s.xinv 0, @EB.den amb (b.put (s.os 0) (outTs (64 * j + 1) (encTV s.vars l) s.kp l (s.os 0) 0)) = true := by
  letI : Env := amb
  intro c hc
  have hall : hasAll s.vars (l.map E.D) := tvsAsk_ok hq hqt
  have hl : ∀ (i : Nat) e, l[i]? = some e → @E.D amb e = (l.map E.D).getD i (0, []) := fun i e hi => D_get rfl i e hi
  have hgood : GoodT base s (l.map E.D) := ⟨hall, fun b hb => by
    rw [← putCB_den amb base hall (Nat.le_of_eq hlen) hl b (List.all_eq_true.1 hi b hb)]
    exact hit b hb⟩
  obtain ⟨n, ⟨xl, k, o⟩, hn⟩ := tends ok _ hgood (Nat.le_refl _)
  obtain ⟨ho1, hk, hx1⟩ := titer_x ok hau n hn hgood
  have hk0 : k = 0 := by omega
  subst hk0
  obtain ⟨_, r2⟩ := h.tm _ n xl 0 o hall hn
  rw [← encTV_dens hlen] at r2
  have hol : o.length ≤ 60 := by rw [← (hasAll_get ho1).1]; exact ho
  have hD2 : (outTs (64 * j + 1) (encTV s.vars l) s.kp l (s.os 0) 0).map E.D = o := outTs_D (by unfold HB; omega) ho1 (fun q hq => by
    rw [Nat.zero_add]; exact r2 q (by omega)) (fun q hq hqk => by rw [hkp] at hqk; cases hqk)
  have hlen2 : (s.os 0).length ≤ (outTs (64 * j + 1) (encTV s.vars l) s.kp l (s.os 0) 0).length := by
    have h1 := (hasAll_get ho1).1
    have h2 := congrArg List.length hD2
    rw [List.length_map] at h2
    omega
  rw [putCB_den amb base ho1 hlen2 (D_get hD2) c (List.all_eq_true.1 hx c hc)]
  exact hx1 c hc
end Go.SX
