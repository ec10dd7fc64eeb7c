/- Names for all arguments of a function: laws and contracts by runs over them. -/
import Derived.Test.YtfacghikjnjjmaaSxJ
import Derived.Test.YtfacghikjnjjmaaSxR
namespace Go.SX
open Go Go.Lib
set_option linter.unusedSectionVars false

def rpsOf : List CT → Nat → Nat → List Rp
  | .sc (.int k) :: ts, i, j => .n (.ex (.nm i k.min k.max)) :: rpsOf ts (i + 1) j
  | .sc .bool :: ts, i, j => .b (.ex (.eq (.nm i 0 1) (.num 1))) :: rpsOf ts (i + 1) j
  | .lst [.int k] :: ts, i, j => .tm (.ls j .nl k.min k.max big) :: rpsOf ts i (j + 1)
  | _, _, _ => []
def plainT : CT → Bool
  | .sc _ => true
  | .lst [.int _] => true
  | _ => false
def namesOf : List CV → List Int
  | .n x :: r => x :: namesOf r
  | .b b :: r => bI b :: namesOf r
  | .r xs :: r => (xs.length : Int) :: namesOf r
  | _ :: r => namesOf r
  | [] => []
def listsOf : List CV → List (List Int)
  | .l xs :: r => xs :: listsOf r
  | .r xs :: r => xs.flatten :: listsOf r
  | _ :: r => listsOf r
  | [] => []
section
variable [Env]
theorem rpsOf_cvs {w : World} : ∀ {ts : List CT} {cvs : List CV} {vs : List Value} {i j : Nat}, ts.all plainT = true → AllV w ts cvs vs → (∀ k, k < (namesOf cvs).length → Env.val (i + k) = (namesOf cvs).getD k 0) →
    (∀ k, k < (listsOf cvs).length → Env.lst (j + k) [] = (listsOf cvs).getD k []) → rpCVs ts (rpsOf ts i j) = cvs
  | [], cvs, vs, i, j, _, h, _, _ => by rw [AllV.nil h]; rfl
  | t :: ts, cvs, vs, i, j, hp, h, hn, hl => by
    simp only [List.all_cons, Bool.and_eq_true] at hp
    cases t with
    | sc k =>
      cases k with
      | int k =>
        obtain ⟨x, r, vr, rfl, hx, h2⟩ := AllV.int h
        have h0 := hn 0 (by simp [namesOf])
        rw [Nat.add_zero] at h0
        have ih := rpsOf_cvs (i := i + 1) (j := j) hp.2 h2 (fun q hq => by have := hn (q + 1) (by simp [namesOf]; omega); rw [show i + 1 + q = i + (q + 1) by omega, this]; rfl) hl
        show CV.n (X.ex (.nm i k.min k.max)).den :: rpCVs ts (rpsOf ts (i + 1) j) = _
        rw [ih, nm_den (x := x) h0 hx]
      | bool =>
        obtain ⟨x, r, vr, rfl, h2⟩ := AllV.bool h
        have h0 := hn 0 (by simp [namesOf])
        rw [Nat.add_zero] at h0
        have ih := rpsOf_cvs (i := i + 1) (j := j) hp.2 h2 (fun q hq => by have := hn (q + 1) (by simp [namesOf]; omega); rw [show i + 1 + q = i + (q + 1) by omega, this]; rfl) hl
        show CV.b (B.ex (.eq (.nm i 0 1) (.num 1))).den :: rpCVs ts (rpsOf ts (i + 1) j) = _
        rw [ih, nb_den (b := x) h0]
    | str => cases hp.1
    | lst ks =>
      match ks, hp.1 with
      | [.int k], _ =>
        obtain ⟨xs, r, vr, rfl, hlen, hx, h2⟩ := AllV.list h
        have h0 := hl 0 (by simp [listsOf])
        rw [Nat.add_zero] at h0
        have ih := rpsOf_cvs (i := i) (j := j + 1) hp.2 h2 hn (fun q hq => by have := hl (q + 1) (by simp [listsOf]; omega); rw [show j + 1 + q = j + (q + 1) by omega, this]; rfl)
        show CV.l (E.ls j .nl k.min k.max big).dens :: rpCVs ts (rpsOf ts i (j + 1)) = _
        rw [ih, ls_dens (xs := xs) h0 hlen hx]
theorem rpsOf_ok : ∀ {ts : List CT} {i j : Nat}, ts.all plainT = true → rpsOk ts (rpsOf ts i j) = true
  | [], _, _, _ => rfl
  | t :: ts, i, j, hp => by
    simp only [List.all_cons, Bool.and_eq_true] at hp
    cases t with
    | sc k => cases k <;> simp only [rpsOf, rpsOk, Rp.ok, rpsOf_ok hp.2, Bool.and_self]
    | str => cases hp.1
    | lst ks =>
      match ks, hp.1 with
      | [.int k], _ => simp only [rpsOf, rpsOk, Rp.ok, rpsOf_ok hp.2, Bool.and_self]
end
abbrev argsOf (pts : List PT) : List AV := splitA pts (rpCells (flatT pts) (rpsOf (flatT pts) 0 0) 0)
abbrev objsOf (pts : List PT) : St := rpObjs (flatT pts) (rpsOf (flatT pts) 0 0)
/-- a law, by a run over names -/
theorem law_canonF {P : Program} {sig : Nat → Option Sig} {lsig : Nat → Option LSig} {call : Env → FuncId → List AV → St → Out (AV × St)} {g : FuncId} {pts : List PT}
    (hc : ∀ xs ls, (∀ i, lsig i = none ∨ ls.length ≤ i) → @CallSound (envL P sig lsig xs ls) P (call (envL P sig lsig xs ls))) (hn : ∀ i, i < 16 → lsig i = none) (hp : (flatT pts).all plainT = true) (hlen : (flatT pts).length ≤ 16)
    (run : ∀ (e : Env), ∃ fs, @Holds e fs ∧ (call e g (argsOf pts) (objsOf pts)).good (@leafTrue) fs = true)
    (cvs : List CV) (h : ∃ w vs, AllV w (flatT pts) cvs vs) : PureSem P g pts [.inl (.sc .bool)] cvs [.b true] := by
  obtain ⟨w, vs, h⟩ := h
  have hll : (listsOf cvs).length ≤ 16 := by
    have h1 : ∀ c : List CV, (listsOf c).length ≤ c.length := by
      intro c
      induction c with
      | nil => exact Nat.le_refl _
      | cons x r ih => cases x <;> simp only [listsOf, List.length_cons] <;> omega
    have h2 : ∀ {ts : List CT} {c : List CV} {v : List Value}, AllV w ts c v → c.length = ts.length := by
      intro ts
      induction ts with
      | nil => intro c v h; rw [AllV.nil h]; rfl
      | cons t ts ih =>
        intro c v h
        cases c with
        | nil => cases v <;> cases h
        | cons x r =>
          cases v with
          | nil => cases h
          | cons y vr => rw [List.length_cons, List.length_cons, ih h.2]
    have := h1 cvs
    have := h2 h
    omega
  letI : Env := envL P sig lsig (namesOf cvs) (listsOf cvs)
  obtain ⟨fs, hf, hr⟩ := run inferInstance
  refine law_of_good (hc _ _ fun i => ?_) (rpsOf (flatT pts) 0 0) (fs := fs) hf (rpsOf_ok hp) ?_ hr
  · rcases Nat.lt_or_ge i 16 with h | h
    · exact .inl (hn i h)
    · exact .inr (by omega)
  · refine rpsOf_cvs hp h (fun k hk => by rw [Nat.zero_add]; rfl) fun k hk => ?_
    rw [Nat.zero_add]
    show (match lsig k with | some s => (ResL P s []).drop s.m | none => (listsOf cvs).getD k []) = _
    rw [hn k (by omega)]
theorem law_canon {P : Program} {sig : Nat → Option Sig} {lsig : Nat → Option LSig} {call : Env → FuncId → List AV → St → Out (AV × St)} {g : FuncId} {pts : List PT}
    (hc : ∀ xs ls, (∀ i, lsig i = none ∨ ls.length ≤ i) → @CallSound (envL P sig lsig xs ls) P (call (envL P sig lsig xs ls))) (hn : ∀ i, i < 16 → lsig i = none) (hp : (flatT pts).all plainT = true) (hlen : (flatT pts).length ≤ 16)
    (run : ∀ (e : Env), (call e g (argsOf pts) (objsOf pts)).good (@leafTrue) [] = true)
    (cvs : List CV) (h : ∃ w vs, AllV w (flatT pts) cvs vs) : PureSem P g pts [.inl (.sc .bool)] cvs [.b true] :=
  law_canonF hc hn hp hlen (fun e => ⟨[], fun f h => (by cases h), run e⟩) cvs h
theorem AllV_len {w : World} : ∀ {ts : List CT} {c : List CV} {v : List Value}, AllV w ts c v → c.length = ts.length
  | [], c, v, h => by rw [AllV.nil h]; rfl
  | t :: ts, c, v, h => by
    cases c with
    | nil => cases v <;> cases h
    | cons x r =>
      cases v with
      | nil => cases h
      | cons y vr => rw [List.length_cons, List.length_cons, AllV_len h.2]
theorem lists_len : ∀ c : List CV, (listsOf c).length ≤ c.length
  | [] => Nat.le_refl _
  | x :: r => by have := lists_len r; cases x <;> simp only [listsOf, List.length_cons] <;> omega
/-- a law, by a run over names, in any environment that has these names -/
theorem law_canonW {P : Program} {env : List Int → List (List Int) → Env} {call : Env → FuncId → List AV → St → Out (AV × St)} {g : FuncId} {pts : List PT}
    (hv : ∀ xs ls, (∀ i, (env xs ls).val i = xs.getD i 0) ∧ ∀ i, i < 16 → (env xs ls).lst i [] = ls.getD i []) (hc : ∀ xs ls, @CallSound (env xs ls) P (call (env xs ls))) (hp : (flatT pts).all plainT = true) (hlen : (flatT pts).length ≤ 16)
    (run : ∀ (e : Env), (call e g (argsOf pts) (objsOf pts)).good (@leafTrue) [] = true)
    (cvs : List CV) (h : ∃ w vs, AllV w (flatT pts) cvs vs) : PureSem P g pts [.inl (.sc .bool)] cvs [.b true] := by
  obtain ⟨w, vs, h⟩ := h
  letI : Env := env (namesOf cvs) (listsOf cvs)
  have h1 := lists_len cvs
  have h2 := AllV_len h
  refine law_of_good (hc _ _) (rpsOf (flatT pts) 0 0) (fs := []) (fun f h => by cases h) (rpsOf_ok hp) ?_ (run inferInstance)
  refine rpsOf_cvs hp h (fun k hk => by rw [Nat.zero_add]; exact (hv _ _).1 k) fun k hk => ?_
  rw [Nat.zero_add]
  exact (hv _ _).2 k (by omega)
/-- lists of no more than so many; what holds where one is longer -/
def rpsM (m : Nat) : List CT → Nat → Nat → List Rp
  | .sc (.int k) :: ts, i, j => .n (.ex (.nm i k.min k.max)) :: rpsM m ts (i + 1) j
  | .sc .bool :: ts, i, j => .b (.ex (.eq (.nm i 0 1) (.num 1))) :: rpsM m ts (i + 1) j
  | .lst [.int k] :: ts, i, j => .tm (.ls j .nl k.min k.max m) :: rpsM m ts i (j + 1)
  | _, _, _ => []
def longs (m : Nat) : List CT → Nat → List Fk
  | .sc _ :: ts, j => longs m ts j
  | .lst [.int k] :: ts, j => .ge ⟨-((m : Int) + 1), [(1, .ln (.ls j .nl k.min k.max big))]⟩ :: longs m ts (j + 1)
  | _, _ => []
section
variable [Env]
theorem rpsM_cvs {m : Nat} {w : World} : ∀ {ts : List CT} {cvs : List CV} {vs : List Value} {i j : Nat}, ts.all plainT = true → AllV w ts cvs vs → (∀ k, k < (namesOf cvs).length → Env.val (i + k) = (namesOf cvs).getD k 0) →
    (∀ k, k < (listsOf cvs).length → Env.lst (j + k) [] = (listsOf cvs).getD k []) → rpCVs ts (rpsM m ts i j) = cvs ∨ ∃ f ∈ longs m ts j, f.holds
  | [], cvs, vs, i, j, _, h, _, _ => .inl (by rw [AllV.nil h]; rfl)
  | t :: ts, cvs, vs, i, j, hp, h, hn, hl => by
    simp only [List.all_cons, Bool.and_eq_true] at hp
    cases t with
    | sc k =>
      cases k with
      | int k =>
        obtain ⟨x, r, vr, rfl, hx, h2⟩ := AllV.int h
        have h0 := hn 0 (by simp [namesOf])
        rw [Nat.add_zero] at h0
        rcases rpsM_cvs (m := m) (i := i + 1) (j := j) hp.2 h2 (fun q hq => by have := hn (q + 1) (by simp [namesOf]; omega); rw [show i + 1 + q = i + (q + 1) by omega, this]; rfl) hl with ih | ih
        · left
          show CV.n (X.ex (.nm i k.min k.max)).den :: rpCVs ts (rpsM m ts (i + 1) j) = _
          rw [ih, nm_den (x := x) h0 hx]
        · exact .inr ih
      | bool =>
        obtain ⟨x, r, vr, rfl, h2⟩ := AllV.bool h
        have h0 := hn 0 (by simp [namesOf])
        rw [Nat.add_zero] at h0
        rcases rpsM_cvs (m := m) (i := i + 1) (j := j) hp.2 h2 (fun q hq => by have := hn (q + 1) (by simp [namesOf]; omega); rw [show i + 1 + q = i + (q + 1) by omega, this]; rfl) hl with ih | ih
        · left
          show CV.b (B.ex (.eq (.nm i 0 1) (.num 1))).den :: rpCVs ts (rpsM m ts (i + 1) j) = _
          rw [ih, nb_den (b := x) h0]
        · exact .inr ih
    | str => cases hp.1
    | lst ks =>
      match ks, hp.1 with
      | [.int k], _ =>
        obtain ⟨xs, r, vr, rfl, hlen, hx, h2⟩ := AllV.list h
        have h0 := hl 0 (by simp [listsOf])
        rw [Nat.add_zero] at h0
        by_cases hm : xs.length ≤ m
        · rcases rpsM_cvs (m := m) (i := i) (j := j + 1) hp.2 h2 hn (fun q hq => by have := hl (q + 1) (by simp [listsOf]; omega); rw [show j + 1 + q = j + (q + 1) by omega, this]; rfl) with ih | ⟨f, hf, hh⟩
          · left
            show CV.l (E.ls j .nl k.min k.max m).dens :: rpCVs ts (rpsM m ts i (j + 1)) = _
            rw [ih, ls_dens (xs := xs) h0 hm hx]
          · exact .inr ⟨f, List.mem_cons_of_mem _ hf, hh⟩
        · refine .inr ⟨_, List.mem_cons_self .., ?_⟩
          show 0 ≤ -((m : Int) + 1) + (1 * (((E.ls j .nl k.min k.max big).dens.length : Nat) : Int) + 0)
          rw [ls_dens (xs := xs) h0 hlen hx]
          omega
theorem rpsM_ok {m : Nat} : ∀ {ts : List CT} {i j : Nat}, ts.all plainT = true → rpsOk ts (rpsM m ts i j) = true
  | [], _, _, _ => rfl
  | t :: ts, i, j, hp => by
    simp only [List.all_cons, Bool.and_eq_true] at hp
    cases t with
    | sc k => cases k <;> simp only [rpsM, rpsOk, Rp.ok, rpsM_ok hp.2, Bool.and_self]
    | str => cases hp.1
    | lst ks =>
      match ks, hp.1 with
      | [.int k], _ => simp only [rpsM, rpsOk, Rp.ok, rpsM_ok hp.2, Bool.and_self]
end
abbrev argsM (m : Nat) (pts : List PT) : List AV := splitA pts (rpCells (flatT pts) (rpsM m (flatT pts) 0 0) 0)
abbrev objsM (m : Nat) (pts : List PT) : St := rpObjs (flatT pts) (rpsM m (flatT pts) 0 0)
/-- a law, by a run over lists of no more than m, and one for each list that is longer -/
theorem law_canonM {P : Program} (m : Nat) {env : List Int → List (List Int) → Env} {call : Env → FuncId → List AV → St → Out (AV × St)} {g : FuncId} {pts : List PT}
    (hv : ∀ xs ls, (∀ i, (env xs ls).val i = xs.getD i 0) ∧ ∀ i, i < 16 → (env xs ls).lst i [] = ls.getD i []) (hc : ∀ xs ls, @CallSound (env xs ls) P (call (env xs ls))) (hp : (flatT pts).all plainT = true) (hlen : (flatT pts).length ≤ 16)
    (run : ∀ (e : Env), (call e g (argsM m pts) (objsM m pts)).good (@leafTrue) [] = true)
    (runs : ∀ (e : Env), ((longs m (flatT pts) 0).all fun f => (call e g (argsOf pts) (objsOf pts)).good (@leafTrue) [f]) = true)
    (cvs : List CV) (h : ∃ w vs, AllV w (flatT pts) cvs vs) : PureSem P g pts [.inl (.sc .bool)] cvs [.b true] := by
  obtain ⟨w, vs, h⟩ := h
  letI : Env := env (namesOf cvs) (listsOf cvs)
  have h1 := lists_len cvs
  have h2 := AllV_len h
  have hn : ∀ k, k < (namesOf cvs).length → Env.val (0 + k) = (namesOf cvs).getD k 0 := fun k hk => by rw [Nat.zero_add]; exact (hv _ _).1 k
  have hl : ∀ k, k < (listsOf cvs).length → Env.lst (0 + k) [] = (listsOf cvs).getD k [] := fun k hk => by rw [Nat.zero_add]; exact (hv _ _).2 k (by omega)
  rcases rpsM_cvs (m := m) (i := 0) (j := 0) hp h hn hl with h3 | ⟨f, hf, hh⟩
  · exact law_of_good (hc _ _) (rpsM m (flatT pts) 0 0) (fs := []) (fun f h => by cases h) (rpsM_ok hp) h3 (run inferInstance)
  · exact law_of_good (hc _ _) (rpsOf (flatT pts) 0 0) (fs := [f]) (fun g hg => by rw [List.mem_singleton] at hg; subst hg; exact hh) (rpsOf_ok hp) (rpsOf_cvs hp h hn hl) (List.all_eq_true.1 (runs inferInstance) f hf)
end Go.SX
