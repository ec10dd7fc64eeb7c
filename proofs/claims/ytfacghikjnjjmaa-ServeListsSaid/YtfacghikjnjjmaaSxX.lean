/- Loops by templates: a round that makes the template of it again, with other values; all rounds. -/
import Derived.Test.YtfacghikjnjjmaaSxU
namespace Go.SX
open Go Go.Lib
set_option linter.unusedSectionVars false
def Ex.on : Ex → Bool
  | .normal => true
  | _ => false
structure TSig where
  vars : List TV
  /-- slots in all; those that live at the loop's head -/
  fn : Nat
  fl : List (Nat × AV)
  st : St
  wt : WT
  inv : List EB
  mea : E
  /-- how it ends: so many ways; each one's variables, end, slots, state -/
  nk : Nat
  os : Nat → List TV
  ex : Nat → Ex
  xfl : Nat → List (Nat × AV)
  xst : Nat → St
  /-- whether the run asks for bounds, what stays, that it ends (else they are shown by hand) -/
  chk : Bool := true
  /-- variables that stay as they are, behind the loop too -/
  kp : List Nat := []
  /-- what is so behind it (asked where the run tells its rounds) -/
  xinv : Nat → List EB := fun _ => []
  /-- put in order ahead of it: so many objects stay, slots by which the others are found -/
  gc : Option (Nat × List Nat) := none
  /-- a round told by the run itself, not by wt -/
  auto : Option (List (Int × List Int) → Sum (List (Int × List Int)) (Nat × List (Int × List Int))) := none
def TSig.xfr (s : TSig) (k : Nat) : Fr := setsF (s.xfl k) ⟨s.fn, F.fresh (depthFor s.fn)⟩
def Ex.same : Ex → Ex → Bool
  | .exit i, .exit j => i == j
  | .ret, .ret => true
  | _, _ => false
theorem Ex.same_eq {a b : Ex} (h : a.same b = true) : a = b ∧ ((∃ i, a = .exit i) ∨ a = .ret) := by
  cases a <;> cases b <;> first | (cases h; done) | exact ⟨rfl, .inr rfl⟩ | exact ⟨by rw [eq_of_beq h], .inl ⟨_, rfl⟩⟩
def TSig.fr (s : TSig) : Fr := setsF s.fl ⟨s.fn, F.fresh (depthFor s.fn)⟩
/-! Which terms a template's variables stand for. -/
def bE (vs : List TV) (t a : E) : List (Nat × E) :=
  match isLeaf vs t with
  | some k => [(k, a)]
  | none => match t, a with
    | .ln x, .ln y => bE vs x y
    | .cn x y, .cn u v => bE vs x u ++ bE vs y v
    | .cc x y, .cc u v => bE vs x u ++ bE vs y v
    | .pl x y, .pl u v => bE vs x u ++ bE vs y v
    | .sb x _ _, .sb u _ _ => bE vs x u
    | .wr _ x, .wr _ u => bE vs x u
    | .op _ _ x y, .op _ _ u v => bE vs x u ++ bE vs y v
    | _, _ => []
def bX (vs : List TV) (t a : X) : List (Nat × E) :=
  match t.e?, a.e? with
  | some t, some a => bE vs t a
  | _, _ => []
section
variable [Env]
def bSc (vs : List TV) : Sc → Sc → List (Nat × E)
  | .int _ t, .int _ a => bX vs t a
  | .bool (.ex (.eq t _)), .bool (.ex (.eq a _)) => bE vs t a
  | .bool (.ex (.eq t _)), .bool (.c b) => bE vs t (.num (if b then 1 else 0))
  | .strt t, a => match a.strE? with
    | some a => bE vs t a
    | none => []
  | .ptr _ t _ _ _, .ptr _ a _ _ _ => bX vs t a
  | .sl _ _ o l _, .sl _ _ o' l' _ => bX vs o o' ++ bX vs l l'
  | _, _ => []
def bScs (vs : List TV) : List Sc → List Sc → List (Nat × E)
  | t :: l, a :: m => bSc vs t a ++ bScs vs l m
  | _, _ => []
def bAV (vs : List TV) : AV → AV → List (Nat × E)
  | .one t, .one a => bSc vs t a
  | .agg t, .agg a => bScs vs t a
  | _, _ => []
def bAO (vs : List TV) : AO → AO → List (Nat × E)
  | .row _ _ (.vals t), .row _ _ (.vals a) => bScs vs t a
  | .row _ _ (.ex _ t), .row _ _ (.ex _ a) => bE vs t a
  | .row _ _ (.tb _ t), .row _ _ (.tb _ a) => bE vs t a
  | .row _ _ (.ex k t), .row _ _ (.vals a) => match cellsE k a .nl with
    | some a => bE vs t a
    | none => []
  | .row _ _ (.tb ks t), .row _ _ (.vals a) => match kcellsE ks ks.length a 0 with
    | some a => bE vs t a
    | none => []
  | _, _ => []
def bSt (vs : List TV) : St → St → List (Nat × E)
  | t :: l, a :: m => bAO vs t a ++ bSt vs l m
  | _, _ => []
def pickE (b : List (Nat × E)) (k : Nat) : E → E := fun d => match b.find? fun p => p.1 == k with
  | some p => p.2
  | none => d
/-- variables' terms; those that stand nowhere in the state are told -/
def bindV (vs : List TV) (fl : List (Nat × AV)) (st : St) (f : Fr) (σ : St) : List E :=
  match (fl.flatMap fun p => bAV vs p.2 (f.get p.1)) ++ bSt vs st σ with
  | b => (List.range vs.length).map fun k => pickE b k (if (vs.getD k ⟨false, 0, 0, 0⟩).isL then .nl else .num 0)
def bind0 (s : TSig) (f : Fr) (σ : St) : List E := bindV s.vars s.fl s.st f σ
end
section
variable [Env]
def WT.vals : WT → Sum (List (Int × List Int)) (Nat × List (Int × List Int))
  | .go l => .inl (l.map E.D)
  | .stop k l => .inr (k, l.map E.D)
  | .br c t e => bif c.den then t.vals else e.vals
/-- terms alike by what is known -/
def qF (fs : List Fk) (vs : List TV) (l : List E) (a b : E) : Bool := b.putOk vs && (sameE a (b.put vs l) || (!a.isLst && (!(b.put vs l).isLst && eqP fs a (b.put vs l))))
/-- the end of a round, as it is told -/
def tAsk (s : TSig) (td : Fr → St → Option (Fr × St)) : WT → Ex → Fr → St → List Fk → Bool
  | .br c t e, x, f, σ, fs => c.ask fs fun fs v => bif v then tAsk s td t x f σ fs else tAsk s td e x f σ fs
  | .go l, x, f, σ, fs => x.on && match td f σ with
    | some (f1, σ1) => decide (f1.n = s.fn) && (simSt (qF fs s.vars l) σ1 s.st && (s.fl.all (fun p => simAV (qF fs s.vars l) (f1.get p.1) p.2) && (decide (s.vars.length = l.length) && (!s.chk || match tvsAsk s.vars l with
      | some q => allAsk (q ++ ((s.inv.map fun b => B.ex (b.put s.vars l)) ++ [.ex (.lt (s.mea.put s.vars l) s.mea), .ex (.nt (.lt s.mea (.num 0)))])) fs
      | none => false))))
    | none => false
  | .stop k l, x, f, σ, fs => x.same (s.ex k) && (decide (k < s.nk) && match td f σ with
    | some (f1, σ1) => decide (f1.n = s.fn) && (simSt (qF fs (s.os k) l) σ1 (s.xst k) && ((s.xfl k).all (fun p => simAV (qF fs (s.os k) l) (f1.get p.1) p.2) && (decide ((s.os k).length = l.length) && (!s.chk || match tvsAsk (s.os k) l with
      | some q => allAsk q fs
      | none => false))))
    | none => false)
/-- at the end of a round: the template again, so its variables' terms -/
def aGo (s : TSig) (f1 : Fr) (σ1 : St) : Option (List E) :=
  match bind0 s f1 σ1 with
  | l => if decide (f1.n = s.fn) && decide (s.vars.length = l.length) then some l else none
def aGoOk (s : TSig) (fs : List Fk) (l : List E) (f1 : Fr) (σ1 : St) : Bool := simSt (qF fs s.vars l) σ1 s.st && s.fl.all (fun p => simAV (qF fs s.vars l) (f1.get p.1) p.2)
def aStop (s : TSig) (k : Nat) (e : Ex) (f1 : Fr) (σ1 : St) : Option (List E) :=
  match bindV (s.os k) (s.xfl k) (s.xst k) f1 σ1 with
  | l => if e.same (s.ex k) && (decide (f1.n = s.fn) && (decide ((s.os k).length = l.length) && simSt (fun _ _ => true) σ1 (s.xst k))) then some l else none
def aStopOk (s : TSig) (k : Nat) (fs : List Fk) (l : List E) (f1 : Fr) (σ1 : St) : Bool := simSt (qF fs (s.os k) l) σ1 (s.xst k) && (s.xfl k).all (fun p => simAV (qF fs (s.os k) l) (f1.get p.1) p.2)
def aStops (s : TSig) (e : Ex) (f1 : Fr) (σ1 : St) : Nat → Option (Nat × List E)
  | 0 => none
  | k + 1 => match aStop s k e f1 σ1 with
    | some l => some (k, l)
    | none => aStops s e f1 σ1 k
def aStep (s : TSig) (td : Fr → St → Option (Fr × St)) (e : Ex) (f : Fr) (σ : St) : Option (Sum (List E) (Nat × List E)) :=
  match td f σ with
  | some (f1, σ1) => if e.on then (aGo s f1 σ1).map .inl else (aStops s e f1 σ1 s.nk).map .inr
  | none => none
def aVals : Option (Sum (List E) (Nat × List E)) → Sum (List (Int × List Int)) (Nat × List (Int × List Int))
  | some (.inl l) => .inl (l.map E.D)
  | some (.inr (k, l)) => .inr (k, l.map E.D)
  | none => .inr (0, [])
def aAsk (s : TSig) (td : Fr → St → Option (Fr × St)) (e : Ex) (f : Fr) (σ : St) (fs : List Fk) : Bool :=
  match td f σ with
  | some (f1, σ1) => (match aStep s td e f σ with
    | some (.inl l) => aGoOk s fs l f1 σ1 && (match tvsAsk s.vars l with
      | some q => allAsk (q ++ ((s.inv.map fun b => B.ex (b.put s.vars l)) ++ [.ex (.lt (s.mea.put s.vars l) s.mea), .ex (.nt (.lt s.mea (.num 0)))])) fs
      | none => false)
    | some (.inr (k, l)) => aStopOk s k fs l f1 σ1 && ((s.xinv k).all (EB.putOk (s.os k)) && (match tvsAsk (s.os k) l with
      | some q => allAsk (q ++ (s.xinv k).map fun b => B.ex (b.put (s.os k) l)) fs
      | none => false))
    | none => false)
  | none => false
noncomputable def roundA (P : Program) (call : FuncId → List AV → St → Out (AV × St)) (cf : Cfg) (n0 id : Nat) (s : TSig) (b : Code) (fs : List Fk) : Bool :=
  (codeE P call cf n0 b s.fr s.st).good (fun fs x => aAsk s (tidy cf n0 id) x.1 x.2.1 x.2.2 fs) fs
noncomputable def roundT (P : Program) (call : FuncId → List AV → St → Out (AV × St)) (cf : Cfg) (n0 id : Nat) (s : TSig) (b : Code) : Bool :=
  (codeE P call cf n0 b s.fr s.st).good (fun fs x => tAsk s (tidy cf n0 id) s.wt x.1 x.2.1 x.2.2 fs) (knows s.inv)
end
def tstep (base : Env) (s : TSig) (xs : List (Int × List Int)) : Sum (List (Int × List Int)) (Nat × List (Int × List Int)) :=
  match s.auto with
  | some g => g xs
  | none => @WT.vals (envT base xs) s.wt
/-- a round as the run tells it -/
noncomputable def autoStep (base : Env) (P : Program) (call : Env → FuncId → List AV → St → Out (AV × St)) (cf : Env → Cfg) (n0 id : Nat) (s : TSig) (b : Code) (xs : List (Int × List Int)) : Sum (List (Int × List Int)) (Nat × List (Int × List Int)) :=
  match @Out.run (envT base xs) _ (@codeE (envT base xs) P (call (envT base xs)) (cf (envT base xs)) n0 b s.fr s.st) with
  | some x => @aVals (envT base xs) (aStep s (tidy (cf (envT base xs)) n0 id) x.1 x.2.1 x.2.2)
  | none => .inr (0, [])
/-- the values ahead of the last round, how it ends -/
def titer (base : Env) (s : TSig) : Nat → List (Int × List Int) → Option (List (Int × List Int) × Nat × List (Int × List Int))
  | 0, _ => none
  | n + 1, xs => match tstep base s xs with
    | .inl ys => titer base s n ys
    | .inr (k, o) => some (xs, k, o)
def meaT (base : Env) (s : TSig) (xs : List (Int × List Int)) : Int := @E.den (envT base xs) s.mea
def GoodT (base : Env) (s : TSig) (xs : List (Int × List Int)) : Prop := hasAll s.vars xs ∧ ∀ b ∈ s.inv, @EB.den (envT base xs) b = true
structure TOk (P : Program) (base : Env) (call : Env → FuncId → List AV → St → Out (AV × St)) (cf : Env → Cfg) (n0 id : Nat) (s : TSig) (b : Code) : Prop where
  sound : ∀ xs, @CallSound (envT base xs) P (call (envT base xs))
  names : NamesOk P
  mixed : P.follows .mixedOrders = true
  loops : ∀ xs, @LoopsOk (envT base xs) P (cf (envT base xs)) n0 b
  puts : (s.inv.all (EB.putOk s.vars) && s.mea.putOk s.vars) = true
  big : n0 ≤ s.st.length
  sem : s.chk = false → ∀ xs, GoodT base s xs → match tstep base s xs with
    | .inl ys => GoodT base s ys ∧ meaT base s ys < meaT base s xs ∧ 0 ≤ meaT base s xs
    | .inr (k, o) => hasAll (s.os k) o := by intro h; cases h
  round : s.auto = none → ∀ xs, @roundT (envT base xs) P (call (envT base xs)) (cf (envT base xs)) n0 id s b = true
  roundA : ∀ g, s.auto = some g → s.chk = true ∧ g = autoStep base P call cf n0 id { s with auto := none } b ∧ ∀ xs, GoodT base s xs → ∃ fs, @Holds (envT base xs) fs ∧ @roundA (envT base xs) P (call (envT base xs)) (cf (envT base xs)) n0 id { s with auto := none } b fs = true := by intro g h; cases h
theorem qF_ok (base : Env) {vs : List TV} {xs ys : List (Int × List Int)} {l : List E} {fs : List Fk} (hf : @Holds (envT base xs) fs) (hv : hasAll vs ys) (hlen : vs.length ≤ l.length) (hl : ∀ (i : Nat) e, l[i]? = some e → @E.D (envT base xs) e = ys.getD i (0, [])) : SimOk (envT base xs) (envT base ys) (qF fs vs l) := by
  intro a b h
  unfold qF at h
  rw [Bool.and_eq_true, Bool.or_eq_true] at h
  obtain ⟨h1, h2⟩ := h
  rw [← put_D hv hlen hl b h1]
  rcases h2 with h2 | h2
  · exact @sameE_D (envT base xs) a _ h2
  · simp only [Bool.and_eq_true, Bool.not_eq_true'] at h2
    obtain ⟨q1, q2, q3⟩ := h2
    exact Prod.ext (@eqP_ok (envT base xs) _ _ _ q3 hf) (((@isLst_D (envT base xs) a).2 q1).trans ((@isLst_D (envT base xs) _).2 q2).symm)
def TRes (base : Env) (s : TSig) (td : Fr → St → Option (Fr × St)) (xs : List (Int × List Int)) (e : Ex) (f : Fr) (σ : St) : Sum (List (Int × List Int)) (Nat × List (Int × List Int)) → Prop
  | .inl ys => e = .normal ∧ ∃ l f1 σ1 fs, @Holds (envT base xs) fs ∧ s.vars.length ≤ l.length ∧ td f σ = some (f1, σ1) ∧ f1.n = s.fn ∧ simSt (qF fs s.vars l) σ1 s.st = true ∧ (s.fl.all fun p => simAV (qF fs s.vars l) (f1.get p.1) p.2) = true ∧
      (∀ (i : Nat) e, l[i]? = some e → @E.D (envT base xs) e = ys.getD i (0, [])) ∧ (s.chk = true → GoodT base s ys ∧ meaT base s ys < meaT base s xs ∧ 0 ≤ meaT base s xs)
  | .inr (k, o) => e = s.ex k ∧ ((∃ i, e = .exit i) ∨ e = .ret) ∧ k < s.nk ∧ (s.chk = true → hasAll (s.os k) o) ∧ ∃ l f1 σ1 fs, @Holds (envT base xs) fs ∧ (s.os k).length ≤ l.length ∧ td f σ = some (f1, σ1) ∧ f1.n = s.fn ∧ simSt (qF fs (s.os k) l) σ1 (s.xst k) = true ∧ ((s.xfl k).all fun p => simAV (qF fs (s.os k) l) (f1.get p.1) p.2) = true ∧
      ∀ (i : Nat) e, l[i]? = some e → @E.D (envT base xs) e = o.getD i (0, [])
theorem tAsk_ok {base : Env} {s : TSig} {td : Fr → St → Option (Fr × St)} {xs : List (Int × List Int)} (hp : (s.inv.all (EB.putOk s.vars) && s.mea.putOk s.vars) = true) :
    ∀ (t : WT) (e : Ex) (f : Fr) (σ : St) (fs : List Fk), @tAsk (envT base xs) s td t e f σ fs = true → @Holds (envT base xs) fs → TRes base s td xs e f σ (@WT.vals (envT base xs) t) := by
  letI : Env := envT base xs
  rw [Bool.and_eq_true] at hp
  intro t
  induction t with
  | br c t u iht ihu =>
    intro e f σ fs h hf
    simp only [tAsk] at h
    obtain ⟨fs', h1, h2⟩ := EB.ask_ok c fs _ h hf
    simp only [WT.vals]
    cases hc : c.den with
    | true => rw [hc] at h2; exact iht e f σ fs' h2 h1
    | false => rw [hc] at h2; exact ihu e f σ fs' h2 h1
  | stop k l =>
    intro e f σ fs h hf
    simp only [tAsk, Bool.and_eq_true, decide_eq_true_eq] at h
    obtain ⟨he, hk, h⟩ := h
    obtain ⟨he, hon⟩ := Ex.same_eq he
    split at h
    · rename_i f1 σ1 htd
      simp only [Bool.and_eq_true, decide_eq_true_eq] at h
      obtain ⟨h1, h2, h3, h4, h5⟩ := h
      refine ⟨he, hon, hk, fun hc => ?_, l, f1, σ1, fs, hf, Nat.le_of_eq h4, htd, h1, h2, h3, fun i e hi => by rw [List.getD_eq_getElem?_getD, List.getElem?_map, hi]; rfl⟩
      rw [hc, Bool.not_true, Bool.false_or] at h5
      split at h5
      · rename_i q hq
        exact tvsAsk_ok hq (allAsk_ok h5 hf)
      · cases h5
    · cases h
  | go l =>
    intro e f σ fs h hf
    simp only [tAsk, Bool.and_eq_true] at h
    obtain ⟨he, h⟩ := h
    have he : e = .normal := by cases e <;> first | rfl | cases he
    split at h
    · rename_i f1 σ1 htd
      simp only [Bool.and_eq_true, decide_eq_true_eq] at h
      obtain ⟨h1, h2, h3, h4, h5⟩ := h
      have hl : ∀ (i : Nat) e, l[i]? = some e → @E.D (envT base xs) e = (l.map E.D).getD i (0, []) := fun i e hi => by
        rw [List.getD_eq_getElem?_getD, List.getElem?_map, hi]; rfl
      refine ⟨he, l, f1, σ1, fs, hf, Nat.le_of_eq h4, htd, h1, h2, h3, hl, fun hc => ?_⟩
      rw [hc, Bool.not_true, Bool.false_or] at h5
      split at h5
      · rename_i q hq
        have ha := allAsk_ok h5 hf
        have hall : hasAll s.vars (l.map E.D) := tvsAsk_ok hq fun b hb => ha b (List.mem_append_left _ hb)
        refine ⟨⟨hall, fun b hb => ?_⟩, ?_, ?_⟩
        · rw [← putB_den hall (Nat.le_of_eq h4) hl b (List.all_eq_true.1 hp.1 b hb)]
          exact ha (.ex (b.put s.vars l)) (List.mem_append_right _ (List.mem_append_left _ (List.mem_map.2 ⟨b, hb, rfl⟩)))
        · have h6 := ha (.ex (.lt (s.mea.put s.vars l) s.mea)) (List.mem_append_right _ (List.mem_append_right _ (List.mem_cons_self ..)))
          have h6 : decide ((s.mea.put s.vars l).den < s.mea.den) = true := h6
          have h7 : (s.mea.put s.vars l).den = meaT base s (l.map E.D) := congrArg Prod.fst (put_D hall (Nat.le_of_eq h4) hl s.mea hp.2)
          rw [← h7]
          exact of_decide_eq_true h6
        · have h6 := ha (.ex (.nt (.lt s.mea (.num 0)))) (List.mem_append_right _ (List.mem_append_right _ (List.mem_cons_of_mem _ (List.mem_cons_self ..))))
          have h6 : (!decide (s.mea.den < (0 : Int))) = true := h6
          have h7 : ¬ s.mea.den < (0 : Int) := by simpa using h6
          show 0 ≤ s.mea.den
          omega
      · cases h5
    · cases h
theorem TRes_chk {base : Env} {s : TSig} {td : Fr → St → Option (Fr × St)} {xs : List (Int × List Int)} {e : Ex} {f : Fr} {σ : St} {r : Sum (List (Int × List Int)) (Nat × List (Int × List Int))} (h : TRes base { s with auto := none, chk := true } td xs e f σ r) (_ : s.chk = true) : TRes base s td xs e f σ r := by
  cases r with
  | inl ys =>
    obtain ⟨q0, l, f1, σ1, fs, q00, q1, q2, q3, q4, q5, q6, q7⟩ := h
    exact ⟨q0, l, f1, σ1, fs, q00, q1, q2, q3, q4, q5, q6, fun _ => q7 rfl⟩
  | inr o =>
    obtain ⟨q0, q1, q2, q3, q4⟩ := h
    exact ⟨q0, q1, q2, fun _ => q3 rfl, q4⟩
theorem aStops_ok [Env] {s : TSig} {e : Ex} {f1 : Fr} {σ1 : St} {k : Nat} {l : List E} : ∀ {n : Nat}, aStops s e f1 σ1 n = some (k, l) → k < n ∧ aStop s k e f1 σ1 = some l
  | 0, h => by cases h
  | n + 1, h => by
    simp only [aStops] at h
    split at h
    · rename_i l' hl
      cases h
      exact ⟨Nat.lt_succ_self _, hl⟩
    · obtain ⟨h1, h2⟩ := aStops_ok h
      exact ⟨Nat.lt_succ_of_lt h1, h2⟩
theorem aAsk_ok {base : Env} {s : TSig} {td : Fr → St → Option (Fr × St)} {xs : List (Int × List Int)} (hp : (s.inv.all (EB.putOk s.vars) && s.mea.putOk s.vars) = true) {e : Ex} {f : Fr} {σ : St} {fs : List Fk} (h : @aAsk (envT base xs) s td e f σ fs = true) (hf : @Holds (envT base xs) fs) :
    TRes base { s with chk := true } td xs e f σ (@aVals (envT base xs) (aStep s td e f σ)) := by
  letI : Env := envT base xs
  rw [Bool.and_eq_true] at hp
  unfold aAsk at h
  split at h
  · rename_i f1 σ1 htd
    split at h
    · rename_i l hstep
      rw [hstep]
      rw [Bool.and_eq_true] at h
      obtain ⟨hok, h⟩ := h
      unfold aGoOk at hok
      rw [Bool.and_eq_true] at hok
      split at h
      · rename_i q hq
        unfold aStep at hstep
        rw [htd] at hstep
        simp only at hstep
        split at hstep
        · rename_i he
          have he : e = .normal := by cases e <;> first | rfl | cases he
          obtain ⟨l', hgo, hl'⟩ := Option.map_eq_some_iff.1 hstep
          cases hl'
          unfold aGo at hgo
          dsimp only at hgo
          split at hgo
          · rename_i hc
            have hgo := Option.some.inj hgo
            rw [hgo] at hc
            simp only [Bool.and_eq_true, decide_eq_true_eq] at hc
            obtain ⟨h1, h4⟩ := hc
            have hl : ∀ (i : Nat) e, l[i]? = some e → @E.D (envT base xs) e = (l.map E.D).getD i (0, []) := fun i e hi => by
              rw [List.getD_eq_getElem?_getD, List.getElem?_map, hi]; rfl
            have ha := allAsk_ok h hf
            have hall : hasAll s.vars (l.map E.D) := tvsAsk_ok hq fun b hb => ha b (List.mem_append_left _ hb)
            refine ⟨he, l, f1, σ1, fs, hf, Nat.le_of_eq h4, htd, h1, hok.1, hok.2, hl, fun _ => ⟨⟨hall, fun b hb => ?_⟩, ?_, ?_⟩⟩
            · rw [← putB_den hall (Nat.le_of_eq h4) hl b (List.all_eq_true.1 hp.1 b hb)]
              exact ha (.ex (b.put s.vars l)) (List.mem_append_right _ (List.mem_append_left _ (List.mem_map.2 ⟨b, hb, rfl⟩)))
            · have h6 := ha (.ex (.lt (s.mea.put s.vars l) s.mea)) (List.mem_append_right _ (List.mem_append_right _ (List.mem_cons_self ..)))
              have h6 : decide ((s.mea.put s.vars l).den < s.mea.den) = true := h6
              have h7 : (s.mea.put s.vars l).den = meaT base s (l.map E.D) := congrArg Prod.fst (put_D hall (Nat.le_of_eq h4) hl s.mea hp.2)
              show meaT base s (l.map E.D) < meaT base s xs
              rw [← h7]
              exact of_decide_eq_true h6
            · have h6 := ha (.ex (.nt (.lt s.mea (.num 0)))) (List.mem_append_right _ (List.mem_append_right _ (List.mem_cons_of_mem _ (List.mem_cons_self ..))))
              have h6 : (!decide (s.mea.den < (0 : Int))) = true := h6
              have h7 : ¬ s.mea.den < (0 : Int) := by simpa using h6
              show 0 ≤ s.mea.den
              omega
          · cases hgo
        · obtain ⟨_, _, h⟩ := Option.map_eq_some_iff.1 hstep
          cases h
      · cases h
    · rename_i k l hstep
      rw [hstep]
      rw [Bool.and_eq_true, Bool.and_eq_true] at h
      obtain ⟨hok, _, h⟩ := h
      unfold aStopOk at hok
      rw [Bool.and_eq_true] at hok
      split at h
      · rename_i q hq
        unfold aStep at hstep
        rw [htd] at hstep
        simp only at hstep
        split at hstep
        · obtain ⟨_, _, h⟩ := Option.map_eq_some_iff.1 hstep
          cases h
        · obtain ⟨⟨k', l'⟩, hst, hl'⟩ := Option.map_eq_some_iff.1 hstep
          cases hl'
          obtain ⟨hk, hst⟩ := aStops_ok hst
          unfold aStop at hst
          dsimp only at hst
          split at hst
          · rename_i hc
            have hst := Option.some.inj hst
            rw [hst] at hc
            simp only [Bool.and_eq_true, decide_eq_true_eq] at hc
            obtain ⟨he, h1, h4, _⟩ := hc
            obtain ⟨he, hon⟩ := Ex.same_eq he
            exact ⟨he, hon, hk, fun _ => tvsAsk_ok hq (fun b hb => allAsk_ok h hf b (List.mem_append_left _ hb)), l, f1, σ1, fs, hf, Nat.le_of_eq h4, htd, h1, hok.1, hok.2, fun i e hi => by rw [List.getD_eq_getElem?_getD, List.getElem?_map, hi]; rfl⟩
          · cases hst
      · cases h
    · cases h
  · cases h
section
variable {P : Program} {base : Env} {call : Env → FuncId → List AV → St → Out (AV × St)} {cf : Env → Cfg} {n0 id : Nat} {s : TSig} {b : Code}
/-- what a round comes to -/
theorem tround (ok : TOk P base call cf n0 id s b) {xs : List (Int × List Int)} (hg : GoodT base s xs) :
    ∃ e f σ, @Out.run (envT base xs) _ (@codeE (envT base xs) P (call (envT base xs)) (cf (envT base xs)) n0 b s.fr s.st) = some (e, f, σ) ∧ TRes base s (tidy (cf (envT base xs)) n0 id) xs e f σ (tstep base s xs) ∧ (match tstep base s xs with
      | .inl ys => GoodT base s ys ∧ meaT base s ys < meaT base s xs ∧ 0 ≤ meaT base s xs
      | .inr (k, o) => hasAll (s.os k) o) := by
  letI : Env := envT base xs
  have hr : ∃ e f σ, @Out.run (envT base xs) _ (@codeE (envT base xs) P (call (envT base xs)) (cf (envT base xs)) n0 b s.fr s.st) = some (e, f, σ) ∧ TRes base s (tidy (cf (envT base xs)) n0 id) xs e f σ (tstep base s xs) := by
    cases ha : s.auto with
    | none =>
      have hts : tstep base s xs = @WT.vals (envT base xs) s.wt := by unfold tstep; rw [ha]
      rw [hts]
      obtain ⟨⟨e, f, σ⟩, h1, h2⟩ := good_ok (Q := fun x : Ex × Fr × St => TRes base s (tidy (cf (envT base xs)) n0 id) xs x.1 x.2.1 x.2.2 (@WT.vals (envT base xs) s.wt)) (fun fs x hf hl => tAsk_ok ok.puts s.wt x.1 x.2.1 x.2.2 fs hl hf) _ _ (ok.round ha xs) (knows_ok hg.2)
      exact ⟨e, f, σ, h1, h2⟩
    | some g =>
      obtain ⟨hck, hgg, hround⟩ := ok.roundA g ha
      have hts : tstep base s xs = autoStep base P call cf n0 id { s with auto := none } b xs := by unfold tstep; rw [ha]; exact congrFun hgg xs
      obtain ⟨gs, hgs, hround⟩ := hround xs hg
      obtain ⟨⟨e, f, σ⟩, h1, h2⟩ := good_ok (Q := fun x : Ex × Fr × St => TRes base { s with auto := none, chk := true } (tidy (cf (envT base xs)) n0 id) xs x.1 x.2.1 x.2.2 (@aVals (envT base xs) (aStep { s with auto := none } (tidy (cf (envT base xs)) n0 id) x.1 x.2.1 x.2.2)))
        (fun fs x hf hl => @aAsk_ok base { s with auto := none } (tidy (cf (envT base xs)) n0 id) xs ok.puts _ _ _ _ hl hf) _ _ hround hgs
      refine ⟨e, f, σ, h1, ?_⟩
      have h3 : autoStep base P call cf n0 id { s with auto := none } b xs = @aVals (envT base xs) (aStep { s with auto := none } (tidy (cf (envT base xs)) n0 id) e f σ) := by
        unfold autoStep
        have h1 : @Out.run (envT base xs) _ (@codeE (envT base xs) P (call (envT base xs)) (cf (envT base xs)) n0 b ({ s with auto := none } : TSig).fr ({ s with auto := none } : TSig).st) = some (e, f, σ) := h1
        rw [h1]
      rw [hts, h3]
      refine TRes_chk ?_ hck
      exact h2
  obtain ⟨e, f, σ, h1, h2⟩ := hr
  refine ⟨e, f, σ, h1, h2, ?_⟩
  cases hck : s.chk with
  | false => exact ok.sem hck xs hg
  | true =>
    cases hs : tstep base s xs with
    | inl ys =>
      simp only [hs] at h2
      obtain ⟨_, _, _, _, _, _, _, _, _, _, _, _, h3⟩ := h2
      exact h3 hck
    | inr r =>
      simp only [hs] at h2
      exact h2.2.2.2.1 hck
/-- it ends -/
theorem tends (ok : TOk P base call cf n0 id s b) : ∀ (m : Nat) {xs : List (Int × List Int)}, GoodT base s xs → (meaT base s xs + 1).toNat ≤ m → ∃ n r, titer base s n xs = some r := by
  intro m
  induction m using Nat.strongRecOn with
  | _ m ih =>
    intro xs hg hm
    obtain ⟨e, f, σ, _, _, h⟩ := tround ok hg
    cases hs : tstep base s xs with
    | inr r => exact ⟨1, (xs, r.1, r.2), by simp only [titer, hs]⟩
    | inl ys =>
      rw [hs] at h
      obtain ⟨h1, h2, h3⟩ := h
      obtain ⟨n, r, hn⟩ := ih (meaT base s ys + 1).toNat (by omega) h1 (Nat.le_refl _)
      exact ⟨n + 1, r, by simp only [titer, hs]; exact hn⟩
/-- from a state as the check says to the template of it -/
theorem to_tmpl {vs : List TV} {xs ys : List (Int × List Int)} {l : List E} {f1 : Fr} {σ1 τ : St} {fl : List (Nat × AV)} {fn : Nat} {ρ : Nat → Loc} {a : Act} {w : World} (hv : hasAll vs ys) (hlen : vs.length ≤ l.length) (hl : ∀ (i : Nat) e, l[i]? = some e → @E.D (envT base xs) e = ys.getD i (0, []))
    {fs : List Fk} (hf : @Holds (envT base xs) fs) (hn : f1.n = fn) (h1 : simSt (qF fs vs l) σ1 τ = true) (h2 : (fl.all fun p => simAV (qF fs vs l) (f1.get p.1) p.2) = true) (hat : @At (envT base xs) ρ f1 σ1 a w) : @At (envT base ys) ρ (setsF fl ⟨fn, F.fresh (depthFor fn)⟩) τ a w := by
  obtain ⟨r1f, r1r⟩ := hat
  have hsim : SimOk (envT base xs) (envT base ys) (qF fs vs l) := qF_ok base hf hv hlen hl
  have hln : σ1.length = τ.length := (simSt_like hsim h1).1
  refine @At.mk (envT base ys) _ _ _ _ _ ?_ (Rel.sim hsim h1 r1r)
  rw [← hln]
  exact FRel.sim hsim r1f ⟨by rw [r1f.1, hn], fun t => by rw [freshF_get]; exact @ARel.any (envT base ys) _ _ _, r1f.2.2⟩ h2
/-- what a step to a template leaves as it was -/
theorem ext_tmpl {q : E → E → Bool} {e1 e2 : Env} (hq : SimOk e1 e2 q) {n : Nat} {σ1 τ : St} (h1 : simSt q σ1 τ = true) {ρ ρ' : Nat → Loc} {σ' : St} {w w' : World} (g : ExtN n ρ τ w ρ' σ' w') : ExtN n ρ σ1 w ρ' σ' w' := by
  obtain ⟨_, hk⟩ := simSt_like hq h1
  refine ⟨g.len, g.same, g.os, g.tape, g.output, g.size, ?_, ?_⟩
  · intro bb hb hno
    exact g.keep bb hb fun i hi hfo => hno i ⟨hi.1, (hk i).own hi.2⟩ ((hk i).foot _ _ _ hfo)
  · intro i hi bb hb
    rcases g.own i hi bb hb with ⟨j, hj, hf⟩ | hf
    · exact .inl ⟨j, ⟨hj.1, (hk j).own hj.2⟩, (hk j).foot _ _ _ hf⟩
    · exact .inr hf
theorem ext_tmpl' {q : E → E → Bool} {e1 e2 : Env} (hq : SimOk e1 e2 q) {n : Nat} {σ1 τ : St} (h1 : simSt q σ1 τ = true) {ρ ρ' : Nat → Loc} {σ : St} {w w' : World} (g : ExtN n ρ σ w ρ' σ1 w') : ExtN n ρ σ w ρ' τ w' := by
  obtain ⟨hl, hk⟩ := simSt_like hq h1
  exact ⟨by rw [← hl]; exact g.len, g.same, g.os, g.tape, g.output, g.size, g.keep, fun i hi bb hb => g.own i ⟨hi.1, (hk i).own hi.2⟩ bb ((hk i).foot _ _ _ hb)⟩
/-- all rounds -/
theorem trounds (ok : TOk P base call cf n0 id s b) {D : Nat → Bool} (hD : codeD D b = true) : ∀ (n : Nat) {xs xl o : List (Int × List Int)} {k : Nat} {ρ : Nat → Loc} {a : Act} {w : World} {Q : Exit → Act → World → Prop},
    titer base s n xs = some (xl, k, o) → GoodT base s xs → @At (envT base xs) ρ s.fr s.st a w →
    (k < s.nk → hasAll (s.os k) o → ∀ ρ' a' w', @At (envT base o) ρ' (s.xfr k) (s.xst k) a' w' → ExtN n0 ρ s.st w ρ' (s.xst k) w' → Stay D a a' → Q (toE (s.ex k)) a' w') → Code.rounds P b Q n a w
  | 0, xs, xl, o, k, ρ, a, w, Q, h, _, _, _ => by cases h
  | n + 1, xs, xl, o, k, ρ, a, w, Q, h, hg, hat, hq => by
    obtain ⟨e, f, σ, hrun, hres, hsem⟩ := tround ok hg
    rw [rounds_succ]
    refine @codeE_wp (envT base xs) P (call (envT base xs)) (cf (envT base xs)) n0 (ok.sound xs) ok.names (@drawOk (envT base xs) P (call (envT base xs)) ok.mixed ok.names (ok.sound xs)) D b s.fr f s.st σ e ρ a w _ hD ok.big hat (ok.loops xs) hrun fun ρ2 a2 w2 q1 q2 q3 => ?_
    cases hs : tstep base s xs with
    | inr r =>
      obtain ⟨k', o'⟩ := r
      simp only [titer, hs, Option.some.injEq, Prod.mk.injEq] at h
      obtain ⟨rfl, rfl, rfl⟩ := h
      rw [hs] at hres hsem
      have hall : hasAll (s.os k') o' := hsem
      obtain ⟨he, hon, hk, _, l, f1, σ1, fs, hfs, hll, htd, hn, h1, h2, hl⟩ := hres
      obtain ⟨ρ3, r1, r2⟩ := @tidy_sound (envT base xs) (cf (envT base xs)) n0 id f f1 σ σ1 ρ2 a2 w2 htd q2.len q1
      have hx := hq hk hall ρ3 a2 w2 (to_tmpl hall hll hl hfs hn h1 h2 r1) (ext_tmpl' (qF_ok base hfs hall hll hl) h1 (q2.trans r2)) q3
      rw [← he] at hx
      rcases hon with ⟨i, rfl⟩ | rfl
      · exact hx
      · exact hx
    | inl ys =>
      simp only [titer, hs] at h
      rw [hs] at hres hsem
      have hgy : GoodT base s ys := hsem.1
      obtain ⟨rfl, l, f1, σ1, fs, hfs, hll, htd, hn, h1, h2, hl, _⟩ := hres
      obtain ⟨ρ3, r1, r2⟩ := @tidy_sound (envT base xs) (cf (envT base xs)) n0 id f f1 σ σ1 ρ2 a2 w2 htd q2.len q1
      have hsim : SimOk (envT base xs) (envT base ys) (qF fs s.vars l) := qF_ok base hfs hgy.1 hll hl
      refine trounds ok hD n h hgy (to_tmpl hgy.1 hll hl hfs hn h1 h2 r1) fun g1 g2 ρ' a' w' g5 g6 g7 => ?_
      exact hq g1 g2 ρ' a' w' g5 ((q2.trans r2).trans (ext_tmpl hsim h1 g6)) (q3.trans g7)
end
def keepsL (vs : List TV) (kp : List Nat) (l : List E) : Bool :=
  kp.all fun i => match vs[i]?, l[i]? with
    | some v, some e => e.beq (v.leaf i)
    | _, _ => false
def WT.keeps (vs : List TV) (kp : List Nat) : WT → Bool
  | .go l => keepsL vs kp l
  | .stop _ l => keepsL vs kp l
  | .br _ t e => t.keeps vs kp && e.keeps vs kp
theorem keepsL_D {base : Env} {vs : List TV} {kp : List Nat} {l : List E} {xs : List (Int × List Int)} {i : Nat} (h : keepsL vs kp l = true) (hi : i ∈ kp) (hv : ∀ v, vs[i]? = some v → v.has (xs.getD i (0, []))) :
    (l.map (@E.D (envT base xs))).getD i (0, []) = xs.getD i (0, []) := by
  have h1 := List.all_eq_true.1 h i hi
  split at h1
  · rename_i v e e1 e2
    rw [List.getD_eq_getElem?_getD, List.getElem?_map, e2]
    have h3 := E.beq_eq h1
    subst h3
    exact leaf_D base (hv v e1)
  · cases h1
theorem keeps_vals {base : Env} {vs : List TV} {kp : List Nat} {xs : List (Int × List Int)} {i : Nat} (hi : i ∈ kp) (hv : ∀ v, vs[i]? = some v → v.has (xs.getD i (0, []))) : ∀ {t : WT}, t.keeps vs kp = true → match @WT.vals (envT base xs) t with
    | .inl ys => ys.getD i (0, []) = xs.getD i (0, [])
    | .inr (_, o) => o.getD i (0, []) = xs.getD i (0, [])
  | .go l, h => keepsL_D h hi hv
  | .stop k l, h => keepsL_D h hi hv
  | .br c t e, h => by
    simp only [WT.keeps, Bool.and_eq_true] at h
    have q1 := keeps_vals (base := base) hi hv h.1
    have q2 := keeps_vals (base := base) hi hv h.2
    simp only [WT.vals]
    cases @EB.den (envT base xs) c with
    | true => exact q1
    | false => exact q2
theorem titer_keeps {base : Env} {s : TSig} (h : (s.wt.keeps s.vars s.kp && s.auto.isNone) = true) {i : Nat} (hi : i ∈ s.kp) : ∀ {n : Nat} {xs xl o : List (Int × List Int)} {k : Nat}, titer base s n xs = some (xl, k, o) → (∀ v, s.vars[i]? = some v → v.has (xs.getD i (0, []))) → o.getD i (0, []) = xs.getD i (0, [])
  | 0, _, _, _, _, hn, _ => by cases hn
  | n + 1, xs, xl, o, k, hn, hv => by
    have hh := Bool.and_eq_true_iff.1 h
    have h1 := keeps_vals (base := base) hi hv hh.1
    have hts : tstep base s xs = @WT.vals (envT base xs) s.wt := by unfold tstep; rw [Option.isNone_iff_eq_none.1 hh.2]
    simp only [titer] at hn
    cases hs : tstep base s xs with
    | inl ys =>
      have hs' : @WT.vals (envT base xs) s.wt = .inl ys := by rw [← hts]; exact hs
      rw [hs'] at h1
      rw [hs] at hn
      have h1 : ys.getD i (0, []) = xs.getD i (0, []) := h1
      rw [← h1]
      exact titer_keeps h hi hn (by rw [h1]; exact hv)
    | inr r =>
      have hs' : @WT.vals (envT base xs) s.wt = .inr r := by rw [← hts]; exact hs
      rw [hs'] at h1
      rw [hs] at hn
      cases hn
      exact h1
theorem keepsL_any {vs : List TV} {kp : List Nat} {l : List E} (h : keepsL vs kp l = true) : (kp.all fun i => decide (i < vs.length)) = true :=
  List.all_eq_true.2 fun i hi => by
    have h1 := List.all_eq_true.1 h i hi
    split at h1
    · rename_i v e e1 e2
      exact decide_eq_true (List.getElem?_eq_some_iff.1 e1).1
    · cases h1
theorem keeps_any {vs : List TV} {kp : List Nat} : ∀ {t : WT}, t.keeps vs kp = true → (kp.all fun i => decide (i < vs.length)) = true
  | .go _, h => keepsL_any h
  | .stop _ _, h => keepsL_any h
  | .br _ t _, h => by
    simp only [WT.keeps, Bool.and_eq_true] at h
    exact keeps_any (t := t) h.1
/-- what is so at a round's end that is the last one -/
theorem aAsk_x {base : Env} {s : TSig} {td : Fr → St → Option (Fr × St)} {xs : List (Int × List Int)} {e : Ex} {f : Fr} {σ : St} {fs : List Fk} (h : @aAsk (envT base xs) s td e f σ fs = true) (hf : @Holds (envT base xs) fs) {k : Nat} {o : List (Int × List Int)} (ho : @aVals (envT base xs) (aStep s td e f σ) = .inr (k, o)) :
    ∀ b ∈ s.xinv k, @EB.den (envT base o) b = true := by
  letI : Env := envT base xs
  intro b hb
  unfold aAsk at h
  split at h
  · rename_i f1 σ1 htd
    split at h
    · rename_i l hstep
      rw [hstep] at ho
      cases ho
    · rename_i k' l hstep
      rw [hstep] at ho
      have ho : (Sum.inr (k', l.map E.D) : Sum (List (Int × List Int)) (Nat × List (Int × List Int))) = .inr (k, o) := ho
      cases ho
      rw [Bool.and_eq_true, Bool.and_eq_true] at h
      obtain ⟨_, hp, h⟩ := h
      split at h
      · rename_i q hq
        have ha := allAsk_ok h hf
        have hall : hasAll (s.os k) (l.map E.D) := tvsAsk_ok hq fun b hb => ha b (List.mem_append_left _ hb)
        have hlen : (s.os k).length ≤ l.length := by have := (hasAll_get hall).1; rw [List.length_map] at this; omega
        have hl : ∀ (i : Nat) e, l[i]? = some e → @E.D (envT base xs) e = (l.map E.D).getD i (0, []) := fun i e hi => by
          rw [List.getD_eq_getElem?_getD, List.getElem?_map, hi]; rfl
        rw [← putB_den hall hlen hl b (List.all_eq_true.1 hp b hb)]
        exact ha (.ex (b.put (s.os k) l)) (List.mem_append_right _ (List.mem_map.2 ⟨b, hb, rfl⟩))
      · cases h
    · cases h
  · cases h
theorem titer_x {P : Program} {base : Env} {call : Env → FuncId → List AV → St → Out (AV × St)} {cf : Env → Cfg} {n0 id : Nat} {s : TSig} {b : Code} (ok : TOk P base call cf n0 id s b) (hau : s.auto.isSome = true) : ∀ (n : Nat) {xs xl o : List (Int × List Int)} {k : Nat}, titer base s n xs = some (xl, k, o) → GoodT base s xs → hasAll (s.os k) o ∧ k < s.nk ∧ ∀ b ∈ s.xinv k, @EB.den (envT base o) b = true
  | 0, _, _, _, _, h, _ => by cases h
  | n + 1, xs, xl, o, k, h, hg => by
    obtain ⟨e, f, σ, hrun, hres, hsem⟩ := tround ok hg
    simp only [titer] at h
    cases hs : tstep base s xs with
    | inl ys =>
      rw [hs] at h hsem
      exact titer_x ok hau n h hsem.1
    | inr r =>
      rw [hs] at h hres hsem
      cases h
      refine ⟨hsem, hres.2.2.1, ?_⟩
      cases ha : s.auto with
      | none => rw [ha] at hau; cases hau
      | some g =>
        obtain ⟨_, hgg, hround⟩ := ok.roundA g ha
        obtain ⟨gs, hgs, hround⟩ := hround xs hg
        obtain ⟨⟨e', f', σ'⟩, h1, h2⟩ := @good_ok (envT base xs) _ _ (fun x : Ex × Fr × St => ∀ (k : Nat) o, @aVals (envT base xs) (aStep { s with auto := none } (tidy (cf (envT base xs)) n0 id) x.1 x.2.1 x.2.2) = .inr (k, o) → ∀ b ∈ s.xinv k, @EB.den (envT base o) b = true)
          (fun fs x hf hl k o ho => @aAsk_x base { s with auto := none } _ xs _ _ _ _ hl hf k o ho) _ _ hround hgs
        have hst : tstep base s xs = @aVals (envT base xs) (aStep { s with auto := none } (tidy (cf (envT base xs)) n0 id) e' f' σ') := by
          have h3 : tstep base s xs = autoStep base P call cf n0 id { s with auto := none } b xs := by unfold tstep; rw [ha]; exact congrFun hgg xs
          rw [h3]
          unfold autoStep
          have h1 : @Out.run (envT base xs) _ (@codeE (envT base xs) P (call (envT base xs)) (cf (envT base xs)) n0 b ({ s with auto := none } : TSig).fr ({ s with auto := none } : TSig).st) = some (e', f', σ') := h1
          rw [h1]
        exact h2 _ _ (hst.symm.trans hs)
end Go.SX
