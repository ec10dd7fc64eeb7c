/- Loops told by terms: each round makes these numbers of those, or it is the last; behind a loop the numbers are uninterpreted functions of those ahead of it. -/
import Derived.Test.YtfacghikjnjjmaaSxK
import Derived.Test.YtfacghikjnjjmaaSxP
namespace Go.SX
open Go Go.Lib
set_option linter.unusedSectionVars false

/-- a round -/
inductive WT where
  | go (next : List E)
  | stop (k : Nat) (outs : List E)
  | br (c : EB) (t e : WT)
structure WSig where
  /-- slots: first those that turn from round to round, then those that stay -/
  ins : List (Nat × CT)
  np : Nat
  /-- slots behind the loop -/
  outs : List (Nat × CT)
  obs : List (Int × Int)
  /-- how it may end -/
  ex : Nat → Ex
  nk : Nat
  /-- so many slots has a frame; which of them the loop sets -/
  fn : Nat
  kill : List Nat
  wt : List E → WT
  inv : List E → List EB
  mea : List E → E
  /-- within what the numbers stay -/
  rb : List (Int × Int)
def WSig.ts (s : WSig) : List CT := s.ins.map (·.2)
def WSig.us (s : WSig) : List CT := s.outs.map (·.2)
def WSig.D (s : WSig) : Nat → Bool := fun t => s.kill.contains t
def insE : List CT → List (Int × Int) → Nat → Nat → List E
  | .sc (.int _) :: ts, b :: bs, i, j => .nm i b.1 b.2 :: insE ts bs (i + 1) j
  | .sc .bool :: ts, _ :: bs, i, j => .nm i 0 1 :: insE ts bs (i + 1) j
  | .lst [.int k] :: ts, b :: bs, i, j => .ls j .nl k.min k.max b.2.toNat :: insE ts bs i (j + 1)
  | _, _, _, _ => []
def rpsB : List CT → List (Int × Int) → Nat → Nat → List Rp
  | .sc (.int _) :: ts, b :: bs, i, j => .n (.ex (.nm i b.1 b.2)) :: rpsB ts bs (i + 1) j
  | .sc .bool :: ts, _ :: bs, i, j => .b (.ex (.eq (.nm i 0 1) (.num 1))) :: rpsB ts bs (i + 1) j
  | .lst [.int k] :: ts, b :: bs, i, j => .tm (.ls j .nl k.min k.max b.2.toNat) :: rpsB ts bs i (j + 1)
  | _, _, _, _ => []
/-- within the bounds -/
def inB : List CT → List (Int × Int) → List CV → Prop
  | .sc (.int _) :: ts, b :: bs, .n x :: cs => (b.1 ≤ x ∧ x ≤ b.2) ∧ inB ts bs cs
  | .sc .bool :: ts, _ :: bs, .b _ :: cs => inB ts bs cs
  | .lst _ :: ts, b :: bs, .l xs :: cs => (xs.length : Int) ≤ b.2 ∧ inB ts bs cs
  | [], [], [] => True
  | _, _, _ => False
/-- that is asked -/
def bndG : List CT → List (Int × Int) → List E → List EB
  | .sc (.int _) :: ts, b :: bs, e :: l => .lt (.num (b.1 - 1)) e :: .lt e (.num (b.2 + 1)) :: bndG ts bs l
  | .lst _ :: ts, b :: bs, e :: l => .lt (.ln e) (.num (b.2 + 1)) :: bndG ts bs l
  | _ :: ts, _ :: bs, _ :: l => bndG ts bs l
  | _, _, _ => []
def WSig.cur (s : WSig) : List E := insE s.ts s.rb 0 0
def WSig.rps (s : WSig) : List Rp := rpsB s.ts s.rb 0 0
@[reducible] def envC (base : Env) (cvs : List CV) : Env where
  val i := (namesOf cvs).getD i 0
  app := base.app
  lst i l := if i < 16 then (listsOf cvs).getD i [] else base.lst i l
section
variable [Env]
def WT.den : WT → Sum (List Int) (Nat × List Int)
  | .go n => .inl (n.map E.den)
  | .stop k o => .inr (k, o.map E.den)
  | .br c t e => bif c.den then t.den else e.den
/-- what a term is, as one of a type -/
def valT : CT → E → Int × List Int
  | .lst _, e => (0, e.dens)
  | _, e => (e.den, [])
def valTs : List CT → List E → List (Int × List Int)
  | t :: ts, e :: l => valT t e :: valTs ts l
  | _, _ => []
def valC : CV → Int × List Int
  | .n x => (x, [])
  | .b b => (bI b, [])
  | .l xs => (0, xs)
  | .r _ => (0, [])
end
def wstep (base : Env) (s : WSig) (cvs : List CV) : Sum (List Int) (Nat × List Int) := @WT.den (envC base cvs) (s.wt (s.cur))
def WSig.upd (s : WSig) (next : List Int) (cvs : List CV) : List CV := mkCVs (s.ts.take s.np) next ++ cvs.drop s.np
def whileN (base : Env) (s : WSig) : Nat → List CV → Option (Nat × List Int)
  | 0, _ => none
  | n + 1, cvs => match wstep base s cvs with
    | .inl next => whileN base s n (s.upd next cvs)
    | .inr r => some r
open Classical in
noncomputable def Wh (base : Env) (s : WSig) (l : List Int) : List Int :=
  if h : ∃ r : Nat × List Int, ∃ n, whileN base s n (decs s.ts l) = some r then ((Classical.choose h).1 : Int) :: (Classical.choose h).2 else []
theorem whileN_det {base : Env} {s : WSig} : ∀ {n m : Nat} {cvs : List CV} {r q : Nat × List Int}, whileN base s n cvs = some r → whileN base s m cvs = some q → r = q
  | 0, _, _, _, _, h, _ => by cases h
  | _ + 1, 0, _, _, _, _, h => by cases h
  | n + 1, m + 1, cvs, r, q, h, k => by
    simp only [whileN] at h k
    cases hs : wstep base s cvs with
    | inl next => rw [hs] at h k; exact whileN_det h k
    | inr x => rw [hs] at h k; cases h; cases k; rfl
theorem Wh_eq {base : Env} {s : WSig} {l : List Int} {n : Nat} {r : Nat × List Int} (h : whileN base s n (decs s.ts l) = some r) : Wh base s l = (r.1 : Int) :: r.2 := by
  have hx : ∃ r : Nat × List Int, ∃ n, whileN base s n (decs s.ts l) = some r := ⟨r, n, h⟩
  unfold Wh
  rw [dif_pos hx]
  obtain ⟨m, hm⟩ := Classical.choose_spec hx
  rw [whileN_det h hm]
section
variable [Env]
def setsF : List (Nat × AV) → Fr → Fr
  | [], f => f
  | (t, x) :: r, f => setsF r (f.set t x)
def wFr (s : WSig) : Fr := setsF ((s.ins.map (·.1)).zip ((rpCells s.ts (s.rps) 0).map .one)) ⟨s.fn, F.fresh (depthFor s.fn)⟩
def wSt (s : WSig) : St := rpObjs s.ts (s.rps)
def cellAt (f : Fr) (t : Nat) : Sc :=
  match f.get t with
  | .one x => x
  | _ => .any
def kcOk : List CT → List Sc → Bool
  | [], [] => true
  | .sc (.int k) :: ts, .int k' _ :: r => decide (k = k') && kcOk ts r
  | .sc .bool :: ts, .bool _ :: r => kcOk ts r
  | _, _ => false
def askCells (ts : List CT) (c : List Sc) (l : List E) (more : List B) (fs : List Fk) : Bool :=
  kcOk ts c && (match cellEs c with
    | some m => match eqsB m l with
      | some q => allAsk (q ++ more) fs
      | none => false
    | none => false)
def bsB : List CT → List (Int × Int) → List E → Option (List B)
  | [], [], [] => some []
  | .sc (.int _) :: ts, b :: bs, e :: l => (bsB ts bs l).map fun r => B.le (.c b.1) (xOf e) :: B.le (xOf e) (.c b.2) :: r
  | .sc .bool :: ts, b :: bs, _ :: l => if b = (0, 1) then bsB ts bs l else none
  | _, _, _ => none
def wtAsk (s : WSig) (cur : List E) : WT → Ex → Fr → List Fk → Bool
  | .br c t e, x, f, fs => c.ask fs fun fs v => bif v then wtAsk s cur t x f fs else wtAsk s cur e x f fs
  | .go next, x, f, fs => (match x with | .normal => true | _ => false) &&
      askCells (s.ts.take s.np) ((s.ins.take s.np).map fun i => cellAt f i.1) next
        ((s.inv (next ++ cur.drop s.np)).map .ex ++ (bndG (s.ts.take s.np) (s.rb.take s.np) next).map .ex ++ [.ex (.lt (s.mea (next ++ cur.drop s.np)) (s.mea cur)), B.le (.c 0) (xOf (s.mea cur))]) fs
  | .stop k outs, x, f, fs => x.beq (s.ex k) && (decide (k < s.nk) &&
      match bsB s.us s.obs outs with
      | some q => askCells s.us (s.outs.map fun i => cellAt f i.1) outs q fs
      | none => false)
def knows (l : List EB) : List Fk := l.foldr (fun b fs => b.know true fs) []
/-- a round as it is told -/
noncomputable def roundB (P : Program) (call : FuncId → List AV → St → Out (AV × St)) (cf : Cfg) (s : WSig) (b : Code) : Bool :=
  (codeE P call cf (wSt s).length b (wFr s) (wSt s)).good (fun fs x => wtAsk s (s.cur) (s.wt (s.cur)) x.1 x.2.1 fs) (knows (s.inv (s.cur)))

theorem askCells_ok {ts : List CT} {c : List Sc} {l : List E} {more : List B} {fs : List Fk} (h : askCells ts c l more fs = true) (hf : Holds fs) : kcOk ts c = true ∧ c.map Sc.vI = l.map E.den ∧ ∀ b ∈ more, b.den = true := by
  unfold askCells at h
  rw [Bool.and_eq_true] at h
  refine ⟨h.1, ?_⟩
  have h := h.2
  split at h
  · rename_i m hm
    split at h
    · rename_i q hq
      have ha := allAsk_ok h hf
      exact ⟨by rw [← cellEs_den hm]; exact eqsB_den hq fun b hb => ha b (List.mem_append_left _ hb), fun b hb => ha b (List.mem_append_right _ hb)⟩
    · cases h
  · cases h
def GoOk (s : WSig) (cur : List E) (e : Ex) (f : Fr) (next : List Int) : Prop :=
  e = .normal ∧ kcOk (s.ts.take s.np) ((s.ins.take s.np).map fun i => cellAt f i.1) = true ∧ ((s.ins.take s.np).map fun i => cellAt f i.1).map Sc.vI = next ∧
  ∃ nx : List E, nx.map E.den = next ∧ (∀ b ∈ s.inv (nx ++ cur.drop s.np), b.den = true) ∧ (∀ b ∈ bndG (s.ts.take s.np) (s.rb.take s.np) nx, b.den = true) ∧ (s.mea (nx ++ cur.drop s.np)).den < (s.mea cur).den ∧ 0 ≤ (s.mea cur).den
def StopOk (s : WSig) (e : Ex) (f : Fr) (k : Nat) (outs : List Int) : Prop :=
  e = s.ex k ∧ k < s.nk ∧ kcOk s.us (s.outs.map fun i => cellAt f i.1) = true ∧ (s.outs.map fun i => cellAt f i.1).map Sc.vI = outs ∧ inBs s.us s.obs outs
theorem bsB_ok : ∀ {ts : List CT} {bs : List (Int × Int)} {l : List E} {q : List B} {c : List Sc}, bsB ts bs l = some q → (∀ b ∈ q, b.den = true) → kcOk ts c = true → c.map Sc.vI = l.map E.den → inBs ts bs (l.map E.den)
  | [], bs, l, q, c, h, _, _, _ => by
    cases bs <;> cases l <;> first | exact True.intro | cases h
  | t :: ts, bs, l, q, c, h, hq, hk, hc => by
    cases bs with
    | nil => cases t <;> first | (cases h; done) | (rename_i k; cases k <;> cases h)
    | cons b bs =>
      cases l with
      | nil => cases t <;> first | (cases h; done) | (rename_i k; cases k <;> cases h)
      | cons e l =>
        cases c with
        | nil => cases hc
        | cons x c =>
          rw [List.map_cons, List.map_cons, List.cons.injEq] at hc
          cases t <;> first | (cases h; done) | skip
          rename_i k
          cases k with
          | int k =>
            cases x <;> first | (cases hk; done) | skip
            simp only [kcOk, Bool.and_eq_true, decide_eq_true_eq] at hk
            simp only [bsB] at h
            obtain ⟨r, h1, rfl⟩ := Option.map_eq_some_iff.1 h
            have g1 := hq _ (List.mem_cons_self ..)
            have g2 := hq _ (List.mem_cons_of_mem _ (List.mem_cons_self ..))
            rw [le_den, xOf_den] at g1 g2
            exact ⟨⟨g1, g2⟩, bsB_ok h1 (fun b hb => hq b (List.mem_cons_of_mem _ (List.mem_cons_of_mem _ hb))) hk.2 hc.2⟩
          | bool =>
            cases x <;> first | (cases hk; done) | skip
            rename_i y
            simp only [kcOk] at hk
            simp only [bsB] at h
            split at h
            · rename_i hb
              refine ⟨⟨hb, ?_⟩, bsB_ok h hq hk hc.2⟩
              rw [← hc.1]
              show bI y.den = 0 ∨ bI y.den = 1
              cases y.den <;> simp [bI]
            · cases h
theorem wtAsk_ok {s : WSig} {cur : List E} : ∀ {t : WT} {e : Ex} {f : Fr} {fs : List Fk}, wtAsk s cur t e f fs = true → Holds fs → match t.den with | .inl next => GoOk s cur e f next | .inr (k, outs) => StopOk s e f k outs
  | .br c t u, e, f, fs, h, hf => by
    simp only [wtAsk] at h
    obtain ⟨fs', h1, h2⟩ := EB.ask_ok c fs _ h hf
    simp only [WT.den]
    cases hc : c.den with
    | true => rw [hc] at h2; exact wtAsk_ok (t := t) h2 h1
    | false => rw [hc] at h2; exact wtAsk_ok (t := u) h2 h1
  | .go next, e, f, fs, h, hf => by
    simp only [wtAsk, Bool.and_eq_true] at h
    obtain ⟨h1, h2, h3⟩ := askCells_ok h.2 hf
    refine ⟨?_, h1, h2, next, rfl, fun b hb => ?_, fun b hb => ?_, ?_, ?_⟩
    · have := h.1
      cases e <;> first | rfl | cases this
    · exact h3 (.ex b) (List.mem_append_left _ (List.mem_append_left _ (List.mem_map_of_mem hb)))
    · exact h3 (.ex b) (List.mem_append_left _ (List.mem_append_right _ (List.mem_map_of_mem hb)))
    · have := h3 _ (List.mem_append_right _ (List.mem_cons_self ..))
      exact of_decide_eq_true this
    · have := h3 _ (List.mem_append_right _ (List.mem_cons_of_mem _ (List.mem_cons_self ..)))
      rw [le_den, xOf_den] at this
      exact this
  | .stop k outs, e, f, fs, h, hf => by
    simp only [wtAsk, Bool.and_eq_true, decide_eq_true_eq] at h
    obtain ⟨h1, h2, h3⟩ := h
    split at h3
    · rename_i q hq
      obtain ⟨g1, g2, g3⟩ := askCells_ok h3 hf
      exact ⟨Ex.beq_eq h1, h2, g1, g2, bsB_ok hq g3 g1 g2⟩
    · cases h3
theorem knows_ok : ∀ {l : List EB}, (∀ b ∈ l, b.den = true) → Holds (knows l)
  | [], _ => fun f h => by cases h
  | b :: l, h => know_ok (h b (List.mem_cons_self ..)) (knows_ok fun x hx => h x (List.mem_cons_of_mem _ hx))
theorem setsF_rel {ρ : Nat → Loc} {n : Nat} {ts : Array Value} : ∀ (l : List (Nat × AV)) (f : Fr), FRel ρ n f ts → (∀ p ∈ l, ARel ρ n p.2 (ts.getD p.1 undef)) → FRel ρ n (setsF l f) ts
  | [], f, h, _ => h
  | (t, x) :: r, f, h, hl => by
    refine setsF_rel r _ ?_ fun p hp => hl p (List.mem_cons_of_mem _ hp)
    have := h.set (t := t) (hl (t, x) (List.mem_cons_self ..))
    have e : ts.setIfInBounds t (ts.getD t undef) = ts := by
      apply Array.ext
      · simp
      · intro k h1 h2
        rw [Array.getElem_setIfInBounds]
        split
        · rename_i e; subst e; rw [Array.getD_eq_getD_getElem?, Array.getElem?_eq_getElem h2]; rfl
        · rfl
    rwa [e] at this
theorem setsF_n : ∀ (l : List (Nat × AV)) (f : Fr), (setsF l f).n = f.n
  | [], f => rfl
  | (t, x) :: r, f => by rw [setsF, setsF_n r, Fr.set_n]
end
/-! Values as the world goes on. -/
theorem CellV.calm {w w' : World} (h : Calm w w') {t : CT} {c : CV} {x : Value} (hv : CellV w t c x) : CellV w' t c x := by
  cases t with
  | sc k => cases k <;> exact hv
  | str => exact hv
  | lst ks =>
    obtain ⟨n, f, h1, h2, h3⟩ := hv
    refine ⟨n, f, h1, h2, ?_⟩
    rcases h3 with h3 | ⟨l, A, a1, a2, a3, a4, a5, a6, a7⟩ | h3
    · exact .inl h3
    rotate_left
    · exact .inr (.inr h3)
    · refine .inr <| .inl ⟨l, A, a1, Nat.lt_of_lt_of_le a2 h.2.2.2.1, a3, a4, a5, a6, fun i hi => ?_⟩
      obtain ⟨v, v1, v2⟩ := a7 i hi
      exact ⟨v, (@cell_block ⟨fun _ => 0, fun _ _ => 0, fun _ _ => []⟩ _ _ _ _ (h.2.2.2.2 _ a2)).trans v1, v2⟩
theorem AllV.calm {w w' : World} (h : Calm w w') : ∀ {ts : List CT} {cvs : List CV} {vs : List Value}, AllV w ts cvs vs → AllV w' ts cvs vs
  | [], cvs, vs, hv => by cases cvs <;> cases vs <;> first | exact True.intro | cases hv
  | t :: ts, cvs, vs, hv => by
    cases cvs with
    | nil => cases vs <;> cases hv
    | cons c cvs =>
      cases vs with
      | nil => cases hv
      | cons x vs => exact ⟨hv.1.calm h, AllV.calm h hv.2⟩
theorem AllV.len {w : World} : ∀ {ts : List CT} {cvs : List CV} {vs : List Value}, AllV w ts cvs vs → cvs.length = ts.length ∧ vs.length = ts.length
  | [], cvs, vs, hv => by cases cvs <;> cases vs <;> first | exact ⟨rfl, rfl⟩ | cases hv
  | t :: ts, cvs, vs, hv => by
    cases cvs with
    | nil => cases vs <;> cases hv
    | cons c cvs =>
      cases vs with
      | nil => cases hv
      | cons x vs =>
        obtain ⟨h1, h2⟩ := AllV.len hv.2
        exact ⟨by simp [h1], by simp [h2]⟩
theorem AllV.drop {w : World} : ∀ {n : Nat} {ts : List CT} {cvs : List CV} {vs : List Value}, AllV w ts cvs vs → AllV w (ts.drop n) (cvs.drop n) (vs.drop n)
  | 0, _, _, _, h => h
  | n + 1, [], cvs, vs, h => by cases cvs <;> cases vs <;> first | exact True.intro | cases h
  | n + 1, t :: ts, cvs, vs, h => by
    cases cvs with
    | nil => cases vs <;> cases h
    | cons c cvs =>
      cases vs with
      | nil => cases h
      | cons x vs => exact AllV.drop (n := n) h.2
theorem AllV.app {w : World} : ∀ {ts us : List CT} {cs ds : List CV} {vs xs : List Value}, AllV w ts cs vs → AllV w us ds xs → AllV w (ts ++ us) (cs ++ ds) (vs ++ xs)
  | [], us, cs, ds, vs, xs, h, k => by cases cs <;> cases vs <;> first | exact k | cases h
  | t :: ts, us, cs, ds, vs, xs, h, k => by
    cases cs with
    | nil => cases vs <;> cases h
    | cons c cs =>
      cases vs with
      | nil => cases h
      | cons x vs => exact ⟨h.1, AllV.app h.2 k⟩
section
variable [Env]
theorem kc_all {ρ : Nat → Loc} {n : Nat} {w : World} : ∀ {ts : List CT} {c : List Sc} {vs : List Value}, kcOk ts c = true → LRel ρ n c vs → AllV w ts (mkCVs ts (c.map Sc.vI)) vs
  | [], c, vs, hk, hl => by
    cases c with
    | nil => cases vs with
      | nil => exact True.intro
      | cons _ _ => exact absurd hl.1 (by simp)
    | cons _ _ => cases hk
  | t :: ts, c, vs, hk, hl => by
    cases c with
    | nil => cases t <;> first | (cases hk; done) | (rename_i k; cases k <;> cases hk)
    | cons s c =>
      obtain ⟨v, r, rfl, h1, h2⟩ := hl.inv
      cases t <;> first | (cases hk; done) | skip
      rename_i k
      cases k with
      | int k =>
        cases s <;> first | (cases hk; done) | skip
        simp only [kcOk, Bool.and_eq_true, decide_eq_true_eq] at hk
        obtain ⟨rfl, hk⟩ := hk
        exact ⟨⟨_, rfl, h1.1, h1.2⟩, kc_all hk h2⟩
      | bool =>
        cases s <;> first | (cases hk; done) | skip
        rename_i b
        simp only [kcOk] at hk
        refine ⟨⟨b.den, ?_, h1⟩, kc_all hk h2⟩
        show CV.b (iB (bI b.den)) = _
        rw [iB_bI]
theorem cellAt_rel {ρ : Nat → Loc} {n : Nat} {f : Fr} {ts : Array Value} (h : FRel ρ n f ts) (t : Nat) : SRel ρ n (cellAt f t) (ts.getD t undef) := by
  have := h.2.1 t
  unfold cellAt
  split
  · rename_i x hx; rw [hx] at this; exact this
  · exact True.intro
theorem cellsAt_rel {ρ : Nat → Loc} {n : Nat} {f : Fr} {ts : Array Value} (h : FRel ρ n f ts) : ∀ l : List (Nat × CT), LRel ρ n (l.map fun i => cellAt f i.1) (l.map fun i => ts.getD i.1 undef)
  | [] => .nil
  | i :: l => .cons (cellAt_rel h i.1) (cellsAt_rel h l)
end
/-! Rounds. -/
theorem names_len : ∀ c : List CV, (listsOf c).length ≤ c.length
  | [] => Nat.le_refl _
  | x :: r => by have := names_len r; cases x <;> simp only [listsOf, List.length_cons] <;> omega
theorem rpsB_cvs [Env] {w : World} : ∀ {ts : List CT} {bs : List (Int × Int)} {cvs : List CV} {vs : List Value} {i j : Nat}, ts.all plainT = true → AllV w ts cvs vs → inB ts bs cvs → (∀ k, k < (namesOf cvs).length → Env.val (i + k) = (namesOf cvs).getD k 0) →
    (∀ k, k < (listsOf cvs).length → Env.lst (j + k) [] = (listsOf cvs).getD k []) → rpCVs ts (rpsB ts bs i j) = cvs ∧ valTs ts (insE ts bs i j) = cvs.map valC ∧ rpsOk ts (rpsB ts bs i j) = true ∧ (insE ts bs i j).length = ts.length
  | [], bs, cvs, vs, i, j, _, h, hb, _, _ => by
    rw [AllV.nil h]
    cases bs <;> exact ⟨rfl, rfl, rfl, rfl⟩
  | t :: ts, bs, cvs, vs, i, j, hp, h, hb, hn, hl => by
    simp only [List.all_cons, Bool.and_eq_true] at hp
    cases t with
    | sc k =>
      cases k with
      | int k =>
        obtain ⟨x, r, vr, rfl, hx, h2⟩ := AllV.int h
        cases bs with
        | nil => cases hb
        | cons b bs =>
          obtain ⟨hb1, hb2⟩ := hb
          have h0 := hn 0 (by simp [namesOf])
          rw [Nat.add_zero] at h0
          obtain ⟨q1, q2, q3, q4⟩ := rpsB_cvs (i := i + 1) (j := j) hp.2 h2 hb2 (fun q hq => by have := hn (q + 1) (by simp [namesOf]; omega); rw [show i + 1 + q = i + (q + 1) by omega, this]; rfl) hl
          refine ⟨?_, ?_, ?_, by simp only [insE, List.length_cons, q4]⟩
          · show CV.n (X.ex (.nm i b.1 b.2)).den :: rpCVs ts (rpsB ts bs (i + 1) j) = _
            rw [q1, nm_den (x := x) h0 hb1]
          · show ((X.ex (.nm i b.1 b.2)).den, ([] : List Int)) :: valTs ts (insE ts bs (i + 1) j) = (x, []) :: r.map valC
            rw [q2, nm_den (x := x) h0 hb1]
          · simp only [rpsB, rpsOk, Rp.ok, q3, Bool.and_self]
      | bool =>
        obtain ⟨x, r, vr, rfl, h2⟩ := AllV.bool h
        cases bs with
        | nil => cases hb
        | cons b bs =>
          have h0 := hn 0 (by simp [namesOf])
          rw [Nat.add_zero] at h0
          obtain ⟨q1, q2, q3, q4⟩ := rpsB_cvs (i := i + 1) (j := j) hp.2 h2 hb (fun q hq => by have := hn (q + 1) (by simp [namesOf]; omega); rw [show i + 1 + q = i + (q + 1) by omega, this]; rfl) hl
          have hd : (X.ex (.nm i 0 1)).den = bI x := nm_den h0 (by cases x <;> simp [bI])
          refine ⟨?_, ?_, ?_, by simp only [insE, List.length_cons, q4]⟩
          · show CV.b (B.ex (.eq (.nm i 0 1) (.num 1))).den :: rpCVs ts (rpsB ts bs (i + 1) j) = _
            rw [q1, nb_den (b := x) h0]
          · show ((X.ex (.nm i 0 1)).den, ([] : List Int)) :: valTs ts (insE ts bs (i + 1) j) = (bI x, []) :: r.map valC
            rw [q2, hd]
          · simp only [rpsB, rpsOk, Rp.ok, q3, Bool.and_self]
    | str => cases hp.1
    | lst ks =>
      match ks, hp.1 with
      | [.int k], _ =>
        obtain ⟨xs, r, vr, rfl, hlen, hx, h2⟩ := AllV.list h
        cases bs with
        | nil => cases hb
        | cons b bs =>
          have h0 := hl 0 (by simp [listsOf])
          rw [Nat.add_zero] at h0
          obtain ⟨hb1, hb2⟩ := hb
          obtain ⟨q1, q2, q3, q4⟩ := rpsB_cvs (i := i) (j := j + 1) hp.2 h2 hb2 hn (fun q hq => by have := hl (q + 1) (by simp [listsOf]; omega); rw [show j + 1 + q = j + (q + 1) by omega, this]; rfl)
          refine ⟨?_, ?_, ?_, by simp only [insE, List.length_cons, q4]⟩
          · show CV.l (E.ls j .nl k.min k.max b.2.toNat).dens :: rpCVs ts (rpsB ts bs i (j + 1)) = _
            rw [q1, ls_dens (xs := xs) h0 (by omega) hx]
          · show (0, (E.ls j .nl k.min k.max b.2.toNat).dens) :: valTs ts (insE ts bs i (j + 1)) = (0, xs) :: r.map valC
            rw [q2, ls_dens (xs := xs) h0 (by omega) hx]
          · simp only [rpsB, rpsOk, Rp.ok, q3, Bool.and_self]
theorem cur_ok {base : Env} {w : World} {ts : List CT} {bs : List (Int × Int)} {cvs : List CV} {vs : List Value} (hp : ts.all plainT = true) (hlen : ts.length ≤ 16) (h : AllV w ts cvs vs) (hb : inB ts bs cvs) :
    @rpCVs (envC base cvs) ts (rpsB ts bs 0 0) = cvs ∧ @valTs (envC base cvs) ts (insE ts bs 0 0) = cvs.map valC ∧ @rpsOk (envC base cvs) ts (rpsB ts bs 0 0) = true ∧ (insE ts bs 0 0).length = ts.length := by
  letI : Env := envC base cvs
  refine rpsB_cvs hp h hb (fun k _ => by rw [Nat.zero_add]; rfl) fun k hk => ?_
  have h1 := names_len cvs
  have h2 := h.len.1
  rw [Nat.zero_add]
  show (if k < 16 then (listsOf cvs).getD k [] else base.lst k []) = _
  rw [if_pos (by omega)]
theorem inB_drop : ∀ {n : Nat} {ts : List CT} {bs : List (Int × Int)} {cvs : List CV}, inB ts bs cvs → inB (ts.drop n) (bs.drop n) (cvs.drop n)
  | 0, _, _, _, h => h
  | n + 1, [], bs, cvs, h => by cases bs <;> cases cvs <;> first | exact True.intro | cases h
  | n + 1, t :: ts, bs, cvs, h => by
    cases bs with
    | nil => cases t <;> first | (cases h; done) | (rename_i k; cases k <;> cases h)
    | cons b bs =>
      cases cvs with
      | nil => cases t <;> first | (cases h; done) | (rename_i k; cases k <;> cases h)
      | cons c cvs =>
        have : inB ts bs cvs := by
          cases t with
          | sc k => cases k <;> cases c <;> first | exact h.2 | exact h | cases h
          | str => cases h
          | lst ks => cases c <;> first | exact h.2 | cases h
        exact inB_drop (n := n) this
theorem inB_app : ∀ {ts us : List CT} {bs ds : List (Int × Int)} {cs es : List CV}, inB ts bs cs → inB us ds es → inB (ts ++ us) (bs ++ ds) (cs ++ es)
  | [], us, bs, ds, cs, es, h, k => by cases bs <;> cases cs <;> first | exact k | cases h
  | t :: ts, us, bs, ds, cs, es, h, k => by
    cases bs with
    | nil => cases t <;> first | (cases h; done) | (rename_i k; cases k <;> cases h)
    | cons b bs =>
      cases cs with
      | nil => cases t <;> first | (cases h; done) | (rename_i k; cases k <;> cases h)
      | cons c cs =>
        cases t with
        | sc q => cases q <;> cases c <;> first | exact ⟨h.1, inB_app h.2 k⟩ | exact inB_app (ts := ts) h k | cases h
        | str => cases h
        | lst ks => cases c <;> first | exact ⟨h.1, inB_app (ts := ts) h.2 k⟩ | cases h
/-- of new numbers -/
theorem bnd_new [Env] : ∀ {ts : List CT} {bs : List (Int × Int)} {c : List Sc} {l : List E}, bs.length = ts.length → kcOk ts c = true → c.map Sc.vI = l.map E.den → (∀ b ∈ bndG ts bs l, b.den = true) → inB ts bs (mkCVs ts (l.map E.den))
  | [], bs, c, l, hb, h, hl, _ => by
    cases bs with
    | nil => cases l with
      | nil => exact True.intro
      | cons _ _ =>
        cases c with
        | nil => cases hl
        | cons _ _ => cases h
    | cons _ _ => cases hb
  | t :: ts, bs, c, l, hb, h, hl, hg => by
    cases bs with
    | nil => cases hb
    | cons b bs =>
      cases c with
      | nil => cases t <;> first | (cases h; done) | (rename_i k; cases k <;> cases h)
      | cons x c =>
        cases l with
        | nil => cases hl
        | cons e l =>
          rw [List.map_cons, List.map_cons, List.cons.injEq] at hl
          cases t <;> first | (cases h; done) | skip
          rename_i k
          cases k with
          | int k =>
            cases x <;> first | (cases h; done) | skip
            simp only [kcOk, Bool.and_eq_true] at h
            have g1 : (b.1 - 1 : Int) < e.den := of_decide_eq_true (hg _ (List.mem_cons_self ..))
            have g2 : e.den < (b.2 + 1 : Int) := of_decide_eq_true (hg _ (List.mem_cons_of_mem _ (List.mem_cons_self ..)))
            exact ⟨⟨by omega, by omega⟩, bnd_new (by simpa using hb) h.2 hl.2 fun b hb => hg b (List.mem_cons_of_mem _ (List.mem_cons_of_mem _ hb))⟩
          | bool =>
            cases x <;> first | (cases h; done) | skip
            simp only [kcOk] at h
            exact bnd_new (ts := ts) (by simpa using hb) h hl.2 fun b hb => hg b hb
/-- of terms that stand for values -/
theorem bnd_vals [Env] {w : World} : ∀ {ts : List CT} {bs : List (Int × Int)} {l : List E} {cvs : List CV} {vs : List Value}, ts.all plainT = true → bs.length = ts.length → AllV w ts cvs vs → valTs ts l = cvs.map valC → (∀ b ∈ bndG ts bs l, b.den = true) → inB ts bs cvs
  | [], bs, l, cvs, vs, _, hb, h, _, _ => by
    rw [AllV.nil h]
    cases bs with
    | nil => exact True.intro
    | cons _ _ => cases hb
  | t :: ts, bs, l, cvs, vs, hp, hb, h, hv, hg => by
    simp only [List.all_cons, Bool.and_eq_true] at hp
    cases bs with
    | nil => cases hb
    | cons b bs =>
      have hb2 : bs.length = ts.length := by simpa using hb
      cases t with
      | str => cases hp.1
      | sc k =>
        cases k with
        | int k =>
          obtain ⟨x, r, vr, rfl, hx, h2⟩ := AllV.int h
          cases l with
          | nil => cases hv
          | cons e l =>
            have hv : (e.den, ([] : List Int)) :: valTs ts l = (x, []) :: r.map valC := hv
            rw [List.cons.injEq, Prod.mk.injEq] at hv
            have g1 : (b.1 - 1 : Int) < e.den := of_decide_eq_true (hg _ (List.mem_cons_self ..))
            have g2 : e.den < (b.2 + 1 : Int) := of_decide_eq_true (hg _ (List.mem_cons_of_mem _ (List.mem_cons_self ..)))
            rw [hv.1.1] at g1 g2
            exact ⟨⟨by omega, by omega⟩, bnd_vals hp.2 hb2 h2 hv.2 fun b hb => hg b (List.mem_cons_of_mem _ (List.mem_cons_of_mem _ hb))⟩
        | bool =>
          obtain ⟨x, r, vr, rfl, h2⟩ := AllV.bool h
          cases l with
          | nil => cases hv
          | cons e l =>
            have hv : (e.den, ([] : List Int)) :: valTs ts l = (bI x, []) :: r.map valC := hv
            rw [List.cons.injEq] at hv
            exact bnd_vals (ts := ts) hp.2 hb2 h2 hv.2 hg
      | lst ks =>
        match ks, hp.1 with
        | [.int k], _ =>
          obtain ⟨xs, r, vr, rfl, hlen, hx, h2⟩ := AllV.list h
          cases l with
          | nil => cases hv
          | cons e l =>
            have hv : (0, e.dens) :: valTs ts l = (0, xs) :: r.map valC := hv
            rw [List.cons.injEq, Prod.mk.injEq] at hv
            have g1 : ((e.dens.length : Nat) : Int) < b.2 + 1 := of_decide_eq_true (hg _ (List.mem_cons_self ..))
            rw [hv.1.2] at g1
            exact ⟨by omega, bnd_vals (ts := ts) hp.2 hb2 h2 hv.2 fun b hb => hg b (List.mem_cons_of_mem _ hb)⟩
/-- invariants and measures go by what the terms are -/
def RespW (s : WSig) : Prop := ∀ (e1 e2 : Env) (l1 l2 : List E), l1.length = s.ts.length → l2.length = s.ts.length → @valTs e1 s.ts l1 = @valTs e2 s.ts l2 →
  (s.inv l1).map (@EB.den e1) = (s.inv l2).map (@EB.den e2) ∧ @E.den e1 (s.mea l1) = @E.den e2 (s.mea l2)
/-- is a slot set there? -/
def dstIn (t : Nat) : Code → Bool
  | .region _ ops _ => ops.toList.any fun o => o.dst == some t
  | .seq a b => dstIn t a || dstIn t b
  | .cond _ a b => dstIn t a || dstIn t b
  | .block _ b => dstIn t b
  | .loop b => dstIn t b
  | _ => false
theorem dstIn_ok {D : Nat → Bool} {t : Nat} : ∀ {c : Code}, dstIn t c = true → codeD D c = true → D t = true
  | .region _ ops _, h, k => by
    obtain ⟨o, ho, hd⟩ := List.any_eq_true.1 h
    have := List.all_eq_true.1 k o ho
    unfold opD at this
    rw [eq_of_beq hd] at this
    exact this
  | .seq a b, h, k => by
    simp only [dstIn, Bool.or_eq_true] at h
    simp only [codeD, Bool.and_eq_true] at k
    rcases h with h | h
    · exact dstIn_ok h k.1
    · exact dstIn_ok h k.2
  | .cond _ a b, h, k => by
    simp only [dstIn, Bool.or_eq_true] at h
    simp only [codeD, Bool.and_eq_true] at k
    rcases h with h | h
    · exact dstIn_ok h k.1
    · exact dstIn_ok h k.2
  | .block _ b, h, k => dstIn_ok (c := b) h k
  | .loop b, h, k => dstIn_ok (c := b) h k
  | .skip, h, _ => by cases h
  | .rangeFunc .., h, _ => by cases h
  | .exit _, h, _ => by cases h
  | .scope _, h, _ => by cases h
  | .label _, h, _ => by cases h
  | .goto _, h, _ => by cases h
  | .ret, h, _ => by cases h
  | .refuse _, h, _ => by cases h
structure WOk (P : Program) (base : Env) (call : Env → FuncId → List AV → St → Out (AV × St)) (cf : Cfg) (s : WSig) (b : Code) : Prop where
  sound : ∀ cvs, @CallSound (envC base cvs) P (call (envC base cvs))
  names : NamesOk P
  mixed : P.follows .mixedOrders = true
  loops : ∀ cvs n, @LoopsOk (envC base cvs) P cf n b
  plain : s.ts.all plainT = true
  few : s.ts.length ≤ 16
  np : s.np ≤ s.ins.length
  bnds : s.rb.length = s.ts.length
  sets : codeD s.D b = true
  only : s.kill.all (fun t => dstIn t b) = true
  stays : (s.ins.drop s.np).all (fun i => !s.D i.1) = true
  ends : ∀ k, (∃ i, s.ex k = .exit i) ∨ s.ex k = .ret
  resp : RespW s
  round : ∀ cvs, @roundB (envC base cvs) P (call (envC base cvs)) cf s b = true
def WInv (base : Env) (s : WSig) (cvs : List CV) : Prop := inB s.ts s.rb cvs ∧ ∀ b ∈ s.inv s.cur, @EB.den (envC base cvs) b = true
def slotsV (l : List (Nat × CT)) (a : Act) : List Value := l.map fun i => a.tmps.getD i.1 undef
theorem mkCVs_len : ∀ {ts : List CT} {c : List Sc}, kcOk ts c = true → c.length = ts.length
  | [], c, h => by cases c <;> first | rfl | cases h
  | t :: ts, c, h => by
    cases c with
    | nil => cases t <;> first | (cases h; done) | (rename_i k; cases k <;> cases h)
    | cons x c =>
      cases t <;> first | (cases h; done) | skip
      rename_i k
      cases k <;> cases x <;> first | (cases h; done) | skip
      · simp only [kcOk, Bool.and_eq_true] at h
        simp only [List.length_cons, mkCVs_len h.2]
      · simp only [kcOk] at h
        simp only [List.length_cons, mkCVs_len h]
theorem valTs_app [Env] : ∀ {ts us : List CT} {l m : List E}, l.length = ts.length → valTs (ts ++ us) (l ++ m) = valTs ts l ++ valTs us m
  | [], us, l, m, h => by cases l with | nil => rfl | cons _ _ => cases h
  | t :: ts, us, l, m, h => by
    cases l with
    | nil => cases h
    | cons e l =>
      show valT t e :: valTs (ts ++ us) (l ++ m) = valT t e :: (valTs ts l ++ valTs us m)
      rw [valTs_app (by simpa using h)]
theorem valTs_drop [Env] : ∀ {n : Nat} {ts : List CT} {l : List E}, valTs (ts.drop n) (l.drop n) = (valTs ts l).drop n
  | 0, _, _ => rfl
  | n + 1, [], l => by simp [valTs]
  | n + 1, t :: ts, [] => by
    cases h : ts.drop n <;> simp [valTs, h]
  | n + 1, t :: ts, e :: l => valTs_drop (n := n)
theorem mk_val [Env] : ∀ {ts : List CT} {c : List Sc} {l : List E}, kcOk ts c = true → c.map Sc.vI = l.map E.den → valTs ts l = (mkCVs ts (l.map E.den)).map valC
  | [], c, l, h, hl => by
    cases c with
    | nil => cases l with | nil => rfl | cons _ _ => cases hl
    | cons _ _ => cases h
  | t :: ts, c, l, h, hl => by
    cases c with
    | nil => cases t <;> first | (cases h; done) | (rename_i k; cases k <;> cases h)
    | cons x c =>
      cases l with
      | nil => cases hl
      | cons e l =>
        rw [List.map_cons, List.map_cons, List.cons.injEq] at hl
        cases t <;> first | (cases h; done) | skip
        rename_i k
        cases k <;> cases x <;> first | (cases h; done) | skip
        · simp only [kcOk, Bool.and_eq_true] at h
          show (e.den, []) :: valTs ts l = (e.den, []) :: (mkCVs ts (l.map E.den)).map valC
          rw [mk_val h.2 hl.2]
        · rename_i y
          simp only [kcOk] at h
          show (e.den, []) :: valTs ts l = (bI (iB e.den), []) :: (mkCVs ts (l.map E.den)).map valC
          rw [mk_val h hl.2, ← hl.1]
          show (bI y.den, _) :: _ = (bI (iB (bI y.den)), _) :: _
          rw [iB_bI]
def meaV (base : Env) (s : WSig) (cvs : List CV) : Int := @E.den (envC base cvs) (s.mea (s.cur))
theorem slots_split {l : List (Nat × CT)} {n : Nat} {a : Act} : slotsV l a = slotsV (l.take n) a ++ slotsV (l.drop n) a := by
  unfold slotsV
  rw [← List.map_append, List.take_append_drop]
theorem calm_of {n0 : Nat} {ρ ρ' : Nat → Loc} {σ σ' : St} {w w' : World} (h : ExtN n0 ρ σ w ρ' σ' w') (hno : ∀ i, ¬ owned ρ σ i) : Calm w w' :=
  ⟨h.os, h.tape, h.output, h.size, fun b hb => h.keep b hb fun i hi => (hno i hi).elim⟩
theorem round_wp {P : Program} {base : Env} {call : Env → FuncId → List AV → St → Out (AV × St)} {cf : Cfg} {s : WSig} {b : Code} (ok : WOk P base call cf s b) {cvs : List CV} {a : Act} {w : World} {Q : Exit → Act → World → Prop}
    (hsz : a.tmps.size = s.fn) (hv : AllV w s.ts cvs (slotsV s.ins a)) (hi : WInv base s cvs)
    (hgo : ∀ next, wstep base s cvs = .inl next → ∀ a' w', Calm w w' → Stay s.D a a' → AllV w' s.ts (s.upd next cvs) (slotsV s.ins a') → WInv base s (s.upd next cvs) → meaV base s (s.upd next cvs) < meaV base s cvs → 0 ≤ meaV base s cvs → Q .normal a' w')
    (hst : ∀ k outs, wstep base s cvs = .inr (k, outs) → k < s.nk → inBs s.us s.obs outs → ∀ a' w', Calm w w' → Stay s.D a a' → AllV w' s.us (mkCVs s.us outs) (slotsV s.outs a') → Q (toE (s.ex k)) a' w') : b.wp P Q a w := by
  letI : Env := envC base cvs
  have hround : (codeE P (call (envC base cvs)) cf (wSt s).length b (wFr s) (wSt s)).good (fun fs x => wtAsk s (s.cur) (s.wt (s.cur)) x.1 x.2.1 fs) (knows (s.inv (s.cur))) = true := ok.round cvs
  obtain ⟨⟨e, f', σ'⟩, hrun, hleaf⟩ := good_ok (Q := fun x : Ex × Fr × St => match WT.den (s.wt (s.cur)) with | .inl next => GoOk s (s.cur) x.1 x.2.1 next | .inr (k, outs) => StopOk s x.1 x.2.1 k outs)
    (fun fs x hf h => wtAsk_ok h hf) _ _ hround (knows_ok hi.2)
  simp only at hleaf
  obtain ⟨hrc, hcv, hrok, hcl0⟩ := cur_ok (base := base) ok.plain ok.few hv hi.1
  have hrc : rpCVs s.ts s.rps = cvs := hrc
  obtain ⟨ρ, hrel, hlr, hno⟩ := rp_place (w := w) (ts := s.ts) (rps := s.rps) (vs := slotsV s.ins a) (by rw [hrc]; exact hv) hrok
  have hfr : FRel ρ (wSt s).length (wFr s) a.tmps := by
    refine setsF_rel _ _ ⟨hsz, fun t => by rw [freshF_get]; exact ARel.any, noG⟩ fun p hp => ?_
    obtain ⟨i, hi', hpi⟩ := List.getElem_of_mem hp
    have hlen : (rpCells s.ts (s.rps) 0).length = s.ins.length := by rw [hlr.1]; simp [slotsV]
    have hi1 : i < s.ins.length := by simp at hi'; omega
    rw [List.getElem_zip] at hpi
    subst hpi
    simp only [List.getElem_map]
    refine hlr.2 i _ _ (List.getElem?_eq_getElem (by omega)) ?_
    unfold slotsV
    rw [List.getElem?_map, List.getElem?_eq_getElem hi1]; rfl
  refine codeE_wp (n0 := (wSt s).length) (D := s.D) (cf := cf) (ok.sound cvs) ok.names (drawOk ok.mixed ok.names (ok.sound cvs)) b (wFr s) f' (wSt s) σ' e ρ a w Q ok.sets (Nat.le_refl _) ⟨hfr, hrel⟩ (ok.loops cvs _) hrun fun ρ' a' w' p1 p2 p3 => ?_
  have hcalm : Calm w w' := calm_of p2 hno
  cases hws : WT.den (s.wt (s.cur)) with
  | inl next =>
    rw [hws] at hleaf
    obtain ⟨rfl, g1, g2, nx, g3, g4, gb, g5, g6⟩ := hleaf
    have hnp : (s.ts.take s.np) = (s.ins.take s.np).map (·.2) := by unfold WSig.ts; rw [List.map_take]
    have hcl := cellsAt_rel p1.fr (s.ins.take s.np)
    have hnew : AllV w' (s.ts.take s.np) (mkCVs (s.ts.take s.np) next) (slotsV (s.ins.take s.np) a') := by
      have := kc_all (w := w') g1 hcl
      rw [g2] at this
      exact this
    have hold : AllV w' (s.ts.drop s.np) (cvs.drop s.np) (slotsV (s.ins.drop s.np) a') := by
      have h1 := (hv.drop (n := s.np)).calm hcalm
      have h2 : (slotsV s.ins a).drop s.np = slotsV (s.ins.drop s.np) a' := by
        unfold slotsV
        rw [← List.map_drop]
        refine List.map_congr_left fun i hi => ?_
        have := List.all_eq_true.1 ok.stays i hi
        exact (p3.2.2 i.1 (by simpa using this)).symm
      rwa [h2] at h1
    have hall : AllV w' s.ts (s.upd next cvs) (slotsV s.ins a') := by
      have := hnew.app hold
      rw [List.take_append_drop, ← slots_split] at this
      exact this
    have hnl : nx.length = (s.ts.take s.np).length := by
      have h1 := mkCVs_len g1
      have h2 : ((s.ins.take s.np).map fun i => cellAt f' i.1).length = nx.length := by
        have := congrArg List.length g2
        rw [← g3] at this
        simpa using this
      omega
    have hil : s.cur.length = s.ts.length := hcl0
    have hl1 : (nx ++ (s.cur).drop s.np).length = s.ts.length := by
      rw [List.length_append, hnl, List.length_drop, hil, List.length_take]
      have := ok.np
      have h3 : s.ts.length = s.ins.length := by simp [WSig.ts]
      omega
    have hvals : valTs s.ts (nx ++ (s.cur).drop s.np) = (s.upd next cvs).map valC := by
      have h1 : valTs (s.ts.take s.np ++ s.ts.drop s.np) (nx ++ (s.cur).drop s.np) = valTs (s.ts.take s.np) nx ++ valTs (s.ts.drop s.np) ((s.cur).drop s.np) := valTs_app hnl
      rw [List.take_append_drop] at h1
      rw [h1, valTs_drop, show valTs s.ts s.cur = cvs.map valC from hcv, mk_val g1 (by rw [g2, g3]), g3]
      unfold WSig.upd
      rw [List.map_append, List.map_drop]
    have hib : inB s.ts s.rb (s.upd next cvs) := by
      have h1 := bnd_new (by rw [List.length_take, List.length_take, ok.bnds]) g1 (by rw [g2, g3]) gb
      have h2 := inB_app h1 (inB_drop (n := s.np) hi.1)
      rw [List.take_append_drop, List.take_append_drop, g3] at h2
      exact h2
    have hresp := ok.resp (envC base cvs) (envC base (s.upd next cvs)) (nx ++ (s.cur).drop s.np) (s.cur) hl1 hil (hvals.trans (cur_ok (base := base) ok.plain ok.few hall hib).2.1.symm)
    refine hgo next hws a' w' hcalm p3 hall ⟨hib, fun b hb => ?_⟩ ?_ ?_
    · obtain ⟨i, hi', rfl⟩ := List.getElem_of_mem hb
      have h1 : i < (s.inv (nx ++ (s.cur).drop s.np)).length := by
        have := congrArg List.length hresp.1
        simp only [List.length_map] at this
        omega
      have h2 := congrArg (fun l => l[i]?) hresp.1
      simp only [List.getElem?_map, List.getElem?_eq_getElem hi', List.getElem?_eq_getElem h1, Option.map_some, Option.some.injEq] at h2
      rw [← h2]
      exact g4 _ (List.getElem_mem h1)
    · show @E.den (envC base (s.upd next cvs)) (s.mea (s.cur)) < E.den (s.mea (s.cur))
      rw [← hresp.2]; exact g5
    · exact g6
  | inr r =>
    obtain ⟨k, outs⟩ := r
    rw [hws] at hleaf
    obtain ⟨rfl, g1, g2, g3, g4⟩ := hleaf
    have hcl := cellsAt_rel p1.fr s.outs
    have hnew : AllV w' s.us (mkCVs s.us outs) (slotsV s.outs a') := by
      have := kc_all (w := w') g2 hcl
      rw [g3] at this
      exact this
    have hq := hst k outs hws g1 g4 a' w' hcalm p3 hnew
    rcases ok.ends k with ⟨i, he⟩ | he
    · rw [he] at hq ⊢; exact hq
    · rw [he] at hq ⊢; exact hq
theorem wend {P : Program} {base : Env} {call : Env → FuncId → List AV → St → Out (AV × St)} {cf : Cfg} {s : WSig} {b : Code} (ok : WOk P base call cf s b) (fr : Frame) : ∀ (m : Nat) {cvs : List CV} {a : Act} {w : World}, a.tmps.size = s.fn → AllV w s.ts cvs (slotsV s.ins a) → WInv base s cvs → (meaV base s cvs + 1).toNat ≤ m →
    ∃ n r, whileN base s n cvs = some r := by
  intro m
  induction m using Nat.strongRecOn with
  | _ m ih =>
    intro cvs a w hsz hv hi hm
    cases hws : wstep base s cvs with
    | inr r => exact ⟨1, r, by simp only [whileN, hws]⟩
    | inl next =>
      have hwp : b.wp P (fun _ a' w' => AllV w' s.ts (s.upd next cvs) (slotsV s.ins a') ∧ WInv base s (s.upd next cvs) ∧ meaV base s (s.upd next cvs) < meaV base s cvs ∧ 0 ≤ meaV base s cvs ∧ a'.tmps.size = s.fn) a w := by
        refine round_wp ok hsz hv hi (fun nx hnx a' w' h1 h2 h3 h4 h5 h6 => ?_) (fun k outs hk => by rw [hws] at hk; cases hk)
        rw [hws] at hnx
        cases hnx
        exact ⟨h3, h4, h5, h6, h2.2.1.trans hsz⟩
      obtain ⟨e, a', w', ⟨h1, h2, h3, h4, h5⟩, _⟩ := hwp fr [] []
      obtain ⟨n, r, hn⟩ := ih (meaV base s (s.upd next cvs) + 1).toNat (by omega) h5 h1 h2 (Nat.le_refl _)
      exact ⟨n + 1, r, by simp only [whileN, hws]; exact hn⟩
theorem wrounds {P : Program} {base : Env} {call : Env → FuncId → List AV → St → Out (AV × St)} {cf : Cfg} {s : WSig} {b : Code} (ok : WOk P base call cf s b) : ∀ (n : Nat) {cvs : List CV} {k : Nat} {outs : List Int} {a : Act} {w : World} {Q : Exit → Act → World → Prop}, whileN base s n cvs = some (k, outs) →
    a.tmps.size = s.fn → AllV w s.ts cvs (slotsV s.ins a) → WInv base s cvs → (k < s.nk → inBs s.us s.obs outs → ∀ a' w', Calm w w' → Stay s.D a a' → AllV w' s.us (mkCVs s.us outs) (slotsV s.outs a') → Q (toE (s.ex k)) a' w') → Code.rounds P b Q n a w
  | 0, _, _, _, _, _, _, h, _, _, _, _ => by cases h
  | n + 1, cvs, k, outs, a, w, Q, h, hsz, hv, hi, hq => by
    rw [rounds_succ]
    refine round_wp ok hsz hv hi (fun next hn a' w' h1 h2 h3 h4 _ _ => ?_) (fun k' outs' hk g1 g2 a' w' h1 h2 h3 => ?_)
    · simp only [whileN, hn] at h
      exact wrounds ok n h (h2.2.1.trans hsz) h3 h4 fun q1 q2 a2 w2 c1 c2 c3 => hq q1 q2 a2 w2 ⟨c1.1.trans h1.1, c1.2.1.trans h1.2.1, c1.2.2.1.trans h1.2.2.1, Nat.le_trans h1.2.2.2.1 c1.2.2.2.1, fun b hb => (c1.2.2.2.2 b (Nat.lt_of_lt_of_le hb h1.2.2.2.1)).trans (h1.2.2.2.2 b hb)⟩ (h2.trans c2) c3
    · simp only [whileN, hk] at h
      cases h
      have := hq g1 g2 a' w' h1 h2 h3
      rcases ok.ends k with ⟨i, he⟩ | he
      · rw [he] at this ⊢; exact this
      · rw [he] at this ⊢; exact this
theorem wloop {P : Program} {base : Env} {call : Env → FuncId → List AV → St → Out (AV × St)} {cf : Cfg} {s : WSig} {b : Code} (ok : WOk P base call cf s b) {cvs : List CV} {a : Act} {w : World} {Q : Exit → Act → World → Prop}
    (hsz : a.tmps.size = s.fn) (hv : AllV w s.ts cvs (slotsV s.ins a)) (hi : WInv base s cvs)
    (hq : ∀ k outs, (∃ n, whileN base s n cvs = some (k, outs)) → k < s.nk → inBs s.us s.obs outs → ∀ a' w', Calm w w' → Stay s.D a a' → AllV w' s.us (mkCVs s.us outs) (slotsV s.outs a') → Q (toE (s.ex k)) a' w') : (Code.loop b).wp P Q a w := by
  intro fr k cs
  obtain ⟨n, r, hn⟩ := wend ok fr _ hsz hv hi (Nat.le_refl _)
  exact wp_loop_rounds n (wrounds ok n (k := r.1) (outs := r.2) hn hsz hv hi (hq r.1 r.2 ⟨n, hn⟩)) fr k cs
/-! As a contract. -/
section
variable [Env]
/-- a slot's term -/
def insT1 (σ : St) (t : CT) (s : Sc) : Option (E × B) :=
  match t, s with
  | .sc (.int k), .int k' x => if k = k' then x.e?.map fun e => (e, .c true) else none
  | .sc .bool, .bool b => (boolE b).map fun e => (e, .c true)
  | .lst [k], s =>
    match sliceT σ k s with
    | some (_, e, g) => some (e, g)
    | none => if szOk s then (sliceCells σ s).bind fun c => (cellsE k c .nl).map fun e => (e, .c true) else none
  | _, _ => none
def insTs (σ : St) : List CT → List Sc → Option (List E × B)
  | [], [] => some ([], .c true)
  | t :: ts, s :: r => match insT1 σ t s, insTs σ ts r with
    | some (e, g), some (l, h) => some (e :: l, B.mkAnd g h)
    | _, _ => none
  | _, _ => none
/-- terms of arguments -/
def encT : List CT → List E → E
  | .lst _ :: ts, e :: l => .cn (.ln e) (ccE e (encT ts l))
  | _ :: ts, e :: l => .cn (normE e) (encT ts l)
  | _, _ => .nl
def guards : List EB → B
  | [] => .c true
  | b :: l => B.mkAnd (.ex b) (guards l)
def outAs (f : Nat) (e : E) : List CT → List (Int × Int) → Nat → List AV
  | .sc .bool :: ts, _ :: bs, i => .one (.bool (.ex (.eq (.ap (f + i) e 0 1) (.num 1)))) :: outAs f e ts bs (i + 1)
  | .sc (.int k) :: ts, b :: bs, i => .one (.int k (.ex (.ap (f + i) e b.1 b.2))) :: outAs f e ts bs (i + 1)
  | _, _, _ => []
def wOut (j : Nat) (s : WSig) (e : E) (f : Fr) : Fr :=
  setsF ((s.outs.map (·.1)).zip (outAs (64 * j + 1) e s.us s.obs 0)) (setsF (s.kill.map fun t => (t, .one .any)) f)
/-- which end it was -/
def wEnds (s : WSig) (e : E) (j : Nat) (f : Fr) (σ : St) : Nat → Nat → Out (Ex × Fr × St)
  | 0, _ => .fail "ends"
  | 1, i => .ok (s.ex i, f, σ)
  | n + 1, i => .ite (.ex (.eq (.ap (64 * j) e 0 (s.nk : Int)) (.num (i : Int)))) (fun _ => .ok (s.ex i, f, σ)) (fun _ => wEnds s e j f σ n (i + 1))
def wCon (j na : Nat) (s : WSig) (f : Fr) (σ : St) : Out (Ex × Fr × St) :=
  if f.n = s.fn then
    match insTs σ s.ts (s.ins.map fun i => cellAt f i.1) with
    | some (l, g) => .guard g (.guard (guards (bndG s.ts s.rb l ++ s.inv l)) (wEnds s (encT (s.ts.take na) (l.take na)) j (wOut j s (encT (s.ts.take na) (l.take na)) f) σ s.nk 0))
    | none => .fail "loop: slots"
  else .fail "loop: frame"
theorem guards_ok : ∀ {l : List EB}, (guards l).den = true → ∀ b ∈ l, b.den = true
  | [], _ => fun b h => by cases h
  | b :: l, h => by
    simp only [guards, mkAnd_den, Bool.and_eq_true] at h
    intro x hx
    rcases List.mem_cons.1 hx with rfl | hx
    · exact h.1
    · exact guards_ok h.2 x hx
def encV : CT → E → List Int
  | .lst _, e => (E.ln e).den :: e.dens
  | _, e => [e.den]
theorem insT1_ok {ρ : Nat → Loc} {σ : St} {w : World} {t : CT} {s : Sc} {e : E} {g : B} {x : Value} (hp : plainT t = true) (hr : Rel ρ σ w) (hs : SRel ρ σ.length s x) (h : insT1 σ t s = some (e, g)) (hg : g.den = true) : ∃ cv, CellV w t cv x ∧ valT t e = valC cv ∧ encV t e = enc cv := by
  unfold insT1 at h
  split at h
  · rename_i k k' y
    split at h
    · rename_i hk; subst hk
      obtain ⟨a, h1, h2⟩ := Option.map_eq_some_iff.1 h
      cases h2
      refine ⟨.n y.den, ⟨_, rfl, hs.1, hs.2⟩, ?_, ?_⟩
      · show (e.den, ([] : List Int)) = _
        rw [X.e?_den h1]; rfl
      · show [e.den] = _
        rw [X.e?_den h1]; rfl
    · cases h
  · rename_i b
    obtain ⟨a, h1, h2⟩ := Option.map_eq_some_iff.1 h
    cases h2
    refine ⟨.b b.den, ⟨_, rfl, hs⟩, ?_, ?_⟩
    · show (e.den, ([] : List Int)) = _
      rw [boolE_den h1]; rfl
    · show [e.den] = _
      rw [boolE_den h1]; rfl
  · rename_i k
    have hin : ∃ n e' g', termIn σ (.lst [k]) s .nl = some (.cn n e', g') ∧ e'.dens = e.dens ∧ (g.den = true → g'.den = true) := by
      simp only [termIn]
      split at h
      · rename_i n e0 g0 hsl
        cases h
        rw [hsl]
        exact ⟨n, .cc e .nl, g, rfl, List.append_nil _, id⟩
      · rename_i hsl
        rw [hsl]
        simp only
        split at h
        · rename_i hz
          rw [if_pos hz]
          obtain ⟨c, h1, h2⟩ := Option.bind_eq_some_iff.1 h
          obtain ⟨e', h3, h4⟩ := Option.map_eq_some_iff.1 h2
          cases h4
          rw [h1]
          simp only [Option.bind_some, h3, Option.map_some]
          exact ⟨_, e, _, rfl, rfl, fun _ => rfl⟩
        · cases h
    obtain ⟨n, e', g', h1, h2, h3⟩ := hin
    obtain ⟨cv, q1, q2⟩ := term_in hr hs h1 (h3 hg)
    have q2 : n.den :: e'.dens = enc cv ++ [] := q2
    rw [List.append_nil] at q2
    obtain ⟨m, f, rfl, _⟩ := q1
    have hl : listCV [k] f m = .l (listF f m) := rfl
    refine ⟨listCV [k] f m, ⟨m, f, rfl, by assumption⟩, ?_, ?_⟩
    · rw [hl] at q2 ⊢
      have : e'.dens = listF f m := (List.cons.inj q2).2
      show (0, e.dens) = (0, listF f m)
      rw [← h2, this]
    · rw [hl] at q2 ⊢
      have h4 : e'.dens = listF f m := (List.cons.inj q2).2
      show ((e.dens.length : Nat) : Int) :: e.dens = (((listF f m).length : Nat) : Int) :: listF f m
      rw [← h2, h4]
  · cases h
theorem insTs_ok {ρ : Nat → Loc} {σ : St} {w : World} (hr : Rel ρ σ w) : ∀ {ts : List CT} {c : List Sc} {l : List E} {g : B} {vs : List Value}, ts.all plainT = true → LRel ρ σ.length c vs → insTs σ ts c = some (l, g) → g.den = true →
    ∃ cvs, AllV w ts cvs vs ∧ valTs ts l = cvs.map valC ∧ (∀ na, (encT (ts.take na) (l.take na)).dens = encs (cvs.take na)) ∧ l.length = ts.length
  | [], c, l, g, vs, _, hl, h, _ => by
    cases c with
    | cons _ _ => cases h
    | nil =>
      cases h
      cases vs with
      | nil => exact ⟨[], True.intro, rfl, fun na => by cases na <;> rfl, rfl⟩
      | cons _ _ => exact absurd hl.1 (by simp)
  | t :: ts, c, l, g, vs, hp, hl, h, hg => by
    cases c with
    | nil => cases h
    | cons s c =>
      obtain ⟨v, vr, rfl, h1, h2⟩ := hl.inv
      simp only [List.all_cons, Bool.and_eq_true] at hp
      simp only [insTs] at h
      split at h
      · rename_i e g1 l1 g2 he hl1
        cases h
        rw [mkAnd_den, Bool.and_eq_true] at hg
        obtain ⟨cv, q1, q2, q3⟩ := insT1_ok hp.1 hr h1 he hg.1
        obtain ⟨cvs, q4, q5, q6, q7⟩ := insTs_ok hr hp.2 h2 hl1 hg.2
        refine ⟨cv :: cvs, ⟨q1, q4⟩, by show valT t e :: valTs ts l1 = _; rw [q2, q5]; rfl, fun na => ?_, by simp [q7]⟩
        cases na with
        | zero => rfl
        | succ na =>
        have q6 := q6 na
        cases t with
        | lst ks =>
          show (E.ln e).den :: (ccE e (encT (ts.take na) (l1.take na))).dens = enc cv ++ encs (cvs.take na)
          rw [ccE_dens, q6, ← q3]; rfl
        | sc k =>
          show (normE e).den :: (encT (ts.take na) (l1.take na)).dens = enc cv ++ encs (cvs.take na)
          rw [normE_den]
          rw [q6, ← q3]; rfl
        | str => cases hp.1
      · cases h
theorem outAs_rel {ρ : Nat → Loc} {n : Nat} {w : World} {f : Nat} {e : E} (hf : f + 100000 < HB) : ∀ {ts : List CT} {bs : List (Int × Int)} {ns : List Int} {i : Nat} {vs : List Value}, i + ns.length < 100000 → inBs ts bs ns → (∀ j, j < ns.length → Env.app (f + (i + j)) e.dens = ns.getD j 0) → AllV w ts (mkCVs ts ns) vs →
    (outAs f e ts bs i).length = vs.length ∧ ∀ (q : Nat) x v, (outAs f e ts bs i)[q]? = some x → vs[q]? = some v → ARel ρ n x v
  | [], bs, ns, i, vs, _, h, _, hv => by
    cases bs <;> cases ns <;> first | (cases h; done) | skip
    cases vs with
    | nil => exact ⟨rfl, fun q x v h => by simp [outAs] at h⟩
    | cons _ _ => cases hv
  | t :: ts, bs, ns, i, vs, hlt, h, ha, hv => by
    cases bs with
    | nil => cases t <;> first | (cases h; done) | (rename_i k; cases k <;> cases h)
    | cons b bs =>
      cases ns with
      | nil => cases t <;> first | (cases h; done) | (rename_i k; cases k <;> cases h)
      | cons y ns =>
        cases t <;> first | (cases h; done) | skip
        rename_i k
        simp only [List.length_cons] at hlt
        have hn : Env.app (f + i) e.D.2 = y := by have h0 := ha 0 (by simp); rw [Nat.add_zero] at h0; exact h0
        have hr : ∀ j, j < ns.length → Env.app (f + (i + 1 + j)) e.dens = ns.getD j 0 := fun j hj => by
          have := ha (j + 1) (by simp; omega)
          rw [show i + 1 + j = i + (j + 1) by omega, this]; simp
        have m1 : (f + i) % HB = f + i := Nat.mod_eq_of_lt (by omega)
        cases vs with
        | nil => cases k <;> cases hv
        | cons v vs =>
          cases k with
          | int k =>
            obtain ⟨h1, h2⟩ := h
            obtain ⟨⟨z, hz, hx, hk⟩, hv2⟩ := hv
            cases hz
            obtain ⟨q1, q2⟩ := outAs_rel hf (i := i + 1) (by omega) h2 hr hv2
            refine ⟨by simp only [outAs, List.length_cons, q1], fun q x v' a c => ?_⟩
            cases q with
            | succ q => exact q2 q x v' (by simpa [outAs] using a) (by simpa using c)
            | zero =>
              simp only [outAs, List.getElem?_cons_zero, Option.some.injEq] at a c
              subst a; subst c
              have hd : E.den (.ap (f + i) e b.1 b.2) = y := by
                show clampI b.1 (hiA (f + i) b.2 e.D.2) (Env.app ((f + i) % HB) e.D.2) = y
                rw [m1, hn]
                unfold hiA
                rw [if_neg (by omega), clamp_eq h1]
              show v = .int k (E.den (.ap (f + i) e b.1 b.2)) ∧ k.has (E.den (.ap (f + i) e b.1 b.2))
              rw [hd]
              exact ⟨hx, hk⟩
          | bool =>
            obtain ⟨⟨_, h1⟩, h2⟩ := h
            obtain ⟨⟨z, hz, hx⟩, hv2⟩ := hv
            cases hz
            obtain ⟨q1, q2⟩ := outAs_rel hf (i := i + 1) (by omega) h2 hr hv2
            refine ⟨by simp only [outAs, List.length_cons, q1], fun q x v' a c => ?_⟩
            cases q with
            | succ q => exact q2 q x v' (by simpa [outAs] using a) (by simpa using c)
            | zero =>
              simp only [outAs, List.getElem?_cons_zero, Option.some.injEq] at a c
              subst a; subst c
              have hd : E.den (.ap (f + i) e 0 1) = y := by
                show clampI 0 (hiA (f + i) 1 e.D.2) (Env.app ((f + i) % HB) e.D.2) = y
                rw [m1, hn]
                unfold hiA
                rw [if_neg (by omega), clamp_eq (by omega)]
              show v = .bool (E.den (.ap (f + i) e 0 1) == (1 : Int))
              rw [hd]; exact hx
theorem wEnds_run {s : WSig} {e : E} {j : Nat} {f : Fr} {σ : St} {k : Nat} (hd : E.den (.ap (64 * j) e 0 (s.nk : Int)) = (k : Int)) : ∀ {n i : Nat} {x : Ex × Fr × St}, i ≤ k → k < i + n → (wEnds s e j f σ n i).run = some x → x = (s.ex k, f, σ)
  | 0, i, x, h1, h2, _ => by omega
  | 1, i, x, h1, h2, h => by
    have : i = k := by omega
    subst this
    cases h; rfl
  | n + 2, i, x, h1, h2, h => by
    simp only [wEnds] at h
    rcases ite_some h with ⟨hb, h⟩ | ⟨hb, h⟩
    · have hb : (E.den (.ap (64 * j) e 0 (s.nk : Int)) == (i : Int)) = true := hb
      rw [hd, beq_iff_eq] at hb
      have : k = i := by omega
      subst this
      cases h; rfl
    · have hb : (E.den (.ap (64 * j) e 0 (s.nk : Int)) == (i : Int)) = false := hb
      rw [hd, beq_eq_false_iff_ne] at hb
      exact wEnds_run hd (n := n + 1) (by have : i ≠ k := fun e => hb (by rw [e]); omega) (by omega) h
end
theorem inv_at {base : Env} {P : Program} {call : Env → FuncId → List AV → St → Out (AV × St)} {cf : Cfg} {s : WSig} {b : Code} (ok : WOk P base call cf s b) {amb : Env} {l : List E} {cvs : List CV} {w : World} {vs : List Value} (hl : l.length = s.ts.length) (hv : AllV w s.ts cvs vs) (hval : @valTs amb s.ts l = cvs.map valC) (h : ∀ x ∈ bndG s.ts s.rb l ++ s.inv l, @EB.den amb x = true) : WInv base s cvs := by
  have hib : inB s.ts s.rb cvs := @bnd_vals amb w s.ts s.rb l cvs vs ok.plain ok.bnds hv hval fun x hx => h x (List.mem_append_left _ hx)
  obtain ⟨_, hcv, _, hcl0⟩ := cur_ok (base := base) ok.plain ok.few hv hib
  have hresp := ok.resp amb (envC base cvs) l (s.cur) hl hcl0 (hval.trans hcv.symm)
  refine ⟨hib, ?_⟩
  intro x hx
  obtain ⟨i, hi, rfl⟩ := List.getElem_of_mem hx
  have h1 : i < (s.inv l).length := by
    have := congrArg List.length hresp.1
    simp only [List.length_map] at this
    omega
  have h2 := congrArg (fun l => l[i]?) hresp.1
  simp only [List.getElem?_map, List.getElem?_eq_getElem hi, List.getElem?_eq_getElem h1, Option.map_some, Option.some.injEq] at h2
  rw [← h2]
  exact h _ (List.mem_append_right _ (List.getElem_mem h1))
theorem inBs_len : ∀ {ts : List CT} {bs : List (Int × Int)} {ns : List Int}, inBs ts bs ns → ns.length = bs.length
  | [], bs, ns, h => by cases bs <;> cases ns <;> first | rfl | cases h
  | t :: ts, bs, ns, h => by
    cases bs <;> cases ns <;> cases t <;> first | (cases h; done) | (rename_i k; cases k <;> first | (cases h; done) | (simp only [List.length_cons]; rw [inBs_len h.2]))
theorem plain_flat : ∀ {ts : List CT}, ts.all plainT = true → ts.all flatB = true
  | [], _ => rfl
  | t :: ts, h => by
    simp only [List.all_cons, Bool.and_eq_true] at h ⊢
    refine ⟨?_, plain_flat h.2⟩
    cases t with
    | sc k => rfl
    | str => rfl
    | lst ks =>
      match ks, h.1 with
      | [.int k], _ => rfl
theorem wCon_sound {P : Program} {base : Env} {call : Env → FuncId → List AV → St → Out (AV × St)} {cf : Cfg} {s : WSig} {b : Code} {j : Nat} (ok : WOk P base call cf s b) (amb : Env) (hj : j < 1000000) (hob : s.obs.length ≤ 60)
    (na : Nat) (hres : ∀ cvs n k outs, (∃ w vs, AllV w s.ts cvs vs) → WInv base s cvs → whileN base s n cvs = some (k, outs) → ∀ i, i < 64 → amb.app (64 * j + i) (encs (cvs.take na)) = ((k : Int) :: outs).getD i 0) (n0 : Nat) : @LoopOk amb P n0 b (@wCon amb j na s) := by
  letI : Env := amb
  intro f σ e f' σ' hrun D ρ a w Q hD hn hat hq
  have hrun : (wCon j na s f σ).run = some (e, f', σ') := hrun
  unfold wCon at hrun
  split at hrun
  · rename_i hfn
    split at hrun
    · rename_i l g hin
      obtain ⟨hg, hrun⟩ := guard_some hrun
      obtain ⟨hgi, hrun⟩ := guard_some hrun
      have hcl : LRel ρ σ.length (s.ins.map fun i => cellAt f i.1) (slotsV s.ins a) := cellsAt_rel hat.fr s.ins
      obtain ⟨cvs, hall, hval, henc, hlen⟩ := insTs_ok (w := w) hat.rel ok.plain hcl hin hg
      have hinv : WInv base s cvs := inv_at ok hlen hall hval fun x hx => guards_ok hgi x hx
      refine wloop ok (hat.fr.1.trans hfn) hall hinv fun k outs hn' hk hbs a' w' hcalm hstay hout => ?_
      obtain ⟨n, hn'⟩ := hn'
      have hW := hres cvs n k outs ⟨w, _, hall⟩ hinv hn'
      rw [← henc na] at hW
      have hlo : outs.length ≤ 60 := by rw [inBs_len hbs]; exact hob
      have hkd : E.den (.ap (64 * j) (encT (s.ts.take na) (l.take na)) 0 (s.nk : Int)) = (k : Int) := by
        show clampI 0 (hiA (64 * j) (s.nk : Int) (encT (s.ts.take na) (l.take na)).D.2) (Env.app ((64 * j) % HB) (encT (s.ts.take na) (l.take na)).D.2) = _
        rw [Nat.mod_eq_of_lt (by unfold HB; omega)]
        have h0 : amb.app (64 * j) (encT (s.ts.take na) (l.take na)).D.2 = (k : Int) := hW 0 (by omega)
        rw [h0]
        unfold hiA
        rw [if_neg (by unfold HB; omega)]
        exact clamp_eq ⟨by simp, by simp; omega⟩
      have hres := wEnds_run hkd (n := s.nk) (i := 0) (by omega) (by omega) hrun
      cases hres
      have hro := hat.rel.calm hcalm
      have hoa := outAs_rel (ρ := ρ) (n := σ.length) (f := 64 * j + 1) (e := encT (s.ts.take na) (l.take na)) (by unfold HB; omega) (i := 0) (by omega) hbs (fun q hq' => by
        have h0 := hW (q + 1) (by omega)
        rw [Nat.zero_add, show 64 * j + 1 + q = 64 * j + (q + 1) by omega]; exact h0) hout
      have hfr : FRel ρ σ.length (wOut j s (encT (s.ts.take na) (l.take na)) f) a'.tmps := by
        unfold wOut
        refine setsF_rel _ _ ⟨by rw [setsF_n]; exact hstay.2.1.trans hat.fr.1, fun t => ?_, noG⟩ fun p hp => ?_
        · have key : ∀ (ks : List Nat) (f1 : Fr), (setsF (ks.map fun t => (t, .one .any)) f1).get t = f1.get t ∧ ks.contains t = false ∨ (setsF (ks.map fun t => (t, .one .any)) f1).get t = .one .any ∨ (ks.contains t = false ∧ (setsF (ks.map fun t => (t, .one .any)) f1).get t = f1.get t) := by
            intro ks
            induction ks with
            | nil => intro f1; exact .inl ⟨rfl, rfl⟩
            | cons x r ih =>
              intro f1
              simp only [List.map_cons, setsF]
              have ih := ih (f1.set x (.one .any))
              by_cases e : t = x
              · subst e
                have hany : (f1.set t (.one .any)).get t = .one .any := by
                  rcases Fr.get_set_eq f1 t (.one .any) with h | h <;> exact h
                rcases ih with ⟨h, _⟩ | h | ⟨_, h⟩
                · exact .inr (.inl (h.trans hany))
                · exact .inr (.inl h)
                · exact .inr (.inl (h.trans hany))
              · have hne := Fr.get_set_ne f1 (.one .any) e
                have hc : (x :: r).contains t = r.contains t := by simp [e]
                rcases ih with ⟨h, h2⟩ | h | ⟨h2, h⟩
                · exact .inl ⟨h.trans hne, by rw [hc]; exact h2⟩
                · exact .inr (.inl h)
                · exact .inl ⟨h.trans hne, by rw [hc]; exact h2⟩
          rcases key s.kill f with ⟨h, h2⟩ | h | ⟨h2, h⟩
          · rw [h, hstay.2.2 t h2]; exact hat.fr.2.1 t
          · rw [h]; exact ARel.any
          · rw [h, hstay.2.2 t h2]; exact hat.fr.2.1 t
        · obtain ⟨i, hi, hpi⟩ := List.getElem_of_mem hp
          rw [List.getElem_zip] at hpi
          subst hpi
          have hlo2 : (outAs (64 * j + 1) (encT (s.ts.take na) (l.take na)) s.us s.obs 0).length = s.outs.length := by rw [hoa.1]; simp [slotsV]
          have hi1 : i < s.outs.length := by simp at hi; omega
          simp only [List.getElem_map]
          refine hoa.2 i _ _ (List.getElem?_eq_getElem (by omega)) ?_
          unfold slotsV
          rw [List.getElem?_map, List.getElem?_eq_getElem hi1]; rfl
      have hst' : Stay D a a' := ⟨hstay.1, hstay.2.1, fun t ht => hstay.2.2 t (by
        cases hk' : s.D t with
        | false => rfl
        | true =>
          have h1 : t ∈ s.kill := by simpa [WSig.D] using hk'
          have h2 := dstIn_ok (List.all_eq_true.1 ok.only t h1) hD
          rw [ht] at h2; cases h2)⟩
      · have := hq ρ a' w' ⟨hfr, hro.1⟩ (hro.2.toN hn) hst'
        rcases ok.ends k with ⟨i, he⟩ | he
        · rw [he] at this ⊢; exact this
        · rw [he] at this ⊢; exact this
    · cases hrun
  · cases hrun
theorem res_own {base amb : Env} {s : WSig} {j : Nat} (hp : s.ts.all plainT = true) (happ : ∀ i l, i < 64 → amb.app (64 * j + i) l = (Wh base s l).getD i 0) : ∀ cvs n k outs, (∃ w vs, AllV w s.ts cvs vs) → WInv base s cvs → whileN base s n cvs = some (k, outs) → ∀ i, i < 64 → amb.app (64 * j + i) (encs (cvs.take s.ts.length)) = ((k : Int) :: outs).getD i 0 := by
  intro cvs n k outs ⟨w, vs, hall⟩ _ hn i hi
  rw [List.take_of_length_le (by rw [hall.len.1]; exact Nat.le_refl _), happ i _ hi, Wh_eq (r := (k, outs)) (by rw [decs_encs (plain_flat hp) hall]; exact hn)]
end Go.SX
namespace Go.SX
open Go Go.Lib
/-- an environment with loops' functions -/
@[reducible] noncomputable def envW (base : Env) (ws : Nat → Option WSig) (e : Env) : Env where
  val := e.val
  lst := e.lst
  app f l := match ws (f / 64) with
    | some s => (Wh base s l).getD (f % 64) 0
    | none => e.app f l
theorem envW_app {base e : Env} {ws : Nat → Option WSig} {j : Nat} {s : WSig} (h : ws j = some s) (i : Nat) (l : List Int) (hi : i < 64) : (envW base ws e).app (64 * j + i) l = (Wh base s l).getD i 0 := by
  show (match ws ((64 * j + i) / 64) with | some s => (Wh base s l).getD ((64 * j + i) % 64) 0 | none => e.app (64 * j + i) l) = _
  rw [show (64 * j + i) / 64 = j by omega, show (64 * j + i) % 64 = i by omega, h]
theorem envW_old {base e : Env} {ws : Nat → Option WSig} {j : Nat} (h : ws j = none) (i : Nat) (l : List Int) (hi : i < 64) : (envW base ws e).app (64 * j + i) l = e.app (64 * j + i) l := by
  show (match ws ((64 * j + i) / 64) with | some s => (Wh base s l).getD ((64 * j + i) % 64) 0 | none => e.app (64 * j + i) l) = _
  rw [show (64 * j + i) / 64 = j by omega, h]
end Go.SX
