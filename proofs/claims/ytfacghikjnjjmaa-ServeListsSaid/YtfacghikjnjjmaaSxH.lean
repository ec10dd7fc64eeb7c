/- Laws by a run whose ways all end well; contracts whose results are uninterpreted functions of the arguments' terms. -/
import Derived.Test.YtfacghikjnjjmaaSxF
namespace Go.SX
open Go Go.Lib
set_option linter.unusedSectionVars false
theorem rowsL_flat {w : Nat} {f : Nat → Nat → Int} : ∀ {n : Nat}, (rowsL w f n).flatten = flatF w f n
  | 0 => by unfold rowsL flatF; rw [Nat.zero_mul]; rfl
  | n + 1 => by
    have ih := rowsL_flat (w := w) (f := f) (n := n)
    unfold rowsL flatF at *
    rw [List.range_succ, List.map_append, List.flatten_append, ih]
    simp only [List.map_cons, List.map_nil, List.flatten_cons, List.flatten_nil, List.append_nil]
    rw [Nat.add_mul, Nat.one_mul]
    rcases Nat.eq_zero_or_pos w with rfl | hw
    · simp
    refine List.ext_getElem (by simp) fun i h1 h2 => ?_
    simp only [List.length_map, List.length_range] at h2
    simp only [List.getElem_append, List.getElem_map, List.getElem_range, List.length_map, List.length_range]
    split
    · rfl
    · rename_i hlt
      obtain ⟨q, rfl⟩ : ∃ q, i = q + n * w := ⟨i - n * w, by omega⟩
      rw [Nat.add_mul_div_right _ _ hw, Nat.add_mul_mod_self_right, Nat.add_sub_cancel, Nat.div_eq_of_lt (by omega), Nat.mod_eq_of_lt (by omega), Nat.zero_add]

section
variable [Env]
/-- what is known if a condition is -/
def EB.know : EB → Bool → List Fk → List Fk
  | .eq a b, true, fs => addF (.eq (eqD a b)) fs
  | .eq a b, false, fs => addNe (eqD a b) fs
  | .lt a b, true, fs => addF (.ge (ltD a b)) fs
  | .lt a b, false, fs => addF (.ge (negD (ltD a b))) fs
  | _, _, fs => fs
def allAsk : List B → List Fk → Bool
  | [], _ => true
  | b :: r, fs => b.ask fs fun fs v => bif v then allAsk r fs else false
def leafTrue (fs : List Fk) (x : AV × St) : Bool :=
  match x.1 with
  | .one (.bool b) => allAsk [b] fs
  | _ => false

/-- results told by ways -/
inductive RT where
  | lf (l : List E)
  | br (c : EB) (t e : RT)
def RT.den : RT → List Int
  | .lf l => l.map E.den
  | .br c t e => bif c.den then t.den else e.den
def eqsB : List E → List E → Option (List B)
  | [], [] => some []
  | a :: l, b :: m => (eqsB l m).map fun r => B.mkEq (xOf a) (xOf b) :: r
  | _, _ => none
def rtAsk : RT → List E → List Fk → Bool
  | .lf l, c, fs => match eqsB l c with
    | some q => allAsk q fs
    | none => false
  | .br c t e, x, fs => c.ask fs fun fs v => bif v then rtAsk t x fs else rtAsk e x fs
end
/-- functions that give the same of the same; their results' bounds -/
structure Sig where
  gs : List FuncId
  pts : List PT
  rts : List PT
  bs : List (Int × Int)
  /-- which results (bits) are no more than the first argument -/
  hb : Nat := 0
  /-- what is known of the results: of the arguments' term, the second number's, the results' -/
  rt : Option (E → E → List E → RT) := none
def Post (s : Sig) (l ns : List Int) : Prop :=
  match s.rt with
  | none => True
  | some f => ∀ (_ : Env) (a b0 : E) (res : List E), a.dens = l → (0 < l.headD 0 → b0.den = l.getD 1 0) → res.map E.den = ns → (f a b0 res).den = ns
/-- it goes by what the terms are alone -/
def Resp (s : Sig) : Prop :=
  match s.rt with
  | none => True
  | some f => ∀ (e1 e2 : Env) (a b0 a' b0' : E) (res res' : List E), @E.dens e1 a = @E.dens e2 a' → (0 < (@E.dens e1 a).headD 0 → @E.den e1 b0 = @E.den e2 b0') → res.map (@E.den e1) = res'.map (@E.den e2) → @RT.den e1 (f a b0 res) = @RT.den e2 (f a' b0' res')
section
variable [Env]
def rsv (hb : Nat) (hd : Int) : List (Int × Int) → Nat → List (Int × Int)
  | [], _ => []
  | b :: r, i => (if hb.testBit i then (b.1, minI b.2 hd) else b) :: rsv hb hd r (i + 1)
def mkCV : CT → Int → CV
  | .sc .bool, n => .b (iB n)
  | _, n => .n n
def mkCVs : List CT → List Int → List CV
  | t :: ts, n :: ns => mkCV t n :: mkCVs ts ns
  | _, _ => []
def inBs : List CT → List (Int × Int) → List Int → Prop
  | [], [], [] => True
  | .sc (.int _) :: ts, b :: bs, n :: ns => (b.1 ≤ n ∧ n ≤ b.2) ∧ inBs ts bs ns
  | .sc .bool :: ts, b :: bs, n :: ns => (b = (0, 1) ∧ (n = 0 ∨ n = 1)) ∧ inBs ts bs ns
  | _, _, _ => False
/-- a value as numbers, and back -/
def enc : CV → List Int
  | .n x => [x]
  | .b b => [bI b]
  | .l xs => (xs.length : Int) :: xs
  | .r xs => (xs.length : Int) :: xs.flatten
def encs : List CV → List Int
  | [] => []
  | c :: r => enc c ++ encs r
def decs : List CT → List Int → List CV
  | [], _ => []
  | .sc (.int _) :: ts, n :: l => .n n :: decs ts l
  | .sc .bool :: ts, n :: l => .b (iB n) :: decs ts l
  | .str :: ts, n :: l => .l (l.take n.toNat) :: decs ts (l.drop n.toNat)
  | .lst [_] :: ts, n :: l => .l (l.take n.toNat) :: decs ts (l.drop n.toNat)
  | .lst ks :: ts, n :: l => .r ((List.range n.toNat).map fun r => (l.drop (r * ks.length)).take ks.length) :: decs ts (l.drop (n.toNat * ks.length))
  | _ :: _, [] => []
/-- no rows of no cells -/
def flatB : CT → Bool
  | .lst [] => false
  | _ => true
def boundsB (hb : Nat) (hd : X) : List CT → List (Int × Int) → List Sc → Nat → Option (List B)
  | [], [], [], _ => some []
  | .sc (.int k) :: ts, b :: bs, .int k' x :: c, i => if k = k' then (boundsB hb hd ts bs c (i + 1)).map fun l => B.le (.c b.1) x :: B.le x (.c b.2) :: (if hb.testBit i then B.le x hd else .c true) :: l else none
  | .sc .bool :: ts, b :: bs, .bool _ :: c, i => if b = (0, 1) ∧ hb.testBit i = false then boundsB hb hd ts bs c (i + 1) else none
  | _, _, _, _ => none
def sameB : List Sc → List Sc → Option (List B)
  | [], [] => some []
  | .int k x :: c, .int k' y :: d => if k = k' then (sameB c d).map fun l => B.mkEq x y :: l else none
  | .bool x :: c, .bool y :: d => (sameB c d).map fun l => B.mkIff x y :: l
  | _, _ => none
def boolE : B → Option E
  | .c b => some (.num (bI b))
  | .ex (.eq e (.num n)) => if n = 1 ∧ 0 ≤ e.R.1.1 ∧ e.R.1.2 ≤ 1 then some e else none
  | _ => none
def cellEs : List Sc → Option (List E)
  | [] => some []
  | .int _ x :: r => match x.e?, cellEs r with
    | some a, some l => some (a :: l)
    | _, _ => none
  | .bool b :: r => match boolE b, cellEs r with
    | some a, some l => some (a :: l)
    | _, _ => none
  | _ :: _ => none
def rtLeaf (s : Sig) (a b0 : E) (c : List Sc) (fs : List Fk) : Bool :=
  match s.rt with
  | none => true
  | some f => match cellEs c with
    | some l => rtAsk (f a b0 l) l fs
    | none => false
def leafT (s : Sig) (a b0 : E) (fs : List Fk) (x : AV × St) : Bool :=
  match resFlat s.rts x.1 with
  | some c => match boundsB s.hb (xOf (selE (.num 0) a)) (flatT s.rts) s.bs c 0 with
    | some l => allAsk l fs && rtLeaf s a b0 c fs
    | none => false
  | none => false
def bothE (call : FuncId → List AV → St → Out (AV × St)) (g1 g2 : FuncId) (args : List AV) (σ : St) : Out ((AV × St) × (AV × St)) :=
  (call g1 args σ).bind fun a => (call g2 args σ).bind fun b => .ok (a, b)
def leafB (s : Sig) (a b0 : E) (fs : List Fk) (x : (AV × St) × (AV × St)) : Bool :=
  match resFlat s.rts x.1.1, resFlat s.rts x.2.1 with
  | some c, some d => match boundsB s.hb (xOf (selE (.num 0) a)) (flatT s.rts) s.bs c 0, sameB c d with
    | some l, some m => allAsk (l ++ m) fs && rtLeaf s a b0 c fs
    | _, _ => false
  | _, _ => false

/-! As a contract. -/
/-- a slice of a row that is a list's term -/
def sliceT (σ : St) (k : Kd) : Sc → Option (E × E × B)
  | .sl _ id off len sz =>
    match σ.at id, len.e?, off.e? with
    | .row _ _ (.ex k' e), some n, some o =>
      if k.beq k' && decide (sz = 1) then
        if isZ off && n.beq (.ln e) then some (n, e, .c true) else
        match subE e o.lin n.lin with
        | some t => some (.ln t, t, B.le (off.plus len) (.ex (.ln e)))
        | none => some (n, .sb e o n, B.le (off.plus len) (.ex (.ln e)))
      else none
    | .row _ _ (.vals l), some n, some o =>
      match len with
      | .c _ => none
      | _ => if sz = 1 then (cellsE k l .nl).map fun e => (n, .sb e o n, B.le (off.plus len) (.c (l.length : Int))) else none
    | _, _, _ => none
  | _ => none
def termIn (σ : St) (t : CT) (s : Sc) (rest : E) : Option (E × B) :=
  match t, s with
  | .sc (.int k), .int k' x => if k = k' then x.e?.map fun e => (.cn e rest, .c true) else none
  | .sc .bool, .bool b => (boolE b).map fun e => (.cn e rest, .c true)
  | .lst [k], s =>
    match sliceT σ k s with
    | some (n, e, g) => some (.cn n (.cc e rest), g)
    | none => if szOk s then (sliceCells σ s).bind fun c => (cellsE k c rest).map fun e => (.cn (.num (c.length : Int)) e, .c true) else none
  | .lst (k :: k' :: ks), s =>
    match tbOf σ (k :: k' :: ks) s, semRows σ (k :: k' :: ks) s with
    | some (e, g), some (n, _, g') => n.e?.map fun n => (.cn n (.cc e rest), B.mkAnd g g')
    | _, _ => none
  | _, _ => none
def termsIn (σ : St) : List CT → List Sc → Option (E × B)
  | [], [] => some (.nl, .c true)
  | t :: ts, s :: r => (termsIn σ ts r).bind fun (e, g) => (termIn σ t s e).map fun (e', g') => (e', B.mkAnd g' g)
  | _, _ => none
def outRps (hb : Nat) (f : Nat) (e : E) : List CT → List (Int × Int) → Nat → List Rp
  | .sc .bool :: ts, _ :: bs, i => .b (.ex (.eq (.ap (f + i) e 0 1) (.num 1))) :: outRps hb f e ts bs (i + 1)
  | _ :: ts, b :: bs, i => .n (.ex (.ap (if hb.testBit i then f + i + HB else f + i) e b.1 b.2)) :: outRps hb f e ts bs (i + 1)
  | _, _, _ => []
def aCon (j : Nat) (s : Sig) (pre : E → Bool) (pg : E → B := fun _ => .c true) : Con := fun args σ =>
  match (flatA s.pts args).bind (termsIn σ (flatT s.pts)) with
  | some (e, g) => .guard g (.guard (pg e) (bif pre e then .ok (resAV s.rts (rpCells (flatT s.rts) (outRps s.hb (64 * j) e (flatT s.rts) s.bs 0) 0), σ) else .fail "contract: pre"))
  | none => .fail "contract"

end
def HasRes (P : Program) (s : Sig) (cvs : List CV) : Prop :=
  ∃ ns, inBs (flatT s.rts) (rsv s.hb ((encs cvs).headD 0) s.bs 0) ns ∧ Post s (encs cvs) ns ∧ ∀ g ∈ s.gs, PureSem P g s.pts s.rts cvs (mkCVs (flatT s.rts) ns)
open Classical in
noncomputable def Res (P : Program) (s : Sig) (l : List Int) : List Int :=
  if h : HasRes P s (decs (flatT s.pts) l) then Classical.choose h else []
/-- names as listed, functions as the program's -/
@[reducible] noncomputable def envOf (P : Program) (sig : Nat → Option Sig) (xs : List Int) (ls : List (List Int) := []) : Env where
  val i := xs.getD i 0
  lst i _ := ls.getD i []
  app f l := match sig (f / 64) with
    | some s => (Res P s l).getD (f % 64) 0
    | none => 0

section
variable [Env]
theorem allAsk_ok : ∀ {bs : List B} {fs : List Fk}, allAsk bs fs = true → Holds fs → ∀ b ∈ bs, b.den = true
  | [], _, _, _ => fun b h => by cases h
  | b :: r, fs, h, hf => by
    obtain ⟨fs', h1, h2⟩ := B.ask_ok b fs _ h hf
    cases hb : b.den with
    | false => rw [hb] at h2; cases h2
    | true =>
      rw [hb] at h2
      intro x hx
      rcases List.mem_cons.1 hx with rfl | hx
      · exact hb
      · exact allAsk_ok h2 h1 x hx
theorem know_ok {b : EB} {v : Bool} {fs : List Fk} (h : b.den = v) (hf : Holds fs) : Holds (b.know v fs) := by
  cases b with
  | eq x y =>
    have hd : (eqD x y).den = x.den - y.den := eqD_den x y
    cases v with
    | true =>
      have h : (x.den == y.den) = true := h
      rw [beq_iff_eq] at h
      exact hf.addF (show (eqD x y).den = 0 by omega)
    | false =>
      have h : (x.den == y.den) = false := h
      rw [beq_eq_false_iff_ne] at h
      exact hf.addNe (show (eqD x y).den ≠ 0 by omega)
  | lt x y =>
    have hd := ltD_den x y
    cases v with
    | true =>
      have h : x.den < y.den := of_decide_eq_true h
      exact hf.addF (show 0 ≤ (ltD x y).den by omega)
    | false =>
      have h : ¬ x.den < y.den := of_decide_eq_false h
      exact hf.addF (show 0 ≤ (negD (ltD x y)).den by rw [negD_den]; omega)
  | _ => exact hf
theorem val_of_run {α β : Type} {k : α → Option β} {a : α} {b : β} : ∀ {o : Out α}, o.run = some a → k a = some b → o.val k = some b
  | .fail _, h, _ => by cases h
  | .ok a, h, hk => by cases h; exact hk
  | .grd g o, h, hk => by
    simp only [Out.run] at h
    simp only [Out.val]
    cases hg : g.den
    · rw [hg] at h; cases h
    · rw [hg] at h; exact val_of_run (o := o) h hk
  | .br b t e, h, hk => by
    simp only [Out.run] at h
    simp only [Out.val]
    cases hb : b.den
    · rw [hb] at h; exact val_of_run (o := e ()) h hk
    · rw [hb] at h; exact val_of_run (o := t ()) h hk
/-- a law: every way ends with true -/
theorem law_of_good {P : Program} {call : FuncId → List AV → St → Out (AV × St)} (hc : CallSound P call) {g : FuncId} {pts : List PT} (rps : List Rp) {cvs : List CV} {fs : List Fk} (hf : Holds fs) (hok : rpsOk (flatT pts) rps = true) (hcv : rpCVs (flatT pts) rps = cvs)
    (h : (call g (splitA pts (rpCells (flatT pts) rps 0)) (rpObjs (flatT pts) rps)).good leafTrue fs = true) : PureSem P g pts [.inl (.sc .bool)] cvs [.b true] := by
  obtain ⟨a, h1, b, h2, h3⟩ := good_ok (Q := fun x : AV × St => ∃ b, x.1 = .one (.bool b) ∧ b.den = true) (fun fs a hf hl => by
    unfold leafTrue at hl
    split at hl
    · rename_i b e
      exact ⟨b, e, allAsk_ok hl hf b (List.mem_cons_self ..)⟩
    · cases hl) _ _ h hf
  refine pure_of_eval hc rps hok hcv (val_of_run h1 ?_)
  unfold resDen
  rw [h2]
  show (bif B.den (B.mkAnd (.c true) (.c true)) then some [CV.b b.den] else none) = _
  rw [h3]; rfl
theorem boundsB_res {σ : St} {hb : Nat} {hd : X} : ∀ {ts : List CT} {bs : List (Int × Int)} {c : List Sc} {i : Nat} {l : List B}, boundsB hb hd ts bs c i = some l → (∀ b ∈ l, b.den = true) → ∃ ns g, inBs ts (rsv hb hd.den bs i) ns ∧ ns = c.map Sc.vI ∧ cellsIn σ ts c = some (mkCVs ts ns, g) ∧ g.den = true
  | [], bs, c, i, l, h, _ => by
    cases bs <;> cases c <;> first | (cases h; done) | skip
    exact ⟨[], .c true, True.intro, rfl, rfl, rfl⟩
  | t :: ts, bs, c, i, l, h, hl => by
    cases t with
    | sc k =>
      cases bs with
      | nil => cases k <;> cases h
      | cons b bs =>
        cases c with
        | nil => cases k <;> cases h
        | cons s c =>
          cases k with
          | int k =>
            cases s <;> first | (cases h; done) | skip
            rename_i k' x
            simp only [boundsB] at h
            split at h
            · rename_i e; subst e
              obtain ⟨l', h1, rfl⟩ := Option.map_eq_some_iff.1 h
              obtain ⟨ns, g, e1, e2, e3, e4⟩ := boundsB_res (σ := σ) h1 fun b hb => hl b (List.mem_cons_of_mem _ (List.mem_cons_of_mem _ (List.mem_cons_of_mem _ hb)))
              have g1 := hl _ (List.mem_cons_self ..)
              have g2 := hl _ (List.mem_cons_of_mem _ (List.mem_cons_self ..))
              have g3 := hl _ (List.mem_cons_of_mem _ (List.mem_cons_of_mem _ (List.mem_cons_self ..)))
              rw [le_den] at g1 g2
              refine ⟨x.den :: ns, g, ⟨?_, e1⟩, by rw [e2]; rfl, ?_, e4⟩
              · cases hbit : hb.testBit i with
                | false => simp only [hbit, Bool.false_eq_true, if_false]; exact ⟨g1, g2⟩
                | true =>
                  rw [hbit, if_pos rfl, le_den] at g3
                  simp only [hbit, if_true]
                  refine ⟨g1, ?_⟩
                  show x.den ≤ minI b.2 hd.den
                  have g2 : x.den ≤ b.2 := g2
                  unfold minI
                  split <;> omega
              simp only [cellsIn, cellIn, if_pos, e3]
              rfl
            · cases h
          | bool =>
            cases s <;> first | (cases h; done) | skip
            rename_i x
            simp only [boundsB] at h
            split at h
            · rename_i e
              obtain ⟨ns, g, e1, e2, e3, e4⟩ := boundsB_res (σ := σ) h hl
              refine ⟨bI x.den :: ns, g, ⟨⟨by rw [e.2]; exact e.1, by cases x.den <;> simp [bI]⟩, e1⟩, by rw [e2]; rfl, ?_, e4⟩
              simp only [cellsIn, cellIn, e3]
              simp only [mkCVs, mkCV, iB_bI]
              rfl
            · cases h
    | str => cases bs <;> cases c <;> cases h
    | lst ks => cases bs <;> cases c <;> cases h
theorem sameB_vI : ∀ {c d : List Sc} {l : List B}, sameB c d = some l → (∀ b ∈ l, b.den = true) → c.map Sc.vI = d.map Sc.vI ∧ ∀ (hb : Nat) (hd : X) (ts : List CT) bs i l', boundsB hb hd ts bs c i = some l' → ∃ m, boundsB hb hd ts bs d i = some m ∧ ((∀ b ∈ l', b.den = true) → ∀ b ∈ m, b.den = true)
  | [], d, l, h, _ => by
    cases d <;> first | (cases h; done) | exact ⟨rfl, fun hb hd ts bs i l' h => ⟨l', h, fun h => h⟩⟩
  | s :: c, d, l, h, hl => by
    cases d with
    | nil => cases s <;> cases h
    | cons t d =>
      cases s <;> first | (cases h; done) | skip
      · cases t <;> first | (cases h; done) | skip
        rename_i k x k' y
        simp only [sameB] at h
        split at h
        · rename_i e; subst e
          obtain ⟨l1, h1, rfl⟩ := Option.map_eq_some_iff.1 h
          have g1 := hl _ (List.mem_cons_self ..)
          rw [mkEq_den, beq_iff_eq] at g1
          obtain ⟨q1, q2⟩ := sameB_vI h1 fun b hb => hl b (List.mem_cons_of_mem _ hb)
          refine ⟨by simp only [List.map_cons, Sc.vI, g1, q1], fun hbt hd ts bs i l' hb => ?_⟩
          cases ts with
          | nil => cases bs <;> cases hb
          | cons t ts =>
            cases bs with
            | nil => cases t <;> first | (cases hb; done) | (rename_i k; cases k <;> cases hb)
            | cons b bs =>
              cases t <;> first | (cases hb; done) | skip
              rename_i kk
              cases kk <;> first | (cases hb; done) | skip
              simp only [boundsB] at hb ⊢
              split at hb
              · rename_i e; subst e
                obtain ⟨l2, h2, rfl⟩ := Option.map_eq_some_iff.1 hb
                obtain ⟨m, m1, m2⟩ := q2 hbt hd ts bs (i + 1) l2 h2
                refine ⟨_, by rw [if_pos rfl, m1]; rfl, fun hh z hz => ?_⟩
                have e1 := hh _ (List.mem_cons_self ..)
                have e2 := hh _ (List.mem_cons_of_mem _ (List.mem_cons_self ..))
                have e3 := hh _ (List.mem_cons_of_mem _ (List.mem_cons_of_mem _ (List.mem_cons_self ..)))
                rw [le_den] at e1 e2
                rcases List.mem_cons.1 hz with rfl | hz
                · rw [le_den, ← g1]; exact e1
                · rcases List.mem_cons.1 hz with rfl | hz
                  · rw [le_den, ← g1]; exact e2
                  · rcases List.mem_cons.1 hz with rfl | hz
                    · cases hbit : hbt.testBit i with
                      | false => rfl
                      | true =>
                        rw [hbit, if_pos rfl, le_den] at e3
                        rw [if_pos rfl, le_den, ← g1]; exact e3
                    · exact m2 (fun b hb => hh b (List.mem_cons_of_mem _ (List.mem_cons_of_mem _ (List.mem_cons_of_mem _ hb)))) z hz
              · cases hb
        · cases h
      · cases t <;> first | (cases h; done) | skip
        rename_i x y
        simp only [sameB] at h
        obtain ⟨l1, h1, rfl⟩ := Option.map_eq_some_iff.1 h
        have g1 := hl _ (List.mem_cons_self ..)
        rw [mkIff_den, beq_iff_eq] at g1
        obtain ⟨q1, q2⟩ := sameB_vI h1 fun b hb => hl b (List.mem_cons_of_mem _ hb)
        refine ⟨by simp only [List.map_cons, Sc.vI, g1, q1], fun hbt hd ts bs i l' hb => ?_⟩
        cases ts with
        | nil => cases bs <;> cases hb
        | cons t ts =>
          cases bs with
          | nil => cases t <;> first | (cases hb; done) | (rename_i k; cases k <;> cases hb)
          | cons b bs =>
            cases t <;> first | (cases hb; done) | skip
            rename_i kk
            cases kk <;> first | (cases hb; done) | skip
            simp only [boundsB] at hb ⊢
            split at hb
            · rename_i e
              rw [if_pos e]
              exact q2 hbt hd ts bs (i + 1) l' hb
            · cases hb
theorem boolE_den {b : B} {e : E} (h : boolE b = some e) : e.den = bI b.den := by
  unfold boolE at h
  split at h
  · cases h; rfl
  · rename_i e' n
    split at h
    · rename_i hc
      obtain ⟨rfl, h1, h2⟩ := hc
      cases h
      have := e.rng
      show _ = bI (e.den == (1 : Int))
      have : e.den = 0 ∨ e.den = 1 := by omega
      rcases this with h | h <;> rw [h] <;> rfl
    · cases h
  · cases h
theorem cellEs_den : ∀ {c : List Sc} {l : List E}, cellEs c = some l → l.map E.den = c.map Sc.vI
  | [], l, h => by cases h; rfl
  | s :: c, l, h => by
    cases s <;> first | (cases h; done) | skip
    · rename_i k x
      simp only [cellEs] at h
      split at h
      · rename_i a l' h1 h2
        cases h
        rw [List.map_cons, List.map_cons, cellEs_den h2, X.e?_den h1]; rfl
      · cases h
    · rename_i b
      simp only [cellEs] at h
      split at h
      · rename_i a l' h1 h2
        cases h
        rw [List.map_cons, List.map_cons, cellEs_den h2, boolE_den h1]; rfl
      · cases h
theorem eqsB_den : ∀ {l m : List E} {q : List B}, eqsB l m = some q → (∀ b ∈ q, b.den = true) → l.map E.den = m.map E.den
  | [], m, q, h, _ => by cases m <;> first | rfl | cases h
  | a :: l, m, q, h, hq => by
    cases m with
    | nil => cases h
    | cons b m =>
      simp only [eqsB] at h
      obtain ⟨r, h1, rfl⟩ := Option.map_eq_some_iff.1 h
      have h2 := hq _ (List.mem_cons_self ..)
      rw [mkEq_den, beq_iff_eq, xOf_den, xOf_den] at h2
      rw [List.map_cons, List.map_cons, h2, eqsB_den h1 fun b hb => hq b (List.mem_cons_of_mem _ hb)]
theorem rtAsk_ok : ∀ {r : RT} {c : List E} {fs : List Fk}, rtAsk r c fs = true → Holds fs → r.den = c.map E.den
  | .lf l, c, fs, h, hf => by
    simp only [rtAsk] at h
    split at h
    · rename_i q hq
      exact eqsB_den hq (allAsk_ok h hf)
    · cases h
  | .br c t e, x, fs, h, hf => by
    simp only [rtAsk] at h
    obtain ⟨fs', h1, h2⟩ := EB.ask_ok c fs _ h hf
    simp only [RT.den]
    cases hc : c.den with
    | true => rw [hc] at h2; exact rtAsk_ok (r := t) h2 h1
    | false => rw [hc] at h2; exact rtAsk_ok (r := e) h2 h1
theorem post_of {s : Sig} {a b0 : E} {c : List Sc} {fs : List Fk} {cvs : List CV} (hr : Resp s) (ha : a.dens = encs cvs) (hb : b0.den = (encs cvs).getD 1 0) (h : rtLeaf s a b0 c fs = true) (hf : Holds fs) : Post s (encs cvs) (c.map Sc.vI) := by
  unfold rtLeaf at h
  unfold Post
  unfold Resp at hr
  cases hrt : s.rt with
  | none => exact True.intro
  | some f =>
    rw [hrt] at h hr
    simp only at h hr ⊢
    split at h
    · rename_i l hl
      have h1 := rtAsk_ok h hf
      have h2 := cellEs_den hl
      have hr' := hr inferInstance
      intro e2 a' b0' res q1 q2 q3
      exact (hr' e2 a b0 a' b0' l res (ha.trans q1.symm) (fun h0 => hb.trans (q2 (ha ▸ h0)).symm) (h2.trans q3.symm)).symm.trans (h1.trans h2)
    · cases h
theorem res_of_good {P : Program} {call : FuncId → List AV → St → Out (AV × St)} (hc : CallSound P call) {s : Sig} {g : FuncId} (hg : s.gs = [g]) (rps : List Rp) {cvs : List CV} {fs : List Fk} (hresp : Resp s) (a0 b0 : E) (ha : a0.dens = encs cvs) (hb0 : b0.den = (encs cvs).getD 1 0) (hf : Holds fs) (hok : rpsOk (flatT s.pts) rps = true) (hcv : rpCVs (flatT s.pts) rps = cvs)
    (h : (call g (splitA s.pts (rpCells (flatT s.pts) rps 0)) (rpObjs (flatT s.pts) rps)).good (leafT s a0 b0) fs = true) : HasRes P s cvs := by
  have hhd : (xOf (selE (.num 0) a0)).den = (encs cvs).headD 0 := by rw [xOf_den, selE_den, show a0.D.2 = encs cvs from ha]; cases encs cvs <;> rfl
  obtain ⟨a, h1, c, l, h2, h3, h4, hpost⟩ := good_ok (Q := fun x : AV × St => ∃ c l, resFlat s.rts x.1 = some c ∧ boundsB s.hb (xOf (selE (.num 0) a0)) (flatT s.rts) s.bs c 0 = some l ∧ (∀ b ∈ l, b.den = true) ∧ Post s (encs cvs) (c.map Sc.vI)) (fun fs a hf hl => by
    unfold leafT at hl
    split at hl
    · rename_i c e
      split at hl
      · rename_i l e2
        rw [Bool.and_eq_true] at hl
        exact ⟨c, l, e, e2, allAsk_ok hl.1 hf, post_of hresp ha hb0 hl.2 hf⟩
      · cases hl
    · cases hl) _ _ h hf
  obtain ⟨ns, gg, e1, e2, e3, e4⟩ := boundsB_res (σ := a.2) h3 h4
  refine ⟨ns, hhd ▸ e1, by rw [e2]; exact hpost, fun g' hg' => ?_⟩
  rw [hg, List.mem_singleton] at hg'
  subst hg'
  refine pure_of_eval hc rps hok hcv (val_of_run h1 ?_)
  unfold resDen
  rw [h2]
  simp only [e3, e4, cond_true]
theorem res_of_both {P : Program} {call : FuncId → List AV → St → Out (AV × St)} (hc : CallSound P call) {s : Sig} {g1 g2 : FuncId} (hg : s.gs = [g1, g2]) (rps : List Rp) {cvs : List CV} {fs : List Fk} (hresp : Resp s) (a0 b0 : E) (ha : a0.dens = encs cvs) (hb0 : b0.den = (encs cvs).getD 1 0) (hf : Holds fs) (hok : rpsOk (flatT s.pts) rps = true) (hcv : rpCVs (flatT s.pts) rps = cvs)
    (h : (bothE call g1 g2 (splitA s.pts (rpCells (flatT s.pts) rps 0)) (rpObjs (flatT s.pts) rps)).good (leafB s a0 b0) fs = true) : HasRes P s cvs := by
  have hhd : (xOf (selE (.num 0) a0)).den = (encs cvs).headD 0 := by rw [xOf_den, selE_den, show a0.D.2 = encs cvs from ha]; cases encs cvs <;> rfl
  obtain ⟨⟨a, b⟩, h1, c, d, l, m, h2, h2', h3, h4, h5, hpost⟩ := good_ok (Q := fun x : (AV × St) × (AV × St) => ∃ c d l m, resFlat s.rts x.1.1 = some c ∧ resFlat s.rts x.2.1 = some d ∧ boundsB s.hb (xOf (selE (.num 0) a0)) (flatT s.rts) s.bs c 0 = some l ∧ sameB c d = some m ∧ (∀ b ∈ l ++ m, b.den = true) ∧ Post s (encs cvs) (c.map Sc.vI)) (fun fs a hf hl => by
    unfold leafB at hl
    split at hl
    · rename_i c d e e'
      split at hl
      · rename_i l m e2 e3
        rw [Bool.and_eq_true] at hl
        exact ⟨c, d, l, m, e, e', e2, e3, allAsk_ok hl.1 hf, post_of hresp ha hb0 hl.2 hf⟩
      · cases hl
    · cases hl) _ _ h hf
  unfold bothE at h1
  obtain ⟨a', r1, h1⟩ := bind_some h1
  obtain ⟨b', r2, h1⟩ := bind_some h1
  cases h1
  obtain ⟨ns, gg, e1, e2, e3, e4⟩ := boundsB_res (σ := a.2) h3 fun b hb => h5 b (List.mem_append_left _ hb)
  obtain ⟨q1, q2⟩ := sameB_vI h4 fun b hb => h5 b (List.mem_append_right _ hb)
  obtain ⟨l2, m1, m2⟩ := q2 _ _ _ _ _ _ h3
  obtain ⟨ns', gg', e1', e2', e3', e4'⟩ := boundsB_res (σ := b.2) m1 (m2 fun b hb => h5 b (List.mem_append_left _ hb))
  have : ns' = ns := by rw [e2', e2, q1]
  subst this
  refine ⟨ns', hhd ▸ e1, by rw [e2]; exact hpost, fun g' hg' => ?_⟩
  rw [hg] at hg'
  rcases List.mem_cons.1 hg' with rfl | hg'
  · refine pure_of_eval hc rps hok hcv (val_of_run r1 ?_)
    unfold resDen
    rw [h2]
    simp only [e3, e4, cond_true]
  · rw [List.mem_singleton] at hg'
    subst hg'
    refine pure_of_eval hc rps hok hcv (val_of_run r2 ?_)
    unfold resDen
    rw [h2']
    simp only [e3', e4', cond_true]

theorem slice_list {ρ : Nat → Loc} {σ : St} {w : World} {k : Kd} {nn : Bool} {id : Nat} {off len : X} {x : Value} {e : E} (hr : Rel ρ σ w) (hs : SRel ρ σ.length (.sl nn id off len 1) x) (hnd : σ.at id ≠ .dead)
    (hat : (ρ id).live = true → ∀ i, i < e.D.2.length → ∃ v, w.cell? ⟨(ρ id).block, (ρ id).base + i, none⟩ = some v ∧ KRel k (e.D.2.getD i 0) v) (hg : off.den + len.den ≤ (e.D.2.length : Int)) :
    len.den = (((e.D.2.drop off.den.toNat).take len.den.toNat).length : Int) ∧ CellV w (.lst [k]) (.l ((e.D.2.drop off.den.toNat).take len.den.toNat)) x := by
  obtain ⟨o, m, ho, hm, hbig, hid, hsl⟩ := hs
  rw [ho, hm] at hg
  rw [ho, hm, Int.toNat_natCast, Int.toNat_natCast]
  have hlen : ((e.D.2.drop o).take m).length = m := by rw [List.length_take, List.length_drop]; omega
  refine ⟨by rw [hlen], m, fun i _ => e.D.2.getD (o + i) 0, ?_, ?_⟩
  · show CV.l _ = CV.l (listF _ _)
    congr 1
    unfold listF
    refine List.ext_getElem (by simp only [hlen, List.length_map, List.length_range]) fun i h1 h2 => ?_
    rw [hlen] at h1
    simp only [List.getElem_take, List.getElem_drop, List.getElem_map, List.getElem_range]
    rw [List.getD_eq_getElem?_getD, List.getElem?_eq_getElem (by omega)]; rfl
  · refine ⟨hbig, ?_⟩
    rcases hsl with ⟨_, h0, rfl⟩ | ⟨A, cp, rfl, hlive, hspot, hle, hcap, hA⟩ | ⟨h0, A, rfl, hspot⟩
    · exact .inl ⟨h0, rfl⟩
    rotate_left
    · exact .inr (.inr ⟨h0, A, rfl, hspot⟩)
    · refine .inr <| .inl ⟨⟨true, (ρ id).block, (ρ id).base + o * 1, cp⟩, A, rfl, hr.bnd id ⟨hlive, hnd⟩, rfl, hspot, hle, hA, fun i hi => ?_⟩
      have hi' : i < m := by simpa using hi
      obtain ⟨v, v1, v2⟩ := hat hlive (o + i) (by omega)
      have e1 : i % 1 = 0 := by omega
      have e2 : i / 1 = i := by omega
      refine ⟨v, ?_, ?_⟩
      · show w.cell? ⟨_, (ρ id).base + o * 1 + i, none⟩ = _
        rw [Nat.mul_one, Nat.add_assoc]; exact v1
      · simp only [List.length_singleton, e1, e2, List.getD_cons_zero]
        exact v2
theorem ex_cells {ρ : Nat → Loc} {σ : St} {w : World} {k : Kd} {id : Nat} {own : Bool} {z : Nat} {e : E} (hr : Rel ρ σ w) (hat : σ.at id = .row own z (.ex k e)) (hl : (ρ id).live = true) (i : Nat) (hi : i < e.D.2.length) : ∃ v, w.cell? ⟨(ρ id).block, (ρ id).base + i, none⟩ = some v ∧ KRel k (e.D.2.getD i 0) v := by
  have hob := hr.obj id
  rw [hat] at hob
  obtain ⟨v, v1, v2⟩ := (hob.2 hl).1 i (k.sc (e.D.2.getD i 0)) (if_pos hi)
  exact ⟨v, v1, Kd.sc_rel.1 v2⟩
theorem vals_cells {ρ : Nat → Loc} {σ : St} {w : World} {k : Kd} {id : Nat} {own : Bool} {z : Nat} {l : List Sc} {e : E} (hr : Rel ρ σ w) (hat : σ.at id = .row own z (.vals l)) (he : cellsE k l .nl = some e) (hl : (ρ id).live = true) (i : Nat) (hi : i < e.D.2.length) : ∃ v, w.cell? ⟨(ρ id).block, (ρ id).base + i, none⟩ = some v ∧ KRel k (e.D.2.getD i 0) v := by
  obtain ⟨q1, q2⟩ := cellsE_dens he
  have q1 : e.D.2 = l.map Sc.vI := by have : e.D.2 = l.map Sc.vI ++ [] := q1; rwa [List.append_nil] at this
  have hil : i < l.length := by rw [q1] at hi; simpa using hi
  have hob := hr.obj id
  rw [hat] at hob
  obtain ⟨v, v1, v2⟩ := (hob.2 hl).1 i l[i] (List.getElem?_eq_getElem hil)
  refine ⟨v, v1, ?_⟩
  have : e.D.2.getD i 0 = l[i].vI := by rw [q1, List.getD_eq_getElem?_getD, List.getElem?_map, List.getElem?_eq_getElem hil]; rfl
  rw [this]
  exact Kd.sc_rel.1 (kd_sc (q2 _ (List.getElem_mem ..)) v2)
theorem sliceT_rel {ρ : Nat → Loc} {σ : St} {w : World} {k : Kd} {s : Sc} {n e : E} {g : B} {x : Value} (hr : Rel ρ σ w) (hs : SRel ρ σ.length s x) (h : sliceT σ k s = some (n, e, g)) (hg : g.den = true) : n.den = (e.dens.length : Int) ∧ CellV w (.lst [k]) (.l e.dens) x := by
  unfold sliceT at h
  split at h
  · rename_i nn id off len sz
    split at h
    · rename_i k' e' n' o' hat hn ho
      split at h
      · rename_i hk
        rw [Bool.and_eq_true, decide_eq_true_eq] at hk
        obtain ⟨hk, rfl⟩ := hk
        cases Kd.beq_eq hk
        have hnd : σ.at id ≠ .dead := by rw [hat]; intro h; cases h
        split at h
        · rename_i hb
          rw [Bool.and_eq_true] at hb
          cases h
          have hz := isZ_den hb.1
          have hn' : len.den = (e.D.2.length : Int) := by rw [← X.e?_den hn, E.beq_eq hb.2]; rfl
          obtain ⟨q1, q2⟩ := slice_list hr hs hnd (ex_cells hr hat) (by rw [hz, hn']; omega)
          have : (e.D.2.drop off.den.toNat).take len.den.toNat = e.dens := by
            rw [hz]
            show (e.D.2.drop 0).take len.den.toNat = e.D.2
            rw [List.drop_zero, hn', Int.toNat_natCast, List.take_length]
          rw [this] at q1 q2
          exact ⟨by rw [X.e?_den hn]; exact q1, q2⟩
        · split at h
          · rename_i t' ht'
            cases h
            rw [le_den, plus_den] at hg
            obtain ⟨q1, q2⟩ := slice_list hr hs hnd (ex_cells hr hat) hg
            obtain ⟨ov, lv, hov, hlv, _⟩ := hs
            have ho0 : 0 ≤ o'.den := by rw [X.e?_den ho, hov]; exact Int.natCast_nonneg _
            have hn0 : 0 ≤ n'.den := by rw [X.e?_den hn, hlv]; exact Int.natCast_nonneg _
            have h3 := subE_dens ht' (by rw [E.lin_den]; exact ho0) (by rw [E.lin_den]; exact hn0)
            rw [E.lin_den, E.lin_den, X.e?_den hn, X.e?_den ho] at h3
            have h3 : e.dens = (e'.D.2.drop off.den.toNat).take len.den.toNat := h3
            rw [← h3] at q1 q2
            exact ⟨rfl, q2⟩
          · cases h
            rw [le_den, plus_den] at hg
            obtain ⟨q1, q2⟩ := slice_list hr hs hnd (ex_cells hr hat) hg
            have : E.dens (.sb e' o' n) = (e'.D.2.drop off.den.toNat).take len.den.toNat := by
              show (e'.D.2.drop o'.den.toNat).take n.den.toNat = _
              rw [X.e?_den hn, X.e?_den ho]
            rw [this]
            exact ⟨by rw [X.e?_den hn]; exact q1, q2⟩
      · cases h
    · rename_i l n' o' hat hn ho
      split at h
      · cases h
      · split at h
        · rename_i hsz
          subst hsz
          obtain ⟨e', h1, h2⟩ := Option.map_eq_some_iff.1 h
          cases h2
          have hnd : σ.at id ≠ .dead := by rw [hat]; intro h; cases h
          rw [le_den, plus_den] at hg
          have hel : (e'.D.2.length : Int) = (l.length : Int) := by
            have : e'.D.2 = l.map Sc.vI ++ [] := (cellsE_dens h1).1
            rw [this, List.append_nil, List.length_map]
          obtain ⟨q1, q2⟩ := slice_list hr hs hnd (vals_cells hr hat h1) (by rw [hel]; exact hg)
          have : E.dens (.sb e' o' n) = (e'.D.2.drop off.den.toNat).take len.den.toNat := by
            show (e'.D.2.drop o'.den.toNat).take n.den.toNat = _
            rw [X.e?_den hn, X.e?_den ho]
          rw [this]
          exact ⟨by rw [X.e?_den hn]; exact q1, q2⟩
        · cases h
    · cases h
  · cases h
theorem term_in {ρ : Nat → Loc} {σ : St} {w : World} {t : CT} {s : Sc} {e r : E} {g : B} {x : Value} (hr : Rel ρ σ w) (hs : SRel ρ σ.length s x) (h : termIn σ t s r = some (e, g)) (hg : g.den = true) : ∃ cv, CellV w t cv x ∧ e.dens = enc cv ++ r.dens := by
  unfold termIn at h
  split at h
  · rename_i k k' y
    split at h
    · rename_i e; subst e
      obtain ⟨a, h1, h2⟩ := Option.map_eq_some_iff.1 h
      cases h2
      refine ⟨.n y.den, ⟨_, rfl, hs.1, hs.2⟩, ?_⟩
      show a.den :: r.dens = _
      rw [X.e?_den h1]; rfl
    · cases h
  · rename_i b
    obtain ⟨a, h1, h2⟩ := Option.map_eq_some_iff.1 h
    cases h2
    refine ⟨.b b.den, ⟨_, rfl, hs⟩, ?_⟩
    show a.den :: r.dens = _
    rw [boolE_den h1]; rfl
  · rename_i k
    split at h
    · rename_i n l g' hsl
      cases h
      obtain ⟨q1, q2⟩ := sliceT_rel hr hs hsl hg
      refine ⟨_, q2, ?_⟩
      show n.den :: (l.dens ++ r.dens) = _
      rw [q1]; rfl
    split at h
    · rename_i hszo
      obtain ⟨c, h1, h2⟩ := Option.bind_eq_some_iff.1 h
      obtain ⟨e', h3, h4⟩ := Option.map_eq_some_iff.1 h2
      cases h4
      obtain ⟨q1, q2⟩ := cellsE_dens h3
      have hlist : listCV [k] (fun i _ => (c.getD i .any).vI) c.length = .l (c.map Sc.vI) := by
        show CV.l (listF _ _) = _
        congr 1
        unfold listF
        refine List.ext_getElem (by simp) fun i h1 h2 => ?_
        simp at h1
        simp [List.getD_eq_getElem?_getD, List.getElem?_eq_getElem h1]
      refine ⟨.l (c.map Sc.vI), ⟨c.length, _, hlist.symm, ?_⟩, ?_⟩
      · rcases sliceCells_rel hr hs h1 with ⟨rfl, rfl, rfl⟩ | ⟨nn, id, off, len, sz, rfl, hcl, hbig, hx⟩
        · exact ⟨Nat.zero_le _, .inl ⟨rfl, rfl⟩⟩
        · have hsz : sz = 1 := of_decide_eq_true hszo
          subst hsz
          rw [Nat.mul_one] at hcl
          subst hcl
          refine ⟨hbig, ?_⟩
          rcases hx with ⟨_, h0, hx⟩ | ⟨A, cp, vs, rfl, hspot, hle, hlive, hcap, hA, hvl, hlr, hcell⟩ | ⟨h0, A, hx, hspot⟩
          · exact .inl ⟨h0, hx⟩
          rotate_left
          · exact .inr (.inr ⟨h0, A, hx, hspot⟩)
          · have hnd : σ.at id ≠ .dead := by
              intro e
              simp only [sliceCells] at h1
              rw [e] at h1; cases h1
            refine .inr <| .inl ⟨⟨true, (ρ id).block, (ρ id).base + off * 1, cp⟩, A, rfl, hr.bnd id ⟨hlive, hnd⟩, rfl, hspot, hle, hA, fun i hi => ?_⟩
            have hi' : i < c.length := by simpa using hi
            have hv : i < vs.length := by omega
            refine ⟨vs[i], ?_, ?_⟩
            · have := hcell i vs[i] (List.getElem?_eq_getElem hv)
              have hk : 0 < cp := by omega
              rw [hA hk, Addr.add_lit] at this
              exact this
            · have hs := hlr.2 i c[i] vs[i] (List.getElem?_eq_getElem hi') (List.getElem?_eq_getElem hv)
              have hkd := q2 c[i] (List.getElem_mem ..)
              have e1 : i % 1 = 0 := by omega
              have e2 : i / 1 = i := by omega
              simp only [List.length_singleton, e1, e2, List.getD_cons_zero]
              have : (c.getD i .any).vI = c[i].vI := by simp [List.getD_eq_getElem?_getD, List.getElem?_eq_getElem hi']
              rw [this]
              exact Kd.sc_rel.1 (kd_sc hkd hs)
      · show (c.length : Int) :: e'.dens = _
        rw [q1]
        show _ = ((c.map Sc.vI).length : Int) :: (c.map Sc.vI) ++ r.dens
        rw [List.length_map]; rfl
    · cases h
  · rename_i k k' ks
    split at h
    · rename_i e1 g1 n1 f1 g2 h1 h2
      obtain ⟨y, hy, h⟩ := Option.map_eq_some_iff.1 h
      cases h
      rw [mkAnd_den, Bool.and_eq_true] at hg
      have hsrc : srcF σ (k :: k' :: ks) s = some (n1, f1, g2) := by
        cases s <;> first | (cases h1; done) | exact h2
      have h3 := tb_ok (ks := k :: k' :: ks) (Nat.succ_pos _) hs h1 hg.1 hsrc hg.2
      obtain ⟨ml, hl1, hl2, _⟩ := semRows_rel hr hs h2 hg.2
      refine ⟨listCV (k :: k' :: ks) f1 n1.den.toNat, cell_in hr hs (show cellIn σ (.lst (k :: k' :: ks)) s = some (_, g2) by simp only [cellIn, h2, Option.map_some]) hg.2, ?_⟩
      show y.den :: (e1.dens ++ r.dens) = ((rowsL (k :: k' :: ks).length f1 n1.den.toNat).length : Int) :: ((rowsL (k :: k' :: ks).length f1 n1.den.toNat).flatten ++ r.dens)
      rw [rowsL_flat, h3, X.e?_den hy]
      congr 1
      simp only [rowsL, List.length_map, List.length_range]
      omega
    · cases h
  · cases h
theorem terms_in {ρ : Nat → Loc} {σ : St} {w : World} (hr : Rel ρ σ w) : ∀ {ts : List CT} {c : List Sc} {e : E} {g : B} {vs : List Value}, LRel ρ σ.length c vs → termsIn σ ts c = some (e, g) → g.den = true → ∃ cvs, AllV w ts cvs vs ∧ e.dens = encs cvs
  | [], [], e, g, vs, hl, h, _ => by
    cases h
    cases vs with
    | nil => exact ⟨[], True.intro, rfl⟩
    | cons _ _ => exact absurd hl.1 (by simp)
  | [], _ :: _, _, _, _, _, h, _ => by cases h
  | _ :: _, [], _, _, _, _, h, _ => by cases h
  | t :: ts, s :: c, e, g, vs, hl, h, hg => by
    obtain ⟨v, vr, rfl, h1, h2⟩ := hl.inv
    simp only [termsIn] at h
    obtain ⟨⟨e', g'⟩, h3, h4⟩ := Option.bind_eq_some_iff.1 h
    obtain ⟨⟨e2, g2⟩, h5, h6⟩ := Option.map_eq_some_iff.1 h4
    cases h6
    rw [mkAnd_den, Bool.and_eq_true] at hg
    obtain ⟨cvs, q1, q2⟩ := terms_in hr h2 h3 hg.2
    obtain ⟨cv, q3, q4⟩ := term_in hr h1 h5 hg.1
    exact ⟨cv :: cvs, ⟨q3, q1⟩, by rw [q4, q2]; rfl⟩
end
theorem decs_encs {w : World} : ∀ {ts : List CT} {cvs : List CV} {vs : List Value}, ts.all flatB = true → AllV w ts cvs vs → decs ts (encs cvs) = cvs
  | [], [], [], _, _ => rfl
  | [], [], _ :: _, _, h => by cases h
  | [], _ :: _, _, _, h => by cases h
  | _ :: _, [], _, _, h => by cases h
  | _ :: _, _ :: _, [], _, h => by cases h
  | t :: ts, c :: cvs, v :: vs, hf, h => by
    simp only [List.all_cons, Bool.and_eq_true] at hf
    obtain ⟨h1, h2⟩ := h
    have ih := decs_encs hf.2 h2
    cases t with
    | sc k =>
      cases k with
      | int k => obtain ⟨n, rfl, _⟩ := h1; simp only [encs, enc, List.cons_append, List.nil_append, decs, ih]
      | bool => obtain ⟨b, rfl, _⟩ := h1; simp only [encs, enc, List.cons_append, List.nil_append, decs, ih, iB_bI]
    | str => obtain ⟨l, rfl, _⟩ := h1; simp [encs, enc, decs, ih]
    | lst ks =>
      obtain ⟨n, f, rfl, _⟩ := h1
      match ks, hf.1 with
      | [k], _ => simp [encs, enc, decs, ih, listCV]
      | k :: k' :: ks, _ =>
        show decs (.lst (k :: k' :: ks) :: ts) (((rowsL (k :: k' :: ks).length f n).length : Int) :: ((rowsL (k :: k' :: ks).length f n).flatten ++ encs cvs)) = _
        generalize hw : (k :: k' :: ks).length = w
        have hw0 : 0 < w := by rw [← hw]; exact Nat.succ_pos _
        have hl : (rowsL w f n).length = n := by simp [rowsL]
        show CV.r ((List.range (((rowsL w f n).length : Int)).toNat).map fun r => (((rowsL w f n).flatten ++ encs cvs).drop (r * (k :: k' :: ks).length)).take (k :: k' :: ks).length) :: decs ts (((rowsL w f n).flatten ++ encs cvs).drop ((((rowsL w f n).length : Int)).toNat * (k :: k' :: ks).length)) = CV.r (rowsL (k :: k' :: ks).length f n) :: cvs
        rw [hw, hl, Int.toNat_natCast, rowsL_flat]
        have hfl : (flatF w f n).length = n * w := by simp [flatF]
        congr 1
        · congr 1
          show _ = (List.range n).map fun r => (List.range w).map (f r)
          refine List.map_congr_left fun r hr => ?_
          have hr : r < n := List.mem_range.1 hr
          have h1 := Nat.mul_le_mul_right w (show r + 1 ≤ n from hr)
          rw [Nat.add_mul, Nat.one_mul] at h1
          refine List.ext_getElem (by simp [hfl]; omega) fun i h2 h3 => ?_
          have hi : i < w := by simpa using h3
          rw [List.getElem_take, List.getElem_drop, List.getElem_append_left (by rw [hfl]; omega)]
          simp only [flatF, List.getElem_map, List.getElem_range]
          rw [Nat.mul_comm r w, Nat.mul_add_div hw0, Nat.mul_add_mod, Nat.div_eq_of_lt hi, Nat.mod_eq_of_lt hi, Nat.add_zero]
        · rw [List.drop_left' hfl, ih]
theorem Res_ok {P : Program} {s : Sig} {cvs : List CV} (h : HasRes P s cvs) (hd : decs (flatT s.pts) (encs cvs) = cvs) : inBs (flatT s.rts) (rsv s.hb ((encs cvs).headD 0) s.bs 0) (Res P s (encs cvs)) ∧ Post s (encs cvs) (Res P s (encs cvs)) ∧ ∀ g ∈ s.gs, PureSem P g s.pts s.rts cvs (mkCVs (flatT s.rts) (Res P s (encs cvs))) := by
  unfold Res
  rw [hd, dif_pos h]
  exact Classical.choose_spec h
section
variable [Env]
theorem outRps_cvs {hb : Nat} {f : Nat} {e : E} (hfb : f + 100000 < HB) : ∀ {ts : List CT} {bs : List (Int × Int)} {ns : List Int} {i : Nat}, i + ns.length < 100000 → inBs ts (rsv hb (e.dens.headD 0) bs i) ns → (∀ j, j < ns.length → Env.app (f + (i + j)) e.dens = ns.getD j 0) → rpCVs ts (outRps hb f e ts bs i) = mkCVs ts ns ∧ rpsOk ts (outRps hb f e ts bs i) = true ∧ ts.all scT = true
  | [], bs, ns, i, _, h, _ => by
    cases bs <;> cases ns <;> first | exact ⟨rfl, rfl, rfl⟩ | cases h
  | t :: ts, bs, ns, i, hlt, h, ha => by
    cases bs with
    | nil => cases t <;> first | (cases h; done) | (rename_i k; cases k <;> cases h)
    | cons b bs =>
      cases ns with
      | nil => cases t <;> first | (cases h; done) | (rename_i k; cases k <;> cases h)
      | cons n ns =>
        cases t <;> first | (cases h; done) | skip
        rename_i k
        simp only [List.length_cons] at hlt
        have hn : Env.app (f + i) e.D.2 = n := by have h0 := ha 0 (by simp); rw [Nat.add_zero] at h0; exact h0
        have hr : ∀ j, j < ns.length → Env.app (f + (i + 1 + j)) e.dens = ns.getD j 0 := fun j hj => by
          have := ha (j + 1) (by simp; omega)
          rw [show i + 1 + j = i + (j + 1) by omega, this]; simp
        have m1 : (f + i) % HB = f + i := Nat.mod_eq_of_lt (by omega)
        have m2 : (f + i + HB) % HB = f + i := by rw [Nat.add_mod_right, m1]
        cases k with
        | int k =>
          obtain ⟨h1, h2⟩ := h
          obtain ⟨q1, q2, q3⟩ := outRps_cvs hfb (i := i + 1) (by omega) h2 hr
          refine ⟨?_, ?_, by simp [scT, q3]⟩
          · show CV.n (E.den (.ap (if hb.testBit i then f + i + HB else f + i) e b.1 b.2)) :: _ = CV.n n :: _
            rw [q1]
            refine congrArg (fun x => CV.n x :: mkCVs ts ns) ?_
            cases hbit : hb.testBit i with
            | false =>
              simp only [hbit, Bool.false_eq_true, if_false] at h1 ⊢
              show clampI b.1 (hiA (f + i) b.2 e.D.2) (Env.app ((f + i) % HB) e.D.2) = n
              rw [m1, hn]
              unfold hiA
              rw [if_neg (by omega), clamp_eq h1]
            | true =>
              simp only [hbit, if_true] at h1 ⊢
              show clampI b.1 (hiA (f + i + HB) b.2 e.D.2) (Env.app ((f + i + HB) % HB) e.D.2) = n
              rw [m2, hn]
              unfold hiA
              rw [if_pos (by omega)]
              exact clamp_eq h1
          · simp only [outRps, rpsOk, Rp.ok, q2, Bool.and_self]
        | bool =>
          obtain ⟨⟨_, h1⟩, h2⟩ := h
          obtain ⟨q1, q2, q3⟩ := outRps_cvs hfb (i := i + 1) (by omega) h2 hr
          refine ⟨?_, ?_, by simp [scT, q3]⟩
          · show CV.b (clampI 0 (hiA (f + i) 1 e.D.2) (Env.app ((f + i) % HB) e.D.2) == (1 : Int)) :: _ = CV.b (iB n) :: _
            rw [m1, hn, q1]
            unfold hiA
            rw [if_neg (by omega), clamp_eq (by omega)]; rfl
          · simp only [outRps, rpsOk, Rp.ok, q2, Bool.and_self]
theorem aCon_sound {P : Program} {j : Nat} {s : Sig} {g : FuncId} {pre : E → Bool} {pg : E → B} (hg : g ∈ s.gs) (hfn : ∃ fn, P.funcs[g]? = some fn ∧ fn.body.isSome = true) (hfl : (flatT s.pts).all flatB = true) (hlen : s.bs.length ≤ 64) (hj : j < 1000000 := by decide)
    (happ : ∀ i l, i < 64 → Env.app (64 * j + i) l = (Res P s l).getD i 0)
    (hpre : ∀ e cvs, pre e = true → (pg e).den = true → (∃ w vs, AllV w (flatT s.pts) cvs vs) → e.dens = encs cvs → HasRes P s cvs) : ∀ args σ v σ', (aCon j s pre pg args σ).run = some (v, σ') → Den P g args σ v σ' := by
  intro args σ v σ' hrun
  unfold aCon at hrun
  split at hrun
  · rename_i e gg hin
    obtain ⟨c, hc1, hc2⟩ := Option.bind_eq_some_iff.1 hin
    obtain ⟨hgg, hrun⟩ := guard_some hrun
    obtain ⟨hpg, hrun⟩ := guard_some hrun
    cases hp : pre e with
    | false => rw [hp] at hrun; cases hrun
    | true =>
      rw [hp] at hrun
      cases hrun
      refine ⟨hfn, fun ρ w vals hrel _ hv => ?_⟩
      have hv2 : ∀ (i : Nat) x y, args[i]? = some x → vals.toList[i]? = some y → ARel ρ σ.length x y := fun i x y a b => hv.2 i x y a (by simpa using b)
      have hl : args.length = vals.toList.length := by simpa using hv.1
      have hvo := valsOk_of s.pts args vals.toList c hl hv2 hc1
      have hlr := flat_rel s.pts args vals.toList c hl hv2 hc1
      obtain ⟨cvs, hall, he⟩ := terms_in hrel hlr hc2 hgg
      obtain ⟨k1, _, k2⟩ := Res_ok (hpre e cvs hp hpg ⟨w, _, hall⟩ he) (decs_encs hfl hall)
      have hrl : ∀ {bs : List (Int × Int)} {hd : Int} {i : Nat}, (rsv s.hb hd bs i).length = bs.length := by
        intro bs hd
        induction bs with
        | nil => intro i; rfl
        | cons b bs ih => intro i; simp [rsv, ih]
      have hnl : ∀ {ts : List CT} {bs : List (Int × Int)} {ns : List Int}, inBs ts bs ns → ns.length = bs.length := by
        intro ts
        induction ts with
        | nil => intro bs ns h; cases bs <;> cases ns <;> first | rfl | cases h
        | cons t ts ih =>
          intro bs ns h
          cases bs <;> cases ns <;> cases t <;> first | (cases h; done) | (rename_i k; cases k <;> first | (cases h; done) | (simp only [List.length_cons]; rw [ih h.2]))
      have k1' : inBs (flatT s.rts) (rsv s.hb (e.dens.headD 0) s.bs 0) (Res P s (encs cvs)) := by rw [he]; exact k1
      obtain ⟨o1, o2, o3⟩ := outRps_cvs (hb := s.hb) (f := 64 * j) (e := e) (by unfold HB; omega) (i := 0) (by rw [hnl k1, hrl]; omega) k1' fun i hi => by
        rw [Nat.zero_add, he]
        exact happ i _ (by rw [hnl k1, hrl] at hi; omega)
      refine (k2 g hg w vals hvo hall).mono fun e' w' he' => ?_
      obtain ⟨val, rfl, ⟨r1, r2, r3⟩, hcalm⟩ := he'
      obtain ⟨k3, k4⟩ := hrel.calm hcalm
      rw [← o1] at r3
      obtain ⟨k5, k6⟩ := resAV_rel r1 r2 (rp_out (ρ := ρ) (n := σ.length) _ _ _ 0 o3 o2 r3)
      exact ⟨val, ρ, by unfold EndIs; rw [k6]; rfl, k5, k3, k4⟩
  · cases hrun
end
theorem envOf_app {P : Program} {sig : Nat → Option Sig} {xs : List Int} {ls : List (List Int)} {j : Nat} {s : Sig} (h : sig j = some s) (i : Nat) (l : List Int) (hi : i < 64) : (envOf P sig xs ls).app (64 * j + i) l = (Res P s l).getD i 0 := by
  show (match sig ((64 * j + i) / 64) with | some s => (Res P s l).getD ((64 * j + i) % 64) 0 | none => 0) = _
  rw [show (64 * j + i) / 64 = j by omega, show (64 * j + i) % 64 = i by omega, h]
end Go.SX
