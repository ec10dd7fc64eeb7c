/- Contracts whose result is one unknown list: an uninterpreted function of the arguments' terms. -/
import Derived.Test.YtfacghikjnjjmaaSxH
namespace Go.SX
open Go Go.Lib
set_option linter.unusedSectionVars false

structure LSig where
  g : FuncId
  pts : List PT
  k : IntKind
  n : Nat
  shape : List Int → Prop
  /-- so many there are at least -/
  m : Nat := 0
@[reducible] def noEnv : Env := ⟨fun _ => 0, fun _ _ => 0, fun _ _ => []⟩
def HasL (P : Program) (s : LSig) (cvs : List CV) : Prop :=
  ∃ xs, (s.m ≤ xs.length ∧ xs.length ≤ s.n) ∧ (∀ x ∈ xs, s.k.has x) ∧ s.shape xs ∧ @PureSemL noEnv P s.g s.pts [.inl (.lst [.int s.k])] cvs [.f (.l xs)]
noncomputable def ResL (P : Program) (s : LSig) (l : List Int) : List Int :=
  open Classical in if h : HasL P s (decs (flatT s.pts) l) then Classical.choose h else []
theorem ResL_ok {P : Program} {s : LSig} {cvs : List CV} (h : HasL P s cvs) (hd : decs (flatT s.pts) (encs cvs) = cvs) : (s.m ≤ (ResL P s (encs cvs)).length ∧ (ResL P s (encs cvs)).length ≤ s.n) ∧ (∀ x ∈ ResL P s (encs cvs), s.k.has x) ∧ s.shape (ResL P s (encs cvs)) ∧
    @PureSemL noEnv P s.g s.pts [.inl (.lst [.int s.k])] cvs [.f (.l (ResL P s (encs cvs)))] := by
  unfold ResL
  rw [hd, dif_pos h]
  exact Classical.choose_spec h
/-- names as listed, functions as the program's, lists too -/
@[reducible] noncomputable def envL (P : Program) (sig : Nat → Option Sig) (lsig : Nat → Option LSig) (xs : List Int) (ls : List (List Int)) : Env where
  val i := xs.getD i 0
  lst i l := match lsig i with
    | some s => (ResL P s l).drop s.m
    | none => ls.getD i []
  app f l := match sig (f / 64) with
    | some s => (Res P s l).getD (f % 64) 0
    | none => match lsig (f / 64) with
      | some s => (ResL P s l).getD (f % 64) 0
      | none => 0
theorem envL_app {P : Program} {sig : Nat → Option Sig} {lsig : Nat → Option LSig} {xs : List Int} {ls : List (List Int)} {j : Nat} {s : Sig} (h : sig j = some s) (i : Nat) (l : List Int) (hi : i < 64) : (envL P sig lsig xs ls).app (64 * j + i) l = (Res P s l).getD i 0 := by
  show (match sig ((64 * j + i) / 64) with | some s => (Res P s l).getD ((64 * j + i) % 64) 0 | none => match lsig ((64 * j + i) / 64) with | some s => (ResL P s l).getD ((64 * j + i) % 64) 0 | none => 0) = _
  rw [show (64 * j + i) / 64 = j by omega, show (64 * j + i) % 64 = i by omega, h]
theorem envL_appL {P : Program} {sig : Nat → Option Sig} {lsig : Nat → Option LSig} {xs : List Int} {ls : List (List Int)} {j : Nat} {s : LSig} (h0 : sig j = none) (h : lsig j = some s) (i : Nat) (l : List Int) (hi : i < 64) : (envL P sig lsig xs ls).app (64 * j + i) l = (ResL P s l).getD i 0 := by
  show (match sig ((64 * j + i) / 64) with | some s => (Res P s l).getD ((64 * j + i) % 64) 0 | none => match lsig ((64 * j + i) / 64) with | some s => (ResL P s l).getD ((64 * j + i) % 64) 0 | none => 0) = _
  rw [show (64 * j + i) / 64 = j by omega, show (64 * j + i) % 64 = i by omega, h0, h]
theorem envL_lst {P : Program} {sig : Nat → Option Sig} {lsig : Nat → Option LSig} {xs : List Int} {ls : List (List Int)} {j : Nat} {s : LSig} (h : lsig j = some s) (l : List Int) : (envL P sig lsig xs ls).lst j l = (ResL P s l).drop s.m := by
  show (match lsig j with | some s => (ResL P s l).drop s.m | none => ls.getD j []) = _
  rw [h]

theorem pureL_env (e1 e2 : Env) {P : Program} {g : FuncId} {pts : List PT} {k : IntKind} {cvs : List CV} {xs : List Int} (h : @PureSemL e1 P g pts [.inl (.lst [.int k])] cvs [.f (.l xs)]) : @PureSemL e2 P g pts [.inl (.lst [.int k])] cvs [.f (.l xs)] := by
  intro w vals hv ha
  refine (h w vals hv ha).mono fun e w' he => ?_
  obtain ⟨val, rfl, hcalm, r1, r2, Ls, l1, l2, l3, l4⟩ := he
  refine ⟨val, rfl, hcalm, r1, r2, Ls, l1, fun j ρ m hm hρ => ?_, fun i L o a b => ?_, l4⟩
  · have := l2 j ρ m hm hρ
    exact ⟨this.1, fun i s v a b => by
      cases i with
      | succ i => exact absurd (show (none : Option Sc) = some s from a) (by simp)
      | zero =>
        cases a
        exact this.2 0 _ v rfl b⟩
  · obtain ⟨q1, q2, q3⟩ := l3 i L o a b
    refine ⟨fun ρ m => ?_, q2, q3⟩
    cases i with
    | succ i => exact absurd (show (none : Option AO) = some o from b) (by simp)
    | zero =>
      cases b
      obtain ⟨o1, o2⟩ := q1 ρ m
      refine ⟨o1, fun hl => ⟨fun i s hs => ?_, (o2 hl).2⟩⟩
      obtain ⟨v, v1, v2⟩ := (o2 hl).1 i s hs
      refine ⟨v, v1, ?_⟩
      simp only [Cells.at] at hs
      split at hs
      · cases hs
        exact (@Kd.sc_rel e2 _ _ _ _ _).2 ((@Kd.sc_rel e1 _ _ _ _ _).1 v2)
      · cases hs
section
variable [Env]
def preE (f : Nat) (e : E) (lo hi : Int) (r : E) : Nat → Nat → E
  | 0, _ => r
  | m + 1, i => .cn (.ap (f + i) e lo hi) (preE f e lo hi r m (i + 1))
abbrev lsE (j : Nat) (s : LSig) (e : E) : E := preE (64 * j) e s.k.min s.k.max (.ls j e s.k.min s.k.max (s.n - s.m)) s.m 0
theorem preE_dens {f : Nat} {e r : E} {lo hi : Int} : ∀ {m i : Nat} {xs : List Int}, f + i + m < HB → (∀ k, k < m → clampI lo hi (Env.app (f + i + k) e.dens) = xs.getD k 0) → m ≤ xs.length → r.dens = xs.drop m → (preE f e lo hi r m i).dens = xs
  | 0, i, xs, _, _, _, h => h
  | m + 1, i, xs, hm, ha, hl, h => by
    cases xs with
    | nil => simp at hl
    | cons x xs =>
      have h0 := ha 0 (by omega)
      rw [Nat.add_zero] at h0
      show clampI lo (hiA (f + i) hi e.D.2) (Env.app ((f + i) % HB) e.D.2) :: (preE f e lo hi r m (i + 1)).dens = _
      rw [Nat.mod_eq_of_lt (by omega), preE_dens (xs := xs) (by omega) (fun k hk => by
        have := ha (k + 1) (by omega)
        rw [show f + (i + 1) + k = f + i + (k + 1) by omega, this]; rfl) (by simpa using hl) (by simpa using h)]
      unfold hiA
      rw [if_neg (by omega)]
      exact congrArg (fun y => y :: xs) h0
def xCon (j : Nat) (s : LSig) : Con := fun args σ =>
  match (flatA s.pts args).bind (termsIn σ (flatT s.pts)) with
  | some (e, g) => .guard g (.ok (.one (.sl false σ.length (.c 0) (.ex (.ln (lsE j s e))) 1), σ ++ [.row true 1 (.ex (.int s.k) (lsE j s e))]))
  | none => .fail "contract"
theorem like_ex {own : Bool} {k : Kd} {e : E} {xs : List Int} (h : e.dens = xs) : Like (.row own 1 (.fn xs.length [k] (CV.l xs).fn)) (.row own 1 (.ex k e)) := by
  subst h
  refine ⟨fun ρ m w l h => ?_, id, (fun _ e => (by cases e)), fun w l b h => by rw [foot_row (fun _ _ e => by cases e)] at h ⊢; exact h⟩
  have hlen : (Cells.fn e.dens.length [k] (CV.l e.dens).fn).len = (Cells.ex k e).len := by show e.dens.length * 1 = e.dens.length; omega
  refine ⟨fun hl => by rw [← hlen]; exact h.1 hl, fun hl => ⟨fun i s hi => (h.2 hl).1 i s ?_, fun ho => by rw [← hlen]; exact (h.2 hl).2 ho⟩⟩
  simp only [Cells.at] at hi ⊢
  split at hi
  · rename_i hlt
    cases hi
    have e1 : i % 1 = 0 := by omega
    have e2 : i / 1 = i := by omega
    have hlt : i < e.dens.length := hlt
    simp only [List.length_singleton, e1, e2, List.getD_cons_zero]
    rw [if_pos ⟨by omega, hlt⟩]
    rfl
  · cases hi
theorem lsE_dens {j : Nat} {s : LSig} {e : E} {xs : List Int} (hj : 64 * j + s.m < HB) (h : Env.lst j e.dens = xs.drop s.m) (ha : ∀ i, i < s.m → Env.app (64 * j + i) e.dens = xs.getD i 0) (hl : s.m ≤ xs.length ∧ xs.length ≤ s.n) (hx : ∀ x ∈ xs, s.k.has x) : (lsE j s e).dens = xs := by
  refine preE_dens (by omega) (fun k hk => ?_) hl.1 ?_
  · rw [Nat.add_zero, ha k hk]
    refine clamp_eq (hx _ ?_)
    rw [List.getD_eq_getElem?_getD, List.getElem?_eq_getElem (by omega)]
    exact List.getElem_mem ..
  · show ((Env.lst j e.D.2).take (s.n - s.m)).map (clampI s.k.min s.k.max) = xs.drop s.m
    have h : Env.lst j e.D.2 = xs.drop s.m := h
    rw [h, List.take_of_length_le (by rw [List.length_drop]; omega)]
    exact (List.map_congr_left fun x hm => clamp_eq (hx x (List.mem_of_mem_drop hm))).trans (List.map_id _)
theorem xCon_sound {P : Program} {j : Nat} {s : LSig} (hf : ∃ fn, P.funcs[s.g]? = some fn ∧ fn.body.isSome = true) (hfl : (flatT s.pts).all flatB = true)
    (hj : 64 * j + s.m < HB) (hlst : ∀ l, Env.lst j l = (ResL P s l).drop s.m) (happ : ∀ i l, i < s.m → Env.app (64 * j + i) l = (ResL P s l).getD i 0) (h : ∀ cvs, (∃ w vs, AllV w (flatT s.pts) cvs vs) → HasL P s cvs) : ∀ args σ v σ', (xCon j s args σ).run = some (v, σ') → Den P s.g args σ v σ' := by
  intro args σ v σ' hrun
  unfold xCon at hrun
  split at hrun
  · rename_i e gg hin
    obtain ⟨c, hc1, hc2⟩ := Option.bind_eq_some_iff.1 hin
    obtain ⟨hgg, hrun⟩ := guard_some hrun
    cases hrun
    refine ⟨hf, fun ρ w vals hrel _ hv => ?_⟩
    have hv2 : ∀ (i : Nat) x y, args[i]? = some x → vals.toList[i]? = some y → ARel ρ σ.length x y := fun i x y a b => hv.2 i x y a (by simpa using b)
    have hlen : args.length = vals.toList.length := by simpa using hv.1
    have hvo := valsOk_of s.pts args vals.toList c hlen hv2 hc1
    have hlr := flat_rel s.pts args vals.toList c hlen hv2 hc1
    obtain ⟨cvs, hall, he⟩ := terms_in hrel hlr hc2 hgg
    obtain ⟨q1, q2, _, q4⟩ := ResL_ok (h cvs ⟨w, _, hall⟩) (decs_encs hfl hall)
    have hd : (lsE j s e).dens = ResL P s (encs cvs) := lsE_dens hj (by rw [he]; exact hlst _) (fun i hi => by rw [he]; exact happ i _ hi) q1 q2
    generalize ResL P s (encs cvs) = xs at *
    refine (pureL_env _ inferInstance q4 w vals hvo hall).mono fun e' w' he' => ?_
    obtain ⟨val, rfl, hcalm, r1, r2, Ls, l1, l2, l3, l4⟩ := he'
    have ho : ∀ (i : Nat) L o, Ls[i]? = some L → ([AO.row true 1 (.fn xs.length [.int s.k] (CV.l xs).fn)] : St)[i]? = some o → (∀ ρ m, ORel ρ m w' L o) ∧ (∀ M pg, o ≠ .pmem M pg) ∧ (L.live = true → w.heap.size ≤ L.block ∧ L.block < w'.heap.size) := by
      intro i L o a b
      cases i with
      | zero => cases b; exact l3 0 L (objOf false [.int s.k] (.l xs)) a rfl
      | succ i => simp at b
    obtain ⟨k1, k2⟩ := hrel.addNew (τ := [AO.row true 1 (.fn xs.length [.int s.k] (CV.l xs).fn)]) hcalm l1 ho l4
    have hlr2 := l2 σ.length (fun i => if i < σ.length then ρ i else Ls.getD (i - σ.length) noLoc) (σ.length + 1) (by rw [l1]; exact Nat.le_refl _) fun i _ => by
      rw [if_neg (by omega), Nat.add_sub_cancel_left]
    obtain ⟨k3, k4⟩ := resAV_rel r1 r2 hlr2
    have like : ∀ i, Like ((σ ++ [AO.row true 1 (.fn xs.length [.int s.k] (CV.l xs).fn)]).at i) ((σ ++ [AO.row true 1 (.ex (.int s.k) (lsE j s e))]).at i) := by
      intro i
      rw [at_append, at_append]
      split
      · exact .refl _
      · cases hi : i - σ.length with
        | zero => exact like_ex hd
        | succ m => exact .refl _
    have hval : ARel (fun i => if i < σ.length then ρ i else Ls.getD (i - σ.length) noLoc) (σ.length + 1) (.one (.sl false σ.length (.c 0) (.ex (.ln (lsE j s e))) 1)) val := by
      have k3 : SRel _ (σ.length + 1) (.sl false σ.length (.c 0) (.sem (xs.length : Int)) 1) val := k3
      obtain ⟨o, m, h1, h2, h3⟩ := k3
      refine ⟨o, m, h1, ?_, h3⟩
      show (((lsE j s e).dens.length : Nat) : Int) = m
      rw [hd]; exact h2
    exact ⟨val, _, rfl, by rw [List.length_append]; exact hval, k1.like (by simp) like, k2.like (by simp) like⟩
  · cases hrun

/-! Shown by a run. -/
def inK (k : IntKind) : Sc → Bool
  | .int k' (.c n) => decide (k = k') && fitB k n
  | .int k' (.ex e) => decide (k = k') && fitR k e.R.1
  | _ => false
def leafL (k : IntKind) (ok : List Sc → Bool) (_ : List Fk) (x : AV × St) : Bool :=
  match x.1 with
  | .one (.sl _ id (.c o) (.c n) sz) => o == 0 && (sz == 1 && match x.2.at id with
    | .row true z (.vals l) => z == 1 && (n == (l.length : Int) && (l.all (inK k) && ok l))
    | _ => false)
  | _ => false
theorem inK_ok {k : IntKind} {s : Sc} (h : inK k s = true) : kdIs (.int k) s = true ∧ k.has s.vI := by
  unfold inK at h
  split at h
  · rw [Bool.and_eq_true, decide_eq_true_eq] at h
    obtain ⟨rfl, h⟩ := h
    simp only [fitB, Bool.and_eq_true, decide_eq_true_eq] at h
    exact ⟨by simp [kdIs, Sc.kd?, Kd.beq], h⟩
  · rw [Bool.and_eq_true, decide_eq_true_eq] at h
    obtain ⟨rfl, h⟩ := h
    exact ⟨by simp [kdIs, Sc.kd?, Kd.beq], fitR_has h (E.rng _)⟩
  · cases h
theorem kdRows_all {k : Kd} {l : List Sc} (h : ∀ s ∈ l, kdIs k s = true) : ∀ (n i : Nat), kdRows [k] l n i = true
  | 0, _ => rfl
  | n + 1, i => by
    simp only [kdRows, List.length_singleton, kdRows_all h n, Bool.and_true]
    cases hd : l.drop i with
    | nil => rfl
    | cons s r =>
      have : s ∈ l := List.mem_of_mem_drop (by rw [hd]; exact List.mem_cons_self ..)
      simp [kdsAre, h s this]
theorem list_cells (l : List Sc) : listF (fun r c => rowsF 1 l r c) l.length = l.map Sc.vI := by
  unfold listF
  refine List.ext_getElem (by simp) fun i h1 h2 => ?_
  simp at h1
  simp [rowsF, List.getD_eq_getElem?_getD, List.getElem?_eq_getElem h1]
theorem hasL_of_good {P : Program} {call : FuncId → List AV → St → Out (AV × St)} (hc : CallSound P call) {s : LSig} (rps : List Rp) {cvs : List CV} {fs : List Fk} (hf : Holds fs) (hok : rpsOk (flatT s.pts) rps = true) (hcv : rpCVs (flatT s.pts) rps = cvs)
    {ok : List Sc → Bool} (hsh : ∀ l, ok l = true → (s.m ≤ l.length ∧ l.length ≤ s.n) ∧ s.shape (l.map Sc.vI))
    (h : (call s.g (splitA s.pts (rpCells (flatT s.pts) rps 0)) (rpObjs (flatT s.pts) rps)).good (leafL s.k ok) fs = true) : HasL P s cvs := by
  obtain ⟨⟨v, σ'⟩, h1, nn, id, l, hv, hat, hall, hk⟩ := good_ok (Q := fun x : AV × St => ∃ nn id l, x.1 = .one (.sl nn id (.c 0) (.c ((l.length : Nat) : Int)) 1) ∧ x.2.at id = .row true 1 (.vals l) ∧ l.all (inK s.k) = true ∧ ok l = true) (fun fs a hf hl => by
    unfold leafL at hl
    split at hl
    · rename_i nn id o n sz e
      rw [Bool.and_eq_true, Bool.and_eq_true] at hl
      obtain ⟨h1, h2, hl⟩ := hl
      split at hl
      · rename_i z l hat
        simp only [Bool.and_eq_true] at hl
        obtain ⟨h3, h4, h5, h6⟩ := hl
        refine ⟨nn, id, l, ?_, ?_, h5, h6⟩
        · rw [e, eq_of_beq h1, eq_of_beq h2, eq_of_beq h4]
        · rw [hat, eq_of_beq h3]
      · cases hl
    · cases hl) _ _ h hf
  simp only at hv hat
  subst hv
  have hin : ∀ s' ∈ l, kdIs (.int s.k) s' = true ∧ s.k.has s'.vI := fun s' hs => inK_ok (List.all_eq_true.1 hall s' hs)
  obtain ⟨g1, g2⟩ := hsh l hk
  refine ⟨l.map Sc.vI, by rw [List.length_map]; exact g1, fun x hx => ?_, g2, pureL_env _ noEnv (pureL_of_eval hc rps (out := [.f (.l (l.map Sc.vI))]) hok hcv (val_of_run h1 ?_) rfl)⟩
  · obtain ⟨c, hc', rfl⟩ := List.mem_map.1 hx
    exact (hin c hc').2
  · have hkr : kdRows [Kd.int s.k] l (l.length / 1) 0 = true := kdRows_all (fun c hc' => (hin c hc').1) _ _
    have hsem : semRows σ' [.int s.k] (.sl nn id (.c 0) (.c ((l.length : Nat) : Int)) 1) = some (.c ((l.length : Nat) : Int), (fun r c => rowsF 1 l ((X.den (.c 0)).toNat + r) c), B.le ((X.c 0).plus (.c ((l.length : Nat) : Int))) (.c ((l.length / 1 : Nat) : Int))) := by
      simp only [semRows, List.length_singleton, if_true, hat, hkr]
    have hg : (B.le ((X.c 0).plus (.c ((l.length : Nat) : Int))) (.c ((l.length / 1 : Nat) : Int))).den = true := by
      rw [le_den, plus_den, Nat.div_one]
      show (0 : Int) + (l.length : Int) ≤ (l.length : Int)
      omega
    have hres : cellRes σ' (.lst [.int s.k]) (.sl nn id (.c 0) (.c ((l.length : Nat) : Int)) 1) = some (.l (l.map Sc.vI)) := by
      simp only [cellRes, hat, List.length_singleton]
      rw [if_pos (by simp), hsem]
      simp only [Option.bind_some]
      rw [hg]
      simp only [cond_true]
      congr 1
      show CV.l (listF _ _) = _
      congr 1
      rw [← list_cells]
      show listF (fun r c => rowsF 1 l ((X.den (.c 0)).toNat + r) c) ((l.length : Int).toNat) = _
      rw [Int.toNat_natCast]
      congr 1
      funext r c
      show rowsF 1 l (0 + r) c = _
      rw [Nat.zero_add]
    show (match resFlat [.inl (.lst [.int s.k])] (.one (.sl nn id (.c 0) (.c ((l.length : Nat) : Int)) 1)) with
      | some c => if nodupB (lstIds (flatT [.inl (.lst [.int s.k])]) c) = true then cellsRes σ' (flatT [.inl (.lst [.int s.k])]) c else none
      | none => none) = _
    show (if nodupB [id] = true then (cellRes σ' (.lst [.int s.k]) (.sl nn id (.c 0) (.c ((l.length : Nat) : Int)) 1)).bind (fun v => some [v]) else none) = _
    rw [hres]
    have : nodupB [id] = true := rfl
    rw [if_pos this]; rfl
/-! The last of a list. -/
def endE : E → Option E
  | .cn a .nl => some a
  | .cn _ b => endE b
  | _ => none
def endIn (lo hi : Int) (e : E) : Bool :=
  match endE e with
  | some a => decide (lo ≤ a.R.1.1) && decide (a.R.1.2 ≤ hi)
  | none => false
theorem endE_dens : ∀ {e a : E}, endE e = some a → ∃ l, e.dens = l ++ [a.den]
  | .cn x b, a, h => by
    cases hb : b with
    | nl => subst hb; cases h; exact ⟨[], rfl⟩
    | cn y c =>
      subst hb
      obtain ⟨l, hl⟩ := endE_dens (e := .cn y c) (a := a) h
      exact ⟨x.den :: l, by show x.den :: E.dens (.cn y c) = _; rw [hl]; rfl⟩
    | _ => subst hb; cases h
  | .num _, _, h => by cases h
  | .nm _ _ _, _, h => by cases h
  | .ap _ _ _ _, _, h => by cases h
  | .nl, _, h => by cases h
  | .op _ _ _ _, _, h => by cases h
  | .wr _ _, _, h => by cases h
  | .pl _ _, _, h => by cases h
  | .mi _ _, _, h => by cases h
  | .sel _ _, _, h => by cases h
  | .ls _ _ _ _ _, _, h => by cases h
  | .ln _, _, h => by cases h
  | .sb _ _ _, _, h => by cases h
  | .st _ _ _ _ _, _, h => by cases h
  | .dq _ _, _, h => by cases h
  | .cc _ _, _, h => by cases h
theorem endIn_ok {lo hi n : Int} {e : E} {l : List Int} (h : endIn lo hi e = true) (hd : e.dens = l ++ [n]) : lo ≤ n ∧ n ≤ hi := by
  unfold endIn at h
  split at h
  · rename_i a ha
    obtain ⟨l', hl⟩ := endE_dens ha
    rw [hd] at hl
    have : n = a.den := by
      have := congrArg List.getLast? hl
      simpa using this
    subst this
    simp only [Bool.and_eq_true, decide_eq_true_eq] at h
    have := a.rng
    omega
  · cases h
end
end Go.SX
