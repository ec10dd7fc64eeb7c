/- Loops by templates, as contracts: what is behind the loop is uninterpreted functions of the template's values ahead of it. -/
import Derived.Test.YtfacghikjnjjmaaSxX
namespace Go.SX
open Go Go.Lib
set_option linter.unusedSectionVars false
/-! A template's values as one list of numbers. -/
def encX : List TV → List (Int × List Int) → List Int
  | v :: vs, x :: xs => if v.isL then (x.2.length : Int) :: (x.2 ++ encX vs xs) else x.1 :: encX vs xs
  | _, _ => []
def decX : List TV → List Int → List (Int × List Int)
  | [], _ => []
  | v :: vs, n :: l => if v.isL then (0, l.take n.toNat) :: decX vs (l.drop n.toNat) else (n, []) :: decX vs l
  | _ :: _, [] => []
theorem decX_encX : ∀ {vs : List TV} {xs : List (Int × List Int)}, hasAll vs xs → decX vs (encX vs xs) = xs
  | [], [], _ => rfl
  | [], _ :: _, h => h.elim
  | _ :: _, [], h => h.elim
  | v :: vs, x :: xs, h => by
    have ih := decX_encX h.2
    have hv := h.1
    unfold TV.has at hv
    simp only [encX]
    by_cases hl : v.isL = true
    · rw [if_pos hl] at hv ⊢
      simp only [decX, if_pos hl, Int.toNat_natCast, List.take_left', List.drop_left', ih]
      obtain ⟨x1, x2⟩ := x
      have : x1 = 0 := hv.1
      subst this
      rfl
    · rw [if_neg hl] at hv ⊢
      simp only [decX, if_neg hl, ih]
      obtain ⟨x1, x2⟩ := x
      have : x2 = [] := hv.2
      subst this
      rfl
def encTV : List TV → List E → E
  | v :: vs, e :: l => if v.isL then .cn (.ln e) (ccE e (encTV vs l)) else .cn (normE e) (encTV vs l)
  | _, _ => .nl
theorem titer_det {base : Env} {s : TSig} : ∀ {n m : Nat} {xs : List (Int × List Int)} {p q}, titer base s n xs = some p → titer base s m xs = some q → p = q
  | 0, _, _, _, _, h, _ => by cases h
  | _ + 1, 0, _, _, _, _, h => by cases h
  | n + 1, m + 1, xs, p, q, h, k => by
    simp only [titer] at h k
    cases hs : tstep base s xs with
    | inl next => rw [hs] at h k; exact titer_det h k
    | inr x => rw [hs] at h k; cases h; cases k; rfl
open Classical in
/-- how a loop ends -/
noncomputable def TmR (base : Env) (s : TSig) (l : List Int) : Nat × List (Int × List Int) :=
  if h : ∃ r : Nat × List (Int × List Int), ∃ n xl, titer base s n (decX s.vars l) = some (xl, r) then Classical.choose h else (0, [])
theorem TmR_eq {base : Env} {s : TSig} {l : List Int} {n : Nat} {xl : List (Int × List Int)} {r : Nat × List (Int × List Int)} (h : titer base s n (decX s.vars l) = some (xl, r)) : TmR base s l = r := by
  have hx : ∃ r : Nat × List (Int × List Int), ∃ n xl, titer base s n (decX s.vars l) = some (xl, r) := ⟨r, n, xl, h⟩
  unfold TmR
  rw [dif_pos hx]
  obtain ⟨m, xm, hm⟩ := Classical.choose_spec hx
  exact ((Prod.mk.inj (titer_det hm h)).2)
/-- an environment with loops' functions -/
@[reducible] noncomputable def envTm (base : Env) (ws : Nat → Option TSig) (e : Env) : Env where
  val := e.val
  lst f l := match ws (f / 64) with
    | some s => ((TmR base s l).2.getD (f % 64 - 1) (0, [])).2
    | none => e.lst f l
  app f l := match ws (f / 64) with
    | some s => if f % 64 = 0 then ((TmR base s l).1 : Int) else ((TmR base s l).2.getD (f % 64 - 1) (0, [])).1
    | none => e.app f l
/-! Terms put into states. -/
section
variable (p : E → E)
def X.sub : X → X
  | .ex e => xOf (p e)
  | x => x
def EB.sub : EB → EB
  | .eq a b => .eq (p a) (p b)
  | .lt a b => .lt (p a) (p b)
  | .nt a => .nt a.sub
  | .an a b => .an a.sub b.sub
  | .or a b => .or a.sub b.sub
  | .iff a b => .iff a.sub b.sub
  | .lq a b => .lq (p a) (p b)
  | .kb b => .kb b
def Sc.sub : Sc → Sc
  | .int k x => .int k (x.sub p)
  | .bool (.ex b) => .bool (.ex (b.sub p))
  | .strt e => .strt (p e)
  | .ptr id r s f h => .ptr id (r.sub p) s f h
  | .sl nn id o l s => .sl nn id (o.sub p) (l.sub p) s
  | x => x
def AV.sub : AV → AV
  | .one s => .one (s.sub p)
  | .agg l => .agg (l.map (Sc.sub p))
  | .tup l => .tup (l.map fun | .inl s => .inl (s.sub p) | .inr l => .inr (l.map (Sc.sub p)))
  | x => x
def Cells.sub : Cells → Cells
  | .vals l => .vals (l.map (Sc.sub p))
  | .ex k e => .ex k (p e)
  | .tb k e => .tb k (p e)
  | x => x
def AO.sub : AO → AO
  | .row o s c => .row o s (c.sub p)
  | x => x
end
section
variable [Env]
def slotRow (f : Fr) (σ : St) (t : Nat) : E :=
  match f.get t with
  | .one (.sl _ id _ _ _) => match σ.at id with
    | .row _ _ (.ex _ e) => e
    | .row _ _ (.tb _ e) => e
    | .row _ _ (.vals l) => match kcellsE [.int .u8] 1 l 0 with
      | some e => e
      | none => .nl
    | _ => .nl
  | _ => .nl
/-- a slot's row, or a term of the others -/
def bind1 (s : TSig) (gh : List (Nat × Sum Nat E)) (f : Fr) (σ : St) : List E :=
  match bind0 s f σ with
  | l => gh.foldl (fun m g => m.set g.1 (match g.2 with
    | .inl t => slotRow f σ t
    | .inr e => e.put s.vars m)) l
/-- a cell that is nil: a row of its own -/
def nilCell (i k z : Nat) (σ : St) : St :=
  match σ.at i with
  | .row true s (.vals cs) => match cs[k]? with
    | some .nils => St.new (σ.set i (.row true s (.vals (cs.set k (.sl false σ.length (.c 0) (.c 0) z))))) (.row true z (.vals []))
    | _ => σ
  | _ => σ
/-- lists that are nil: rows of their own -/
def nilFix : List (Nat × Nat × Nat) → Fr → St → Fr × St
  | [], f, σ => (f, σ)
  | (t, z, lim) :: r, f, σ => match f.get t with
    | .one .nils => nilFix r (f.set t (.one (.sl false σ.length (.c 0) (.c 0) z))) (σ.new (.row true z (.vals [])))
    | .one (.sl nn i o l z') => if decide (i < lim) && (σ.at i).own then nilFix r (f.set t (.one (.sl nn σ.length o l z'))) (St.new (σ.set i .dead) (σ.at i)) else nilFix r f σ
    | .one (.ptr i _ _ _ _) => if 1000000 ≤ lim then nilFix r f (nilCell i (lim - 1000000) z σ) else nilFix r f σ
    | _ => nilFix r f σ
def outTs (f : Nat) (e : E) (kp : List Nat) (l : List E) : List TV → Nat → List E
  | [], _ => []
  | v :: vs, i => (if kp.contains i then l.getD i .nl else if v.isL then .ls (f + i) e v.lo v.hi v.n else .ap (f + i) e v.lo v.hi) :: outTs f e kp l vs (i + 1)
def tEnd (j : Nat) (s : TSig) (e : E) (l : List E) (k : Nat) : Out (Ex × Fr × St) :=
  match outTs (64 * j + 1) e s.kp l (s.os k) 0 with
  | r => match (s.xfl k).map (fun p => (p.1, p.2.sub (E.put (s.os k) r))), (s.xst k).map (AO.sub (E.put (s.os k) r)) with
    | fl, τ => if simSt (qOut (s.os k) r) (s.xst k) τ && (fl.all fun p => simAV (qOut (s.os k) r) ((s.xfr k).get p.1) p.2) then .ok (s.ex k, setsF fl ⟨s.fn, F.fresh (depthFor s.fn)⟩, τ) else .fail "template: end"
def tEnds (j : Nat) (s : TSig) (e : E) (l : List E) : Nat → Nat → Out (Ex × Fr × St)
  | 0, _ => .fail "ends"
  | 1, i => tEnd j s e l i
  | n + 1, i => .ite (.ex (.eq (.ap (64 * j) e 0 (s.nk : Int)) (.num (i : Int)))) (fun _ => tEnd j s e l i) (fun _ => tEnds j s e l n (i + 1))
def bAll : List B → B
  | [] => .c true
  | b :: l => B.mkAnd b (bAll l)
def guardAll {α : Type} : List B → Out α → Out α
  | [], o => o
  | b :: l, o => .guard b (guardAll l o)
def gcFix (g : Option (Nat × List Nat)) (f : Fr) (σ : St) : Option (Fr × St) :=
  match g with
  | some (n, lv) => gcE n lv f σ (depthFor f.n)
  | none => some (f, σ)
def tmCon (j : Nat) (s : TSig) (gh : List (Nat × Sum Nat E)) (nf : List (Nat × Nat × Nat)) (f : Fr) (σ : St) : Out (Ex × Fr × St) :=
  match gcFix s.gc (nilFix nf f σ).1 (nilFix nf f σ).2 with
  | none => .fail "template: order"
  | some (f, σ) => match bind1 s gh f σ with
    | l =>
      if f.n = s.fn then
        if decide (s.vars.length = l.length) && (simSt (qIn s.vars l) σ s.st && (s.fl.all fun p => simAV (qIn s.vars l) (f.get p.1) p.2)) then
          match tvsAsk s.vars l with
          | some q => guardAll q (guardAll (s.inv.map fun b => B.ex (b.put s.vars l)) (tEnds j s (encTV s.vars l) l s.nk 0))
          | none => .fail "template: kinds"
        else .fail "template: state"
      else .fail "template: frame"
theorem guardAll_some {α : Type} {o : Out α} {a : α} : ∀ {l : List B}, (guardAll l o).run = some a → (∀ b ∈ l, b.den = true) ∧ o.run = some a
  | [], h => ⟨fun b h => (by cases h), h⟩
  | b :: l, h => by
    obtain ⟨h1, h2⟩ := guard_some h
    obtain ⟨h3, h4⟩ := guardAll_some h2
    refine ⟨fun x hx => ?_, h4⟩
    rcases List.mem_cons.1 hx with rfl | hx
    · exact h1
    · exact h3 x hx
theorem encTV_dens : ∀ {vs : List TV} {l : List E}, vs.length = l.length → (encTV vs l).dens = encX vs (l.map E.D)
  | [], [], _ => rfl
  | [], _ :: _, h => by cases h
  | _ :: _, [], h => by cases h
  | v :: vs, e :: l, h => by
    have ih := encTV_dens (vs := vs) (l := l) (by simpa using h)
    simp only [encTV, List.map_cons, encX]
    split
    · show ((e.D.2.length : Nat) : Int) :: (ccE e (encTV vs l)).dens = _
      rw [ccE_dens, ih]; rfl
    · show (normE e).den :: (encTV vs l).dens = _
      rw [normE_den, ih]; rfl
theorem outTs_D {f : Nat} {e : E} {kp : List Nat} {l : List E} : ∀ {vs : List TV} {o : List (Int × List Int)} {i : Nat}, f + i + vs.length < HB → hasAll vs o → (∀ q, q < o.length → Env.app (f + (i + q)) e.dens = (o.getD q (0, [])).1 ∧ Env.lst (f + (i + q)) e.dens = (o.getD q (0, [])).2) →
    (∀ q, q < o.length → i + q ∈ kp → (l.getD (i + q) .nl).D = o.getD q (0, [])) → (outTs f e kp l vs i).map E.D = o
  | [], [], _, _, _, _, _ => rfl
  | [], _ :: _, _, _, h, _, _ => h.elim
  | _ :: _, [], _, _, h, _, _ => h.elim
  | v :: vs, x :: o, i, hb, h, ha, hkp => by
    obtain ⟨h1, h2⟩ := ha 0 (by simp)
    rw [Nat.add_zero] at h1 h2
    have h3 := hkp 0 (by simp)
    rw [Nat.add_zero] at h3
    have ih := outTs_D (f := f) (e := e) (kp := kp) (l := l) (vs := vs) (o := o) (i := i + 1) (by simp at hb; omega) h.2 (fun q hq => by
      have := ha (q + 1) (by simp; omega)
      rw [show i + 1 + q = i + (q + 1) by omega]
      simpa using this) (fun q hq => by
      have := hkp (q + 1) (by simp; omega)
      rw [show i + 1 + q = i + (q + 1) by omega]
      simpa using this)
    have hv := h.1
    unfold TV.has at hv
    simp only [outTs, List.map_cons, ih]
    congr 1
    obtain ⟨x1, x2⟩ := x
    have h1 : Env.app (f + i) e.D.2 = x1 := h1
    have h2 : Env.lst (f + i) e.D.2 = x2 := h2
    by_cases hkk : kp.contains i = true
    · rw [if_pos hkk]
      exact h3 (by simpa using hkk)
    rw [if_neg hkk]
    split
    · rename_i hl
      rw [if_pos hl] at hv
      obtain ⟨q1, q2, q3⟩ := hv
      show ((0 : Int), ((Env.lst (f + i) e.D.2).take v.n).map (clampI v.lo v.hi)) = (x1, x2)
      have q1 : x1 = 0 := q1
      rw [h2, q1, List.take_of_length_le q2]
      exact congrArg (Prod.mk 0) ((List.map_congr_left fun x hx => clamp_eq (q3 x hx)).trans (List.map_id _))
    · rename_i hl
      rw [if_neg hl] at hv
      obtain ⟨q1, q2⟩ := hv
      show (clampI v.lo (hiA (f + i) v.hi e.D.2) (Env.app ((f + i) % HB) e.D.2), ([] : List Int)) = (x1, x2)
      have q2 : x2 = [] := q2
      rw [Nat.mod_eq_of_lt (by omega), h1, q2]
      unfold hiA
      rw [if_neg (by omega), clamp_eq q1]
theorem tEnds_run {s : TSig} {e : E} {l : List E} {j k : Nat} (hd : E.den (.ap (64 * j) e 0 (s.nk : Int)) = (k : Int)) : ∀ {n i : Nat} {x : Ex × Fr × St}, i ≤ k → k < i + n → (tEnds j s e l n i).run = some x → (tEnd j s e l k).run = some x
  | 0, i, x, h1, h2, _ => by omega
  | 1, i, x, h1, h2, h => by
    have : i = k := by omega
    subst this
    exact h
  | n + 2, i, x, h1, h2, h => by
    simp only [tEnds] at h
    rcases ite_some h with ⟨hb, h⟩ | ⟨hb, h⟩
    · have hb : (E.den (.ap (64 * j) e 0 (s.nk : Int)) == (i : Int)) = true := hb
      rw [hd, beq_iff_eq] at hb
      have : k = i := by omega
      subst this
      exact h
    · have hb : (E.den (.ap (64 * j) e 0 (s.nk : Int)) == (i : Int)) = false := hb
      rw [hd, beq_eq_false_iff_ne] at hb
      exact tEnds_run hd (n := n + 1) (by have : i ≠ k := fun e => hb (by rw [e]); omega) (by omega) h
/-- a row for nothing -/
theorem nil_obj {ρ : Nat → Loc} {σ : St} {w : World} (h : Rel ρ σ w) (z : Nat) : Rel (setLoc ρ σ.length noLoc) (σ.new (.row true z (.vals []))) w ∧ Ext ρ σ w (setLoc ρ σ.length noLoc) (σ.new (.row true z (.vals []))) w := by
  constructor
  · refine h.upd (setLoc_same _ _ _) (by rw [St.len_new]; omega) σ.length ?_ ?_ ?_ ?_ (Nat.le_refl _) ?_
    · intro i hi; left; rw [St.at_new, if_neg hi]
    · intro i hi hu _ b hb; rfl
    · rw [St.len_new, setLoc_at, St.at_new, if_pos rfl]
      exact ⟨fun _ => rfl, fun h => by cases h⟩
    · intro hu; have := hu.1; rw [setLoc_at] at this; cases this
    · intro hu; have := hu.1; rw [setLoc_at] at this; cases this
  · refine ⟨by rw [St.len_new]; omega, setLoc_same _ _ _, rfl, rfl, rfl, Nat.le_refl _, fun b _ _ => rfl, fun i hi b hb => ?_⟩
    by_cases e : i = σ.length
    · subst e
      have := hi.1; rw [setLoc_at] at this; cases this
    · left
      have e2 : setLoc ρ σ.length noLoc i = ρ i := by unfold setLoc; rw [if_neg e]
      have e3 : (σ.new (.row true z (.vals []))).at i = σ.at i := by rw [St.at_new, if_neg e]
      have ho : owned ρ σ i := ⟨by rw [← e2]; exact hi.1, by rw [← e3]; exact hi.2⟩
      refine ⟨i, ho, ?_⟩
      rw [e2, e3] at hb
      exact hb
/-- an object of one's own, under another number -/
theorem move_obj {ρ : Nat → Loc} {σ : St} {w : World} {i : Nat} (h : Rel ρ σ w) (hi : i < σ.length) (ho : (σ.at i).own = true) : Rel (setLoc ρ σ.length (ρ i)) (St.new (σ.set i .dead) (σ.at i)) w ∧ Ext ρ σ w (setLoc ρ σ.length (ρ i)) (St.new (σ.set i .dead) (σ.at i)) w := by
  have hl : (σ.set i .dead).length = σ.length := List.length_set ..
  have hat : ∀ j, (St.new (σ.set i .dead) (σ.at i)).at j = if j = σ.length then σ.at i else if j = i then .dead else σ.at j := by
    intro j
    rw [St.at_new, hl]
    by_cases e : j = σ.length
    · rw [if_pos e, if_pos e]
    · rw [if_neg e, if_neg e]
      show List.getD (σ.set i .dead) j .dead = _
      rw [List.getD_eq_getElem?_getD, List.getElem?_set]
      by_cases e2 : i = j
      · subst e2; rw [if_pos rfl, if_pos hi, if_pos rfl]; rfl
      · rw [if_neg e2, if_neg (fun h => e2 h.symm)]; exact (List.getD_eq_getElem?_getD ..).symm
  have hown : ∀ j, owned (setLoc ρ σ.length (ρ i)) (St.new (σ.set i .dead) (σ.at i)) j → ∃ q, owned ρ σ q ∧ ∀ b, foot w (setLoc ρ σ.length (ρ i) j) ((St.new (σ.set i .dead) (σ.at i)).at j) b → foot w (ρ q) (σ.at q) b := by
    intro j hj
    obtain ⟨h1, h2⟩ := hj
    rw [hat] at h2 ⊢
    by_cases e : j = σ.length
    · subst e
      rw [setLoc_at] at h1 ⊢
      rw [if_pos rfl] at h2 ⊢
      exact ⟨i, ⟨h1, h2⟩, fun b hb => hb⟩
    · have e2 : setLoc ρ σ.length (ρ i) j = ρ j := by unfold setLoc; rw [if_neg e]
      rw [e2] at h1 ⊢
      rw [if_neg e] at h2 ⊢
      by_cases e3 : j = i
      · rw [if_pos e3] at h2; cases h2
      · rw [if_neg e3] at h2 ⊢
        exact ⟨j, ⟨h1, h2⟩, fun b hb => hb⟩
  constructor
  · refine h.upd (setLoc_same _ _ _) (by rw [St.len_new, hl]; omega) σ.length ?_ ?_ ?_ ?_ (Nat.le_refl _) ?_
    · intro j hj
      rw [hat, if_neg hj]
      by_cases e : j = i
      · right; rw [if_pos e]
      · left; rw [if_neg e]
    · intro j hj hu _ b hb; rfl
    · rw [St.len_new, hl, setLoc_at, hat, if_pos rfl]
      exact (h.obj i).mono (setLoc_same _ _ _) (Nat.le_succ _) fun _ _ _ _ => rfl
    · intro hu
      have h1 := hu.1
      rw [setLoc_at] at h1 ⊢
      refine h.bnd i ⟨h1, fun e => ?_⟩
      rw [e] at ho; cases ho
    · intro hu j hj hu2 he b hb
      have h1 := hu.1
      rw [setLoc_at] at h1
      rw [setLoc_at, hat, if_pos rfl] at hb
      have hne : i ≠ j := fun e => by
        subst e
        rw [hat, if_neg hj, if_pos rfl] at he
        exact hu2.2 he.symm
      exact h.sep i j hne ⟨h1, ho⟩ hu2 b hb
  · refine ⟨by rw [St.len_new, hl]; omega, setLoc_same _ _ _, rfl, rfl, rfl, Nat.le_refl _, fun b _ _ => rfl, fun j hj b hb => ?_⟩
    obtain ⟨q, q1, q2⟩ := hown j hj
    exact .inl ⟨q, q1, q2 b hb⟩
theorem nilCell_ok {ρ : Nat → Loc} {σ : St} {w : World} (h : Rel ρ σ w) (i k z : Nat) : ∃ ρ', Rel ρ' (nilCell i k z σ) w ∧ Ext ρ σ w ρ' (nilCell i k z σ) w := by
  have keep : ∃ ρ', Rel ρ' σ w ∧ Ext ρ σ w ρ' σ w := ⟨ρ, h, ⟨Nat.le_refl _, fun _ _ => rfl, rfl, rfl, rfl, Nat.le_refl _, fun _ _ _ => rfl, fun i hi b hb => .inl ⟨i, hi, hb⟩⟩⟩
  unfold nilCell
  split
  · rename_i s cs hat
    split
    · rename_i hk
      obtain ⟨k1, k2⟩ := nil_obj h z
      have hi : i < σ.length := by
        rcases Nat.lt_or_ge i σ.length with h' | h'
        · exact h'
        · rw [St.at_ge h'] at hat; cases hat
      have hl : (σ.set i (.row true s (.vals (cs.set k (.sl false σ.length (.c 0) (.c 0) z))))).length = σ.length := List.length_set ..
      have hat1 : (σ.new (.row true z (.vals []))).at i = .row true s (.vals cs) := by rw [St.at_new, if_neg (by omega)]; exact hat
      have hat2 : ∀ j, (St.new (σ.set i (.row true s (.vals (cs.set k (.sl false σ.length (.c 0) (.c 0) z))))) (.row true z (.vals []))).at j = if j = i then .row true s (.vals (cs.set k (.sl false σ.length (.c 0) (.c 0) z))) else (σ.new (.row true z (.vals []))).at j := by
        intro j
        rw [St.at_new, hl, St.at_new]
        by_cases e : j = σ.length
        · rw [if_pos e, if_neg (by omega), if_pos e]
        · rw [if_neg e, if_neg e]
          show List.getD (σ.set i _) j .dead = _
          rw [List.getD_eq_getElem?_getD, List.getElem?_set]
          by_cases e2 : i = j
          · subst e2; rw [if_pos rfl, if_pos hi, if_pos rfl]; rfl
          · rw [if_neg e2, if_neg (fun h => e2 h.symm)]; exact (List.getD_eq_getElem?_getD ..).symm
      have hft : ∀ (l : Loc) (b : Nat), foot w l (.row true s (.vals (cs.set k (.sl false σ.length (.c 0) (.c 0) z)))) b ↔ foot w l (.row true s (.vals cs)) b := fun l b => by
        rw [foot_row (fun _ _ e => by cases e), foot_row (fun _ _ e => by cases e)]
      have hlen2 : (St.new (σ.set i (.row true s (.vals (cs.set k (.sl false σ.length (.c 0) (.c 0) z))))) (.row true z (.vals []))).length = (σ.new (.row true z (.vals []))).length := by rw [St.len_new, St.len_new, hl]
      have hu : ∀ {j}, used (setLoc ρ σ.length noLoc) (St.new (σ.set i (.row true s (.vals (cs.set k (.sl false σ.length (.c 0) (.c 0) z))))) (.row true z (.vals []))) j → used (setLoc ρ σ.length noLoc) (σ.new (.row true z (.vals []))) j := fun {j} hj => by
        refine ⟨hj.1, fun e => ?_⟩
        by_cases e2 : j = i
        · subst e2; rw [hat1] at e; cases e
        · exact hj.2 (by rw [hat2, if_neg e2]; exact e)
      have hr2 : Rel (setLoc ρ σ.length noLoc) (St.new (σ.set i (.row true s (.vals (cs.set k (.sl false σ.length (.c 0) (.c 0) z))))) (.row true z (.vals []))) w := by
        refine k1.upd (fun _ _ => rfl) (Nat.le_of_eq hlen2.symm) i ?_ ?_ ?_ ?_ (Nat.le_refl _) ?_
        · intro j hj; left; rw [hat2, if_neg hj]
        · intro j hj _ _ b hb; rfl
        · rw [hat2, if_pos rfl, hlen2]
          have h0 := k1.obj i
          rw [hat1] at h0
          obtain ⟨a1, a2⟩ := h0
          have hcl : (Cells.vals (cs.set k (.sl false σ.length (.c 0) (.c 0) z))).len = (Cells.vals cs).len := List.length_set ..
          refine ⟨fun hd => by rw [hcl]; exact a1 hd, fun hlv => ⟨fun j x hx => ?_, fun ho => by rw [hcl]; exact (a2 hlv).2 ho⟩⟩
          have hx : (cs.set k (.sl false σ.length (.c 0) (.c 0) z))[j]? = some x := hx
          rw [List.getElem?_set] at hx
          by_cases e : k = j
          · subst e
            obtain ⟨v, v1, v2⟩ := (a2 hlv).1 k .nils hk
            rw [if_pos rfl] at hx
            split at hx
            · cases hx
              have v2 : v = .slice none 0 0 := v2
              exact ⟨v, v1, 0, 0, rfl, rfl, Nat.zero_le _, by rw [St.len_new]; omega, .inl ⟨rfl, rfl, v2⟩⟩
            · cases hx
          · rw [if_neg e] at hx
            exact (a2 hlv).1 j x hx
        · intro hui; exact k1.bnd i (hu hui)
        · intro hui j hj huj he b hb
          rw [hat2, if_pos rfl, hft] at hb
          exact k1.sep i j (fun e => hj e.symm) ⟨hui.1, by rw [hat1]; rfl⟩ huj b (by rw [hat1]; exact hb)
      refine ⟨_, hr2, Nat.le_trans k2.len (Nat.le_of_eq hlen2.symm), k2.same, k2.os, k2.tape, k2.output, k2.size, k2.keep, fun j hj b hb => ?_⟩
      have hb' : foot w (setLoc ρ σ.length noLoc j) ((σ.new (.row true z (.vals []))).at j) b := by
        rw [hat2] at hb
        split at hb
        · rename_i e; subst e; rw [hat1]; exact (hft _ _).1 hb
        · exact hb
      refine k2.own j ⟨hj.1, ?_⟩ b hb'
      have := hj.2
      rw [hat2] at this
      split at this
      · rename_i e; subst e; rw [hat1]; exact this
      · exact this
    · exact keep
  · exact keep
theorem nilFix_at {n0 : Nat} : ∀ {nf : List (Nat × Nat × Nat)} {f f1 : Fr} {σ σ1 : St} {ρ : Nat → Loc} {a : Act} {w : World}, nilFix nf f σ = (f1, σ1) → n0 ≤ σ.length → At ρ f σ a w → ∃ ρ', At ρ' f1 σ1 a w ∧ ExtN n0 ρ σ w ρ' σ1 w
  | [], f, f1, σ, σ1, ρ, a, w, h, hn, hat => by
    cases h
    exact ⟨ρ, hat, ExtN.refl _ _ _ hn⟩
  | (t, z, lim) :: r, f, f1, σ, σ1, ρ, a, w, h, hn, hat => by
    simp only [nilFix] at h
    split at h
    · rename_i hnil
      obtain ⟨k1, k2⟩ := nil_obj hat.rel z
      have hfr : FRel (setLoc ρ σ.length noLoc) (σ.new (.row true z (.vals []))).length (f.set t (.one (.sl false σ.length (.c 0) (.c 0) z))) a.tmps := by
        have h0 := hat.fr.2.1 t
        rw [hnil] at h0
        have h0 : a.tmps.getD t undef = .slice none 0 0 := h0
        have hm := hat.fr.mono (setLoc_same ρ σ.length noLoc) (Nat.le_succ σ.length)
        rw [St.len_new]
        refine setsF_rel [(t, .one (.sl false σ.length (.c 0) (.c 0) z))] f hm fun p hp => ?_
        have : p = (t, .one (.sl false σ.length (.c 0) (.c 0) z)) := by simpa using hp
        subst this
        rw [h0]
        exact ⟨0, 0, rfl, rfl, Nat.zero_le _, Nat.lt_succ_self _, .inl ⟨rfl, rfl, rfl⟩⟩
      obtain ⟨ρ', q1, q2⟩ := nilFix_at (n0 := n0) h (by rw [St.len_new]; omega) ⟨hfr, k1⟩
      exact ⟨ρ', q1, (k2.toN hn).trans q2⟩
    · rename_i nn i o l z' hsl
      split at h
      · rename_i hc
        rw [Bool.and_eq_true] at hc
        have h0 := hat.fr.2.1 t
        rw [hsl] at h0
        obtain ⟨oo, ll, s1, s2, s3, s4⟩ := h0
        obtain ⟨k1, k2⟩ := move_obj hat.rel s4.1 hc.2
        have hl : (St.new (σ.set i .dead) (σ.at i)).length = σ.length + 1 := by rw [St.len_new, List.length_set]
        have hfr : FRel (setLoc ρ σ.length (ρ i)) (St.new (σ.set i .dead) (σ.at i)).length (f.set t (.one (.sl nn σ.length o l z'))) a.tmps := by
          have hm := hat.fr.mono (setLoc_same ρ σ.length (ρ i)) (Nat.le_succ σ.length)
          rw [hl]
          refine setsF_rel [(t, .one (.sl nn σ.length o l z'))] f hm fun p hp => ?_
          have : p = (t, .one (.sl nn σ.length o l z')) := by simpa using hp
          subst this
          exact ⟨oo, ll, s1, s2, s3, Nat.lt_succ_self _, by rw [setLoc_at]; exact s4.2⟩
        obtain ⟨ρ', q1, q2⟩ := nilFix_at (n0 := n0) h (by rw [hl]; omega) ⟨hfr, k1⟩
        exact ⟨ρ', q1, (k2.toN hn).trans q2⟩
      · exact nilFix_at h hn hat
    · rename_i i row s1 f2 h2 hp
      split at h
      · obtain ⟨ρ1, k1, k2⟩ := nilCell_ok hat.rel i (lim - 1000000) z
        have hfr : FRel ρ1 (nilCell i (lim - 1000000) z σ).length f a.tmps := hat.fr.mono k2.same k2.len
        obtain ⟨ρ', q1, q2⟩ := nilFix_at (n0 := n0) h (Nat.le_trans hn k2.len) ⟨hfr, k1⟩
        exact ⟨ρ', q1, (k2.toN hn).trans q2⟩
      · exact nilFix_at h hn hat
    · exact nilFix_at h hn hat
end
/-- into a template from the state that is there -/
theorem into_tmpl {amb base : Env} {vs : List TV} {ys : List (Int × List Int)} {l : List E} {f1 : Fr} {σ1 τ : St} {fl : List (Nat × AV)} {fn : Nat} {ρ : Nat → Loc} {a : Act} {w : World} (hsim : SimOk amb (envT base ys) (qIn vs l))
    (hn : f1.n = fn) (h1 : simSt (qIn vs l) σ1 τ = true) (h2 : (fl.all fun p => simAV (qIn vs l) (f1.get p.1) p.2) = true) (hat : @At amb ρ f1 σ1 a w) : @At (envT base ys) ρ (setsF fl ⟨fn, F.fresh (depthFor fn)⟩) τ a w := by
  obtain ⟨r1f, r1r⟩ := hat
  have hln : σ1.length = τ.length := (simSt_like hsim h1).1
  refine @At.mk (envT base ys) _ _ _ _ _ ?_ (Rel.sim hsim h1 r1r)
  rw [← hln]
  exact FRel.sim hsim r1f ⟨by rw [r1f.1, hn], fun t => by rw [freshF_get]; exact @ARel.any (envT base ys) _ _ _, r1f.2.2⟩ h2
theorem outof_tmpl {amb base : Env} {vs : List TV} {ys : List (Int × List Int)} {l : List E} {f1 : Fr} {σ1 τ : St} {fl : List (Nat × AV)} {fn : Nat} {ρ : Nat → Loc} {a : Act} {w : World} (hsim : SimOk (envT base ys) amb (qOut vs l))
    (hn : f1.n = fn) (h1 : simSt (qOut vs l) σ1 τ = true) (h2 : (fl.all fun p => simAV (qOut vs l) (f1.get p.1) p.2) = true) (hat : @At (envT base ys) ρ f1 σ1 a w) : @At amb ρ (setsF fl ⟨fn, F.fresh (depthFor fn)⟩) τ a w := by
  obtain ⟨r1f, r1r⟩ := hat
  have hln : σ1.length = τ.length := (simSt_like hsim h1).1
  refine @At.mk amb _ _ _ _ _ ?_ (Rel.sim hsim h1 r1r)
  rw [← hln]
  exact FRel.sim hsim r1f ⟨by rw [r1f.1, hn], fun t => by rw [freshF_get]; exact @ARel.any amb _ _ _, r1f.2.2⟩ h2
/-- comparisons over the template's variables alone -/
def EB.putC (vs : List TV) : EB → Bool
  | .eq a b => a.putC vs && b.putC vs
  | .lt a b => a.putC vs && b.putC vs
  | .nt a => a.putC vs
  | .an a b => a.putC vs && b.putC vs
  | .or a b => a.putC vs && b.putC vs
  | .iff a b => a.putC vs && b.putC vs
  | .lq a b => a.putC vs && b.putC vs
  | .kb _ => true
theorem putCB_den (amb base : Env) {vs : List TV} {ys : List (Int × List Int)} {l : List E} (hv : hasAll vs ys) (hlen : vs.length ≤ l.length) (hl : ∀ (i : Nat) e, l[i]? = some e → @E.D amb e = ys.getD i (0, [])) :
    ∀ b : EB, b.putC vs = true → @EB.den amb (b.put vs l) = @EB.den (envT base ys) b := by
  have d1 : ∀ e : E, e.putC vs = true → @E.den amb (e.put vs l) = @E.den (envT base ys) e := fun e h => congrArg Prod.fst (putC_D amb base hv hlen hl e h)
  have d2 : ∀ e : E, e.putC vs = true → @E.dens amb (e.put vs l) = @E.dens (envT base ys) e := fun e h => congrArg Prod.snd (putC_D amb base hv hlen hl e h)
  intro b
  induction b with
  | kb b => intro _; rfl
  | eq x y =>
    intro h
    simp only [EB.putC, Bool.and_eq_true] at h
    simp only [EB.put, EB.den]
    rw [d1 x h.1, d1 y h.2]
  | lt x y =>
    intro h
    simp only [EB.putC, Bool.and_eq_true] at h
    simp only [EB.put, EB.den]
    rw [d1 x h.1, d1 y h.2]
  | lq x y =>
    intro h
    simp only [EB.putC, Bool.and_eq_true] at h
    simp only [EB.put, EB.den]
    rw [d2 x h.1, d2 y h.2]
  | nt a ih =>
    intro h
    simp only [EB.put, EB.den]
    rw [ih h]
  | an a b iha ihb | or a b iha ihb | iff a b iha ihb =>
    intro h
    simp only [EB.putC, Bool.and_eq_true] at h
    simp only [EB.put, EB.den]
    rw [iha h.1, ihb h.2]
theorem D_get {amb : Env} {l : List E} {o : List (Int × List Int)} (h : l.map (@E.D amb) = o) (i : Nat) (e : E) (hi : l[i]? = some e) : @E.D amb e = o.getD i (0, []) := by
  rw [← h, List.getD_eq_getElem?_getD, List.getElem?_map, hi]; rfl
theorem tmCon_sound {P : Program} {base : Env} {call : Env → FuncId → List AV → St → Out (AV × St)} {cf : Env → Cfg} {n0 id : Nat} {s : TSig} {b : Code} {j : Nat} {gh : List (Nat × Sum Nat E)} {nf : List (Nat × Nat × Nat)} (ok : TOk P base call cf n0 id s b) (amb : Env) (hj : j < 1000000) (ho : ∀ k, (s.os k).length ≤ 60) (hi : s.inv.all (EB.putC s.vars) = true) (hkp : (s.kp.isEmpty || (s.wt.keeps s.vars s.kp && s.auto.isNone)) = true) (hgc : ∀ p, s.gc = some p → p.1 = n0) (hex : ∀ k, (∃ i, s.ex k = .exit i) ∨ s.ex k = .ret)
    (hres : ∀ xs n xl k o, hasAll s.vars xs → titer base s n xs = some (xl, k, o) → amb.app (64 * j) (encX s.vars xs) = (k : Int) ∧ ∀ i, i < 60 → amb.app (64 * j + 1 + i) (encX s.vars xs) = (o.getD i (0, [])).1 ∧ amb.lst (64 * j + 1 + i) (encX s.vars xs) = (o.getD i (0, [])).2) : @LoopOk amb P n0 b (@tmCon amb j s gh nf) := by
  letI : Env := amb
  intro f σ e f' σ' hrun D ρ a w Q hD hn hat hq
  have hrun : (tmCon j s gh nf f σ).run = some (e, f', σ') := hrun
  unfold tmCon at hrun
  split at hrun
  · cases hrun
  rename_i f1 σ1 hgcf
  obtain ⟨ρ0, hat0, hext0⟩ := nilFix_at (n0 := n0) (f1 := (nilFix nf f σ).1) (σ1 := (nilFix nf f σ).2) rfl hn hat
  have hfx : ∃ ρ1, At ρ1 f1 σ1 a w ∧ ExtN n0 ρ σ w ρ1 σ1 w := by
    unfold gcFix at hgcf
    split at hgcf
    · rename_i n lv hg
      have := hgc _ hg
      have hnn : n = n0 := this
      subst hnn
      obtain ⟨ρ1, q1, q2⟩ := gcE_sound hgcf hat0
      exact ⟨ρ1, q1, hext0.trans q2⟩
    · cases hgcf
      exact ⟨ρ0, hat0, hext0⟩
  obtain ⟨ρ1, hat1, hext1⟩ := hfx
  dsimp only at hrun
  generalize bind1 s gh f1 σ1 = l at hrun
  split at hrun
  · rename_i hfn
    split at hrun
    · rename_i hc
      simp only [Bool.and_eq_true, decide_eq_true_eq] at hc
      obtain ⟨hlen, hst, hfl⟩ := hc
      split at hrun
      · rename_i q hq'
        obtain ⟨g1, hrun⟩ := guardAll_some hrun
        obtain ⟨g2, hrun⟩ := guardAll_some hrun
        have hall : hasAll s.vars (l.map E.D) := tvsAsk_ok hq' g1
        have hl : ∀ (i : Nat) e, l[i]? = some e → @E.D amb e = (l.map E.D).getD i (0, []) := fun i e hi => D_get rfl i e hi
        have hsim := qIn_ok amb base hall (Nat.le_of_eq hlen) hl
        have hgood : GoodT base s (l.map E.D) := ⟨hall, fun b hb => by
          rw [← putCB_den amb base hall (Nat.le_of_eq hlen) hl b (List.all_eq_true.1 hi b hb)]
          exact g2 (.ex (b.put s.vars l)) (List.mem_map.2 ⟨b, hb, rfl⟩)⟩
        have hat2 := into_tmpl hsim hfn hst hfl hat1
        obtain ⟨n, ⟨xl, k, o⟩, hn'⟩ := tends ok _ hgood (Nat.le_refl _)
        refine wp_loop_rounds n (trounds ok hD n hn' hgood hat2 fun hk ho' ρ' a' w' q1 q2 q3 => ?_)
        obtain ⟨r1, r2⟩ := hres _ n xl k o hall hn'
        rw [← encTV_dens hlen] at r1 r2
        have hol : o.length ≤ 60 := by rw [← (hasAll_get ho').1]; exact ho k
        have hkd : E.den (.ap (64 * j) (encTV s.vars l) 0 (s.nk : Int)) = (k : Int) := by
          show clampI 0 (hiA (64 * j) (s.nk : Int) (encTV s.vars l).D.2) (Env.app ((64 * j) % HB) (encTV s.vars l).D.2) = _
          rw [Nat.mod_eq_of_lt (by unfold HB; omega)]
          have h0 : amb.app (64 * j) (encTV s.vars l).D.2 = (k : Int) := r1
          rw [h0]
          unfold hiA
          rw [if_neg (by unfold HB; omega)]
          exact clamp_eq ⟨by simp, by simp; omega⟩
        have hend := tEnds_run hkd (n := s.nk) (i := 0) (by omega) (by omega) hrun
        unfold tEnd at hend
        have hD2 : (outTs (64 * j + 1) (encTV s.vars l) s.kp l (s.os k) 0).map E.D = o := outTs_D (by unfold HB; have := ho k; omega) ho' (fun q hq => by
          rw [Nat.zero_add]; exact r2 q (by omega)) (fun q hq hqk => by
          rw [Nat.zero_add] at hqk ⊢
          have hkp : (s.wt.keeps s.vars s.kp && s.auto.isNone) = true := by
            rw [Bool.or_eq_true] at hkp
            rcases hkp with hkp | hkp
            · rw [List.isEmpty_iff.1 hkp] at hqk; cases hqk
            · exact hkp
          rw [titer_keeps hkp hqk hn' (fun v hv => (hasAll_get hall).2 q v hv)]
          have hql : q < l.length := by
            have h1 := List.all_eq_true.1 (keeps_any (Bool.and_eq_true_iff.1 hkp).1) q hqk
            have h1 : q < s.vars.length := by simpa using h1
            omega
          exact hl q _ (by rw [List.getD_eq_getElem?_getD, List.getElem?_eq_getElem hql]; rfl))
        generalize outTs (64 * j + 1) (encTV s.vars l) s.kp l (s.os k) 0 = r at hend hD2
        dsimp only at hend
        split at hend
        · rename_i hc
          rw [Bool.and_eq_true] at hc
          have hend := Option.some.inj hend
          obtain ⟨e1, e2⟩ := Prod.mk.inj hend
          obtain ⟨e2, e3⟩ := Prod.mk.inj e2
          subst e1; subst e2; subst e3
          have hlen2 : (s.os k).length ≤ r.length := by
            have h1 := (hasAll_get ho').1
            have h2 := congrArg List.length hD2
            rw [List.length_map] at h2
            omega
          have hsim2 := qOut_ok amb base ho' hlen2 (D_get hD2)
          have hx := hq ρ' a' w' (outof_tmpl hsim2 (by rw [TSig.xfr, setsF_n]) hc.1 hc.2 q1)
            (hext1.trans (ext_tmpl' hsim2 hc.1 (ext_tmpl hsim hst q2))) q3
          rcases hex k with ⟨i, he⟩ | he
          · rw [he] at hx ⊢; exact hx
          · rw [he] at hx ⊢; exact hx
        · cases hend
      · cases hrun
    · cases hrun
  · cases hrun
end Go.SX
