/- Functions' contracts by templates: from a state told by variables to states told by terms, by ways. -/
import Derived.Test.YtfacghikjnjjmaaSxZ
namespace Go.SX
open Go Go.Lib
set_option linter.unusedSectionVars false
structure FSig where
  vars : List TV
  g : FuncId
  args : List AV
  st : St
  inv : List EB
  /-- which way it takes (stops alone) -/
  wt : WT
  nk : Nat
  os : Nat → List TV
  xres : Nat → AV
  xst : Nat → St
def WT.ok (vs : List TV) : WT → Bool
  | .go _ => false
  | .stop _ l => l.all (E.putOk vs)
  | .br c t e => c.putOk vs && (t.ok vs && e.ok vs)
def qOutA (vs : List TV) (l : List E) (a b : E) : Bool := a.putOk vs && sameE (a.put vs l) b
section
variable {amb : Env} {vs : List TV} {ys : List (Int × List Int)} {l : List E}
theorem putA_D (hv : hasAll vs ys) (hlen : vs.length ≤ l.length) (hl : ∀ (i : Nat) e, l[i]? = some e → @E.D amb e = ys.getD i (0, [])) : ∀ e : E, e.putOk vs = true → @E.D amb (e.put vs l) = @E.D (envT amb ys) e := by
  have leaf : ∀ {b : E} {k : Nat}, isLeaf vs b = some k → @E.D amb (l.getD k .nl) = @E.D (envT amb ys) b := by
    intro b k h
    obtain ⟨v, h1, rfl⟩ := isLeaf_eq h
    rw [leaf_D amb ((hasAll_get hv).2 k v h1)]
    have hk : k < l.length := by have := (List.getElem?_eq_some_iff.1 h1).1; omega
    rw [List.getD_eq_getElem?_getD, List.getElem?_eq_getElem hk]
    exact hl k l[k] (List.getElem?_eq_getElem hk)
  intro e
  induction e with
  | num n => intro _; rfl
  | nl => intro _; rfl
  | nm i lo hi =>
    intro h
    simp only [E.put]
    split
    · rename_i k hk
      exact leaf hk
    · rename_i hk
      simp only [E.putOk, hk, Option.isSome_none, Bool.false_or, decide_eq_true_eq] at h
      show (clampI lo hi (amb.val i), ([] : List Int)) = (clampI lo hi (if TB ≤ i then _ else amb.val i), [])
      rw [if_neg (by omega)]
  | ap f a lo hi ih =>
    intro h
    show (clampI lo (hiA f hi (@E.D amb (a.put vs l)).2) (amb.app (f % HB) (@E.D amb (a.put vs l)).2), ([] : List Int)) = _
    rw [ih h]; rfl
  | ls j a lo hi n ih =>
    intro h
    simp only [E.put]
    split
    · rename_i k hk
      exact leaf hk
    · rename_i hk
      simp only [E.putOk, hk, Option.isSome_none, Bool.false_or, Bool.and_eq_true, decide_eq_true_eq] at h
      show ((0 : Int), ((amb.lst j (@E.D amb (a.put vs l)).2 : List Int).take n).map (clampI lo hi)) = (0, (((if TB ≤ j then _ else amb.lst j (@E.D (envT amb ys) a).2) : List Int).take n).map (clampI lo hi))
      rw [if_neg (by omega), ih h.2]
  | cn a b iha ihb | op _ _ a b iha ihb | pl a b iha ihb | mi a b iha ihb | sel a b iha ihb | cc a b iha ihb | dq a b iha ihb =>
    intro h
    simp only [E.putOk, Bool.and_eq_true] at h
    simp only [E.put, E.D]
    rw [iha h.1, ihb h.2]
  | wr k a ih =>
    intro h
    simp only [E.put, E.D]
    rw [ih h]
  | ln a ih =>
    intro h
    simp only [E.put, E.D]
    rw [ih h]
  | sb a b c iha ihb ihc =>
    intro h
    simp only [E.putOk, Bool.and_eq_true] at h
    simp only [E.put, E.D]
    rw [iha h.1, ihb h.2.1, ihc h.2.2]
  | st a b c lo hi iha ihb ihc =>
    intro h
    simp only [E.putOk, Bool.and_eq_true] at h
    simp only [E.put, E.D]
    rw [iha h.1, ihb h.2.1, ihc h.2.2]
theorem putAB_den (hv : hasAll vs ys) (hlen : vs.length ≤ l.length) (hl : ∀ (i : Nat) e, l[i]? = some e → @E.D amb e = ys.getD i (0, [])) :
    ∀ b : EB, b.putOk vs = true → @EB.den amb (b.put vs l) = @EB.den (envT amb ys) b := by
  have d1 : ∀ e : E, e.putOk vs = true → @E.den amb (e.put vs l) = @E.den (envT amb ys) e := fun e h => congrArg Prod.fst (putA_D hv hlen hl e h)
  have d2 : ∀ e : E, e.putOk vs = true → @E.dens amb (e.put vs l) = @E.dens (envT amb ys) e := fun e h => congrArg Prod.snd (putA_D hv hlen hl e h)
  intro b
  induction b with
  | kb b => intro _; rfl
  | eq x y =>
    intro h
    simp only [EB.putOk, Bool.and_eq_true] at h
    simp only [EB.put, EB.den]
    rw [d1 x h.1, d1 y h.2]
  | lt x y =>
    intro h
    simp only [EB.putOk, Bool.and_eq_true] at h
    simp only [EB.put, EB.den]
    rw [d1 x h.1, d1 y h.2]
  | lq x y =>
    intro h
    simp only [EB.putOk, Bool.and_eq_true] at h
    simp only [EB.put, EB.den]
    rw [d2 x h.1, d2 y h.2]
  | nt a ih =>
    intro h
    simp only [EB.put, EB.den]
    rw [ih h]
  | an a b iha ihb | or a b iha ihb | iff a b iha ihb =>
    intro h
    simp only [EB.putOk, Bool.and_eq_true] at h
    simp only [EB.put, EB.den]
    rw [iha h.1, ihb h.2]
theorem qA_ok (hv : hasAll vs ys) (hlen : vs.length ≤ l.length) (hl : ∀ (i : Nat) e, l[i]? = some e → @E.D amb e = ys.getD i (0, [])) : SimOk amb (envT amb ys) (qP vs l) := by
  intro a b h
  unfold qP at h
  rw [Bool.and_eq_true] at h
  rw [@sameE_D amb a _ h.2]
  exact putA_D hv hlen hl b h.1
theorem qOutA_ok (hv : hasAll vs ys) (hlen : vs.length ≤ l.length) (hl : ∀ (i : Nat) e, l[i]? = some e → @E.D amb e = ys.getD i (0, [])) : SimOk (envT amb ys) amb (qOutA vs l) := by
  intro a b h
  unfold qOutA at h
  rw [Bool.and_eq_true] at h
  rw [← @sameE_D amb _ b h.2]
  exact (putA_D hv hlen hl a h.1).symm
end
/-- a result, and the state that it and the first objects reach -/
def gcV (n0 : Nat) (v : AV) (σ : St) : Option (AV × St) :=
  match List.range n0 ++ reach σ n0 1000 v.ids [] with
  | keep => if nodupB keep && (prefixB n0 keep 0 && !v.panB) then some (v.ren keep, keep.map fun i => (σ.at i).ren keep) else none
section
variable [Env]
def simAs (q : E → E → Bool) : List AV → List AV → Bool
  | [], [] => true
  | a :: l, b :: m => simAV q a b && simAs q l m
  | _, _ => false
def fAsk (s : FSig) : WT → AV → St → List Fk → Bool
  | .br c t e, v, σ, fs => c.ask fs fun fs b => bif b then fAsk s t v σ fs else fAsk s e v σ fs
  | .go _, _, _, _ => false
  | .stop k l, v, σ, fs => decide (k < s.nk) && match gcV s.st.length v σ with
    | some (v1, σ1) => simAV (qP (s.os k) l) v1 (s.xres k) && (simSt (qP (s.os k) l) σ1 (s.xst k) && match tvsAsk (s.os k) l with
      | some q => allAsk q fs
      | none => false)
    | none => false
noncomputable def fRun (call : FuncId → List AV → St → Out (AV × St)) (s : FSig) : Bool :=
  (call s.g s.args s.st).good (fun fs x => fAsk s s.wt x.1 x.2 fs) (knows s.inv)
def bindF (s : FSig) (args : List AV) (σ : St) : List E :=
  (List.range s.vars.length).map fun k => pickE (((s.args.zip args).flatMap fun p => bAV s.vars p.1 p.2) ++ bSt s.vars s.st σ) k (if (s.vars.getD k ⟨false, 0, 0, 0⟩).isL then .nl else .num 0)
def fEnd (s : FSig) (k : Nat) (r : List E) : Out (AV × St) :=
  match (s.xres k).sub (E.put (s.os k) r), (s.xst k).map (AO.sub (E.put (s.os k) r)) with
  | v, τ => if simSt (qOutA (s.os k) r) (s.xst k) τ && simAV (qOutA (s.os k) r) (s.xres k) v then .ok (v, τ) else .fail "function: end"
def fOut (s : FSig) (l : List E) : WT → Out (AV × St)
  | .br c t e => .ite (.ex (c.put s.vars l)) (fun _ => fOut s l t) (fun _ => fOut s l e)
  | .go _ => .fail "function: go"
  | .stop k o => fEnd s k (o.map (E.put s.vars l))
def fCon (s : FSig) (gh : List (Nat × E)) : Con := fun args σ =>
  match gh.foldl (fun m g => m.set g.1 (g.2.put s.vars m)) (bindF s args σ) with
  | l =>
    if decide (s.vars.length = l.length) && (simSt (qP s.vars l) σ s.st && simAs (qP s.vars l) args s.args) then
      match tvsAsk s.vars l with
      | some q => guardAll q (guardAll (s.inv.map fun b => B.ex (b.put s.vars l)) (fOut s l s.wt))
      | none => .fail "function: kinds"
    else .fail "function: state"
theorem fAsk_ok {s : FSig} : ∀ {t : WT} {v : AV} {σ : St} {fs : List Fk}, fAsk s t v σ fs = true → Holds fs →
    ∃ k lo v1 σ1, t.vals = .inr (k, lo.map E.D) ∧ hasAll (s.os k) (lo.map E.D) ∧ gcV s.st.length v σ = some (v1, σ1) ∧ simAV (qP (s.os k) lo) v1 (s.xres k) = true ∧ simSt (qP (s.os k) lo) σ1 (s.xst k) = true
  | .br c t u, v, σ, fs, h, hf => by
    simp only [fAsk] at h
    obtain ⟨fs', h1, h2⟩ := EB.ask_ok c fs _ h hf
    simp only [WT.vals]
    cases hc : c.den with
    | true => rw [hc] at h2; exact fAsk_ok (t := t) h2 h1
    | false => rw [hc] at h2; exact fAsk_ok (t := u) h2 h1
  | .go _, _, _, _, h, _ => by cases h
  | .stop k l, v, σ, fs, h, hf => by
    simp only [fAsk, Bool.and_eq_true, decide_eq_true_eq] at h
    obtain ⟨_, h⟩ := h
    split at h
    · rename_i v1 σ1 hg
      simp only [Bool.and_eq_true] at h
      obtain ⟨h1, h2, h3⟩ := h
      split at h3
      · rename_i q hq
        exact ⟨k, l, v1, σ1, rfl, tvsAsk_ok hq (allAsk_ok h3 hf), hg, h1, h2⟩
      · cases h3
    · cases h
end
theorem fOut_run {amb : Env} {s : FSig} {l : List E} {ys : List (Int × List Int)} (hv : hasAll s.vars ys) (hlen : s.vars.length ≤ l.length) (hl : ∀ (i : Nat) e, l[i]? = some e → @E.D amb e = ys.getD i (0, [])) {x : AV × St} :
    ∀ {t : WT}, t.ok s.vars = true → @Out.run amb _ (fOut s l t) = some x → ∃ (k : Nat) (lo : List E), @WT.vals (envT amb ys) t = .inr (k, lo.map (@E.D (envT amb ys))) ∧ lo.all (E.putOk s.vars) = true ∧ @Out.run amb _ (fEnd s k (lo.map (E.put s.vars l))) = some x
  | .br c t e, ht, h => by
    letI : Env := amb
    simp only [WT.ok, Bool.and_eq_true] at ht
    simp only [fOut] at h
    have hc := putAB_den hv hlen hl c ht.1
    simp only [WT.vals]
    rcases ite_some h with ⟨hb, h⟩ | ⟨hb, h⟩
    · have hb : (c.put s.vars l).den = true := hb
      rw [hc] at hb
      rw [hb]
      exact fOut_run hv hlen hl ht.2.1 h
    · have hb : (c.put s.vars l).den = false := hb
      rw [hc] at hb
      rw [hb]
      exact fOut_run hv hlen hl ht.2.2 h
  | .go _, ht, _ => by cases ht
  | .stop k lo, ht, h => ⟨k, lo, rfl, ht, h⟩
theorem ExtN.toE [Env] {ρ ρ' : Nat → Loc} {σ σ' : St} {w w' : World} (h : ExtN σ.length ρ σ w ρ' σ' w') : Ext ρ σ w ρ' σ' w' :=
  ⟨h.len, h.same, h.os, h.tape, h.output, h.size, h.keep, h.own⟩
theorem ren_pan {keep : List Nat} {v : AV} (h : v.panB = false) : (v.ren keep).panB = false := by cases v <;> first | rfl | cases h
theorem gcV_sound [Env] {n0 : Nat} {v v1 : AV} {σ σ1 : St} {ρ : Nat → Loc} {w : World} {x : Value} (h : gcV n0 v σ = some (v1, σ1)) (hr : Rel ρ σ w) (hv : ARel ρ σ.length v x) (hn : n0 ≤ σ.length) :
    v.panB = false ∧ v1.panB = false ∧ ∃ ρ1, ARel ρ1 σ1.length v1 x ∧ Rel ρ1 σ1 w ∧ ExtN n0 ρ σ w ρ1 σ1 w := by
  unfold gcV at h
  dsimp only at h
  generalize hk : List.range n0 ++ reach σ n0 1000 v.ids [] = keep at h
  have hkl : n0 ≤ keep.length := by rw [← hk]; simp
  clear hk
  split at h
  · rename_i hb
    simp only [Bool.and_eq_true, Bool.not_eq_true'] at hb
    cases h
    obtain ⟨q1, q2⟩ := part_rel hb.1 hr
    refine ⟨hb.2.2, ren_pan hb.2.2, renLoc ρ keep, ?_, q1, ⟨by simp; exact hkl, fun i hi => ?_, rfl, rfl, rfl, Nat.le_refl _, fun _ _ _ => rfl, fun i hi b hb => .inl ⟨_, (q2 i hi).2.1, (q2 i hi).2.2 b hb⟩⟩⟩
    · rw [List.length_map]; exact hv.ren
    · unfold renLoc
      have := prefixB_get n0 keep 0 hb.2.1 i hi
      rw [List.getD_eq_getElem?_getD, this]
      simp
  · cases h
theorem simAV_np {q : E → E → Bool} {a b : AV} (h : simAV q a b = true) : b.panB = false := by
  unfold simAV at h
  split at h <;> first | rfl | cases h
theorem sub_pan {p : E → E} {a : AV} : (a.sub p).panB = a.panB := by cases a <;> rfl
theorem simAs_rel {e1 e2 : Env} {q : E → E → Bool} (hq : SimOk e1 e2 q) {ρ : Nat → Loc} {n : Nat} : ∀ {a b : List AV}, simAs q a b = true → a.length = b.length ∧ ∀ (i : Nat) y, b[i]? = some y → ∃ x, a[i]? = some x ∧ ∀ v, @ARel e1 ρ n x v → @ARel e2 ρ n y v
  | [], [], _ => ⟨rfl, fun i y h => by simp at h⟩
  | [], _ :: _, h => by cases h
  | _ :: _, [], h => by cases h
  | a :: l, b :: m, h => by
    simp only [simAs, Bool.and_eq_true] at h
    obtain ⟨q1, q2⟩ := simAs_rel hq (ρ := ρ) (n := n) h.2
    refine ⟨by simp [q1], fun i y hy => ?_⟩
    cases i with
    | zero =>
      have : b = y := by simpa using hy
      subst this
      exact ⟨a, rfl, fun v hv => simAV_rel hq h.1 hv⟩
    | succ i =>
      obtain ⟨x, k1, k2⟩ := q2 i y (by simpa using hy)
      exact ⟨x, by simpa using k1, k2⟩
theorem fCon_sound {P : Program} {amb : Env} {s : FSig} {call : Env → FuncId → List AV → St → Out (AV × St)} {gh : List (Nat × E)} (hc : ∀ xs, @CallSound (envT amb xs) P (call (envT amb xs))) (hput : (s.inv.all (EB.putOk s.vars) && s.wt.ok s.vars) = true)
    (hrun : ∀ xs, @fRun (envT amb xs) (call (envT amb xs)) s = true) (hf : ∃ fn, P.funcs[s.g]? = some fn ∧ fn.body.isSome = true) : ∀ args σ v σ', @Out.run amb _ (@fCon amb s gh args σ) = some (v, σ') → @Den amb P s.g args σ v σ' := by
  letI : Env := amb
  intro args σ v σ' h
  rw [Bool.and_eq_true] at hput
  unfold fCon at h
  dsimp only at h
  generalize gh.foldl (fun m g => m.set g.1 (g.2.put s.vars m)) (bindF s args σ) = l at h
  split at h
  · rename_i hcc
    simp only [Bool.and_eq_true, decide_eq_true_eq] at hcc
    obtain ⟨hlen, hst, has⟩ := hcc
    split at h
    · rename_i q hq
      obtain ⟨g1, h⟩ := guardAll_some h
      obtain ⟨g2, h⟩ := guardAll_some h
      have hall : hasAll s.vars (l.map E.D) := tvsAsk_ok hq g1
      have hl : ∀ (i : Nat) e, l[i]? = some e → @E.D amb e = (l.map E.D).getD i (0, []) := fun i e hi => D_get rfl i e hi
      generalize hxs : l.map (@E.D amb) = xs at hall hl
      have hle := Nat.le_of_eq hlen
      have hsim := qA_ok hall hle hl
      have hinv : ∀ b ∈ s.inv, @EB.den (envT amb xs) b = true := fun b hb => by
        rw [← putAB_den hall hle hl b (List.all_eq_true.1 hput.1 b hb)]
        exact g2 (.ex (b.put s.vars l)) (List.mem_map.2 ⟨b, hb, rfl⟩)
      obtain ⟨⟨v0, σ0⟩, r1, k, lo, v1, σ1, r2, r3, r4, r5, r6⟩ := @good_ok (envT amb xs) _ _ (fun x : AV × St => ∃ k lo v1 σ1, @WT.vals (envT amb xs) s.wt = .inr (k, lo.map (@E.D (envT amb xs))) ∧ hasAll (s.os k) (lo.map (@E.D (envT amb xs))) ∧ gcV s.st.length x.1 x.2 = some (v1, σ1) ∧ simAV (qP (s.os k) lo) v1 (s.xres k) = true ∧ simSt (qP (s.os k) lo) σ1 (s.xst k) = true)
        (fun fs x hf hl => @fAsk_ok (envT amb xs) s s.wt x.1 x.2 fs hl hf) _ _ (hrun xs) (@knows_ok (envT amb xs) _ hinv)
      obtain ⟨k', lo', t2, t3, t4⟩ := fOut_run hall hle hl hput.2 h
      rw [r2] at t2
      have t2 := Sum.inr.inj t2
      obtain ⟨e1, e2⟩ := Prod.mk.inj t2
      subst e1
      have hD2 : (lo'.map (E.put s.vars l)).map (@E.D amb) = lo.map (@E.D (envT amb xs)) := by
        rw [e2, List.map_map]
        exact List.map_congr_left fun e he => putA_D hall hle hl e (List.all_eq_true.1 t3 e he)
      generalize hr : lo'.map (E.put s.vars l) = r at t4 hD2
      generalize ho : lo.map (@E.D (envT amb xs)) = o at *
      have hln : ∀ {l : List E} {e : Env}, l.map (@E.D e) = o → (s.os k).length ≤ l.length := fun {l e} h => by
        have h1 := (hasAll_get r3).1
        have h2 := congrArg List.length h
        rw [List.length_map] at h2
        omega
      have hsim1 : SimOk (envT amb xs) (envT amb o) (qP (s.os k) lo) := qP_ok amb r3 (hln ho) (D_get ho)
      have hsim2 : SimOk (envT amb o) amb (qOutA (s.os k) r) := qOutA_ok r3 (hln hD2) (D_get hD2)
      unfold fEnd at t4
      dsimp only at t4
      split at t4
      · rename_i hcc
        rw [Bool.and_eq_true] at hcc
        have t4 := Option.some.inj t4
        obtain ⟨e3, e4⟩ := Prod.mk.inj t4
        refine ⟨hf, fun ρ w vals hrel hg hva => ?_⟩
        have hsl : σ.length = s.st.length := (simSt_like hsim hst).1
        obtain ⟨a1, a2⟩ := simAs_rel hsim (ρ := ρ) (n := σ.length) has
        obtain ⟨_, hden⟩ := hc xs _ _ _ _ _ r1
        refine (hden ρ w vals (Rel.sim hsim hst hrel) (by rw [← hsl]; exact hg) ⟨a1.symm.trans hva.1, fun i y x hy hx => ?_⟩).mono fun en w' he => ?_
        · obtain ⟨z, z1, z2⟩ := a2 i y hy
          rw [← hsl]
          exact z2 x (hva.2 i z x z1 hx)
        · obtain ⟨val, ρ1, b1, b2, b3, b4⟩ := he
          obtain ⟨np0, np1, ρ2, c1, c2, c3⟩ := @gcV_sound (envT amb xs) _ _ _ _ _ _ _ _ r4 b3 b2 b4.len
          have d1 := simAV_rel hsim1 r5 c1
          have d2 := Rel.sim hsim1 r6 c2
          have l1 := (simSt_like hsim1 r6).1
          have l2 := (simSt_like hsim2 hcc.1).1
          have f1 := simAV_rel hsim2 hcc.2 d1
          have f2 := Rel.sim hsim2 hcc.1 d2
          have x1 : ExtN s.st.length ρ s.st w ρ2 σ1 w' := (b4.toN (Nat.le_refl _)).trans c3
          have x2 := ext_tmpl' hsim1 r6 x1
          have x3 := ext_tmpl' hsim2 hcc.1 x2
          have x4 := ext_tmpl hsim hst x3
          rw [← hsl] at x4
          refine ⟨val, ρ2, ?_, ?_, ?_, ?_⟩
          · unfold EndIs at b1 ⊢
            rw [np0] at b1
            have : v.panB = false := by rw [← e3, sub_pan]; exact simAV_np r5
            rw [this]; exact b1
          · rw [← e3, ← e4, ← l2, ← l1]; exact f1
          · rw [← e4]; exact f2
          · rw [← e4]; exact x4.toE
      · cases t4
    · cases h
  · cases h
/-! Contracts whose results are uninterpreted functions of the template's values, told by one run. -/
/-- an environment with functions that are told by ways and values -/
@[reducible] noncomputable def envR (rs : Nat → Option (List Int → Nat × List (Int × List Int))) (e : Env) : Env where
  val := e.val
  lst f l := match rs (f / 64) with
    | some s => ((s l).2.getD (f % 64 - 1) (0, [])).2
    | none => e.lst f l
  app f l := match rs (f / 64) with
    | some s => if f % 64 = 0 then ((s l).1 : Int) else ((s l).2.getD (f % 64 - 1) (0, [])).1
    | none => e.app f l
theorem envR_app {rs : Nat → Option (List Int → Nat × List (Int × List Int))} {e : Env} {j : Nat} {s : List Int → Nat × List (Int × List Int)} (h : rs j = some s) (l : List Int) :
    (envR rs e).app (64 * j) l = ((s l).1 : Int) ∧ ∀ i, i < 60 → (envR rs e).app (64 * j + 1 + i) l = ((s l).2.getD i (0, [])).1 ∧ (envR rs e).lst (64 * j + 1 + i) l = ((s l).2.getD i (0, [])).2 := by
  refine ⟨?_, fun i hi => ⟨?_, ?_⟩⟩
  · show (match rs (64 * j / 64) with | some s => if 64 * j % 64 = 0 then ((s l).1 : Int) else _ | none => _) = _
    rw [show 64 * j / 64 = j by omega, h]
    show (if 64 * j % 64 = 0 then ((s l).1 : Int) else _) = _
    rw [if_pos (by omega)]
  · show (match rs ((64 * j + 1 + i) / 64) with | some s => if (64 * j + 1 + i) % 64 = 0 then ((s l).1 : Int) else ((s l).2.getD ((64 * j + 1 + i) % 64 - 1) (0, [])).1 | none => _) = _
    rw [show (64 * j + 1 + i) / 64 = j by omega, h]
    show (if (64 * j + 1 + i) % 64 = 0 then ((s l).1 : Int) else ((s l).2.getD ((64 * j + 1 + i) % 64 - 1) (0, [])).1) = _
    rw [if_neg (by omega), show (64 * j + 1 + i) % 64 - 1 = i by omega]
  · show (match rs ((64 * j + 1 + i) / 64) with | some s => ((s l).2.getD ((64 * j + 1 + i) % 64 - 1) (0, [])).2 | none => _) = _
    rw [show (64 * j + 1 + i) / 64 = j by omega, h]
    show ((s l).2.getD ((64 * j + 1 + i) % 64 - 1) (0, [])).2 = _
    rw [show (64 * j + 1 + i) % 64 - 1 = i by omega]
def xEnd (s : FSig) (k : Nat) (v : AV) (σ : St) : Option (List E) :=
  match gcV s.st.length v σ with
  | some (v1, σ1) => match bAV (s.os k) (s.xres k) v1 ++ bSt (s.os k) (s.xst k) σ1 with
    | b => match (List.range (s.os k).length).map fun i => pickE b i (if ((s.os k).getD i ⟨false, 0, 0, 0⟩).isL then .nl else .num 0) with
      | l => if simAV (qP (s.os k) l) v1 (s.xres k) && (simSt (qP (s.os k) l) σ1 (s.xst k) && decide ((s.os k).length = l.length)) then some l else none
  | none => none
def xEnds (s : FSig) (v : AV) (σ : St) : Nat → Option (Nat × List E)
  | 0 => none
  | k + 1 => match xEnd s k v σ with
    | some l => some (k, l)
    | none => xEnds s v σ k
theorem xEnds_ok {s : FSig} {v : AV} {σ : St} {k : Nat} {l : List E} : ∀ {n : Nat}, xEnds s v σ n = some (k, l) → k < n ∧ xEnd s k v σ = some l
  | 0, h => by cases h
  | n + 1, h => by
    simp only [xEnds] at h
    split at h
    · rename_i l' hl
      cases h
      exact ⟨Nat.lt_succ_self _, hl⟩
    · obtain ⟨h1, h2⟩ := xEnds_ok h
      exact ⟨Nat.lt_succ_of_lt h1, h2⟩
section
variable [Env]
def fxAsk (s : FSig) (v : AV) (σ : St) (fs : List Fk) : Bool :=
  match xEnds s v σ s.nk with
  | some (k, l) => (match tvsAsk (s.os k) l with
    | some q => allAsk q fs
    | none => false)
  | none => false
noncomputable def fxRun (call : FuncId → List AV → St → Out (AV × St)) (s : FSig) (fs : List Fk) : Bool :=
  (call s.g s.args s.st).good (fun fs x => fxAsk s x.1 x.2 fs) fs
def xVals : Option (Nat × List E) → Nat × List (Int × List Int)
  | some (k, l) => (k, l.map E.D)
  | none => (0, [])
end
noncomputable def FxV (base : Env) (call : Env → FuncId → List AV → St → Out (AV × St)) (s : FSig) (xs : List (Int × List Int)) : Nat × List (Int × List Int) :=
  match @Out.run (envT base xs) _ (call (envT base xs) s.g s.args s.st) with
  | some x => @xVals (envT base xs) (xEnds s x.1 x.2 s.nk)
  | none => (0, [])
noncomputable def FxR (base : Env) (call : Env → FuncId → List AV → St → Out (AV × St)) (s : FSig) (l : List Int) : Nat × List (Int × List Int) := FxV base call s (decX s.vars l)
section
variable [Env]
def fxEnd (j : Nat) (s : FSig) (e : E) (k : Nat) : Out (AV × St) :=
  match outTs (64 * j + 1) e [] [] (s.os k) 0 with
  | r => match (s.xres k).sub (E.put (s.os k) r), (s.xst k).map (AO.sub (E.put (s.os k) r)) with
    | v, τ => if simSt (qOut (s.os k) r) (s.xst k) τ && simAV (qOut (s.os k) r) (s.xres k) v then .ok (v, τ) else .fail "function: end"
def fxEnds (j : Nat) (s : FSig) (e : E) : Nat → Nat → Out (AV × St)
  | 0, _ => .fail "ends"
  | 1, i => fxEnd j s e i
  | n + 1, i => .ite (.ex (.eq (.ap (64 * j) e 0 (s.nk : Int)) (.num (i : Int)))) (fun _ => fxEnd j s e i) (fun _ => fxEnds j s e n (i + 1))
def fxCon (j : Nat) (s : FSig) (gh : List (Nat × E)) : Con := fun args σ =>
  match gh.foldl (fun m g => m.set g.1 (g.2.put s.vars m)) (bindF s args σ) with
  | l =>
    if decide (s.vars.length = l.length) && (simSt (qIn s.vars l) σ s.st && simAs (qIn s.vars l) args s.args) then
      match tvsAsk s.vars l with
      | some q => guardAll q (guardAll (s.inv.map fun b => B.ex (b.put s.vars l)) (fxEnds j s (encTV s.vars l) s.nk 0))
      | none => .fail "function: kinds"
    else .fail "function: state"
theorem fxEnds_run {s : FSig} {e : E} {j k : Nat} (hd : E.den (.ap (64 * j) e 0 (s.nk : Int)) = (k : Int)) : ∀ {n i : Nat} {x : AV × St}, i ≤ k → k < i + n → (fxEnds j s e n i).run = some x → (fxEnd j s e k).run = some x
  | 0, i, x, h1, h2, _ => by omega
  | 1, i, x, h1, h2, h => by
    have : i = k := by omega
    subst this
    exact h
  | n + 2, i, x, h1, h2, h => by
    simp only [fxEnds] at h
    rcases ite_some h with ⟨hb, h⟩ | ⟨hb, h⟩
    · have hb : (E.den (.ap (64 * j) e 0 (s.nk : Int)) == (i : Int)) = true := hb
      rw [hd, beq_iff_eq] at hb
      have : k = i := by omega
      subst this
      exact h
    · have hb : (E.den (.ap (64 * j) e 0 (s.nk : Int)) == (i : Int)) = false := hb
      rw [hd, beq_eq_false_iff_ne] at hb
      exact fxEnds_run hd (n := n + 1) (by have : i ≠ k := fun e => hb (by rw [e]); omega) (by omega) h
end
theorem fxCon_sound {P : Program} {base amb : Env} {s : FSig} {j : Nat} {call : Env → FuncId → List AV → St → Out (AV × St)} {gh : List (Nat × E)} (hc : ∀ xs, @CallSound (envT base xs) P (call (envT base xs))) (hput : s.inv.all (EB.putC s.vars) = true)
    (hj : j < 1000000) (ho : ∀ k, (s.os k).length ≤ 60) (hrun : ∀ xs, hasAll s.vars xs → @Holds (envT base xs) (knows s.inv) → ∃ fs, @Holds (envT base xs) fs ∧ @fxRun (envT base xs) (call (envT base xs)) s fs = true) (hf : ∃ fn, P.funcs[s.g]? = some fn ∧ fn.body.isSome = true)
    (hres : ∀ l, amb.app (64 * j) l = ((FxR base call s l).1 : Int) ∧ ∀ i, i < 60 → amb.app (64 * j + 1 + i) l = ((FxR base call s l).2.getD i (0, [])).1 ∧ amb.lst (64 * j + 1 + i) l = ((FxR base call s l).2.getD i (0, [])).2) :
    ∀ args σ v σ', @Out.run amb _ (@fxCon amb j s gh args σ) = some (v, σ') → @Den amb P s.g args σ v σ' := by
  letI : Env := amb
  intro args σ v σ' h
  unfold fxCon at h
  dsimp only at h
  generalize gh.foldl (fun m g => m.set g.1 (g.2.put s.vars m)) (bindF s args σ) = l at h
  split at h
  · rename_i hcc
    simp only [Bool.and_eq_true, decide_eq_true_eq] at hcc
    obtain ⟨hlen, hst, has⟩ := hcc
    split at h
    · rename_i q hq
      obtain ⟨g1, h⟩ := guardAll_some h
      obtain ⟨g2, h⟩ := guardAll_some h
      have hall : hasAll s.vars (l.map E.D) := tvsAsk_ok hq g1
      have hl : ∀ (i : Nat) e, l[i]? = some e → @E.D amb e = (l.map E.D).getD i (0, []) := fun i e hi => D_get rfl i e hi
      have henc : (encTV s.vars l).dens = encX s.vars (l.map E.D) := encTV_dens hlen
      obtain ⟨hr1, hr2⟩ := hres (encTV s.vars l).dens
      have hFx : FxR base call s (encTV s.vars l).dens = FxV base call s (l.map E.D) := by unfold FxR; rw [henc, decX_encX hall]
      rw [hFx] at hr1 hr2
      generalize hxs : l.map (@E.D amb) = xs at hall hl hr1 hr2
      have hle := Nat.le_of_eq hlen
      have hsim := qIn_ok amb base hall hle hl
      have hinv : ∀ b ∈ s.inv, @EB.den (envT base xs) b = true := fun b hb => by
        rw [← putCB_den amb base hall hle hl b (List.all_eq_true.1 hput b hb)]
        exact g2 (.ex (b.put s.vars l)) (List.mem_map.2 ⟨b, hb, rfl⟩)
      obtain ⟨gs, hgs, hrun⟩ := hrun xs hall (@knows_ok (envT base xs) _ hinv)
      obtain ⟨⟨v0, σ0⟩, r1, k, lo, v1, σ1, r2, hk, r3, r4, r5, r6⟩ := @good_ok (envT base xs) _ _ (fun x : AV × St => ∃ k lo v1 σ1, xEnds s x.1 x.2 s.nk = some (k, lo) ∧ k < s.nk ∧ hasAll (s.os k) (lo.map (@E.D (envT base xs))) ∧ gcV s.st.length x.1 x.2 = some (v1, σ1) ∧ simAV (qP (s.os k) lo) v1 (s.xres k) = true ∧ simSt (qP (s.os k) lo) σ1 (s.xst k) = true)
        (fun fs x hf hl => by
          unfold fxAsk at hl
          split at hl
          · rename_i k lo hx
            split at hl
            · rename_i q hq
              obtain ⟨hk, hx2⟩ := xEnds_ok hx
              unfold xEnd at hx2
              split at hx2
              · rename_i v1 σ1 hg
                dsimp only at hx2
                split at hx2
                · rename_i hc
                  have hx2 := Option.some.inj hx2
                  rw [hx2] at hc
                  simp only [Bool.and_eq_true, decide_eq_true_eq] at hc
                  exact ⟨k, lo, v1, σ1, hx, hk, @tvsAsk_ok (envT base xs) _ _ _ hq (@allAsk_ok (envT base xs) _ _ hl hf), hg, hc.1, hc.2.1⟩
                · cases hx2
              · cases hx2
            · cases hl
          · cases hl) _ _ hrun hgs
      have hV : FxV base call s xs = (k, lo.map (@E.D (envT base xs))) := by
        unfold FxV
        rw [r1]
        show @xVals (envT base xs) (xEnds s v0 σ0 s.nk) = _
        rw [r2]; rfl
      rw [hV] at hr1 hr2
      generalize ho' : lo.map (@E.D (envT base xs)) = o at *
      have hol : o.length ≤ 60 := by rw [← (hasAll_get r3).1]; exact ho k
      have hkd : E.den (.ap (64 * j) (encTV s.vars l) 0 (s.nk : Int)) = (k : Int) := by
        show clampI 0 (hiA (64 * j) (s.nk : Int) (encTV s.vars l).D.2) (Env.app ((64 * j) % HB) (encTV s.vars l).D.2) = _
        rw [Nat.mod_eq_of_lt (by unfold HB; omega)]
        have h0 : amb.app (64 * j) (encTV s.vars l).D.2 = (k : Int) := hr1
        rw [h0]
        unfold hiA
        rw [if_neg (by unfold HB; omega)]
        exact clamp_eq ⟨by simp, by simp; omega⟩
      have t4 := fxEnds_run hkd (n := s.nk) (i := 0) (by omega) (by omega) h
      have hD2 : (outTs (64 * j + 1) (encTV s.vars l) [] [] (s.os k) 0).map E.D = o := outTs_D (by unfold HB; have := ho k; omega) r3 (fun q hq => by
        rw [Nat.zero_add]; exact hr2 q (by omega)) (fun q hq hqk => by cases hqk)
      unfold fxEnd at t4
      generalize outTs (64 * j + 1) (encTV s.vars l) [] [] (s.os k) 0 = r at t4 hD2
      dsimp only at t4
      have hln : ∀ {l : List E} {e : Env}, l.map (@E.D e) = o → (s.os k).length ≤ l.length := fun {l e} h => by
        have h1 := (hasAll_get r3).1
        have h2 := congrArg List.length h
        rw [List.length_map] at h2
        omega
      have hsim1 : SimOk (envT base xs) (envT base o) (qP (s.os k) lo) := qP_ok base r3 (hln ho') (D_get ho')
      have hsim2 : SimOk (envT base o) amb (qOut (s.os k) r) := qOut_ok amb base r3 (hln hD2) (D_get hD2)
      split at t4
      · rename_i hcc
        rw [Bool.and_eq_true] at hcc
        have t4 := Option.some.inj t4
        obtain ⟨e3, e4⟩ := Prod.mk.inj t4
        refine ⟨hf, fun ρ w vals hrel hg hva => ?_⟩
        have hsl : σ.length = s.st.length := (simSt_like hsim hst).1
        obtain ⟨a1, a2⟩ := simAs_rel hsim (ρ := ρ) (n := σ.length) has
        obtain ⟨_, hden⟩ := hc xs _ _ _ _ _ r1
        refine (hden ρ w vals (Rel.sim hsim hst hrel) (by rw [← hsl]; exact hg) ⟨a1.symm.trans hva.1, fun i y x hy hx => ?_⟩).mono fun en w' he => ?_
        · obtain ⟨z, z1, z2⟩ := a2 i y hy
          rw [← hsl]
          exact z2 x (hva.2 i z x z1 hx)
        · obtain ⟨val, ρ1, b1, b2, b3, b4⟩ := he
          obtain ⟨np0, np1, ρ2, c1, c2, c3⟩ := @gcV_sound (envT base xs) _ _ _ _ _ _ _ _ r4 b3 b2 b4.len
          have d1 := simAV_rel hsim1 r5 c1
          have d2 := Rel.sim hsim1 r6 c2
          have l1 := (simSt_like hsim1 r6).1
          have l2 := (simSt_like hsim2 hcc.1).1
          have f1 := simAV_rel hsim2 hcc.2 d1
          have f2 := Rel.sim hsim2 hcc.1 d2
          have x1 : ExtN s.st.length ρ s.st w ρ2 σ1 w' := (b4.toN (Nat.le_refl _)).trans c3
          have x2 := ext_tmpl' hsim1 r6 x1
          have x3 := ext_tmpl' hsim2 hcc.1 x2
          have x4 := ext_tmpl hsim hst x3
          rw [← hsl] at x4
          refine ⟨val, ρ2, ?_, ?_, ?_, ?_⟩
          · unfold EndIs at b1 ⊢
            rw [np0] at b1
            have : v.panB = false := by rw [← e3, sub_pan]; exact simAV_np r5
            rw [this]; exact b1
          · rw [← e3, ← e4, ← l2, ← l1]; exact f1
          · rw [← e4]; exact f2
          · rw [← e4]; exact x4.toE
      · cases t4
    · cases h
  · cases h
/-- a loop told by the run itself -/
noncomputable def TSig.au (s : TSig) (base : Env) (P : Program) (call : Env → FuncId → List AV → St → Out (AV × St)) (cf : Env → Cfg) (n0 id : Nat) (b : Code) : TSig :=
  { s with auto := some (autoStep base P call cf n0 id { s with auto := none } b) }
section
variable {amb base : Env} {s : TSig} {P : Program} {call : Env → FuncId → List AV → St → Out (AV × St)} {cf : Env → Cfg} {n0 id : Nat} {b : Code} {j : Nat}
theorem tEnds_au {e : E} {l : List E} : ∀ (n i : Nat), tEnds j (s.au base P call cf n0 id b) e l n i = tEnds j s e l n i
  | 0, _ => rfl
  | 1, _ => rfl
  | n + 2, i => by
    have ih := tEnds_au (e := e) (l := l) (n + 1) (i + 1)
    simp only [tEnds]
    rw [ih]
    rfl
theorem tmCon_au {gh : List (Nat × Sum Nat E)} {nf : List (Nat × Nat × Nat)} : @tmCon amb j (s.au base P call cf n0 id b) gh nf = @tmCon amb j s gh nf := by
  funext f σ
  unfold tmCon
  simp only [tEnds_au]
  rfl
end
end Go.SX
