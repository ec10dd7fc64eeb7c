/- Code: what the evaluator tells of it is what the model does. -/
import Derived.Test.YtfacghikjnjjmaaSx10
import Derived.LoopN
namespace Go.SX
open Go Go.Lib
set_option linter.unusedSectionVars false
variable [Env]

/-! Numbers anew. -/
theorem rn_get : ∀ (l : List Nat) (k i j : Nat), rn l k i = some j → k ≤ j ∧ l[j - k]? = some i
  | [], k, i, j, h => by cases h
  | x :: r, k, i, j, h => by
    simp only [rn] at h
    split at h
    · rename_i e
      cases h
      exact ⟨Nat.le_refl _, by simp [e]⟩
    · obtain ⟨h1, h2⟩ := rn_get r (k + 1) i j h
      refine ⟨by omega, ?_⟩
      rw [show j - k = (j - (k + 1)) + 1 by omega]
      simpa using h2

def renLoc (ρ : Nat → Loc) (keep : List Nat) : Nat → Loc := fun j => ρ (keep.getD j 0)

section
variable {ρ : Nat → Loc} {n : Nat} {keep : List Nat}

theorem renLoc_rn {i j : Nat} (h : rn keep 0 i = some j) : j < keep.length ∧ renLoc ρ keep j = ρ i := by
  obtain ⟨_, h2⟩ := rn_get keep 0 i j h
  rw [Nat.sub_zero] at h2
  refine ⟨(List.getElem?_eq_some_iff.1 h2).1, ?_⟩
  unfold renLoc
  rw [List.getD_eq_getElem?_getD, h2]; rfl

theorem SRel.ren {s : Sc} {v : Value} (h : SRel ρ n s v) : SRel (renLoc ρ keep) keep.length (s.ren keep) v := by
  cases s with
  | ptr id row sz fld hi =>
    simp only [Sc.ren]
    split
    · rename_i j hj
      obtain ⟨h1, h2⟩ := renLoc_rn (ρ := ρ) hj
      exact ⟨h1, by rw [h2]; exact h.2⟩
    · exact True.intro
  | sl nn id off len sz =>
    obtain ⟨o, l, q1, q2, q3, q4⟩ := h
    simp only [Sc.ren]
    split
    · rename_i j hj
      obtain ⟨h1, h2⟩ := renLoc_rn (ρ := ρ) hj
      exact ⟨o, l, q1, q2, q3, h1, by rw [h2]; exact q4.2⟩
    · exact True.intro
  | mp id =>
    simp only [Sc.ren]
    split
    · rename_i j hj
      obtain ⟨h1, h2⟩ := renLoc_rn (ρ := ρ) hj
      exact ⟨h1, by rw [h2]; exact h.2⟩
    · exact True.intro
  | _ => exact h

theorem LRel.ren {l : List Sc} {vs : List Value} (h : LRel ρ n l vs) : LRel (renLoc ρ keep) keep.length (l.map (Sc.ren keep)) vs := by
  refine ⟨by simp [h.1], fun i s v a b => ?_⟩
  rw [List.getElem?_map] at a
  obtain ⟨s', hs', rfl⟩ := Option.map_eq_some_iff.1 a
  exact (h.2 i s' v hs' b).ren

theorem PRel.ren {p : Part} {v : Value} (h : PRel ρ n p v) : PRel (renLoc ρ keep) keep.length (Part.ren keep p) v := by
  cases p with
  | inl s => exact SRel.ren (ρ := ρ) (n := n) h
  | inr l => obtain ⟨cs, e, r⟩ := h; exact ⟨cs, e, r.ren⟩
theorem ARel.ren {x : AV} {v : Value} (h : ARel ρ n x v) : ARel (renLoc ρ keep) keep.length (x.ren keep) v := by
  cases x with
  | one s => exact SRel.ren (ρ := ρ) (n := n) h
  | agg l => obtain ⟨cs, e, r⟩ := h; exact ⟨cs, e, r.ren⟩
  | tup l =>
    obtain ⟨vs, e, el, r⟩ := h
    refine ⟨vs, e, by simp [el], fun i p x a b => ?_⟩
    rw [List.getElem?_map] at a
    obtain ⟨p', hp', rfl⟩ := Option.map_eq_some_iff.1 a
    exact (r i p' x hp' b).ren
  | ifc t p => obtain ⟨x, e, r⟩ := h; exact ⟨x, e, r.ren⟩
  | pan t p => obtain ⟨x, e, r⟩ := h; exact ⟨x, e, r.ren⟩

theorem keyEq_ren {keep : List Nat} {a b : Sc} (h : keyEq a b = some false) : keyEq (a.ren keep) (b.ren keep) = some false := by
  unfold keyEq at h
  split at h
  · exact h
  · exact h
  · cases h
theorem ORel.ren {w : World} {l : Loc} {o : AO} (h : ORel ρ n w l o) : ORel (renLoc ρ keep) keep.length w l (o.ren keep) := by
  cases o with
  | dead => exact True.intro
  | row own sz c =>
    cases c with
    | vals vs =>
      refine ⟨fun hl => by simpa [Cells.len] using h.1 hl, fun hl => ⟨fun i s hi => ?_, fun ho => by simpa [Cells.len] using (h.2 hl).2 ho⟩⟩
      simp only [Cells.at, List.getElem?_map] at hi
      obtain ⟨s', hs', rfl⟩ := Option.map_eq_some_iff.1 hi
      obtain ⟨v, hv, hr⟩ := (h.2 hl).1 i s' hs'
      exact ⟨v, hv, hr.ren⟩
    | fn m ks f =>
      refine ⟨h.1, fun hl => ⟨fun i s hi => ?_, (h.2 hl).2⟩⟩
      obtain ⟨v, hv, hr⟩ := (h.2 hl).1 i s hi
      refine ⟨v, hv, ?_⟩
      simp only [Cells.at] at hi
      split at hi
      · cases hi; exact Kd.sc_rel.2 (Kd.sc_rel.1 hr)
      · cases hi
    | ex k e | tb ks e =>
      refine ⟨h.1, fun hl => ⟨fun i s hi => ?_, (h.2 hl).2⟩⟩
      obtain ⟨v, hv, hr⟩ := (h.2 hl).1 i s hi
      refine ⟨v, hv, ?_⟩
      simp only [Cells.at] at hi
      split at hi
      · cases hi; exact Kd.sc_rel.2 (Kd.sc_rel.1 hr)
      · cases hi
  | mapo es =>
    obtain ⟨hl, es', hp, hap, en, clock, h1, h2, h3⟩ := h
    refine ⟨hl, es'.map fun e => (e.1.ren keep, e.2.ren keep), hp.map _, (List.pairwise_map.2 (hap.imp fun {a b} e => keyEq_ren e)), en, clock, h1, by simp [h2], fun i k v e a b => ?_⟩
    rw [List.getElem?_map] at a
    obtain ⟨p, hp, he⟩ := Option.map_eq_some_iff.1 a
    cases he
    obtain ⟨q1, q2⟩ := h3 i p.1 p.2 e hp b
    exact ⟨q1.ren, q2.ren⟩
  | maps kk vk f => exact h
  | pmem M pg => exact h

theorem nodupB_inj : ∀ (l : List Nat), nodupB l = true → ∀ (i j x : Nat), l[i]? = some x → l[j]? = some x → i = j
  | [], _, i, j, x, h, _ => by simp at h
  | y :: r, hn, i, j, x, hi, hj => by
    simp only [nodupB, Bool.and_eq_true, Bool.not_eq_true'] at hn
    have hy : ∀ k : Nat, r[k]? = some y → False := by
      intro k hk
      have : y ∈ r := List.mem_of_getElem? hk
      have : r.contains y = true := by simpa using this
      rw [hn.1] at this
      cases this
    cases i with
    | zero =>
      cases j with
      | zero => rfl
      | succ j => simp at hi hj; subst hi; exact (hy j hj).elim
    | succ i =>
      cases j with
      | zero => simp at hi hj; subst hj; exact (hy i hi).elim
      | succ j => rw [nodupB_inj r hn.2 i j x (by simpa using hi) (by simpa using hj)]

theorem prefixB_get : ∀ (m : Nat) (l : List Nat) (k : Nat), prefixB m l k = true → ∀ i, i < m → l[i]? = some (k + i)
  | 0, _, _, _, i, hi => by omega
  | m + 1, [], _, h, _, _ => by cases h
  | m + 1, x :: r, k, h, i, hi => by
    simp only [prefixB, Bool.and_eq_true, beq_iff_eq] at h
    cases i with
    | zero => simp [h.1]
    | succ i =>
      have := prefixB_get m r (k + 1) h.2 i (by omega)
      rw [List.getElem?_cons_succ, this]
      congr 1
      omega

theorem fresh_get : ∀ (k i : Nat), (F.fresh k).getN i = .one .any
  | 0, _ => rfl
  | k + 1, i => by
    rw [F.fresh, F.getN_node]
    split
    · rfl
    · split
      · exact fresh_get k _
      · exact fresh_get k _
theorem freshF_get (m d i : Nat) : (Fr.mk m (F.fresh d)).get i = .one .any := by
  rw [Fr.get_eq]
  split
  · exact fresh_get d i
  · rfl

theorem liveF_n (f : Fr) : ∀ (lv : List Nat) (g : Fr), (liveF keep f lv g).n = g.n
  | [], g => rfl
  | t :: r, g => by rw [liveF, liveF_n f r, Fr.set_n]
theorem liveF_get (f : Fr) : ∀ (lv : List Nat) (g : Fr) (s : Nat), (liveF keep f lv g).get s = g.get s ∨ (liveF keep f lv g).get s = (f.get s).ren keep ∨ (liveF keep f lv g).get s = .one .any
  | [], g, s => .inl rfl
  | t :: r, g, s => by
    rw [liveF]
    rcases liveF_get f r (g.set t ((f.get t).ren keep)) s with h | h | h
    · by_cases e : s = t
      · subst e
        rcases Fr.get_set_eq g s ((f.get s).ren keep) with h' | h'
        · exact .inr (.inl (h.trans h'))
        · exact .inr (.inr (h.trans h'))
      · rw [Fr.get_set_ne _ _ e] at h
        exact .inl h
    · exact .inr (.inl h)
    · exact .inr (.inr h)

theorem AO.ren_dead {o : AO} (h : o.ren keep ≠ .dead) : o ≠ .dead := by
  intro e; subst e; exact h rfl
theorem AO.ren_own {o : AO} : (o.ren keep).own = o.own := by
  cases o <;> first | rfl | (rename_i c; cases c <;> rfl)
theorem AO.ren_foot {o : AO} {w : World} {l : Loc} {b : Nat} : foot w l (o.ren keep) b ↔ foot w l o b := by
  cases o <;> first
    | exact Iff.rfl
    | (rw [foot_row (fun _ _ e => by cases e), foot_row (fun _ _ e => by cases e)])
    | (rename_i c; cases c <;> (rw [foot_row (fun _ _ e => by cases e), foot_row (fun _ _ e => by cases e)]))

theorem gcE_sound {n0 d : Nat} {lv : List Nat} {f f' : Fr} {σ σ' : St} {a : Act} {w : World} (h : gcE n0 lv f σ d = some (f', σ')) (hat : At ρ f σ a w) : ∃ ρ', At ρ' f' σ' a w ∧ ExtN n0 ρ σ w ρ' σ' w := by
  unfold gcE at h
  dsimp only at h
  generalize hk : List.range n0 ++ reach σ n0 1000 (lv.flatMap fun t => (f.get t).ids) [] = keep at h
  have hkl : n0 ≤ keep.length := by rw [← hk]; simp
  clear hk
  split at h
  · rename_i hb
    simp only [Bool.and_eq_true] at hb
    cases h
    have hgd : ∀ i, i < keep.length → keep[i]? = some (keep.getD i 0) := by
      intro i hi
      rw [List.getD_eq_getElem?_getD, List.getElem?_eq_getElem hi]; rfl
    have hat' : ∀ i, St.at (keep.map fun i => (σ.at i).ren keep) i = if i < keep.length then (σ.at (keep.getD i 0)).ren keep else .dead := by
      intro i
      have e1 : St.at (keep.map fun i => (σ.at i).ren keep) i = ((keep.map fun i => (σ.at i).ren keep)[i]?).getD .dead := List.getD_eq_getElem?_getD
      rw [e1, List.getElem?_map]
      by_cases hi : i < keep.length
      · rw [if_pos hi, hgd i hi]; rfl
      · rw [if_neg hi, List.getElem?_eq_none (by omega)]; rfl
    have hlen : (keep.map fun i => (σ.at i).ren keep).length = keep.length := by simp
    have husd : ∀ i, used (renLoc ρ keep) (keep.map fun i => (σ.at i).ren keep) i → i < keep.length ∧ used ρ σ (keep.getD i 0) := by
      intro i hu
      have h2 := hu.2
      rw [hat'] at h2
      by_cases hi : i < keep.length
      · rw [if_pos hi] at h2
        exact ⟨hi, hu.1, AO.ren_dead h2⟩
      · rw [if_neg hi] at h2; exact absurd rfl h2
    have hown : ∀ i, owned (renLoc ρ keep) (keep.map fun i => (σ.at i).ren keep) i → owned ρ σ (keep.getD i 0) := by
      intro i ho
      obtain ⟨hi, _⟩ := husd i ho.used
      refine ⟨ho.1, ?_⟩
      have h2 := ho.2
      rw [hat', if_pos hi, AO.ren_own] at h2
      exact h2
    have hft : ∀ i, i < keep.length → ∀ b, foot w (renLoc ρ keep i) (St.at (keep.map fun i => (σ.at i).ren keep) i) b → foot w (ρ (keep.getD i 0)) (σ.at (keep.getD i 0)) b := by
      intro i hi b hb
      rw [hat', if_pos hi] at hb
      exact AO.ren_foot.1 hb
    have hgl : GlOk ρ σ.length → GlOk (renLoc ρ keep) keep.length := fun hgl g id hg => by
      obtain ⟨h1, h2⟩ := hgl g id hg
      have h3 := List.all_eq_true.1 hb.2.2 _ (gmapOf_mem hg)
      have h3 : id < n0 := of_decide_eq_true h3
      refine ⟨by omega, ?_⟩
      have h4 : renLoc ρ keep id = ρ id := by
        unfold renLoc
        have := prefixB_get n0 keep 0 hb.2.1 id h3
        rw [List.getD_eq_getElem?_getD, this]
        simp
      rw [h4]; exact h2
    refine ⟨renLoc ρ keep, ⟨⟨?_, fun s => ?_, ?_⟩, ⟨fun i => ?_, fun i j hij ho hu b hb1 hb2 => ?_, fun i hu => ?_⟩⟩, ⟨by rw [hlen]; exact hkl, fun i hi => ?_, rfl, rfl, rfl, Nat.le_refl _, fun _ _ _ => rfl, fun i hi b hb => .inl ⟨_, hown i hi, hft i (husd i hi.used).1 b hb⟩⟩⟩
    · rw [liveF_n]; exact hat.fr.1
    · rw [hlen]
      rcases liveF_get (keep := keep) f lv ⟨f.n, F.fresh d⟩ s with e | e | e
      · rw [e, freshF_get]; exact ARel.any
      · rw [e]; exact (hat.fr.2.1 s).ren
      · rw [e]; exact ARel.any
    · rw [hlen]; exact hgl hat.fr.2.2
    · rw [hlen, hat']
      split
      · exact (hat.rel.obj _).ren
      · exact True.intro
    · obtain ⟨hi, _⟩ := husd i ho.used
      obtain ⟨hj, hu'⟩ := husd j hu
      refine hat.rel.sep _ _ (fun e => hij ?_) (hown i ho) hu' b (hft i hi b hb1) (hft j hj b hb2)
      exact nodupB_inj keep hb.1 i j _ (hgd i hi) (by rw [hgd j hj, e])
    · exact hat.rel.bnd _ (husd i hu).2
    · unfold renLoc
      have := prefixB_get n0 keep 0 hb.2.1 i hi
      rw [List.getD_eq_getElem?_getD, this]
      simp
  · cases h
end


def toE : Ex → Exit
  | .normal => .normal
  | .exit i => .exit i
  | .ret => .ret
  | .pan _ _ => .normal

section
variable {P : Program} {call : FuncId → List AV → St → Out (AV × St)} {cf : Cfg} {n0 : Nat}

/-- what is told of code: where the run goes on from -/
def Then (D : Nat → Bool) (n0 : Nat) (ρ : Nat → Loc) (σ : St) (a : Act) (w : World) (e : Ex) (f' : Fr) (σ' : St) (Q : Exit → Act → World → Prop) : Prop :=
  ∀ ρ' a' w', At ρ' f' σ' a' w' → ExtN n0 ρ σ w ρ' σ' w' → Stay D a a' → ExPost Q e ρ' σ'.length a' w'

/-- a loop's law -/
def LoopOk (P : Program) (n0 : Nat) (b : Code) (g : Fr → St → Out (Ex × Fr × St)) : Prop :=
  ∀ f σ e f' σ', (g f σ).run = some (e, f', σ') → ∀ (D : Nat → Bool) (ρ : Nat → Loc) (a : Act) (w : World) (Q : Exit → Act → World → Prop), codeD D b = true → n0 ≤ σ.length → At ρ f σ a w → Then D n0 ρ σ a w e f' σ' Q → (Code.loop b).wp P Q a w

def LoopsOk (P : Program) (cf : Cfg) (n0 : Nat) : Code → Prop
  | .seq a b => LoopsOk P cf n0 a ∧ LoopsOk P cf n0 b
  | .cond _ a b => LoopsOk P cf n0 a ∧ LoopsOk P cf n0 b
  | .block _ b => LoopsOk P cf n0 b
  | .loop b => LoopsOk P cf n0 b ∧ (∀ g, cf.lc (firstRegion b) = some g → LoopOk P n0 b g) ∧ Holds cf.fs
  | _ => True

theorem LoopsOk.none (h : ∀ i, cf.lc i = Option.none) (c : Code) (hf : Holds cf.fs := by intro f h; cases h) : LoopsOk P cf n0 c := by
  induction c with
  | seq a b ha hb => exact ⟨ha, hb⟩
  | cond _ a b ha hb => exact ⟨ha, hb⟩
  | block _ b hb => exact hb
  | loop b hb => exact ⟨hb, fun g hg => (by rw [h] at hg; cases hg), hf⟩
  | _ => exact True.intro

theorem tidy_sound {id : Nat} {f f' : Fr} {σ σ' : St} {ρ : Nat → Loc} {a : Act} {w : World} (h : tidy cf n0 id f σ = some (f', σ')) (hn : n0 ≤ σ.length) (hat : At ρ f σ a w) : ∃ ρ', At ρ' f' σ' a w ∧ ExtN n0 ρ σ w ρ' σ' w := by
  unfold tidy at h
  split at h
  · exact gcE_sound h hat
  · cases h; exact ⟨ρ, hat, ExtN.refl _ _ _ hn⟩

end
end Go.SX
