/- A call that reaches a part of the state alone: run in that part, and put back (the rule of frames). -/
import Derived.Test.YtfacghikjnjjmaaSxY
namespace Go.SX
open Go Go.Lib
set_option linter.unusedSectionVars false
def Sc.mv (u : Nat → Nat) : Sc → Sc
  | .ptr id row sz fld hi => .ptr (u id) row sz fld hi
  | .sl nn id off len sz => .sl nn (u id) off len sz
  | .mp id => .mp (u id)
  | s => s
def Part.mv (u : Nat → Nat) : Part → Part
  | .inl s => .inl (s.mv u)
  | .inr l => .inr (l.map (Sc.mv u))
def AV.mv (u : Nat → Nat) : AV → AV
  | .one s => .one (s.mv u)
  | .agg l => .agg (l.map (Sc.mv u))
  | .tup l => .tup (l.map (Part.mv u))
  | .ifc t p => .ifc t (Part.mv u p)
  | .pan t p => .pan t (Part.mv u p)
def AO.mv (u : Nat → Nat) : AO → AO
  | .row own sz (.vals l) => .row own sz (.vals (l.map (Sc.mv u)))
  | .mapo es => .mapo (es.map fun e => (e.1.mv u, e.2.mv u))
  | o => o
/-- where the k-th of a part comes to lie -/
def up (n : Nat) (ids : List Nat) (k : Nat) : Nat := if k < ids.length then ids.getD k 0 else n + (k - ids.length)
def oneOk (old : Option AO) (o : AO) : Bool :=
  match o with
  | .row false _ _ => match old with
    | some (.row _ _ _) => true
    | _ => false
  | _ => true
def frOk (τ τ' : St) : Bool := (List.range τ'.length).all fun k => oneOk τ[k]? (τ'.at k)
def mergeSt (ids : List Nat) (σ τ' : St) : St :=
  ((List.range σ.length).map fun i => match rn ids 0 i with
    | some k => (τ'.at k).mv (up σ.length ids)
    | none => σ.at i) ++ (τ'.drop ids.length).map (AO.mv (up σ.length ids))
section
variable [Env]
section
variable {ρ ρ' : Nat → Loc} {n m : Nat} {u : Nat → Nat}
theorem SRel.mv (hu : ∀ k, k < n → u k < m ∧ ρ' (u k) = ρ k) {s : Sc} {v : Value} (h : SRel ρ n s v) : SRel ρ' m (s.mv u) v := by
  cases s with
  | ptr id row sz fld hi =>
    obtain ⟨h1, h2⟩ := hu id h.1
    exact ⟨h1, by rw [h2]; exact h.2⟩
  | sl nn id off len sz =>
    obtain ⟨o, l, q1, q2, q3, q4⟩ := h
    obtain ⟨h1, h2⟩ := hu id q4.1
    exact ⟨o, l, q1, q2, q3, h1, by rw [h2]; exact q4.2⟩
  | mp id =>
    obtain ⟨h1, h2⟩ := hu id h.1
    exact ⟨h1, by rw [h2]; exact h.2⟩
  | _ => exact h
theorem LRel.mv (hu : ∀ k, k < n → u k < m ∧ ρ' (u k) = ρ k) {l : List Sc} {vs : List Value} (h : LRel ρ n l vs) : LRel ρ' m (l.map (Sc.mv u)) vs := by
  refine ⟨by simp [h.1], fun i s v a b => ?_⟩
  rw [List.getElem?_map] at a
  obtain ⟨s', hs', rfl⟩ := Option.map_eq_some_iff.1 a
  exact (h.2 i s' v hs' b).mv hu
theorem PRel.mv (hu : ∀ k, k < n → u k < m ∧ ρ' (u k) = ρ k) {p : Part} {v : Value} (h : PRel ρ n p v) : PRel ρ' m (Part.mv u p) v := by
  cases p with
  | inl s => exact SRel.mv (ρ := ρ) (n := n) hu h
  | inr l => obtain ⟨cs, e, r⟩ := h; exact ⟨cs, e, r.mv hu⟩
theorem ARel.mv (hu : ∀ k, k < n → u k < m ∧ ρ' (u k) = ρ k) {x : AV} {v : Value} (h : ARel ρ n x v) : ARel ρ' m (x.mv u) v := by
  cases x with
  | one s => exact SRel.mv (ρ := ρ) (n := n) hu h
  | agg l => obtain ⟨cs, e, r⟩ := h; exact ⟨cs, e, r.mv hu⟩
  | tup l =>
    obtain ⟨vs, e, el, r⟩ := h
    refine ⟨vs, e, by simp [el], fun i p x a b => ?_⟩
    rw [List.getElem?_map] at a
    obtain ⟨p', hp', rfl⟩ := Option.map_eq_some_iff.1 a
    exact (r i p' x hp' b).mv hu
  | ifc t p => obtain ⟨x, e, r⟩ := h; exact ⟨x, e, r.mv hu⟩
  | pan t p => obtain ⟨x, e, r⟩ := h; exact ⟨x, e, r.mv hu⟩
theorem keyEq_mv {a b : Sc} (h : keyEq a b = some false) : keyEq (a.mv u) (b.mv u) = some false := by
  unfold keyEq at h
  split at h
  · exact h
  · exact h
  · cases h
theorem ORel.mv (hu : ∀ k, k < n → u k < m ∧ ρ' (u k) = ρ k) {w : World} {l : Loc} {o : AO} (h : ORel ρ n w l o) : ORel ρ' m w l (o.mv u) := by
  cases o with
  | dead => exact True.intro
  | row own sz c =>
    cases c with
    | vals vs =>
      refine ⟨fun hl => by simpa [Cells.len] using h.1 hl, fun hl => ⟨fun i s hi => ?_, fun ho => by simpa [Cells.len] using (h.2 hl).2 ho⟩⟩
      simp only [Cells.at, List.getElem?_map] at hi
      obtain ⟨s', hs', rfl⟩ := Option.map_eq_some_iff.1 hi
      obtain ⟨v, hv, hr⟩ := (h.2 hl).1 i s' hs'
      exact ⟨v, hv, hr.mv hu⟩
    | fn q ks f | ex k e | tb ks e =>
      refine ⟨h.1, fun hl => ⟨fun i s hi => ?_, (h.2 hl).2⟩⟩
      obtain ⟨v, hv, hr⟩ := (h.2 hl).1 i s hi
      refine ⟨v, hv, ?_⟩
      simp only [Cells.at] at hi
      split at hi
      · cases hi; exact Kd.sc_rel.2 (Kd.sc_rel.1 hr)
      · cases hi
  | mapo es =>
    obtain ⟨hl, es', hp, hap, en, clock, h1, h2, h3⟩ := h
    refine ⟨hl, es'.map fun e => (e.1.mv u, e.2.mv u), hp.map _, (List.pairwise_map.2 (hap.imp fun {a b} e => keyEq_mv e)), en, clock, h1, by simp [h2], fun i k v e a b => ?_⟩
    rw [List.getElem?_map] at a
    obtain ⟨p, hp, he⟩ := Option.map_eq_some_iff.1 a
    cases he
    obtain ⟨q1, q2⟩ := h3 i p.1 p.2 e hp b
    exact ⟨q1.mv hu, q2.mv hu⟩
  | maps kk vk f => exact h
  | pmem M pg => exact h
theorem AO.mv_dead {o : AO} (h : o.mv u ≠ .dead) : o ≠ .dead := by
  intro e; subst e; exact h rfl
theorem AO.mv_own {o : AO} : (o.mv u).own = o.own := by
  cases o <;> first | rfl | (rename_i c; cases c <;> rfl)
theorem AO.mv_foot {o : AO} {w : World} {l : Loc} {b : Nat} : foot w l (o.mv u) b ↔ foot w l o b := by
  cases o <;> first
    | exact Iff.rfl
    | (rw [foot_row (fun _ _ e => by cases e), foot_row (fun _ _ e => by cases e)])
    | (rename_i c; cases c <;> (rw [foot_row (fun _ _ e => by cases e), foot_row (fun _ _ e => by cases e)]))
theorem AV.mv_pan {x : AV} : (x.mv u).panB = x.panB := by cases x <;> rfl
end
/-- a part of a state -/
theorem part_rel {ρ : Nat → Loc} {σ : St} {w : World} {keep : List Nat} (hb : nodupB keep = true) (hat : Rel ρ σ w) :
    Rel (renLoc ρ keep) (keep.map fun i => (σ.at i).ren keep) w ∧ (∀ i, owned (renLoc ρ keep) (keep.map fun i => (σ.at i).ren keep) i → i < keep.length ∧ owned ρ σ (keep.getD i 0) ∧ ∀ b, foot w (renLoc ρ keep i) (St.at (keep.map fun i => (σ.at i).ren keep) i) b → foot w (ρ (keep.getD i 0)) (σ.at (keep.getD i 0)) b) := by
  have hgd : ∀ i, i < keep.length → keep[i]? = some (keep.getD i 0) := by
    intro i hi
    rw [List.getD_eq_getElem?_getD, List.getElem?_eq_getElem hi]; rfl
  have hat' : ∀ i, St.at (keep.map fun i => (σ.at i).ren keep) i = if i < keep.length then (σ.at (keep.getD i 0)).ren keep else .dead := by
    intro i
    have e1 : St.at (keep.map fun i => (σ.at i).ren keep) i = ((keep.map fun i => (σ.at i).ren keep)[i]?).getD .dead := List.getD_eq_getElem?_getD
    rw [e1, List.getElem?_map]
    by_cases hi : i < keep.length
    · rw [if_pos hi, hgd i hi]; rfl
    · rw [if_neg hi, List.getElem?_eq_none (by omega)]; rfl
  have hlen : (keep.map fun i => (σ.at i).ren keep).length = keep.length := by simp
  have husd : ∀ i, used (renLoc ρ keep) (keep.map fun i => (σ.at i).ren keep) i → i < keep.length ∧ used ρ σ (keep.getD i 0) := by
    intro i hu
    have h2 := hu.2
    rw [hat'] at h2
    by_cases hi : i < keep.length
    · rw [if_pos hi] at h2
      exact ⟨hi, hu.1, AO.ren_dead h2⟩
    · rw [if_neg hi] at h2; exact absurd rfl h2
  have hown : ∀ i, owned (renLoc ρ keep) (keep.map fun i => (σ.at i).ren keep) i → owned ρ σ (keep.getD i 0) := by
    intro i ho
    obtain ⟨hi, _⟩ := husd i ho.used
    refine ⟨ho.1, ?_⟩
    have h2 := ho.2
    rw [hat', if_pos hi, AO.ren_own] at h2
    exact h2
  have hft : ∀ i, i < keep.length → ∀ b, foot w (renLoc ρ keep i) (St.at (keep.map fun i => (σ.at i).ren keep) i) b → foot w (ρ (keep.getD i 0)) (σ.at (keep.getD i 0)) b := by
    intro i hi b hb
    rw [hat', if_pos hi] at hb
    exact AO.ren_foot.1 hb
  refine ⟨⟨fun i => ?_, fun i j hij ho hu b hb1 hb2 => ?_, fun i hu => ?_⟩, fun i ho => ⟨(husd i ho.used).1, hown i ho, hft i (husd i ho.used).1⟩⟩
  · rw [hlen, hat']
    split
    · exact (hat.obj _).ren
    · exact True.intro
  · obtain ⟨hi, _⟩ := husd i ho.used
    obtain ⟨hj, hu'⟩ := husd j hu
    refine hat.sep _ _ (fun e => hij ?_) (hown i ho) hu' b (hft i hi b hb1) (hft j hj b hb2)
    exact nodupB_inj keep hb i j _ (hgd i hi) (by rw [hgd j hj, e])
  · exact hat.bnd _ (husd i hu).2
theorem rn_some : ∀ {l : List Nat} {k i : Nat}, (∃ p : Nat, l[p]? = some i) → ∃ j, rn l k i = some j
  | [], k, i, ⟨p, h⟩ => by simp at h
  | x :: r, k, i, ⟨p, h⟩ => by
    simp only [rn]
    split
    · exact ⟨k, rfl⟩
    · rename_i hne
      cases p with
      | zero => exact absurd (by simpa using h) hne
      | succ p => exact rn_some ⟨p, by simpa using h⟩
theorem merge_at {ids : List Nat} {σ τ' : St} (hl : ids.length ≤ τ'.length) (i : Nat) : (mergeSt ids σ τ').at i = if i < σ.length then (match rn ids 0 i with | some k => (τ'.at k).mv (up σ.length ids) | none => σ.at i) else (τ'.at (ids.length + (i - σ.length))).mv (up σ.length ids) := by
  unfold mergeSt
  show (List.getD _ i AO.dead) = _
  rw [List.getD_eq_getElem?_getD, List.getElem?_append]
  simp only [List.length_map, List.length_range]
  by_cases hi : i < σ.length
  · rw [if_pos hi, if_pos hi, List.getElem?_map, List.getElem?_range hi]; rfl
  · rw [if_neg hi, if_neg hi, List.getElem?_map, List.getElem?_drop]
    show Option.getD (Option.map _ τ'[ids.length + (i - σ.length)]?) AO.dead = (List.getD τ' (ids.length + (i - σ.length)) AO.dead).mv _
    rw [List.getD_eq_getElem?_getD]
    cases τ'[ids.length + (i - σ.length)]? <;> rfl
theorem merge_len {ids : List Nat} {σ τ' : St} : (mergeSt ids σ τ').length = σ.length + (τ'.length - ids.length) := by
  unfold mergeSt; simp
/-- the rule -/
theorem partM_rel {ρ ρ1 : Nat → Loc} {σ τ' : St} {w w' : World} {ids : List Nat} (hnd : nodupB ids = true) (hlt : ∀ i ∈ ids, i < σ.length) (hr : Rel ρ σ w) (hr1 : Rel ρ1 τ' w') (hx : Ext (renLoc ρ ids) (ids.map fun i => (σ.at i).ren ids) w ρ1 τ' w') (hok : frOk (ids.map fun i => (σ.at i).ren ids) τ' = true) :
    ∃ ρ2, (∀ k, k < τ'.length → up σ.length ids k < (mergeSt ids σ τ').length ∧ ρ2 (up σ.length ids k) = ρ1 k) ∧ Rel ρ2 (mergeSt ids σ τ') w' ∧ Ext ρ σ w ρ2 (mergeSt ids σ τ') w' := by
  obtain ⟨hrel, hown⟩ := part_rel hnd hr
  have hlen : (ids.map fun i => (σ.at i).ren ids).length = ids.length := by simp
  have hl : ids.length ≤ τ'.length := by rw [← hlen]; exact hx.len
  have hgd : ∀ i, i < ids.length → ids[i]? = some (ids.getD i 0) := by
    intro i hi
    rw [List.getD_eq_getElem?_getD, List.getElem?_eq_getElem hi]; rfl
  have hsame : ∀ k, k < ids.length → ρ1 k = ρ (ids.getD k 0) := fun k hk => hx.same k (by rw [hlen]; exact hk)
  have hil : ∀ k, k < ids.length → ids.getD k 0 < σ.length := fun k hk => hlt _ (List.mem_of_getElem? (hgd k hk))
  have hrn : ∀ {i k : Nat}, rn ids 0 i = some k → k < ids.length ∧ ids.getD k 0 = i := fun h => by
    obtain ⟨_, h2⟩ := rn_get ids 0 _ _ h
    rw [Nat.sub_zero] at h2
    exact ⟨(List.getElem?_eq_some_iff.1 h2).1, by rw [List.getD_eq_getElem?_getD, h2]; rfl⟩
  have hno : ∀ {i : Nat}, rn ids 0 i = none → ∀ k, k < ids.length → ids.getD k 0 ≠ i := fun h k hk e => by
    obtain ⟨j, hj⟩ := rn_some (l := ids) (k := 0) (i := ids.getD k 0) ⟨k, hgd k hk⟩
    rw [e, h] at hj; cases hj
  let ρ2 : Nat → Loc := fun i => if i < σ.length then ρ i else ρ1 (ids.length + (i - σ.length))
  have hu : ∀ k, k < τ'.length → up σ.length ids k < (mergeSt ids σ τ').length ∧ ρ2 (up σ.length ids k) = ρ1 k := by
    intro k hk
    rw [merge_len]
    unfold up
    by_cases h : k < ids.length
    · rw [if_pos h]
      have := hil k h
      refine ⟨by omega, ?_⟩
      show (if _ then _ else _) = _
      rw [if_pos this, hsame k h]
    · rw [if_neg h]
      refine ⟨by omega, ?_⟩
      show (if _ then _ else _) = _
      rw [if_neg (by omega)]
      congr 1
      omega
  -- where an index comes from
  have src : ∀ i, (∃ k, ρ2 i = ρ1 k ∧ (mergeSt ids σ τ').at i = (τ'.at k).mv (up σ.length ids) ∧ (∀ j, i = j → True) ∧ (k < ids.length → ids.getD k 0 = i) ∧ (i < σ.length → k < ids.length) ∧ (σ.length ≤ i → k = ids.length + (i - σ.length))) ∨ (i < σ.length ∧ ρ2 i = ρ i ∧ (mergeSt ids σ τ').at i = σ.at i ∧ ∀ k, k < ids.length → ids.getD k 0 ≠ i) := by
    intro i
    by_cases hi : i < σ.length
    · cases hrni : rn ids 0 i with
      | some k =>
        obtain ⟨h1, h2⟩ := hrn hrni
        refine .inl ⟨k, ?_, ?_, fun _ _ => True.intro, fun _ => h2, fun _ => h1, fun h => by omega⟩
        · show (if _ then _ else _) = _
          rw [if_pos hi, hsame k h1, h2]
        · rw [merge_at hl, if_pos hi, hrni]
      | none =>
        refine .inr ⟨hi, ?_, ?_, hno hrni⟩
        · show (if _ then _ else _) = _
          rw [if_pos hi]
        · rw [merge_at hl, if_pos hi, hrni]
    · refine .inl ⟨ids.length + (i - σ.length), ?_, ?_, fun _ _ => True.intro, fun h => by omega, fun h => by omega, fun _ => rfl⟩
      · show (if _ then _ else _) = _
        rw [if_neg hi]
      · rw [merge_at hl, if_neg hi]
  -- blocks of what stays
  have stay : ∀ i, used ρ σ i → (∀ k, k < ids.length → ids.getD k 0 ≠ i) → ∀ b, foot w (ρ i) (σ.at i) b → w'.heap[b]? = w.heap[b]? := by
    intro i hu hn b hb
    refine hx.keep b (hr.fbnd hu hb) fun k hk hf => ?_
    obtain ⟨h1, h2, h3⟩ := hown k hk
    exact hr.sep _ i (hn k h1) h2 hu b (h3 b hf) hb
  have footS : ∀ i, used ρ σ i → (∀ k, k < ids.length → ids.getD k 0 ≠ i) → ∀ b, foot w' (ρ i) (σ.at i) b ↔ foot w (ρ i) (σ.at i) b := fun i hu hn b => foot_keep (stay i hu hn _ (foot_block _ _ _))
  have usedK : ∀ {i k : Nat}, ρ2 i = ρ1 k → (mergeSt ids σ τ').at i = (τ'.at k).mv (up σ.length ids) → used ρ2 (mergeSt ids σ τ') i → used ρ1 τ' k := fun e1 e2 h => ⟨by rw [← e1]; exact h.1, AO.mv_dead (by rw [← e2]; exact h.2)⟩
  have ownK : ∀ {i k : Nat}, ρ2 i = ρ1 k → (mergeSt ids σ τ').at i = (τ'.at k).mv (up σ.length ids) → owned ρ2 (mergeSt ids σ τ') i → owned ρ1 τ' k := fun e1 e2 h => ⟨by rw [← e1]; exact h.1, by rw [← AO.mv_own (u := up σ.length ids), ← e2]; exact h.2⟩
  have usedS : ∀ {i : Nat}, ρ2 i = ρ i → (mergeSt ids σ τ').at i = σ.at i → used ρ2 (mergeSt ids σ τ') i → used ρ σ i := fun e1 e2 h => ⟨by rw [← e1]; exact h.1, by rw [← e2]; exact h.2⟩
  have ownS : ∀ {i : Nat}, ρ2 i = ρ i → (mergeSt ids σ τ').at i = σ.at i → owned ρ2 (mergeSt ids σ τ') i → owned ρ σ i := fun e1 e2 h => ⟨by rw [← e1]; exact h.1, by rw [← e2]; exact h.2⟩
  -- an object of the part apart from one that stays
  have apart : ∀ k j, used ρ1 τ' k → used ρ σ j → (owned ρ1 τ' k ∨ owned ρ σ j) → (∀ q, q < ids.length → ids.getD q 0 ≠ j) → ∀ b, foot w' (ρ1 k) (τ'.at k) b → ¬ foot w (ρ j) (σ.at j) b := by
    intro k j hk hj hor hn b hb1 hb2
    by_cases ho : (τ'.at k).own = true
    · rcases hx.own k ⟨hk.1, ho⟩ b hb1 with ⟨q, hq, hf⟩ | hge
      · obtain ⟨h1, h2, h3⟩ := hown q hq
        exact hr.sep _ j (hn q h1) h2 hj b (h3 b hf) hb2
      · have := hr.fbnd hj hb2
        omega
    · rcases hor with h | hoj
      · exact ho h.2
      · have hkl : k < τ'.length := hk.lt
        have h1 := List.all_eq_true.1 hok k (List.mem_range.2 hkl)
        cases ht : τ'.at k with
        | dead => exact hk.2 ht
        | mapo es => rw [ht] at ho; exact ho rfl
        | maps a c d => rw [ht] at ho; exact ho rfl
        | pmem M pg => rw [ht] at ho; exact ho rfl
        | row own sz c =>
          cases own with
          | true => rw [ht] at ho; exact ho rfl
          | false =>
            rw [ht] at h1
            simp only [oneOk] at h1
            split at h1
            · rename_i o' sz' c' hold
              rw [List.getElem?_map] at hold
              obtain ⟨i0, hi0, hre⟩ := Option.map_eq_some_iff.1 hold
              have hkl2 : k < ids.length := (List.getElem?_eq_some_iff.1 hi0).1
              have e0 : ids.getD k 0 = i0 := by rw [List.getD_eq_getElem?_getD, hi0]; rfl
              have hnd0 : σ.at i0 ≠ .dead := fun e => by rw [e] at hre; cases hre
              have hb1' : b = (ρ1 k).block := by rw [ht, foot_row (fun _ _ e => by cases e)] at hb1; exact hb1
              have hu0 : used ρ σ i0 := ⟨by rw [← e0, ← hsame k hkl2]; exact hk.1, hnd0⟩
              have hne : j ≠ i0 := fun e => hn k hkl2 (by rw [e0, e])
              refine hr.sep j i0 hne hoj hu0 b hb2 ?_
              rw [hb1', hsame k hkl2, e0]
              exact foot_block _ _ _
            · cases h1
  refine ⟨ρ2, hu, ⟨fun i => ?_, fun i j hij ho hus b hb1 hb2 => ?_, fun i hus => ?_⟩, ⟨by rw [merge_len]; omega, fun i hi => ?_, hx.os, hx.tape, hx.output, hx.size, fun b hb hn => ?_, fun i ho b hb => ?_⟩⟩
  · rcases src i with ⟨k, e1, e2, _⟩ | ⟨hi, e1, e2, hn⟩
    · rw [e1, e2]
      exact (hr1.obj k).mv hu
    · rw [e1, e2]
      refine (hr.obj i).mono (fun q hq => ?_) (by rw [merge_len]; omega) fun hl hd b hb => stay i ⟨hl, hd⟩ hn b hb
      show (if _ then _ else _) = _
      rw [if_pos hq]
  · rcases src i with ⟨k, e1, e2, _, e3, e4, e5⟩ | ⟨hi, e1, e2, hn⟩
    · rcases src j with ⟨q, d1, d2, _, d3, d4, d5⟩ | ⟨hj, d1, d2, hm⟩
      · rw [e1, e2, AO.mv_foot] at hb1
        rw [d1, d2, AO.mv_foot] at hb2
        refine hr1.sep k q (fun e => hij ?_) (ownK e1 e2 ho) (usedK d1 d2 hus) b hb1 hb2
        subst e
        rcases Nat.lt_or_ge i σ.length with h | h
        · have hk := e4 h
          rw [← e3 hk, d3 hk]
        · have hk := e5 h
          rcases Nat.lt_or_ge j σ.length with h' | h'
          · have := d4 h'; omega
          · have := d5 h'; omega
      · rw [e1, e2, AO.mv_foot] at hb1
        rw [d1, d2, footS j (usedS d1 d2 hus) hm] at hb2
        exact apart k j (ownK e1 e2 ho).used (usedS d1 d2 hus) (.inl (ownK e1 e2 ho)) hm b hb1 hb2
    · rcases src j with ⟨q, d1, d2, _, d3, d4, d5⟩ | ⟨hj, d1, d2, hm⟩
      · rw [e1, e2, footS i (ownS e1 e2 ho).used hn] at hb1
        rw [d1, d2, AO.mv_foot] at hb2
        exact apart q i (usedK d1 d2 hus) (ownS e1 e2 ho).used (.inr (ownS e1 e2 ho)) hn b hb2 hb1
      · rw [e1, e2, footS i (ownS e1 e2 ho).used hn] at hb1
        rw [d1, d2, footS j (usedS d1 d2 hus) hm] at hb2
        exact hr.sep i j hij (ownS e1 e2 ho) (usedS d1 d2 hus) b hb1 hb2
  · rcases src i with ⟨k, e1, e2, _⟩ | ⟨hi, e1, e2, hn⟩
    · rw [e1]; exact hr1.bnd k (usedK e1 e2 hus)
    · rw [e1]
      have := hr.bnd i (usedS e1 e2 hus)
      have := hx.size
      omega
  · show (if _ then _ else _) = _
    rw [if_pos hi]
  · refine hx.keep b hb fun k hk hf => ?_
    obtain ⟨h1, h2, h3⟩ := hown k hk
    exact hn _ h2 (h3 b hf)
  · rcases src i with ⟨k, e1, e2, _⟩ | ⟨hi, e1, e2, hn⟩
    · rw [e1, e2, AO.mv_foot] at hb
      rcases hx.own k (ownK e1 e2 ho) b hb with ⟨q, hq, hf⟩ | hge
      · obtain ⟨h1, h2, h3⟩ := hown q hq
        exact .inl ⟨_, h2, h3 b hf⟩
      · exact .inr hge
    · rw [e1, e2, footS i (ownS e1 e2 ho).used hn] at hb
      exact .inl ⟨i, ownS e1 e2 ho, hb⟩
/-- a contract, at the part of the state that its arguments reach -/
def frameCon (ng : Nat) (con : Con) : Con := fun args σ =>
  match List.range ng ++ reach σ ng 1000 (args.flatMap AV.ids) [] with
  | ids =>
    if nodupB ids && (prefixB ng ids 0 && ((gmapL.all fun p => decide (p.2 < ng)) && ids.all fun i => decide (i < σ.length))) then
      match ids.map fun i => (σ.at i).ren ids with
      | τ => (con (args.map (AV.ren ids)) τ).bind fun (v, τ') =>
        if frOk τ τ' then .ok (v.mv (up σ.length ids), mergeSt ids σ τ') else .fail "frame"
    else .fail "frame: ids"
theorem frameCon_sound {P : Program} {g : FuncId} {ng : Nat} {con : Con} (h : ∀ args σ v σ', (con args σ).run = some (v, σ') → Den P g args σ v σ') : ∀ args σ v σ', (frameCon ng con args σ).run = some (v, σ') → Den P g args σ v σ' := by
  intro args σ v σ' hrun
  unfold frameCon at hrun
  dsimp only at hrun
  generalize List.range ng ++ reach σ ng 1000 (args.flatMap AV.ids) [] = ids at hrun
  split at hrun
  · rename_i hc
    simp only [Bool.and_eq_true] at hc
    obtain ⟨hnd, hpre, hgl, hlt⟩ := hc
    obtain ⟨⟨v1, τ'⟩, h1, h2⟩ := bind_some hrun
    dsimp only at h2
    split at h2
    · rename_i hok
      cases h2
      obtain ⟨hf, hd⟩ := h _ _ _ _ h1
      refine ⟨hf, fun ρ w vals hr hg hv => ?_⟩
      have hlen : (ids.map fun i => (σ.at i).ren ids).length = ids.length := by simp
      have hv1 : VRel (renLoc ρ ids) (ids.map fun i => (σ.at i).ren ids).length (args.map (AV.ren ids)) vals := by
        refine ⟨by simp [hv.1], fun i a x ha hx => ?_⟩
        rw [List.getElem?_map] at ha
        obtain ⟨a', ha', rfl⟩ := Option.map_eq_some_iff.1 ha
        rw [hlen]
        exact (hv.2 i a' x ha' hx).ren
      have hg1 : GlOk (renLoc ρ ids) (ids.map fun i => (σ.at i).ren ids).length := fun q id hq => by
        obtain ⟨k1, k2⟩ := hg q id hq
        have h3 : id < ng := of_decide_eq_true (List.all_eq_true.1 hgl _ (gmapOf_mem hq))
        have h4 := prefixB_get ng ids 0 hpre id h3
        rw [Nat.zero_add] at h4
        refine ⟨by rw [hlen]; exact (List.getElem?_eq_some_iff.1 h4).1, ?_⟩
        have h5 : renLoc ρ ids id = ρ id := by
          unfold renLoc
          rw [List.getD_eq_getElem?_getD, h4]; rfl
        rw [h5]; exact k2
      refine (hd (renLoc ρ ids) w vals (part_rel hnd hr).1 hg1 hv1).mono fun e w' he => ?_
      obtain ⟨val, ρ1, q1, q2, q3, q4⟩ := he
      obtain ⟨ρ2, hu, k1, k2⟩ := partM_rel hnd (fun i hi => of_decide_eq_true (List.all_eq_true.1 hlt i hi)) hr q3 q4 hok
      refine ⟨val, ρ2, ?_, q2.mv hu, k1, k2⟩
      unfold EndIs at q1 ⊢
      rw [AV.mv_pan]; exact q1
    · cases h2
  · cases hrun
end
end Go.SX
