/- Regions whose order is free: memory in parts. -/
import Derived.Test.YtfacghikjnjjmaaSx13
namespace Go.SX
open Go Go.Lib
set_option linter.unusedSectionVars false
variable [Env]

theorem at_eq {σ : St} {i : Nat} : σ.at i = (σ[i]?).getD .dead := List.getD_eq_getElem?_getD
theorem at_ge {σ : St} {i : Nat} (h : σ.length ≤ i) : σ.at i = .dead := by rw [at_eq, List.getElem?_eq_none h]; rfl
theorem at_zero {o : AO} {r : St} : St.at (o :: r) 0 = o := rfl
theorem at_succ {o : AO} {r : St} {i : Nat} : St.at (o :: r) (i + 1) = r.at i := rfl
theorem ext_at {σ σ' : St} (hl : σ.length = σ'.length) (h : ∀ i, σ.at i = σ'.at i) : σ = σ' := by
  apply List.ext_getElem hl
  intro i h1 h2
  have := h i
  rw [at_eq, at_eq, List.getElem?_eq_getElem h1, List.getElem?_eq_getElem h2] at this
  exact this

theorem memOf_length (chg rd : List Nat) : ∀ (σ : St) (k : Nat), (memOf chg rd σ k).length = σ.length
  | [], _ => rfl
  | o :: r, k => by simp [memOf, memOf_length chg rd r (k + 1)]
theorem memOf_at (chg rd : List Nat) : ∀ (σ : St) (k i : Nat), i < σ.length → St.at (memOf chg rd σ k) i = if chg.contains (k + i) then σ.at i else if rd.contains (k + i) then lendAO (σ.at i) else .dead
  | [], _, i, h => by simp at h
  | o :: r, k, 0, _ => rfl
  | o :: r, k, i + 1, h => by
    rw [memOf, at_succ, at_succ, memOf_at chg rd r (k + 1) i (by simpa using h), show k + 1 + i = k + (i + 1) by omega]
theorem drop_at (out : St) : ∀ (k i : Nat), St.at (out.drop k) i = out.at (k + i) := by
  intro k i
  rw [at_eq, at_eq, List.getElem?_drop]
theorem backE_length (chg : List Nat) (out : St) : ∀ (σ : St) (k : Nat), (backE chg out σ k).length = σ.length + (out.length - (k + σ.length))
  | [], k => by simp [backE]
  | o :: r, k => by simp [backE, backE_length chg out r (k + 1)]; omega
theorem backE_at (chg : List Nat) (out : St) : ∀ (σ : St) (k i : Nat), St.at (backE chg out σ k) i = if i < σ.length then (if chg.contains (k + i) then out.at (k + i) else σ.at i) else out.at (k + i)
  | [], k, i => by simp [backE, drop_at]
  | o :: r, k, 0 => by simp [backE, at_zero]
  | o :: r, k, i + 1 => by
    rw [backE, at_succ, at_succ, backE_at chg out r (k + 1) i, show k + 1 + i = k + (i + 1) by omega]
    simp

theorem frameOf_rel {ρ : Nat → Loc} {n m : Nat} {ts : Array Value} (f : Fr) : ∀ (l : List Nat), (∀ s, s ∈ l → ARel ρ n (f.get s) (ts.getD s undef)) → ∀ s, ARel ρ n ((Fr.mk m (frameOf f l)).get s) (ts.getD s undef)
  | [], _, s => by
    rw [Fr.get_eq]
    split <;> exact ARel.any
  | t :: r, hl, s => by
    have ih := frameOf_rel (m := m) f r (fun s hs => hl s (List.mem_cons_of_mem _ hs)) s
    rw [Fr.get_eq] at ih ⊢
    split
    · rename_i hs
      have hs : s < m := hs
      simp only [hs, if_true] at ih
      show ARel ρ n ((F.al t (f.get t) (frameOf f r)).getN s) _
      rw [F.getN_al]
      split
      · rename_i e; subst e; exact hl s (List.mem_cons_self ..)
      · exact ih
    · exact ARel.any

theorem ORel.lend {ρ : Nat → Loc} {n : Nat} {w : World} {l : Loc} {o : AO} (h : ORel ρ n w l o) : ORel ρ n w l (lendAO o) := by
  cases o with
  | row own sz c => exact ⟨h.1, fun hl => ⟨(h.2 hl).1, fun e => by cases e⟩⟩
  | _ => exact True.intro
theorem lend_not_owned {o : AO} : (lendAO o).own = false := by cases o <;> rfl
theorem lend_np {o : AO} : ∀ M pg, lendAO o ≠ .pmem M pg := by intro M pg; cases o <;> (intro e; cases e)
theorem lend_dead {o : AO} (h : lendAO o ≠ .dead) : o ≠ .dead := by intro e; subst e; exact h rfl

section
variable {ρ ρ' : Nat → Loc} {σ σS mem out σ2 : St} {w w' : World} {chg rd : List Nat}

theorem mem_owned {i : Nat} (h : owned ρ (memOf chg rd σ 0) i) : i < σ.length ∧ chg.contains i = true ∧ owned ρ σ i := by
  have hlt : i < σ.length := by have := h.used.lt; rwa [memOf_length] at this
  have h2 := h.2
  rw [memOf_at _ _ _ _ _ hlt, Nat.zero_add] at h2
  by_cases hc : chg.contains i = true
  · rw [if_pos hc] at h2; exact ⟨hlt, hc, h.1, h2⟩
  · rw [if_neg hc] at h2
    by_cases hr : rd.contains i = true
    · rw [if_pos hr, lend_not_owned] at h2; cases h2
    · rw [if_neg hr] at h2; cases h2
theorem mem_used {i : Nat} (h : used ρ (memOf chg rd σ 0) i) : i < σ.length ∧ (chg.contains i = true ∨ rd.contains i = true) ∧ used ρ σ i := by
  have hlt : i < σ.length := by have := h.lt; rwa [memOf_length] at this
  have h2 := h.2
  rw [memOf_at _ _ _ _ _ hlt, Nat.zero_add] at h2
  by_cases hc : chg.contains i = true
  · rw [if_pos hc] at h2; exact ⟨hlt, .inl hc, h.1, h2⟩
  · rw [if_neg hc] at h2
    by_cases hr : rd.contains i = true
    · rw [if_pos hr] at h2; exact ⟨hlt, .inr hr, h.1, lend_dead h2⟩
    · rw [if_neg hr] at h2; exact absurd rfl h2

theorem memOf_rel (hr : Rel ρ σS w) (hag : ∀ i, i < σ.length → (chg.contains i = true ∨ rd.contains i = true) → σS.at i = σ.at i)
    (hb : (memOf chg rd σ 0).all (AO.below σ.length) = true) : Rel ρ (memOf chg rd σ 0) w := by
  have ho : ∀ i, owned ρ (memOf chg rd σ 0) i → owned ρ σS i := by
    intro i h
    obtain ⟨hlt, hc, h⟩ := mem_owned h
    refine ⟨h.1, ?_⟩
    rw [hag i hlt (.inl hc)]; exact h.2
  have hu : ∀ i, used ρ (memOf chg rd σ 0) i → used ρ σS i := by
    intro i h
    obtain ⟨hlt, hc, h⟩ := mem_used h
    refine ⟨h.1, ?_⟩
    rw [hag i hlt hc]; exact h.2
  have hft : ∀ i, used ρ (memOf chg rd σ 0) i → ∀ b, foot w (ρ i) (St.at (memOf chg rd σ 0) i) b → foot w (ρ i) (σS.at i) b := by
    intro i h b hb
    obtain ⟨hlt, hc, _⟩ := mem_used h
    rw [hag i hlt hc]
    rw [memOf_at _ _ _ _ _ hlt, Nat.zero_add] at hb
    by_cases hch : chg.contains i = true
    · rw [if_pos hch] at hb; exact hb
    · rw [if_neg hch] at hb
      split at hb
      · rw [foot_row lend_np] at hb; exact .inl hb
      · rw [foot_row (fun _ _ e => by cases e)] at hb; exact .inl hb
  refine ⟨fun i => ?_, fun i j hij h1 h2 b hb1 hb2 => hr.sep i j hij (ho i h1) (hu j h2) b (hft i h1.used b hb1) (hft j h2 b hb2), fun i h => hr.bnd i (hu i h)⟩
  rw [memOf_length]
  by_cases hlt : i < σ.length
  · have hbl : (St.at (memOf chg rd σ 0) i).below σ.length = true := by
      rw [at_eq]
      cases hx : (memOf chg rd σ 0)[i]? with
      | none => rfl
      | some o => exact List.all_eq_true.1 hb _ (List.mem_of_getElem? hx)
    rw [memOf_at _ _ _ _ _ hlt, Nat.zero_add] at hbl ⊢
    by_cases hc : chg.contains i = true
    · rw [if_pos hc] at hbl ⊢
      have := hr.obj i
      rw [hag i hlt (.inl hc)] at this
      exact this.below hbl
    · rw [if_neg hc] at hbl ⊢
      by_cases hrd : rd.contains i = true
      · rw [if_pos hrd] at hbl ⊢
        have := hr.obj i
        rw [hag i hlt (.inr hrd)] at this
        exact this.lend.below hbl
      · rw [if_neg hrd]; exact True.intro
  · rw [at_ge (by rw [memOf_length]; omega)]; exact True.intro

theorem SlRel.wake {n : Nat} {nn : Bool} {id off len sz : Nat} {v : Value} (h : SlRel ρ n nn id off len sz v) (hs : ∀ i, (ρ i).live = true → ρ' i = ρ i) : SlRel ρ' n nn id off len sz v := by
  obtain ⟨h1, h2⟩ := h
  refine ⟨h1, ?_⟩
  rcases h2 with h2 | ⟨A, c, q1, q2, q3⟩ | h2
  · exact .inl h2
  · have e := hs id q2
    exact .inr (.inl ⟨A, c, q1, by rw [e]; exact q2, by rw [e]; exact q3⟩)
  · exact .inr (.inr h2)
/-- numbers that do not live may come to mean something -/
theorem SRel.wake {n : Nat} {s : Sc} {v : Value} (h : SRel ρ n s v) (hs : ∀ i, (ρ i).live = true → ρ' i = ρ i) : SRel ρ' n s v := by
  cases s with
  | ptr id row sz fld hi => obtain ⟨h1, h2, h3⟩ := h; have e := hs id h2; exact ⟨h1, by rw [e]; exact h2, by rw [e]; exact h3⟩
  | sl nn id off len sz =>
    obtain ⟨o, l, q1, q2, q3, q4⟩ := h
    exact ⟨o, l, q1, q2, q3, SlRel.wake q4 hs⟩
  | mp id => obtain ⟨h1, h2, h3⟩ := h; have e := hs id h2; exact ⟨h1, by rw [e]; exact h2, by rw [e]; exact h3⟩
  | _ => exact h
theorem LRel.wake {n : Nat} {l : List Sc} {vs : List Value} (h : LRel ρ n l vs) (hs : ∀ i, (ρ i).live = true → ρ' i = ρ i) : LRel ρ' n l vs :=
  ⟨h.1, fun i s v a b => (h.2 i s v a b).wake hs⟩
theorem PRel.wake {n : Nat} {p : Part} {v : Value} (h : PRel ρ n p v) (hs : ∀ i, (ρ i).live = true → ρ' i = ρ i) : PRel ρ' n p v := by
  cases p with
  | inl s => exact SRel.wake h hs
  | inr l => obtain ⟨cs, e, r⟩ := h; exact ⟨cs, e, r.wake hs⟩
theorem ARel.wake {n : Nat} {x : AV} {v : Value} (h : ARel ρ n x v) (hs : ∀ i, (ρ i).live = true → ρ' i = ρ i) : ARel ρ' n x v := by
  cases x with
  | one s => exact SRel.wake h hs
  | agg l => obtain ⟨cs, e, r⟩ := h; exact ⟨cs, e, r.wake hs⟩
  | tup l =>
    obtain ⟨vs, e, el, r⟩ := h
    exact ⟨vs, e, el, fun i p x a b => (r i p x a b).wake hs⟩
  | ifc t p => obtain ⟨x, e, r⟩ := h; exact ⟨x, e, r.wake hs⟩
  | pan t p => obtain ⟨x, e, r⟩ := h; exact ⟨x, e, r.wake hs⟩

/-- the blocks of an object are kept: the object stays what it was -/
theorem ORel.kept {n : Nat} {l : Loc} {o : AO} (h : ORel ρ n w l o) (hs : ∀ i, (ρ i).live = true → ρ' i = ρ i) (hk : l.live = true → o ≠ .dead → ∀ b, foot w l o b → w'.heap[b]? = w.heap[b]?) : ORel ρ' n w' l o := by
  have h1 : ORel ρ n w' l o := h.mono (fun _ _ => rfl) (Nat.le_refl _) hk
  cases o with
  | dead => exact True.intro
  | row own sz c =>
    refine ⟨h1.1, fun hl => ?_⟩
    obtain ⟨h2, h3⟩ := h1.2 hl
    exact ⟨fun i s hi => by obtain ⟨v, hv, hr⟩ := h2 i s hi; exact ⟨v, hv, hr.wake hs⟩, h3⟩
  | mapo es =>
    obtain ⟨hl, es', hp, hap, en, clock, h2, h3, h4⟩ := h1
    refine ⟨hl, es', hp, hap, en, clock, h2, h3, fun i k v e a b => ?_⟩
    obtain ⟨q1, q2⟩ := h4 i k v e a b
    exact ⟨q1.wake hs, q2.wake hs⟩
  | maps kk vk f => exact h1
  | pmem M pg => exact h1

def joinLoc (n n' : Nat) (ρ ρ' : Nat → Loc) : Nat → Loc := fun i => if n ≤ i ∧ i < n' then ρ' i else ρ i

/-- an operation that ran on a part of memory, seen in the whole -/
theorem frame_rel {n0 : Nat} (hr : Rel ρ σS w) (h0 : n0 ≤ mem.length) (hn' : out.length ≤ σS.length)
    (hmo : ∀ i, owned ρ mem i → i < mem.length ∧ chg.contains i = true ∧ owned ρ σS i)
    (hmc : ∀ i, i < mem.length → chg.contains i = true → mem.at i = σS.at i)
    (hfr : ∀ i, mem.length ≤ i → i < out.length → (ρ i).live = false)
    (hnew : ∀ i, mem.length ≤ i → ownB (out.at i) = true)
    (hdd : ∀ i, chg.contains i = true → mem.at i = .dead → out.at i = .dead)
    (hr' : Rel ρ' out w') (hx : Ext ρ mem w ρ' out w') (h2 : σ2.length = σS.length)
    (h2a : ∀ i, σ2.at i = if (i < mem.length ∧ chg.contains i = true) ∨ (mem.length ≤ i ∧ i < out.length) then out.at i else σS.at i) :
    Rel (joinLoc mem.length out.length ρ ρ') σ2 w' ∧ ExtN n0 ρ σS w (joinLoc mem.length out.length ρ ρ') σ2 w' := by
  have hlen := hx.len
  have hz : ∀ i, (i < mem.length ∧ chg.contains i = true) ∨ (mem.length ≤ i ∧ i < out.length) → joinLoc mem.length out.length ρ ρ' i = ρ' i := by
    intro i hi
    unfold joinLoc
    rcases hi with ⟨h1, _⟩ | h1
    · rw [if_neg (by omega), hx.same i h1]
    · rw [if_pos h1]
  have hnz : ∀ i, ¬ ((i < mem.length ∧ chg.contains i = true) ∨ (mem.length ≤ i ∧ i < out.length)) → joinLoc mem.length out.length ρ ρ' i = ρ i := by
    intro i hi
    unfold joinLoc
    rw [if_neg (fun h => hi (.inr h))]
  have hwake : ∀ i, (ρ i).live = true → joinLoc mem.length out.length ρ ρ' i = ρ i := by
    intro i hl
    unfold joinLoc
    split
    · rename_i h; rw [hfr i h.1 h.2] at hl; cases hl
    · rfl
  have hsame : Same out.length ρ' (joinLoc mem.length out.length ρ ρ') := by
    intro i hi
    unfold joinLoc
    split
    · rfl
    · rw [hx.same i (by omega)]
  have kept : ∀ i, used ρ σS i → ¬ (i < mem.length ∧ chg.contains i = true) → ∀ b, foot w (ρ i) (σS.at i) b → w'.heap[b]? = w.heap[b]? := by
    intro i hu hn b hb
    refine hx.keep _ (hr.fbnd hu hb) fun j hj hf => ?_
    obtain ⟨j1, j2, j3⟩ := hmo j hj
    rw [hmc j j1 j2] at hf
    exact hr.sep j i (fun e => hn ⟨e ▸ j1, e ▸ j2⟩) j3 hu b hf hb
  have kfoot : ∀ i, used ρ σS i → ¬ (i < mem.length ∧ chg.contains i = true) → ∀ b, foot w' (ρ i) (σS.at i) b → foot w (ρ i) (σS.at i) b := by
    intro i hu hn b hb
    exact (foot_keep (kept i hu hn _ (foot_block _ _ _))).1 hb
  -- where a block of a changed object came from
  have usedz : ∀ j, (j < mem.length ∧ chg.contains j = true) ∨ (mem.length ≤ j ∧ j < out.length) → used ρ' out j → (out.at j).own = false → used ρ σS j ∧ ρ' j = ρ j := by
    intro j hz hu hno
    rcases hz with ⟨h1, h2⟩ | ⟨h1, h2⟩
    · have e := hx.same j h1
      refine ⟨⟨by rw [← e]; exact hu.1, ?_⟩, e⟩
      rw [← hmc j h1 h2]
      exact fun hd => hu.2 (hdd j h2 hd)
    · have ho := hnew j h1
      have hnd := hu.2
      exfalso
      cases hx : out.at j with
      | dead => exact hnd hx
      | row own sz c => rw [hx] at ho hno; have ho : own = true := ho; have hno : own = false := hno; rw [ho] at hno; cases hno
      | mapo es => rw [hx] at hno; cases hno
      | maps kk vk f => rw [hx] at hno; cases hno
      | pmem M pg => rw [hx] at hno; cases hno
  have cross : ∀ i j, used ρ σS i → ¬ ((i < mem.length ∧ chg.contains i = true) ∨ (mem.length ≤ i ∧ i < out.length)) → ((j < mem.length ∧ chg.contains j = true) ∨ (mem.length ≤ j ∧ j < out.length)) → used ρ' out j →
      (owned ρ σS i ∨ owned ρ' out j) → i ≠ j → ∀ b, foot w (ρ i) (σS.at i) b → ¬ foot w' (ρ' j) (out.at j) b := by
    intro i j ui zi zj uj hor hij b hb1 hb2
    cases hown : (out.at j).own with
    | true =>
      rcases hx.own j ⟨uj.1, hown⟩ b hb2 with ⟨j0, hj0, e⟩ | hge
      · obtain ⟨q1, q2, q3⟩ := hmo j0 hj0
        rw [hmc j0 q1 q2] at e
        exact hr.sep j0 i (fun e => zi (.inl ⟨e ▸ q1, e ▸ q2⟩)) q3 ui b e hb1
      · have := hr.fbnd ui hb1; omega
    | false =>
      obtain ⟨u1, u2⟩ := usedz j zj uj hown
      have hnp : ∀ M pg, out.at j ≠ .pmem M pg := by intro M pg e; rw [e] at hown; cases hown
      rw [foot_row hnp, u2] at hb2
      subst hb2
      rcases hor with hi | hj
      · exact hr.sep i j hij hi u1 _ hb1 (foot_block _ _ _)
      · have := hj.2; rw [hown] at this; cases this
  have usd : ∀ i, used (joinLoc mem.length out.length ρ ρ') σ2 i → (((i < mem.length ∧ chg.contains i = true) ∨ (mem.length ≤ i ∧ i < out.length)) ∧ used ρ' out i ∧ σ2.at i = out.at i) ∨ (¬ ((i < mem.length ∧ chg.contains i = true) ∨ (mem.length ≤ i ∧ i < out.length)) ∧ used ρ σS i ∧ σ2.at i = σS.at i) := by
    intro i hu
    have h2 := hu.2
    rw [h2a] at h2 ⊢
    by_cases hzi : (i < mem.length ∧ chg.contains i = true) ∨ (mem.length ≤ i ∧ i < out.length)
    · rw [if_pos hzi] at h2 ⊢
      exact .inl ⟨hzi, ⟨by rw [← hz i hzi]; exact hu.1, h2⟩, rfl⟩
    · rw [if_neg hzi] at h2 ⊢
      exact .inr ⟨hzi, ⟨by rw [← hnz i hzi]; exact hu.1, h2⟩, rfl⟩
  refine ⟨⟨fun i => ?_, fun i j hij h1 h2 b hb1 hb2 => ?_, fun i h1 => ?_⟩, ⟨by omega, fun i hi => ?_, hx.os, hx.tape, hx.output, hx.size, fun b hb hnb => hx.keep b hb fun i hi => by
      obtain ⟨q1, q2, q3⟩ := hmo i hi
      rw [hmc i q1 q2]
      exact hnb i q3, fun i hi b hb => ?_⟩⟩
  · rw [h2a, h2]
    by_cases hzi : (i < mem.length ∧ chg.contains i = true) ∨ (mem.length ≤ i ∧ i < out.length)
    · rw [if_pos hzi, hz i hzi]
      exact (hr'.obj i).mono hsame hn' fun _ _ _ _ => rfl
    · rw [if_neg hzi, hnz i hzi]
      exact (hr.obj i).kept hwake fun hl hd => kept i ⟨hl, hd⟩ fun h => hzi (.inl h)
  · rcases usd i h1.used with ⟨zi, ui, ei⟩ | ⟨zi, ui, ei⟩ <;> rcases usd j h2 with ⟨zj, uj, ej⟩ | ⟨zj, uj, ej⟩
    · rw [hz i zi, ei] at hb1
      rw [hz j zj, ej] at hb2
      exact hr'.sep i j hij ⟨ui.1, by rw [← ei]; exact h1.2⟩ uj b hb1 hb2
    · rw [hz i zi, ei] at hb1
      rw [hnz j zj, ej] at hb2
      exact cross j i uj zj zi ui (.inr ⟨ui.1, by rw [← ei]; exact h1.2⟩) (Ne.symm hij) b (kfoot j uj (fun h => zj (.inl h)) b hb2) hb1
    · rw [hnz i zi, ei] at hb1
      rw [hz j zj, ej] at hb2
      exact cross i j ui zi zj uj (.inl ⟨ui.1, by rw [← ei]; exact h1.2⟩) hij b (kfoot i ui (fun h => zi (.inl h)) b hb1) hb2
    · rw [hnz i zi, ei] at hb1
      rw [hnz j zj, ej] at hb2
      exact hr.sep i j hij ⟨ui.1, by rw [← ei]; exact h1.2⟩ uj b (kfoot i ui (fun h => zi (.inl h)) b hb1) (kfoot j uj (fun h => zj (.inl h)) b hb2)
  · rcases usd i h1 with ⟨zi, ui, _⟩ | ⟨zi, ui, _⟩
    · rw [hz i zi]; exact hr'.bnd i ui
    · rw [hnz i zi]; have := hr.bnd i ui; have := hx.size; omega
  · unfold joinLoc; rw [if_neg (by omega)]
  · rcases usd i hi.used with ⟨zi, ui, ei⟩ | ⟨zi, ui, ei⟩
    · rw [hz i zi, ei] at hb
      rcases hx.own i ⟨ui.1, by rw [← ei]; exact hi.2⟩ b hb with ⟨j0, hj0, e⟩ | hge
      · obtain ⟨q1, q2, q3⟩ := hmo j0 hj0
        rw [hmc j0 q1 q2] at e
        exact .inl ⟨j0, q3, e⟩
      · exact .inr hge
    · rw [hnz i zi, ei] at hb
      exact .inl ⟨i, ⟨ui.1, by rw [← ei]; exact hi.2⟩, kfoot i ui (fun h => zi (.inl h)) b hb⟩
end
end Go.SX
