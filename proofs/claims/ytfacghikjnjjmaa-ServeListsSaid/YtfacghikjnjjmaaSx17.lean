/- Regions whose order is free, and calls: the end. -/
import Derived.Test.YtfacghikjnjjmaaSx16
namespace Go.SX
open Go Go.Lib
set_option linter.unusedSectionVars false
variable [Env]

def unl : Nat → (Nat → Bool) → Nat
  | 0, _ => 0
  | m + 1, S => unl m S + if S m then 0 else 1
theorem unl_le (S : Nat → Bool) : ∀ m, unl m S ≤ m
  | 0 => Nat.le_refl _
  | m + 1 => by have := unl_le S m; rw [unl]; split <;> omega
theorem unl_zero {S : Nat → Bool} : ∀ m, unl m S = 0 → ∀ k, k < m → S k = true
  | 0, _, k, hk => by omega
  | m + 1, h, k, hk => by
    rw [unl] at h
    by_cases e : k = m
    · subst e
      cases hS : S k with
      | true => rfl
      | false => rw [hS] at h; simp at h
    · exact unl_zero m (by omega) k (by omega)
theorem unl_with {S : Nat → Bool} {i : Nat} (hS : S i = false) : ∀ m, unl m (with1 i S) = unl m S - if i < m then 1 else 0
  | 0 => rfl
  | m + 1 => by
    rw [unl, unl, unl_with hS m]
    have pos : i < m → 1 ≤ unl m S := by
      intro h
      apply Nat.pos_of_ne_zero
      intro e
      rw [unl_zero m e i h] at hS; cases hS
    by_cases e : m = i
    · subst e
      simp [with1, hS]
    · have : (with1 i S) m = S m := by simp [with1, e]
      rw [this]
      by_cases h : i < m
      · have := pos h
        rw [if_pos h, if_pos (show i < m + 1 by omega)]
        generalize (if S m = true then 0 else 1) = z
        omega
      · rw [if_neg h, if_neg (show ¬ i < m + 1 by omega)]
        omega

section
variable {P : Program} {call : FuncId → List AV → St → Out (AV × St)} {ops : Array Oper} {T : List DStep} {f0 : Fr} {σ0 σ' : St}

theorem bool_getD_set (l : Array Bool) (i k : Nat) (hi : i < l.size) : (l.setIfInBounds i true).getD k false = (k == i || l.getD k false) := by
  simp only [Array.getD_eq_getD_getElem?, Array.getElem?_setIfInBounds]
  by_cases h : i = k
  · subst h; simp [hi]
  · have : (k == i) = false := by simp; omega
    rw [if_neg h, this, Bool.false_or]

theorem ready_spec {listed : Array Bool} (hsz : listed.size = ops.size) {i : Nat} {s : DStep} (hop : ops[i]? = some s.o) : i ∈ Region.ready .any ops listed ↔ (listed.getD i false = false ∧ Ready s fun k => listed.getD k false) := by
  have hi : i < ops.size := (Array.getElem?_eq_some_iff.1 hop).1
  have e : listed.getD i true = listed.getD i false := by
    rw [Array.getD_eq_getD_getElem?, Array.getD_eq_getD_getElem?, Array.getElem?_eq_getElem (by omega)]; rfl
  unfold Region.ready
  rw [List.mem_filter, hop, e]
  simp only [List.mem_range, hi, true_and, Option.map_some, Option.getD_some, Bool.and_eq_true, Bool.not_eq_true']
  refine and_congr_right fun _ => ?_
  unfold Ready
  rw [Array.all_eq_true_iff_forall_mem]
  constructor
  · intro h ed hed hb
    have := h ed (by simpa using hed)
    simpa [hb] using this
  · intro h ed hed
    cases hb : Region.binds .any ed with
    | false => simp
    | true => simpa [hb] using h ed (by simpa using hed) hb

theorem draw_any (hcs : CallSound P call) (hn : NamesOk P) {Q : Exit → Act → World → Prop} {ρ0 : Nat → Loc} {a0 : Act} {w0 : World} (hgl : GlOk ρ0 σ0.length) (hg : AllGood P call ops T f0 σ0 σ') (hl : T.length = ops.size) (h0 : σ0.length ≤ σ'.length)
    (hend : ∀ S ρ a w, Inv T f0 σ0 σ' ρ0 a0 w0 S ρ a w → (∀ k, k < T.length → S k = true) → Q .normal a w) :
    ∀ (fuel : Nat) (listed : Array Bool) (ρ : Nat → Loc) (a : Act) (w : World), listed.size = ops.size → unl ops.size (fun k => listed.getD k false) ≤ fuel → Closed T (fun k => listed.getD k false) →
      Inv T f0 σ0 σ' ρ0 a0 w0 (fun k => listed.getD k false) ρ a w → wpAny P .any ops Q fuel listed a w := by
  have hT : ∀ k, k < ops.size → ∃ s, T[k]? = some s := fun k hk => ⟨T[k], List.getElem?_eq_getElem (by omega)⟩
  have allr : ∀ (listed : Array Bool), listed.size = ops.size → Region.ready .any ops listed = [] → ∀ k, k < T.length → listed.getD k false = true := by
    intro listed hsz hnil k
    induction k using Nat.strongRecOn with
    | _ k ih =>
      intro hk
      obtain ⟨s, hs⟩ := hT k (by omega)
      obtain ⟨⟨recs, f, g⟩, hop⟩ := hg k s hs
      cases hS : listed.getD k false with
      | true => rfl
      | false =>
        have : k ∈ Region.ready .any ops listed := by
          rw [ready_spec hsz hop]
          refine ⟨hS, fun e he hb => ?_⟩
          have := List.all_eq_true.1 g.step.edges e he
          rw [hb] at this
          simp only [Bool.not_true, Bool.false_or, decide_eq_true_eq] at this
          exact ih e.on this (by omega)
        rw [hnil] at this; cases this
  intro fuel
  induction fuel with
  | zero =>
    intro listed ρ a w hsz hu hc hv
    have hall := unl_zero ops.size (Nat.le_zero.1 hu)
    refine ⟨?_, hend _ ρ a w hv fun k hk => hall k (by omega)⟩
    apply List.eq_nil_iff_forall_not_mem.2
    intro i hi
    have hlt : i < ops.size := by
      unfold Region.ready at hi
      simpa using (List.mem_filter.1 hi).1
    obtain ⟨s, hs⟩ := hT i hlt
    have := ((ready_spec hsz (hg i s hs).2).1 hi).1
    rw [hall i hlt] at this; cases this
  | succ fuel ih =>
    intro listed ρ a w hsz hu hc hv
    refine ⟨fun hnil => hend _ ρ a w hv fun k hk => allr listed hsz hnil k hk, fun i hi => ?_⟩
    have hlt : i < ops.size := by
      unfold Region.ready at hi
      simpa using (List.mem_filter.1 hi).1
    obtain ⟨s, hs⟩ := hT i hlt
    obtain ⟨hS, hr⟩ := (ready_spec hsz (hg i s hs).2).1 hi
    have hset : (fun k => (listed.setIfInBounds i true).getD k false) = with1 i (fun k => listed.getD k false) := by
      funext k; exact bool_getD_set listed i k (by omega)
    refine draw_step hcs hn hg h0 hc hs hS hr hv hgl fun ρ' a' w' hv' => ?_
    refine ih _ ρ' a' w' (by rw [Array.size_setIfInBounds]; exact hsz) ?_ ?_ (by rw [hset]; exact hv')
    · rw [hset, unl_with (S := fun k => listed.getD k false) hS, if_pos hlt]; omega
    · rw [hset]
      intro k t hk hSk e he hb
      have hrt : Ready t (fun k => listed.getD k false) := by
        by_cases e : k = i
        · subst e; rw [hs] at hk; cases hk; exact hr
        · exact hc k t hk (by simpa [with1, e] using hSk)
      simp [with1, hrt e he hb]

theorem Rel.drawn {ρ : Nat → Loc} {σ : St} {w : World} (h : Rel ρ σ w) (d : Nat) : Rel ρ σ { w with drawn := d } := ⟨fun i => (h.obj i).mono (fun _ _ => rfl) (Nat.le_refl _) fun _ _ _ _ => rfl, h.sep, h.bnd⟩

theorem drawOk (hm : P.follows .mixedOrders = true) (hn : NamesOk P) (hcs : CallSound P call) : DrawOk P call := by
  intro D n0 id ops f f' σ σ' e ρ a w Q hD hl hat h hq
  unfold drawE at h
  obtain ⟨⟨f1, σ1⟩, h1, h2⟩ := bind_some h
  cases h2
  obtain ⟨T, hT⟩ := drawGo_chain _ _ _ _ _ _ _ h1
  have hslot0 : ∀ i, slotS T 0 (fun m => decide (m < 0)) i (f.get i) = f.get i := fun i => slotS_none i T 0 _ _ fun k t _ _ => by simp
  have hobj0 : ∀ i, objS T 0 (fun m => decide (m < 0)) i (σ.at i) = σ.at i := fun i => objS_none i T 0 _ _ fun k t _ _ => by simp
  obtain ⟨g1, g2, g3, g4, g5, g6⟩ := chain_good _ _ _ _ _ _ _ _ hT T f σ (fun k => by rw [Nat.zero_add]) ⟨rfl, fun i hi => by omega⟩
    (fun i => by rw [hslot0]; exact .refl _) hobj0 rfl (Nat.le_refl _) (fun k' hk' => by omega)
  have hlen : T.length = ops.size := by rw [g2]; simp
  have hg : AllGood P call ops T f σ σ' := by
    intro k s hk
    obtain ⟨h1, h2⟩ := g1 k s hk
    rw [Nat.zero_add] at h1
    exact ⟨h1, by simpa using h2⟩
  -- numbers that are not yet given do not live
  let ρ1 : Nat → Loc := fun i => if i < σ.length then ρ i else ⟨false, 0, 0, 0⟩
  have hs1 : Same σ.length ρ ρ1 := fun i hi => by simp [ρ1, hi]
  have hz : ∀ i, (Array.replicate ops.size false).getD i false = false := by
    intro i
    rw [Array.getD_eq_getD_getElem?, Array.getElem?_replicate]
    split <;> rfl
  have hS0 : (fun k => (Array.replicate ops.size false).getD k false) = fun _ => false := by funext k; exact hz k
  have hst : stS T (fun _ => false) σ σ'.length = σ ++ List.replicate (σ'.length - σ.length) .dead := by
    refine ext_at (by rw [stS_length]; simp; omega) fun i => ?_
    rw [stS_at hg g6, objS_none i T 0 _ _ fun k t _ _ => rfl]
    rw [at_eq, at_eq, List.getElem?_append]
    split
    · rfl
    · rename_i hi
      rw [List.getElem?_eq_none (by omega), List.getElem?_replicate]
      split <;> rfl
  have hsta : ∀ i, (stS T (fun _ => false) σ σ'.length).at i = σ.at i := fun i => by rw [stS_at hg g6, objS_none i T 0 _ _ fun k t _ _ => rfl]
  have hus : ∀ i, used ρ1 (stS T (fun _ => false) σ σ'.length) i → used ρ σ i := by
    intro i hu
    have h2 := hu.2
    rw [hsta] at h2
    have hi : i < σ.length := by
      by_cases hi : i < σ.length
      · exact hi
      · rw [at_ge (by omega)] at h2; exact absurd rfl h2
    exact ⟨by rw [← hs1 i hi]; exact hu.1, h2⟩
  have hus' : ∀ i, used ρ1 (stS T (fun _ => false) σ σ'.length) i → ρ1 i = ρ i := fun i hu => hs1 i (hus i hu).lt
  have how : ∀ i, owned ρ1 (stS T (fun _ => false) σ σ'.length) i → owned ρ σ i := by
    intro i ho
    have h2 := ho.2
    rw [hsta] at h2
    exact ⟨(hus i ho.used).1, h2⟩
  have hrel : Rel ρ1 (stS T (fun _ => false) σ σ'.length) w := by
    refine ⟨fun i => ?_, fun i j hij h1 h2 b hb1 hb2 => ?_, fun i h => ?_⟩
    · rw [stS_length, hsta]
      by_cases hi : i < σ.length
      · rw [hs1 i hi]; exact (hat.rel.obj i).mono hs1 g6 fun _ _ _ _ => rfl
      · rw [at_ge (by omega)]; exact True.intro
    · rw [hus' i h1.used, hsta] at hb1
      rw [hus' j h2, hsta] at hb2
      exact hat.rel.sep i j hij (how i h1) (hus j h2) b hb1 hb2
    · rw [hus' i h]; exact hat.rel.bnd i (hus i h)
  refine wp_region_any hm (draw_any (ρ0 := ρ) (a0 := a) (w0 := w) hcs hn hat.fr.2.2 hg hlen g6 (fun S ρ' a' w' hv hall => ?_) ops.size _ ρ1 a _ (by simp) (unl_le _ _) ?_ ?_)
  · have hfin : stS T S σ σ'.length = σ' := by
      refine ext_at stS_length fun i => ?_
      rw [stS_at hg g6, ← g4 i]
      refine objS_congr i T 0 _ _ _ fun k t hk _ => ?_
      have hk' : k < T.length := (List.getElem?_eq_some_iff.1 hk).1
      rw [Nat.zero_add, Nat.zero_add, hall k hk']
      simp only [Array.length_toList]
      rw [decide_eq_true (by omega)]
    have hgl' : GlOk ρ' σ'.length := by
      have hx := hv.ext
      rw [hfin] at hx
      exact hat.fr.2.2.mono (fun i hi => hx.same i (by omega)) g6
    refine hq ρ' a' w' ⟨⟨hv.size.trans g5.symm, fun i => ?_, hgl'⟩, ?_⟩ ?_ ⟨hv.defers, hv.size.trans hat.fr.1.symm, fun t ht => hv.stay t fun k s hk => ?_⟩
    rotate_left 3
    · intro hd
      have hopk := (hg k s hk).2
      have := List.all_eq_true.1 hD s.o (List.mem_of_getElem? (by rw [Array.getElem?_toList]; exact hopk))
      unfold opD at this
      rw [hd] at this
      have this : D t = true := this
      rw [this] at ht; cases ht
    · by_cases hi : i < f.n
      · have h1 := hv.slots i hi
        refine g3 i _ _ _ ?_
        rw [slotS_congr i T 0 _ S _ fun k t hk _ => ?_]
        · exact h1
        · have hk' : k < T.length := (List.getElem?_eq_some_iff.1 hk).1
          rw [Nat.zero_add, Nat.zero_add, hall k hk']
          simp only [Array.length_toList]
          rw [decide_eq_true (by omega)]
      · rw [get_ge (by rw [g5]; omega)]; exact ARel.any
    · have := hv.rel; rwa [hfin] at this
    · have hx := hv.ext
      rw [hfin] at hx
      exact ⟨by omega, fun i hi => hx.same i (by omega), hx.os, hx.tape, hx.output, hx.size, hx.keep, hx.own⟩
  · rw [hS0]; intro k s _ h; cases h
  · rw [hS0]
    refine ⟨hat.fr.1, fun i _ => ?_, hrel.drawn _, ⟨by rw [stS_length]; exact g6, hs1, rfl, rfl, rfl, Nat.le_refl _, fun _ _ _ => rfl, fun i hi b hb => .inl ⟨i, how i hi, by rw [hus' i hi.used, hsta] at hb; exact hb⟩⟩, fun k s i hk _ h1 h2 => ?_, rfl, fun _ _ => rfl⟩
    · rw [slotS_none i T 0 _ _ fun k t _ _ => rfl]
      exact (hat.fr.2.1 i).mono hs1 g6
    · obtain ⟨⟨recs, f2, g⟩, _⟩ := hg k s hk
      have := g.ge
      have hni : ¬ i < σ.length := by omega
      simp [ρ1, hni]

/-- THE evaluator is sound -/
theorem call_sound {env : FuncId → Option (List AV → St → Out (AV × St))} {cfg : FuncId → Cfg} (hm : P.follows .mixedOrders = true) (he : EnvOk P env cfg) (d : Nat) : CallSound P (callE P env cfg d) :=
  callE_sound he (fun _ hc => drawOk hm he.names hc) d
end
end Go.SX
