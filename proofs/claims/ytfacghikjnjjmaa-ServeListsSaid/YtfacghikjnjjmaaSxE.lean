/- Results with lists: each a new row of its own. -/
import Derived.Test.YtfacghikjnjjmaaSxD
namespace Go.SX
open Go Go.Lib
set_option linter.unusedSectionVars false
variable [Env]

def AO.mine : AO → AO
  | .row _ sz c => .row true sz c
  | o => o
abbrev noLoc : Loc := ⟨false, 0, 0, 0⟩
/-- values of these shapes, their lists in new blocks -/
def Placed (w w' : World) (ts : List CT) (rps : List Rp) (vs : List Value) : Prop :=
  ∃ Ls : List Loc, Ls.length = (rpObjs ts rps).length ∧
    (∀ (j : Nat) (ρ : Nat → Loc) (m : Nat), j + Ls.length ≤ m → (∀ i, i < Ls.length → ρ (j + i) = Ls.getD i noLoc) → LRel ρ m (rpCells ts rps j) vs) ∧
    (∀ (i : Nat) L o, Ls[i]? = some L → (rpObjs ts rps)[i]? = some o → (∀ ρ m, ORel ρ m w' L o.mine) ∧ (∀ M pg, o.mine ≠ .pmem M pg) ∧ (L.live = true → w.heap.size ≤ L.block ∧ L.block < w'.heap.size)) ∧
    ∀ (i j : Nat) L L', i ≠ j → Ls[i]? = some L → Ls[j]? = some L' → L.live = true → L'.live = true → L.block ≠ L'.block
def PureSemL (P : Program) (g : FuncId) (pts rts : List PT) (cvs : List CV) (rps : List Rp) : Prop :=
  ∀ (w : World) (vals : Array Value), ValsOk pts vals.toList → AllV w (flatT pts) cvs (flatV pts vals.toList) →
    Calls P g vals w fun e w' => ∃ val, e = .returned val ∧ Calm w w' ∧ (rts.length ≠ 1 → ∃ l, val = .tuple l) ∧ ValsOk rts (resVals rts val) ∧ Placed w w' (flatT rts) rps (flatV rts (resVals rts val))
def lCon (pts rts : List PT) (pre : List CV → B) (F : List CV → List Rp) : Con := fun args σ =>
  match (flatA pts args).bind (cellsIn σ (flatT pts)) with
  | none => .fail "contract"
  | some (cvs, g) => .guard g (.guard (pre cvs) (.ok (resAV rts (rpCells (flatT rts) (F cvs) σ.length), σ ++ (rpObjs (flatT rts) (F cvs)).map AO.mine)))

theorem at_append {σ τ : St} {i : Nat} : St.at (σ ++ τ) i = if i < σ.length then σ.at i else τ.at (i - σ.length) := by
  unfold St.at
  rw [List.getD_eq_getElem?_getD, List.getElem?_append]
  split
  · rw [List.getD_eq_getElem?_getD]
  · rw [List.getD_eq_getElem?_getD]
theorem Rel.addNew {ρ : Nat → Loc} {σ τ : St} {w w' : World} {Ls : List Loc} (hr : Rel ρ σ w) (hc : Calm w w') (hlen : Ls.length = τ.length)
    (ho : ∀ (i : Nat) L o, Ls[i]? = some L → τ[i]? = some o → (∀ ρ m, ORel ρ m w' L o) ∧ (∀ M pg, o ≠ .pmem M pg) ∧ (L.live = true → w.heap.size ≤ L.block ∧ L.block < w'.heap.size))
    (hd : ∀ (i j : Nat) L L', i ≠ j → Ls[i]? = some L → Ls[j]? = some L' → L.live = true → L'.live = true → L.block ≠ L'.block) :
    Rel (fun i => if i < σ.length then ρ i else Ls.getD (i - σ.length) noLoc) (σ ++ τ) w' ∧ Ext ρ σ w (fun i => if i < σ.length then ρ i else Ls.getD (i - σ.length) noLoc) (σ ++ τ) w' := by
  obtain ⟨r1, r2⟩ := hr.calm hc
  generalize hρ : (fun i => if i < σ.length then ρ i else Ls.getD (i - σ.length) noLoc) = ρ'
  have e1 : ∀ i, i < σ.length → ρ' i = ρ i := fun i hi => by rw [← hρ]; simp only; rw [if_pos hi]
  have e2 : ∀ i, σ.length ≤ i → ρ' i = Ls.getD (i - σ.length) noLoc := fun i hi => by rw [← hρ]; simp only; rw [if_neg (by omega)]
  have a1 : ∀ i, i < σ.length → (σ ++ τ).at i = σ.at i := fun i hi => by rw [at_append, if_pos hi]
  have a2 : ∀ i, σ.length ≤ i → (σ ++ τ).at i = τ.at (i - σ.length) := fun i hi => by rw [at_append, if_neg (by omega)]
  -- what lies beyond
  have new : ∀ i, σ.length ≤ i → used ρ' (σ ++ τ) i → ∃ L o, Ls[i - σ.length]? = some L ∧ τ[i - σ.length]? = some o ∧ ρ' i = L ∧ (σ ++ τ).at i = o ∧ L.live = true := by
    intro i hi hu
    have h1 := hu.lt
    rw [List.length_append] at h1
    have h2 : i - σ.length < Ls.length := by omega
    have h3 : i - σ.length < τ.length := by omega
    refine ⟨Ls[i - σ.length], τ[i - σ.length], List.getElem?_eq_getElem h2, List.getElem?_eq_getElem h3, ?_, ?_, ?_⟩
    · rw [e2 i hi]; simp [h2]
    · rw [a2 i hi, at_eq, List.getElem?_eq_getElem h3]; rfl
    · have := hu.1
      rw [e2 i hi] at this
      simpa [h2] using this
  have old : ∀ i, i < σ.length → used ρ' (σ ++ τ) i → used ρ σ i := fun i hi hu => ⟨by rw [← e1 i hi]; exact hu.1, by rw [← a1 i hi]; exact hu.2⟩
  have newfoot : ∀ i, σ.length ≤ i → used ρ' (σ ++ τ) i → ∀ b, foot w' (ρ' i) ((σ ++ τ).at i) b → w.heap.size ≤ b ∧ b = (ρ' i).block := by
    intro i hi hu b hb
    obtain ⟨L, o, h1, h2, h3, h4, h5⟩ := new i hi hu
    obtain ⟨_, q2, q3⟩ := ho _ L o h1 h2
    rw [h3, h4] at hb
    have := (foot_row q2).1 hb
    rw [h3]
    exact ⟨by rw [this]; exact (q3 h5).1, this⟩
  have oldfoot : ∀ i, i < σ.length → used ρ' (σ ++ τ) i → ∀ b, foot w' (ρ' i) ((σ ++ τ).at i) b → b < w.heap.size ∧ foot w' (ρ i) (σ.at i) b := by
    intro i hi hu b hb
    rw [e1 i hi, a1 i hi] at hb
    have hu' := old i hi hu
    exact ⟨hr.fbnd hu' ((foot_keep (hc.2.2.2.2 _ (hr.bnd i hu'))).1 hb), hb⟩
  refine ⟨⟨fun i => ?_, fun i j hij h1 h2 b b1 b2 => ?_, fun i hu => ?_⟩, ⟨by simp, fun i hi => e1 i hi, hc.1, hc.2.1, hc.2.2.1, hc.2.2.2.1, fun b hb _ => hc.2.2.2.2 b hb, fun i hi b hb => ?_⟩⟩
  · rcases Nat.lt_or_ge i σ.length with hi | hi
    · rw [e1 i hi, a1 i hi]
      exact (r1.obj i).mono (fun k hk => e1 k hk) (by simp) fun _ _ _ _ => rfl
    · rw [a2 i hi, e2 i hi]
      rcases Nat.lt_or_ge (i - σ.length) τ.length with h3 | h3
      · have h2 : i - σ.length < Ls.length := by omega
        rw [at_eq, List.getElem?_eq_getElem h3]
        rw [show Ls.getD (i - σ.length) noLoc = Ls[i - σ.length] by simp [h2]]
        exact (ho _ _ _ (List.getElem?_eq_getElem h2) (List.getElem?_eq_getElem h3)).1 _ _
      · rw [at_ge h3]; exact True.intro
  · rcases Nat.lt_or_ge i σ.length with hi | hi <;> rcases Nat.lt_or_ge j σ.length with hj | hj
    · obtain ⟨_, b1'⟩ := oldfoot i hi h1.used b b1
      obtain ⟨_, b2'⟩ := oldfoot j hj h2 b b2
      exact r1.sep i j hij ⟨by rw [← e1 i hi]; exact h1.1, by rw [← a1 i hi]; exact h1.2⟩ (old j hj h2) b b1' b2'
    · have := (oldfoot i hi h1.used b b1).1
      have := (newfoot j hj h2 b b2).1
      omega
    · have := (newfoot i hi h1.used b b1).1
      have := (oldfoot j hj h2 b b2).1
      omega
    · obtain ⟨L, o, p1, p2, p3, p4, p5⟩ := new i hi h1.used
      obtain ⟨L', o', q1, q2, q3, q4, q5⟩ := new j hj h2
      refine hd (i - σ.length) (j - σ.length) L L' (by omega) p1 q1 p5 q5 ?_
      rw [← p3, ← q3, ← (newfoot i hi h1.used b b1).2, ← (newfoot j hj h2 b b2).2]
  · rcases Nat.lt_or_ge i σ.length with hi | hi
    · rw [e1 i hi]
      exact Nat.lt_of_lt_of_le (hr.bnd i (old i hi hu)) hc.2.2.2.1
    · obtain ⟨L, o, p1, p2, p3, p4, p5⟩ := new i hi hu
      rw [p3]
      exact ((ho _ L o p1 p2).2.2 p5).2
  · rcases Nat.lt_or_ge i σ.length with h' | h'
    · left
      obtain ⟨q1, q2⟩ := oldfoot i h' hi.used b hb
      have hu := old i h' hi.used
      exact ⟨i, ⟨hu.1, by rw [← a1 i h']; exact hi.2⟩, (foot_keep (hc.2.2.2.2 _ (hr.bnd i hu))).1 q2⟩
    · exact .inr (newfoot i h' hi.used b hb).1
theorem lCon_sound {P : Program} {g : FuncId} {pts rts : List PT} {pre : List CV → B} {F : List CV → List Rp} (hf : ∃ fn, P.funcs[g]? = some fn ∧ fn.body.isSome = true)
    (h : ∀ cvs, (pre cvs).den = true → (∃ w vs, AllV w (flatT pts) cvs vs) → PureSemL P g pts rts cvs (F cvs)) : ∀ args σ v σ', (lCon pts rts pre F args σ).run = some (v, σ') → Den P g args σ v σ' := by
  intro args σ v σ' hrun
  unfold lCon at hrun
  split at hrun
  · cases hrun
  · rename_i cvs g' hin
    obtain ⟨c, hc1, hc2⟩ := Option.bind_eq_some_iff.1 hin
    obtain ⟨hg, hrun⟩ := guard_some hrun
    obtain ⟨hpre, hrun⟩ := guard_some hrun
    cases hrun
    refine ⟨hf, fun ρ w vals hrel _ hv => ?_⟩
    have hv2 : ∀ (i : Nat) x y, args[i]? = some x → vals.toList[i]? = some y → ARel ρ σ.length x y := fun i x y a b => hv.2 i x y a (by simpa using b)
    have hlen : args.length = vals.toList.length := by simpa using hv.1
    have hvo := valsOk_of pts args vals.toList c hlen hv2 hc1
    have hlr := flat_rel pts args vals.toList c hlen hv2 hc1
    have hall := cells_in hrel _ _ _ _ _ hlr hc2 hg
    refine (h cvs hpre ⟨w, _, hall⟩ w vals hvo hall).mono fun e w' he => ?_
    obtain ⟨val, rfl, hcalm, r1, r2, Ls, l1, l2, l3, l4⟩ := he
    have ho : ∀ (i : Nat) L o, Ls[i]? = some L → ((rpObjs (flatT rts) (F cvs)).map AO.mine)[i]? = some o → (∀ ρ m, ORel ρ m w' L o) ∧ (∀ M pg, o ≠ .pmem M pg) ∧ (L.live = true → w.heap.size ≤ L.block ∧ L.block < w'.heap.size) := by
      intro i L o a b
      rw [List.getElem?_map] at b
      obtain ⟨o', h1, rfl⟩ := Option.map_eq_some_iff.1 b
      exact l3 i L o' a h1
    obtain ⟨k1, k2⟩ := hrel.addNew hcalm (by rw [List.length_map]; exact l1) ho l4
    obtain ⟨k3, k4⟩ := resAV_rel r1 r2 (l2 σ.length (fun i => if i < σ.length then ρ i else Ls.getD (i - σ.length) noLoc) (σ ++ (rpObjs (flatT rts) (F cvs)).map AO.mine).length (by simp [l1]) fun i _ => by
      rw [if_neg (by omega), Nat.add_sub_cancel_left])
    exact ⟨val, _, by unfold EndIs; rw [k4]; rfl, k3, k1, k2⟩
end Go.SX
