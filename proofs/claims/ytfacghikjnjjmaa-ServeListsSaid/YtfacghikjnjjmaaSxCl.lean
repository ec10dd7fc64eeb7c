/- Copies of slices that may be nil: a contract. -/
import Derived.Test.YtfacghikjnjjmaaSxFu
namespace Go.SX
open Go Go.Lib
set_option linter.unusedSectionVars false
section
variable [Env]
theorem den_nil1 {P : Program} {g : FuncId} {id z : Nat} {o l : X} {σ σ' : St} {v : AV} (h1 : l.den = 0 → Den P g [.one .nils] σ v σ') (h2 : Den P g [.one (.sl true id o l z)] σ v σ') : Den P g [.one (.sl false id o l z)] σ v σ' := by
  obtain ⟨hf, h2⟩ := h2
  refine ⟨hf, fun ρ w vals hr hg hv => ?_⟩
  obtain ⟨hl, hv1⟩ := hv
  have hs : vals.size = 1 := by simpa using hl.symm
  have hx : vals[0]? = some (vals[0]'(by omega)) := Array.getElem?_eq_getElem (by omega)
  have ha := hv1 0 _ _ rfl hx
  obtain ⟨oo, ll, s1, s2, s3, s4, s5⟩ := ha
  have one : ∀ {a : AV}, ARel ρ σ.length a (vals[0]'(by omega)) → VRel ρ σ.length [a] vals := fun {a} h => ⟨by simp [hs], fun i b x hb hxx => by
    cases i with
    | zero =>
      have e1 : a = b := by simpa using hb
      subst e1
      rw [hx] at hxx
      cases hxx
      exact h
    | succ i => simp at hb⟩
  rcases s5 with ⟨_, e1, e2⟩ | h | h
  · exact (h1 (by rw [s2, e1]; rfl)).2 ρ w vals hr hg (one e2)
  · exact h2 ρ w vals hr hg (one ⟨oo, ll, s1, s2, s3, s4, .inr (.inl h)⟩)
  · exact h2 ρ w vals hr hg (one ⟨oo, ll, s1, s2, s3, s4, .inr (.inr h)⟩)
theorem nil_objC {ρ : Nat → Loc} {σ : St} {w : World} (h : Rel ρ σ w) (z : Nat) {c : Cells} (hc : c.len = 0) : Rel (setLoc ρ σ.length noLoc) (σ.new (.row true z c)) w ∧ Ext ρ σ w (setLoc ρ σ.length noLoc) (σ.new (.row true z c)) w := by
  constructor
  · refine h.upd (setLoc_same _ _ _) (by rw [St.len_new]; omega) σ.length ?_ ?_ ?_ ?_ (Nat.le_refl _) ?_
    · intro i hi; left; rw [St.at_new, if_neg hi]
    · intro i hi hu _ b hb; rfl
    · rw [St.len_new, setLoc_at, St.at_new, if_pos rfl]
      exact ⟨fun _ => hc, fun h => by cases h⟩
    · intro hu; have := hu.1; rw [setLoc_at] at this; cases this
    · intro hu; have := hu.1; rw [setLoc_at] at this; cases this
  · refine ⟨by rw [St.len_new]; omega, setLoc_same _ _ _, rfl, rfl, rfl, Nat.le_refl _, fun b _ _ => rfl, fun i hi b hb => ?_⟩
    by_cases e : i = σ.length
    · subst e
      have := hi.1; rw [setLoc_at] at this; cases this
    · left
      have e2 : setLoc ρ σ.length noLoc i = ρ i := by unfold setLoc; rw [if_neg e]
      have e3 : (σ.new (.row true z c)).at i = σ.at i := by rw [St.at_new, if_neg e]
      have ho : owned ρ σ i := ⟨by rw [← e2]; exact hi.1, by rw [← e3]; exact hi.2⟩
      refine ⟨i, ho, ?_⟩
      rw [e2, e3] at hb
      exact hb
theorem den_nil_res {P : Program} {g : FuncId} {args : List AV} {σ : St} {z : Nat} {c : Cells} {l : X} (hc : c.len = 0) (hl : l.den = 0) (h : Den P g args σ (.one .nils) σ) : Den P g args σ (.one (.sl false σ.length (.c 0) l z)) (σ.new (.row true z c)) := by
  refine ⟨h.1, fun ρ w vals hr hg hv => (h.2 ρ w vals hr hg hv).mono fun e w' he => ?_⟩
  obtain ⟨val, ρ1, h1, h2, h3, h4⟩ := he
  obtain ⟨k1, k2⟩ := nil_objC h3 z hc
  have h2 : val = .slice none 0 0 := h2
  refine ⟨val, setLoc ρ1 σ.length noLoc, h1, ?_, k1, h4.trans k2⟩
  rw [St.len_new]
  exact ⟨0, 0, rfl, hl, Nat.zero_le _, Nat.lt_succ_self _, .inl ⟨rfl, rfl, h2⟩⟩
def lenB : Cells → X → B
  | .ex _ e, l => B.mkEq l (.ex (.ln e))
  | .tb ks e, l => B.mkAnd (.c (decide (0 < ks.length))) (B.mkEq (mulX ks.length l) (.ex (.ln e)))
  | _, _ => .c false
def cloneEnd (l : X) (z : Nat) (σ : St) (v : AV) (σ' : St) : Out (AV × St) :=
  match v, σ'.at σ.length with
  | .one (.sl false id' (.c 0) l' z'), .row true z2 c =>
    if id' == σ.length && (z' == z && (z2 == z && lbeq AO.beq σ' (σ.new (.row true z c)))) then .guard (B.mkEq l' l) (.guard (lenB c l) (.ok (v, σ'))) else .fail "clone: state"
  | _, _ => .fail "clone: end"
/-- a copy: what is copied is one's own, or not -/
def cloneCon (sO sN : FSig) : Con := fun args σ =>
  match args with
  | [.one .nils] => .ok (.one .nils, σ)
  | [.one (.sl _ id o l z)] => (frameCon 0 (fCon (if (σ.at id).own then sO else sN) []) [.one (.sl true id o l z)] σ).bind fun x => cloneEnd l z σ x.1 x.2
  | _ => .fail "clone"
theorem lenB_zero {c : Cells} {l : X} (h : (lenB c l).den = true) (hl : l.den = 0) : c.len = 0 := by
  unfold lenB at h
  split at h
  · rename_i k e
    rw [mkEq_den, beq_iff_eq, hl] at h
    have h : (0 : Int) = ((e.dens.length : Nat) : Int) := h
    show e.dens.length = 0
    omega
  · rename_i ks e
    rw [mkAnd_den, Bool.and_eq_true, mkEq_den, beq_iff_eq, mulX_den, hl, Int.mul_zero] at h
    have h : (0 : Int) = ((e.dens.length : Nat) : Int) := h.2
    show e.dens.length = 0
    omega
  · cases h
theorem cloneCon_sound {P : Program} {g : FuncId} {sO sN : FSig} (hO : ∀ args σ v σ', (frameCon 0 (fCon sO []) args σ).run = some (v, σ') → Den P g args σ v σ') (hN : ∀ args σ v σ', (frameCon 0 (fCon sN []) args σ).run = some (v, σ') → Den P g args σ v σ')
    (hnil : ∀ σ, Den P g [.one .nils] σ (.one .nils) σ) : ∀ args σ v σ', (cloneCon sO sN args σ).run = some (v, σ') → Den P g args σ v σ' := by
  intro args σ v σ' h
  unfold cloneCon at h
  split at h
  · cases h
    exact hnil σ
  · rename_i nn id o l z
    obtain ⟨⟨v1, σ1⟩, h1, h2⟩ := bind_some h
    have hd : Den P g [.one (.sl true id o l z)] σ v1 σ1 := by
      split at h1
      · exact hO _ _ _ _ h1
      · exact hN _ _ _ _ h1
    unfold cloneEnd at h2
    split at h2
    · rename_i id' l' z' z2 c hv hat
      have hv : v1 = .one (.sl false id' (.c 0) l' z') := hv
      subst hv
      split at h2
      · rename_i hc
        simp only [Bool.and_eq_true, beq_iff_eq] at hc
        obtain ⟨rfl, rfl, rfl, hst⟩ := hc
        have hst := lbeq_eq (fun _ _ => AO.beq_eq) hst
        obtain ⟨g1, h2⟩ := guard_some h2
        obtain ⟨g2, h2⟩ := guard_some h2
        cases h2
        cases nn with
        | true => exact hd
        | false =>
          refine den_nil1 (fun hl => ?_) hd
          rw [hst]
          rw [mkEq_den, beq_iff_eq] at g1
          exact den_nil_res (lenB_zero g2 hl) (by rw [g1]; exact hl) (hnil σ)
      · cases h2
    · cases h2
  · cases h
theorem mergeSt_nil (σ : St) : mergeSt [] σ [] = σ := by
  unfold mergeSt
  refine List.ext_getElem? fun i => ?_
  by_cases hi : i < σ.length
  · rw [List.getElem?_append_left (by simpa using hi), List.getElem?_map, List.getElem?_range hi, List.getElem?_eq_getElem hi]
    show some (St.at σ i) = _
    show some (σ.getD i .dead) = _
    rw [List.getD_eq_getElem?_getD, List.getElem?_eq_getElem hi]; rfl
  · rw [List.getElem?_eq_none (by simp; omega), List.getElem?_eq_none (by omega)]
theorem nil_den {P : Program} {g : FuncId} {call : FuncId → List AV → St → Out (AV × St)} (hc : CallSound P call) (h : (call g [.one .nils] []).run = some (.one .nils, [])) (hg : gmapL = []) (σ : St) : Den P g [.one .nils] σ (.one .nils) σ := by
  refine frameCon_sound (ng := 0) (con := call g) (fun args σ v σ' h => hc g args σ v σ' h) _ _ _ _ ?_
  unfold frameCon
  have hr : List.range 0 ++ reach σ 0 1000 (List.flatMap AV.ids [AV.one Sc.nils]) [] = [] := rfl
  rw [hr]
  have hcond : (nodupB ([] : List Nat) && (prefixB 0 [] 0 && ((gmapL.all fun p => decide (p.2 < 0)) && ([] : List Nat).all fun i => decide (i < σ.length)))) = true := by rw [hg]; rfl
  simp only [hcond, if_true]
  rw [Out.run_bind]
  have e1 : ([AV.one Sc.nils].map (AV.ren [])) = [.one .nils] := rfl
  rw [e1]
  show ((call g [.one .nils] []).run.bind _) = _
  rw [h]
  show (if frOk [] [] then Out.ok ((AV.one .nils).mv (up σ.length []), mergeSt [] σ []) else .fail "frame").run = _
  rw [mergeSt_nil]
  rfl
end
end Go.SX
