/- Operations' names: the contract of text.Name, of the document's Name. -/
import Derived.Test.YtimbamlodfohmaaDoorTxtN0
namespace Go.SX.Txt
open Go Go.SX Go.Proofs
set_option maxRecDepth 1000000
set_option linter.unusedSectionVars false
section
variable [Env]
theorem nm6 (i : Nat) (h : i < 62) : nmRun 6 (.c (i : Int)) (nameS i) [] = true := by
  match i, h with
  | 0, _ => exact nm6_0
  | 1, _ => exact nm6_1
  | 2, _ => exact nm6_2
  | 3, _ => exact nm6_3
  | 4, _ => exact nm6_4
  | 5, _ => exact nm6_5
  | 6, _ => exact nm6_6
  | 7, _ => exact nm6_7
  | 8, _ => exact nm6_8
  | 9, _ => exact nm6_9
  | 10, _ => exact nm6_10
  | 11, _ => exact nm6_11
  | 12, _ => exact nm6_12
  | 13, _ => exact nm6_13
  | 14, _ => exact nm6_14
  | 15, _ => exact nm6_15
  | 16, _ => exact nm6_16
  | 17, _ => exact nm6_17
  | 18, _ => exact nm6_18
  | 19, _ => exact nm6_19
  | 20, _ => exact nm6_20
  | 21, _ => exact nm6_21
  | 22, _ => exact nm6_22
  | 23, _ => exact nm6_23
  | 24, _ => exact nm6_24
  | 25, _ => exact nm6_25
  | 26, _ => exact nm6_26
  | 27, _ => exact nm6_27
  | 28, _ => exact nm6_28
  | 29, _ => exact nm6_29
  | 30, _ => exact nm6_30
  | 31, _ => exact nm6_31
  | 32, _ => exact nm6_32
  | 33, _ => exact nm6_33
  | 34, _ => exact nm6_34
  | 35, _ => exact nm6_35
  | 36, _ => exact nm6_36
  | 37, _ => exact nm6_37
  | 38, _ => exact nm6_38
  | 39, _ => exact nm6_39
  | 40, _ => exact nm6_40
  | 41, _ => exact nm6_41
  | 42, _ => exact nm6_42
  | 43, _ => exact nm6_43
  | 44, _ => exact nm6_44
  | 45, _ => exact nm6_45
  | 46, _ => exact nm6_46
  | 47, _ => exact nm6_47
  | 48, _ => exact nm6_48
  | 49, _ => exact nm6_49
  | 50, _ => exact nm6_50
  | 51, _ => exact nm6_51
  | 52, _ => exact nm6_52
  | 53, _ => exact nm6_53
  | 54, _ => exact nm6_54
  | 55, _ => exact nm6_55
  | 56, _ => exact nm6_56
  | 57, _ => exact nm6_57
  | 58, _ => exact nm6_58
  | 59, _ => exact nm6_59
  | 60, _ => exact nm6_60
  | 61, _ => exact nm6_61
  | n + 62, h => omega
theorem nm7 (i : Nat) (h : i < 62) : nmRun 7 (.c (i : Int)) (nameS i) [] = true := by
  match i, h with
  | 0, _ => exact nm7_0
  | 1, _ => exact nm7_1
  | 2, _ => exact nm7_2
  | 3, _ => exact nm7_3
  | 4, _ => exact nm7_4
  | 5, _ => exact nm7_5
  | 6, _ => exact nm7_6
  | 7, _ => exact nm7_7
  | 8, _ => exact nm7_8
  | 9, _ => exact nm7_9
  | 10, _ => exact nm7_10
  | 11, _ => exact nm7_11
  | 12, _ => exact nm7_12
  | 13, _ => exact nm7_13
  | 14, _ => exact nm7_14
  | 15, _ => exact nm7_15
  | 16, _ => exact nm7_16
  | 17, _ => exact nm7_17
  | 18, _ => exact nm7_18
  | 19, _ => exact nm7_19
  | 20, _ => exact nm7_20
  | 21, _ => exact nm7_21
  | 22, _ => exact nm7_22
  | 23, _ => exact nm7_23
  | 24, _ => exact nm7_24
  | 25, _ => exact nm7_25
  | 26, _ => exact nm7_26
  | 27, _ => exact nm7_27
  | 28, _ => exact nm7_28
  | 29, _ => exact nm7_29
  | 30, _ => exact nm7_30
  | 31, _ => exact nm7_31
  | 32, _ => exact nm7_32
  | 33, _ => exact nm7_33
  | 34, _ => exact nm7_34
  | 35, _ => exact nm7_35
  | 36, _ => exact nm7_36
  | 37, _ => exact nm7_37
  | 38, _ => exact nm7_38
  | 39, _ => exact nm7_39
  | 40, _ => exact nm7_40
  | 41, _ => exact nm7_41
  | 42, _ => exact nm7_42
  | 43, _ => exact nm7_43
  | 44, _ => exact nm7_44
  | 45, _ => exact nm7_45
  | 46, _ => exact nm7_46
  | 47, _ => exact nm7_47
  | 48, _ => exact nm7_48
  | 49, _ => exact nm7_49
  | 50, _ => exact nm7_50
  | 51, _ => exact nm7_51
  | 52, _ => exact nm7_52
  | 53, _ => exact nm7_53
  | 54, _ => exact nm7_54
  | 55, _ => exact nm7_55
  | 56, _ => exact nm7_56
  | 57, _ => exact nm7_57
  | 58, _ => exact nm7_58
  | 59, _ => exact nm7_59
  | 60, _ => exact nm7_60
  | 61, _ => exact nm7_61
  | n + 62, h => omega
end
@[reducible] def EvN1 (n : Int) : Env := ⟨fun _ => n, fun _ _ => 0, fun _ _ => []⟩
theorem name_run {g : FuncId} (hgg : (∀ [Env], nmRun g (.ex cN) noName [.ge (ltD cN (.num 0))] = true) ∧ (∀ [Env], nmRun g (.ex cN) noName [.ge (ltD (.num 61) cN)] = true) ∧ ∀ [Env] (i : Nat), i < 62 → nmRun g (.c (i : Int)) (nameS i) [] = true)
    {n : Int} (hk : IntKind.i64.has n) {ρ : Nat → Loc} {w : World} (hr : ∀ [Env], Rel ρ [tabR, .dead] w) (hg : GlOk ρ 2) :
    Calls Tryd.prog g #[.int .i64 n] w fun e w' => e = .returned (.string (nameOf n)) ∧ Calm w w' := by
  letI : Env := EvN1 n
  have dx : cN.den = n := (show clampI (-9223372036854775808) 9223372036854775807 n = n from clamp_eq hk)
  have one : ∀ f : Fk, f.holds → Holds [f] := fun f hf g hg => by rw [List.mem_singleton] at hg; subst hg; exact hf
  have nil : Holds [] := fun f h => by cases h
  unfold nameOf
  by_cases h1 : n < 0
  · rw [if_pos h1]
    exact str_run (soundB 12) (x := .ex cN) (one _ (by show 0 ≤ (ltD cN (.num 0)).den; rw [ltD_den]; show 0 ≤ (0 : Int) - cN.den - 1; omega)) dx hk hgg.1 hr hg rfl (.inl rfl)
  rw [if_neg h1]
  by_cases h2 : 61 < n
  · rw [if_pos h2]
    exact str_run (soundB 12) (x := .ex cN) (one _ (by show 0 ≤ (ltD (.num 61) cN).den; rw [ltD_den]; show 0 ≤ cN.den - 61 - 1; omega)) dx hk hgg.2.1 hr hg rfl (.inl rfl)
  rw [if_neg h2]
  have e : ((n.toNat : Nat) : Int) = n := by omega
  exact str_run (soundB 12) (x := .c (n.toNat : Int)) nil e hk (hgg.2.2 n.toNat (by omega)) hr hg rfl (.inl rfl)
theorem rel_env (e1 e2 : Env) {ρ : Nat → Loc} {w : World} (h : @Rel e1 ρ [tabR, .dead] w) : @Rel e2 ρ [tabR, .dead] w := by
  have hno : ∀ i, ¬ owned ρ [tabR, .dead] i := fun i hi => by
    have h2 := hi.2
    match i with
    | 0 => cases h2
    | 1 => cases h2
    | n + 2 => cases h2
  obtain ⟨h1, _, h3⟩ := h
  refine @Rel.mk e2 ρ _ w (fun i => ?_) (fun i j _ ho => absurd ho (hno i)) (fun i hu => h3 i hu)
  match i with
  | 0 =>
    have ho := h1 0
    refine ⟨ho.1, fun hl => ⟨fun i s hi => ?_, fun h => by cases h⟩⟩
    obtain ⟨v, v1, v2⟩ := (ho.2 hl).1 i s hi
    refine ⟨v, v1, ?_⟩
    have hi' : (Lib.asciiSpaceTab.map fun z => Sc.int .u8 (.c z))[i]? = some s := hi
    rw [List.getElem?_map] at hi'
    obtain ⟨z, _, rfl⟩ := Option.map_eq_some_iff.1 hi'
    exact v2
  | 1 => exact True.intro
  | n + 2 => exact True.intro
section
variable [Env]
def nameCon : List AV → St → Out (AV × St) := fun args σ =>
  match args, σ.at 0 with
  | [.one (.int .i64 x)], .row false 1 (.vals l) => bif lbeq Sc.beq l tab then
      match x with
      | .c n => .ok (.one (.str (nameOf n)), σ)
      | x => .ite (B.mkLt x (.c 0)) (fun _ => .ok (.one (.str noName), σ)) fun _ => .ite (B.mkLt (.c 61) x) (fun _ => .ok (.one (.str noName), σ)) fun _ => enumR x (fun i => .ok (.one (.str (nameS i)), σ)) 62 0
    else .fail "names"
  | _, _ => .fail "names"
theorem enum_names {x : X} {σ : St} {r : AV × St} : ∀ (m i : Nat), (enumR x (fun i => Out.ok (AV.one (.str (nameS i)), σ)) m i).run = some r → ∃ j : Nat, x.den = j ∧ r = (.one (.str (nameS j)), σ)
  | 0, i, h => by cases h
  | 1, i, h => by
    simp only [enumR] at h
    obtain ⟨g, h⟩ := guard_some h
    cases h
    rw [mkEq_den] at g
    exact ⟨i, beq_iff_eq.1 g, rfl⟩
  | m + 2, i, h => by
    simp only [enumR] at h
    rcases ite_some h with ⟨g, h⟩ | ⟨_, h⟩
    · cases h
      rw [mkEq_den] at g
      exact ⟨i, beq_iff_eq.1 g, rfl⟩
    · exact enum_names (m + 1) (i + 1) h
theorem name_small (i : Nat) : (nameS i).size ≤ big := by
  unfold nameS
  rw [List.getD_eq_getElem?_getD]
  cases h : (noName :: namesL)[i]? with
  | none => exact (by decide : (1 : Nat) ≤ big)
  | some s =>
    have h1 : ((noName :: namesL).all fun s => decide (s.size ≤ 20)) = true := by kernel_rfl
    have h2 : s.size ≤ 20 := of_decide_eq_true (List.all_eq_true.1 h1 s (List.mem_of_getElem? h))
    show s.size ≤ big
    unfold big; omega
theorem nameOf_small (n : Int) : (nameOf n).size ≤ big := by
  unfold nameOf
  split
  · exact (by decide : (1 : Nat) ≤ big)
  · split
    · exact (by decide : (1 : Nat) ≤ big)
    · exact name_small _
theorem nameCon_sound {g : FuncId} (hf : ∃ fn, Tryd.prog.funcs[g]? = some fn ∧ fn.body.isSome = true)
    (hgg : (∀ [Env], nmRun g (.ex cN) noName [.ge (ltD cN (.num 0))] = true) ∧ (∀ [Env], nmRun g (.ex cN) noName [.ge (ltD (.num 61) cN)] = true) ∧ ∀ [Env] (i : Nat), i < 62 → nmRun g (.c (i : Int)) (nameS i) [] = true) :
    ∀ args σ v σ', (nameCon args σ).run = some (v, σ') → Den Tryd.prog g args σ v σ' := by
  intro args σ v σ' h
  unfold nameCon at h
  split at h
  · rename_i x l hat
    cases hb : lbeq Sc.beq l tab with
    | false => rw [hb] at h; cases h
    | true =>
      rw [hb] at h
      simp only [cond_true] at h
      have hl : l = tab := lbeq_eq (fun _ _ => Sc.beq_eq) hb
      subst hl
      have key : ∃ s : ByteArray, v = .one (.str s) ∧ σ' = σ ∧ s = nameOf x.den := by
        split at h
        · rename_i n
          cases h
          exact ⟨_, rfl, rfl, rfl⟩
        · unfold nameOf
          rcases ite_some h with ⟨g, h⟩ | ⟨g, h⟩
          · cases h
            rw [mkLt_den, decide_eq_true_eq] at g
            have g : x.den < 0 := g
            exact ⟨_, rfl, rfl, by rw [if_pos g]⟩
          · rw [mkLt_den, decide_eq_false_iff_not] at g
            have g : ¬ x.den < 0 := g
            rcases ite_some h with ⟨g2, h⟩ | ⟨g2, h⟩
            · cases h
              rw [mkLt_den, decide_eq_true_eq] at g2
              have g2 : 61 < x.den := g2
              exact ⟨_, rfl, rfl, by rw [if_neg g, if_pos g2]⟩
            · rw [mkLt_den, decide_eq_false_iff_not] at g2
              have g2 : ¬ 61 < x.den := g2
              obtain ⟨j, hj, he⟩ := enum_names _ _ h
              cases he
              exact ⟨_, rfl, rfl, by rw [if_neg g, if_neg g2, hj, Int.toNat_natCast]⟩
      obtain ⟨s, rfl, rfl, hs⟩ := key
      refine ⟨hf, fun ρ w vals hrel hgl hv => ?_⟩
      obtain ⟨hv1, hv2⟩ := hv
      have hv3 : ∃ y, vals = #[y] := by
        match vals, hv1 with
        | ⟨[y]⟩, _ => exact ⟨y, rfl⟩
      obtain ⟨y, rfl⟩ := hv3
      have hy : SRel ρ σ'.length (.int .i64 x) y := hv2 0 _ y rfl rfl
      obtain ⟨rfl, hk⟩ := hy
      obtain ⟨r1, r2, _⟩ := sub_rel hrel hgl hat .dead (.inl rfl)
      refine (name_run hgg hk (fun [e : Env] => rel_env _ e r1) r2).mono fun e w' he => ?_
      obtain ⟨rfl, hcalm⟩ := he
      obtain ⟨q1, q2⟩ := hrel.calm hcalm
      exact ⟨.string (nameOf x.den), ρ, rfl, ⟨by rw [hs], by rw [hs]; exact nameOf_small _⟩, q1, q2⟩
  · cases h
end
end Go.SX.Txt
