/- Conditions' names: what cond.Name gives of each number, as a contract. -/
import Derived.Test.YtlcjkmedbgaaeaaDoorCndN0
import Derived.Test.YtlcjkmedbgaaeaaDoorCndN1
import Derived.Test.YtlcjkmedbgaaeaaDoorCndN2
import Derived.Test.YtlcjkmedbgaaeaaDoorCndN3
namespace Go.SX.Cnd
open Go Go.SX Go.Proofs Go.Proofs.YtlcjkmedbgaaeaaDoor
set_option maxRecDepth 1000000
set_option linter.unusedSectionVars false
@[reducible] def EvN1 (n : Int) : Env := ⟨fun _ => n, fun _ _ => 0, fun _ _ => []⟩
/-- what the function gives -/
def nameOf (n : Int) : ByteArray := if n < 0 then noName else if 15 < n then noName else nameS n.toNat
theorem name_run {n : Int} (hk : IntKind.i64.has n) {W : World}
    (htab : ∀ i c, tab[i]? = some c → ∃ v, W.cell? ⟨0, i, none⟩ = some v ∧ ∀ (e : Env) ρ m, @SRel e ρ m c v) (hsz : 0 < W.heap.size) :
    Calls Tryd.prog 9 #[.int .i64 n] W fun e W' => e = .returned (.string (nameOf n)) ∧ Calm W W' := by
  letI : Env := EvN1 n
  have ht : ∀ i c, tab[i]? = some c → ∃ v, W.cell? ⟨0, i, none⟩ = some v ∧ ∀ ρ m, SRel ρ m c v := fun i c hi => by
    obtain ⟨v, h1, h2⟩ := htab i c hi
    exact ⟨v, h1, fun ρ m => h2 _ ρ m⟩
  have dx : cN.den = n := (show clampI (-9223372036854775808) 9223372036854775807 n = n from clamp_eq hk)
  have one : ∀ f : Fk, f.holds → Holds [f] := fun f hf g hg => by rw [List.mem_singleton] at hg; subst hg; exact hf
  have nil : Holds [] := fun f h => by cases h
  unfold nameOf
  by_cases h1 : n < 0
  · rw [if_pos h1]
    exact glob_str (sound0 12) (x := .ex cN) (one _ (by show 0 ≤ (ltD cN (.num 0)).den; rw [ltD_den]; show 0 ≤ (0 : Int) - cN.den - 1; omega)) dx hk nameLo ht hsz
  rw [if_neg h1]
  by_cases h2 : 15 < n
  · rw [if_pos h2]
    exact glob_str (sound0 12) (x := .ex cN) (one _ (by show 0 ≤ (ltD (.num 15) cN).den; rw [ltD_den]; show 0 ≤ cN.den - 15 - 1; omega)) dx hk nameHi ht hsz
  rw [if_neg h2]
  have h3 : n = 0 ∨ n = 1 ∨ n = 2 ∨ n = 3 ∨ n = 4 ∨ n = 5 ∨ n = 6 ∨ n = 7 ∨ n = 8 ∨ n = 9 ∨ n = 10 ∨ n = 11 ∨ n = 12 ∨ n = 13 ∨ n = 14 ∨ n = 15 := by omega
  rcases h3 with rfl | rfl | rfl | rfl | rfl | rfl | rfl | rfl | rfl | rfl | rfl | rfl | rfl | rfl | rfl | rfl
  · exact glob_str (sound0 12) (x := .c 0) nil rfl hk name0 ht hsz
  · exact glob_str (sound0 12) (x := .c 1) nil rfl hk name1 ht hsz
  · exact glob_str (sound0 12) (x := .c 2) nil rfl hk name2 ht hsz
  · exact glob_str (sound0 12) (x := .c 3) nil rfl hk name3 ht hsz
  · exact glob_str (sound0 12) (x := .c 4) nil rfl hk name4 ht hsz
  · exact glob_str (sound0 12) (x := .c 5) nil rfl hk name5 ht hsz
  · exact glob_str (sound0 12) (x := .c 6) nil rfl hk name6 ht hsz
  · exact glob_str (sound0 12) (x := .c 7) nil rfl hk name7 ht hsz
  · exact glob_str (sound0 12) (x := .c 8) nil rfl hk name8 ht hsz
  · exact glob_str (sound0 12) (x := .c 9) nil rfl hk name9 ht hsz
  · exact glob_str (sound0 12) (x := .c 10) nil rfl hk name10 ht hsz
  · exact glob_str (sound0 12) (x := .c 11) nil rfl hk name11 ht hsz
  · exact glob_str (sound0 12) (x := .c 12) nil rfl hk name12 ht hsz
  · exact glob_str (sound0 12) (x := .c 13) nil rfl hk name13 ht hsz
  · exact glob_str (sound0 12) (x := .c 14) nil rfl hk name14 ht hsz
  · exact glob_str (sound0 12) (x := .c 15) nil rfl hk name15 ht hsz
section
variable [Env]
def nameCon : List AV → St → Out (AV × St) := fun args σ =>
  match args, σ.at 0 with
  | [.one (.int .i64 x)], .row false 1 (.vals l) => bif lbeq Sc.beq l tab then
      .ite (B.mkLt x (.c 0)) (fun _ => .ok (.one (.str noName), σ)) fun _ => .ite (B.mkLt (.c 15) x) (fun _ => .ok (.one (.str noName), σ)) fun _ => enumR x (fun i => .ok (.one (.str (nameS i)), σ)) 16 0
    else .fail "names"
  | _, _ => .fail "names"
theorem enum_names {x : X} {σ : St} {r : AV × St} : ∀ (m i : Nat), (enumR x (fun i => Out.ok (AV.one (.str (nameS i)), σ)) m i).run = some r → ∃ j : Nat, x.den = j ∧ r = (.one (.str (nameS j)), σ)
  | 0, i, h => by cases h
  | 1, i, h => by
    simp only [enumR] at h
    obtain ⟨g, h⟩ := guard_some h
    cases h
    rw [mkEq_den] at g
    exact ⟨i, beq_iff_eq.1 g, rfl⟩
  | m + 2, i, h => by
    simp only [enumR] at h
    rcases ite_some h with ⟨g, h⟩ | ⟨_, h⟩
    · cases h
      rw [mkEq_den] at g
      exact ⟨i, beq_iff_eq.1 g, rfl⟩
    · exact enum_names (m + 1) (i + 1) h
theorem name_small (i : Nat) : (nameS i).size ≤ big := by
  unfold nameS
  rw [List.getD_eq_getElem?_getD]
  cases h : namesL[i]? with
  | none => exact Nat.zero_le _
  | some s =>
    have h1 : (namesL.all fun s => decide (s.size ≤ 2)) = true := by kernel_rfl
    have h2 : s.size ≤ 2 := of_decide_eq_true (List.all_eq_true.1 h1 s (List.mem_of_getElem? h))
    show s.size ≤ big
    unfold big; omega
theorem nameCon_sound : ∀ args σ v σ', (nameCon args σ).run = some (v, σ') → Den Tryd.prog 9 args σ v σ' := by
  intro args σ v σ' h
  unfold nameCon at h
  split at h
  · rename_i x l hat
    cases hb : lbeq Sc.beq l tab with
    | false => rw [hb] at h; cases h
    | true =>
      rw [hb] at h
      simp only [cond_true] at h
      have hl : l = tab := lbeq_eq (fun _ _ => Sc.beq_eq) hb
      subst hl
      have key : ∃ s : ByteArray, v = .one (.str s) ∧ σ' = σ ∧ s = nameOf x.den ∧ s.size ≤ big := by
        unfold nameOf
        rcases ite_some h with ⟨g, h⟩ | ⟨g, h⟩
        · cases h
          rw [mkLt_den, decide_eq_true_eq] at g
          have g : x.den < 0 := g
          exact ⟨_, rfl, rfl, by rw [if_pos g], Nat.zero_le _⟩
        · rw [mkLt_den, decide_eq_false_iff_not] at g
          have g : ¬ x.den < 0 := g
          rcases ite_some h with ⟨g2, h⟩ | ⟨g2, h⟩
          · cases h
            rw [mkLt_den, decide_eq_true_eq] at g2
            have g2 : 15 < x.den := g2
            exact ⟨_, rfl, rfl, by rw [if_neg g, if_pos g2], Nat.zero_le _⟩
          · rw [mkLt_den, decide_eq_false_iff_not] at g2
            have g2 : ¬ 15 < x.den := g2
            obtain ⟨j, hj, he⟩ := enum_names _ _ h
            cases he
            exact ⟨_, rfl, rfl, by rw [if_neg g, if_neg g2, hj, Int.toNat_natCast], name_small _⟩
      obtain ⟨s, rfl, rfl, hs, hsz⟩ := key
      refine ⟨⟨_, Tryd.func9, rfl⟩, fun ρ w vals hrel hgl hv => ?_⟩
      obtain ⟨hv1, hv2⟩ := hv
      have hv3 : ∃ y, vals = #[y] := by
        match vals, hv1 with
        | ⟨[y]⟩, _ => exact ⟨y, rfl⟩
      obtain ⟨y, rfl⟩ := hv3
      have hy : SRel ρ σ'.length (.int .i64 x) y := hv2 0 _ y rfl rfl
      obtain ⟨rfl, hk⟩ := hy
      obtain ⟨q1, q2, q3, q4⟩ := hgl 0 0 rfl
      have hob := hrel.obj 0
      rw [hat] at hob
      have hcr := (hob.2 q2).1
      have hrun := name_run (W := w) hk (fun i c hi => by
        obtain ⟨u, u1, u2⟩ := hcr i c hi
        rw [q3, q4, Nat.zero_add] at u1
        refine ⟨u, u1, fun e ρ' m => ?_⟩
        unfold tab at hi
        rw [List.getElem?_map] at hi
        obtain ⟨z, _, rfl⟩ := Option.map_eq_some_iff.1 hi
        exact u2) (by have := hrel.bnd 0 ⟨q2, by rw [hat]; intro h; cases h⟩; omega)
      refine hrun.mono fun e w' he => ?_
      obtain ⟨rfl, hcalm⟩ := he
      obtain ⟨r1, r2⟩ := hrel.calm hcalm
      exact ⟨.string (nameOf x.den), ρ, rfl, ⟨by rw [hs], hsz⟩, r1, r2⟩
  · cases h
end
end Go.SX.Cnd
