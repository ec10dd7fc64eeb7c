/- A function that makes a new row of known strings of a known string, by a table of a package variable: as a contract. -/
import Derived.Test.YtimbamlodfohmaaDoorGxQ
import Derived.Test.YtimbamlodfohmaaDoorGxE
namespace Go.SX
open Go
set_option linter.unusedSectionVars false
variable [Env]
def isStr : Sc → Bool
  | .str _ => true
  | _ => false
def strsCon (tab : List Sc) (s : ByteArray) (strs : List Sc) : List AV → St → Out (AV × St) := fun args σ =>
  match args, σ.at 0 with
  | [.one (.str s')], .row false 1 (.vals l) => bif (s'.data.toList == s.data.toList) && lbeq Sc.beq l tab then
      .ok (.one (.sl true σ.length (.c 0) (.c ((strs.length : Nat) : Int)) 1), σ ++ [.row true 1 (.vals strs)]) else .fail "strings"
  | _, _ => .fail "strings"
def leafR (strs : List Sc) (_ : List Fk) (x : AV × St) : Bool :=
  match x.1, x.2 with
  | .one (.sl true id (.c o) (.c m) sz), [_, .row true z (.vals l)] => id == 1 && (o == 0 && (m == ((strs.length : Nat) : Int) && (sz == 1 && (z == 1 && lbeq Sc.beq l strs))))
  | _, _ => false
theorem strsCon_sound {P : Program} {call : FuncId → List AV → St → Out (AV × St)} (hc : CallSound P call) {g gi : FuncId} {tab strs : List Sc} {s : ByteArray}
    (hmap : gmapL = [(gi, 0)]) (hf : ∃ fn, P.funcs[g]? = some fn ∧ fn.body.isSome = true) (hstr : strs.all isStr = true)
    (htab : ∀ (i : Nat) c v (ρ ρ' : Nat → Loc) (n n' : Nat), tab[i]? = some c → SRel ρ n c v → SRel ρ' n' c v)
    (h : (call g [.one (.str s)] [.row false 1 (.vals tab)]).good (leafR strs) [] = true) :
    ∀ args σ v σ', (strsCon tab s strs args σ).run = some (v, σ') → Den P g args σ v σ' := by
  intro args σ v σ' hrun
  unfold strsCon at hrun
  split at hrun
  · rename_i s' l hat
    cases hb : (s'.data.toList == s.data.toList) && lbeq Sc.beq l tab with
    | false => rw [hb] at hrun; cases hrun
    | true =>
      rw [hb] at hrun
      simp only [cond_true] at hrun
      cases hrun
      rw [Bool.and_eq_true] at hb
      have hs : s' = s := by
        apply ByteArray.ext
        apply Array.toList_inj.1
        exact eq_of_beq hb.1
      have hl : l = tab := lbeq_eq (fun _ _ => Sc.beq_eq) hb.2
      subst hs; subst hl
      refine ⟨hf, fun ρ w vals hrel hgl hv => ?_⟩
      obtain ⟨⟨u, τ⟩, h1, q⟩ := good_ok (Q := fun x : AV × St => x.1 = .one (.sl true 1 (.c 0) (.c ((strs.length : Nat) : Int)) 1) ∧ ∃ o, x.2 = [o, .row true 1 (.vals strs)]) (fun fs a hf hl => by
        unfold leafR at hl
        split at hl
        · rename_i id o m sz o' z l' e1 e2
          simp only [Bool.and_eq_true, beq_iff_eq] at hl
          obtain ⟨a1, a2, a3, a4, a5, a6⟩ := hl
          have : l' = strs := lbeq_eq (fun _ _ => Sc.beq_eq) a6
          rw [e1, e2, a1, a2, a3, a4, a5, this]
          exact ⟨rfl, _, rfl⟩
        · cases hl) _ _ h (fun f hf => by cases hf)
      obtain ⟨rfl, o1, rfl⟩ := q
      obtain ⟨_, hden⟩ := hc _ _ _ _ _ h1
      obtain ⟨g1, g2, g3, g4⟩ := hgl gi 0 (by rw [hmap]; simp [gmapOf])
      let ρs : Nat → Loc := fun i => if i = 0 then ρ 0 else ⟨false, 0, 0, 0⟩
      have hno : ∀ i, ¬ owned ρs [.row false 1 (.vals l)] i := fun i hi => by
        have h2 := hi.2
        cases i with
        | zero => cases h2
        | succ i => cases h2
      have hob := hrel.obj 0
      rw [hat] at hob
      have hrs : Rel ρs [.row false 1 (.vals l)] w := by
        refine ⟨fun i => ?_, fun i j _ ho => absurd ho (hno i), fun i hu => ?_⟩
        · cases i with
          | zero =>
            refine ⟨hob.1, fun hl => ⟨fun i s hi => ?_, fun h => (by cases h)⟩⟩
            obtain ⟨v, v1, v2⟩ := (hob.2 hl).1 i s hi
            exact ⟨v, v1, htab i s v _ _ _ _ hi v2⟩
          | succ i => exact True.intro
        · cases i with
          | zero => exact hrel.bnd 0 ⟨g2, by rw [hat]; intro h; cases h⟩
          | succ i => exact absurd hu.1 (by show ¬ (false = true); simp)
      have hgs : GlOk ρs 1 := fun g id hg => by
        rw [hmap] at hg
        have := gmapOf_mem hg
        rw [List.mem_singleton] at this
        cases this
        exact ⟨by omega, g2, g3, g4⟩
      have hvs : VRel ρs 1 [.one (.str s')] vals := ⟨hv.1, fun i a x b c => by
        have := hv.2 i a x b c
        cases i with
        | zero => cases b; exact this
        | succ i => simp at b⟩
      refine (hden ρs w vals hrs hgs hvs).mono fun e w' he => ?_
      obtain ⟨val, ρ', k1, k2, k3, k4⟩ := he
      have hcalm : Calm w w' := ⟨k4.os, k4.tape, k4.output, k4.size, fun b hb => k4.keep b hb fun i hi => (hno i hi).elim⟩
      have ho1 := k3.obj 1
      have hnew : ∀ (i : Nat) L o, [ρ' 1][i]? = some L → ([AO.row true 1 (.vals strs)] : St)[i]? = some o → (∀ ρ m, ORel ρ m w' L o) ∧ (∀ M pg, o ≠ .pmem M pg) ∧ (L.live = true → w.heap.size ≤ L.block ∧ L.block < w'.heap.size) := by
        intro i L o a b
        cases i with
        | succ i => simp at b
        | zero =>
          cases a; cases b
          have ho1 : ORel ρ' 2 w' (ρ' 1) (.row true 1 (.vals strs)) := ho1
          refine ⟨fun ρ2 m => ⟨ho1.1, fun hl => ⟨fun i s hi => ?_, (ho1.2 hl).2⟩⟩, fun M pg h => (by cases h), fun hl => ?_⟩
          · obtain ⟨v, v1, v2⟩ := (ho1.2 hl).1 i s hi
            refine ⟨v, v1, ?_⟩
            have hs := List.all_eq_true.1 hstr s (List.mem_of_getElem? hi)
            cases s with
            | str b => exact v2
            | _ => cases hs
          · have hown : owned ρ' [o1, .row true 1 (.vals strs)] 1 := ⟨hl, rfl⟩
            refine ⟨?_, k3.bnd 1 hown.used⟩
            rcases k4.own 1 hown _ (foot_block _ _ _) with ⟨j, hj, _⟩ | h
            · exact absurd hj (hno j)
            · exact h
      obtain ⟨r1, r2⟩ := hrel.addNew (τ := [AO.row true 1 (.vals strs)]) (Ls := [ρ' 1]) hcalm rfl hnew (fun i j L L' hij a b => by
        have h1 : i < 1 := (List.getElem?_eq_some_iff.1 a).1
        have h2 : j < 1 := (List.getElem?_eq_some_iff.1 b).1
        omega)
      refine ⟨val, _, k1, ?_, r1, r2⟩
      have k2 : SRel ρ' 2 (.sl true 1 (.c 0) (.c ((strs.length : Nat) : Int)) 1) val := k2
      obtain ⟨o, m, e1, e2, e3, _, e4⟩ := k2
      rw [List.length_append]
      refine ⟨o, m, e1, e2, e3, by simp, ?_⟩
      simp only [Nat.lt_irrefl, if_false, Nat.sub_self]
      exact e4
  · cases hrun
end Go.SX
