/- TextNames: true, whatever the input, where the tables are as they are laid. -/
import Derived.Test.YtimbamlodfohmaaDoorTxtM
import Derived.Test.YtimbamlodfohmaaDoorTxtK
import Derived.Lib.Space
namespace Go.SX.Txt
open Go Go.SX Go.Proofs Go.Proofs.YtimbamlodfohmaaDoor
set_option maxRecDepth 1000000
set_option linter.unusedSectionVars false
/-! What the laid tables say. -/
abbrev laid : List (String × DataW Unit) := [("math/bits.deBruijn32tab", Rows.laid_math_bits_deBruijn32tab), ("math/bits.deBruijn64tab", Rows.laid_math_bits_deBruijn64tab), ("internal/strconv.uint64pow10", Rows.laid_internal_strconv_uint64pow10), ("unicode.White_Space", Rows.laid_unicode_White_Space), ("strings.asciiSpace", Rows.laid_strings_asciiSpace)]
theorem gA : Tryd.prog.globalNamed "strings.asciiSpace" = some 0 := by kernel_rfl
theorem gD : Tryd.prog.globalNamed "math/bits.deBruijn64tab" = some 5 := by kernel_rfl
theorem dataA : Rows.laid_strings_asciiSpace = Lib.tabData (H := Unit) .u8 Lib.asciiSpaceTab := by kernel_rfl
theorem dataD : Rows.laid_math_bits_deBruijn64tab = Lib.tabData (H := Unit) .u8 dbL := by kernel_rfl
theorem u8A : (Lib.asciiSpaceTab.all fun z => decide (0 ≤ z) && decide (z ≤ 255)) = true := by kernel_rfl
theorem u8D : (dbL.all fun z => decide (0 ≤ z) && decide (z ≤ 255)) = true := by kernel_rfl
theorem of_laid {W : World} (h : laidMetH Tryd.prog laid W) : Lib.TabIs Tryd.prog W "strings.asciiSpace" .u8 Lib.asciiSpaceTab ∧ Lib.TabIs Tryd.prog W "math/bits.deBruijn64tab" .u8 dbL := by
  rw [MakeChecks.laidMetH_plain _ _ _ (by kernel_rfl)] at h
  obtain ⟨ps, ⟨_, _, _, _, _, _, _, _, _, _, ⟨g1, t1, c1, f1, p1, q1, hg1, ht1, hv1, hd1, ⟨_, _, _, _, _, _, _, _, _, _, ⟨_, _, _, _, _, _, _, _, _, _, ⟨g2, t2, c2, f2, p2, q2, hg2, ht2, hv2, hd2, _, _⟩, _⟩, _⟩, _⟩, _⟩, _, _⟩ := h
  constructor
  · obtain ⟨t, n, e, hty, ht, he, hce, hct⟩ : ∃ t n e, (Tryd.prog.globals[0]?).map (·.type) = some t ∧ Tryd.prog.underlying t = some (.array n e) ∧ Tryd.prog.underlying e = some (.int .u8) ∧ Tryd.prog.cellsOf e = 1 ∧ Tryd.prog.cellsOf t = n :=
      ⟨67, 256, 5, by kernel_rfl, Tryd.underlying67, Tryd.underlying5, by kernel_rfl, by kernel_rfl⟩
    obtain rfl := Option.some.inj (gA.symm.trans hg2)
    obtain rfl := Option.some.inj (hty.symm.trans ht2)
    rw [dataA] at hd2
    unfold Lib.TabIs
    rw [hv2, ← Lib.cells_of_tab ht he hce hct hd2]
  · obtain ⟨t, n, e, hty, ht, he, hce, hct⟩ : ∃ t n e, (Tryd.prog.globals[5]?).map (·.type) = some t ∧ Tryd.prog.underlying t = some (.array n e) ∧ Tryd.prog.underlying e = some (.int .u8) ∧ Tryd.prog.cellsOf e = 1 ∧ Tryd.prog.cellsOf t = n :=
      ⟨124, 64, 5, by kernel_rfl, Tryd.underlying124, Tryd.underlying5, by kernel_rfl, by kernel_rfl⟩
    obtain rfl := Option.some.inj (gD.symm.trans hg1)
    obtain rfl := Option.some.inj (hty.symm.trans ht1)
    rw [dataD] at hd1
    unfold Lib.TabIs
    rw [hv1, ← Lib.cells_of_tab ht he hce hct hd1]
theorem tab_cells [Env] {W : World} {nm : String} {g : Nat} {l : List Int} (hg : Tryd.prog.globalNamed nm = some g) (hl : (l.all fun z => decide (0 ≤ z) && decide (z ≤ 255)) = true) (h : Lib.TabIs Tryd.prog W nm .u8 l) :
    ∀ (i : Nat) s, (l.map fun z => Sc.int .u8 (.c z))[i]? = some s → ∃ v, W.cell? ⟨g, i, none⟩ = some v ∧ ∀ ρ n, SRel ρ n s v := by
  intro i s hi
  rw [List.getElem?_map] at hi
  obtain ⟨z, hz, rfl⟩ := Option.map_eq_some_iff.1 hi
  have hlt : i < l.length := (List.getElem?_eq_some_iff.1 hz).1
  have hc := h.cell hg i hlt
  rw [List.getD_eq_getElem?_getD, hz] at hc
  refine ⟨_, hc, fun ρ n => ⟨rfl, ?_⟩⟩
  have := List.all_eq_true.1 hl z (List.mem_of_getElem? hz)
  rw [Bool.and_eq_true, decide_eq_true_eq, decide_eq_true_eq] at this
  exact this
theorem blk_lt {W : World} {b o : Nat} {v : Value} (h : W.cell? ⟨b, o, none⟩ = some v) : b < W.heap.size := by
  rcases Nat.lt_or_ge b W.heap.size with h0 | h0
  · exact h0
  · exfalso
    have : W.heap[b]? = none := Array.getElem?_eq_none h0
    simp [World.cell?, this] at h
section
variable [Env]
/-- a law, run in the state of both tables -/
theorem law_tabs {call : FuncId → List AV → St → Out (AV × St)} (hc : CallSound Tryd.prog call) {g : FuncId} {pts : List PT} {rps : List Rp} {cvs : List CV} {fs : List Fk}
    (hsc : (flatT pts).all scT = true) (hok : rpsOk (flatT pts) rps = true) (hcv : rpCVs (flatT pts) rps = cvs) (hf : Holds fs)
    (h : (call g (splitA pts (rpCells (flatT pts) rps 0)) [tabR, dbtR]).good leafG fs = true)
    {W : World} {args : Array Value} (hv : ValsOk pts args.toList) (ha : AllV W (flatT pts) cvs (flatV pts args.toList)) (hL : laidMetH Tryd.prog laid W) :
    Calls Tryd.prog g args W fun e W' => e = .returned (.bool true) ∧ Calm W W' := by
  obtain ⟨hA, hD⟩ := of_laid hL
  have cA := tab_cells gA u8A hA
  have cD := tab_cells gD u8D hD
  have sA : 0 < W.heap.size := blk_lt (hA.cell gA 0 (by rw [Lib.asciiSpaceTab_length]; decide))
  have sD : 5 < W.heap.size := blk_lt (hD.cell gD 0 (by decide))
  obtain ⟨⟨v, σ'⟩, h1, b, hb1, hb2⟩ := good_ok (Q := fun x : AV × St => ∃ b : B, x.1 = .one (.bool b) ∧ b.den = true) (fun fs a hf hl => by
    unfold leafG at hl
    split at hl
    · rename_i b e
      obtain ⟨_, _, h2⟩ := B.ask_ok b fs _ hl hf
      exact ⟨b, e, h2⟩
    · cases hl) _ _ h hf
  simp only at hb1
  subst hb1
  obtain ⟨_, hden⟩ := hc _ _ _ _ _ h1
  let ρ : Nat → Loc := fun i => if i = 0 then ⟨true, 0, 0, 0⟩ else if i = 1 then ⟨true, 5, 0, 0⟩ else ⟨false, 0, 0, 0⟩
  have hno : ∀ i, ¬ owned ρ [tabR, dbtR] i := fun i hi => by
    have h2 := hi.2
    match i with
    | 0 => cases h2
    | 1 => cases h2
    | n + 2 => cases h2
  have hrel : Rel ρ [tabR, dbtR] W := by
    refine ⟨fun i => ?_, fun i j _ ho => absurd ho (hno i), fun i hu => ?_⟩
    · match i with
      | 0 =>
        refine ⟨fun h => (by cases h), fun _ => ⟨fun i s hi => ?_, fun h => (by cases h)⟩⟩
        obtain ⟨v, h3, h4⟩ := cA i s hi
        refine ⟨v, ?_, h4 _ _⟩
        show W.cell? ⟨0, 0 + i, none⟩ = _
        rw [Nat.zero_add]; exact h3
      | 1 =>
        refine ⟨fun h => (by cases h), fun _ => ⟨fun i s hi => ?_, fun h => (by cases h)⟩⟩
        obtain ⟨v, h3, h4⟩ := cD i s hi
        refine ⟨v, ?_, h4 _ _⟩
        show W.cell? ⟨5, 0 + i, none⟩ = _
        rw [Nat.zero_add]; exact h3
      | n + 2 => exact True.intro
    · match i with
      | 0 => exact sA
      | 1 => exact sD
      | n + 2 => exact absurd rfl hu.2
  have hgl : GlOk ρ 2 := fun g id hg => by
    have := gmapOf_mem hg
    rw [show gmapL = [(0, 0), (5, 1)] from rfl, List.mem_cons, List.mem_singleton] at this
    rcases this with e | e
    · cases e; exact ⟨by omega, rfl, rfl, rfl⟩
    · cases e; exact ⟨by omega, rfl, rfl, rfl⟩
  rw [← hcv] at ha
  have hlr := rp_out (ρ := ρ) (n := 2) _ _ _ 0 hsc hok ha
  obtain ⟨e1, e2⟩ := split_ok pts args.toList _ hv hlr
  refine (hden ρ W args hrel hgl ⟨by simpa using e1, fun i a x b c => e2 i a x b (by simpa using c)⟩).mono fun e w' he => ?_
  obtain ⟨val, ρ', k1, k2, k3, k4⟩ := he
  have k2 : val = .bool b.den := k2
  rw [hb2] at k2
  subst k2
  exact ⟨k1, k4.os, k4.tape, k4.output, k4.size, fun b hb => k4.keep b hb fun i hi => (hno i hi).elim⟩
/-! known(), as a contract. -/
def knownCon : List AV → St → Out (AV × St) := fun args σ =>
  match args, σ.at 0, σ.at 1 with
  | [], .row false 1 (.vals l), .row false 1 (.vals m) => bif lbeq Sc.beq l tab && lbeq Sc.beq m dbt then .ok (.one (.bool (.c true)), σ) else .fail "known"
  | _, _, _ => .fail "known"
theorem knownCon_sound : ∀ args σ v σ', (knownCon args σ).run = some (v, σ') → Den Tryd.prog 5 args σ v σ' := by
  intro args σ v σ' h
  unfold knownCon at h
  split at h
  · rename_i l m h0 h1
    cases hb : lbeq Sc.beq l tab && lbeq Sc.beq m dbt with
    | false => rw [hb] at h; cases h
    | true =>
      rw [hb] at h
      cases h
      rw [Bool.and_eq_true] at hb
      have e0 : l = tab := lbeq_eq (fun _ _ => Sc.beq_eq) hb.1
      have e1 : m = dbt := lbeq_eq (fun _ _ => Sc.beq_eq) hb.2
      subst e0; subst e1
      refine ⟨⟨_, Tryd.func5, rfl⟩, fun ρ w vals hrel hgl hv => ?_⟩
      obtain ⟨⟨u, τ⟩, k1, b, kb1, kb2⟩ := good_ok (Q := fun x : AV × St => ∃ b : B, x.1 = .one (.bool b) ∧ b.den = true) (fun fs a hf hl => by
        unfold leafG at hl
        split at hl
        · rename_i b e
          obtain ⟨_, _, h2⟩ := B.ask_ok b fs _ hl hf
          exact ⟨b, e, h2⟩
        · cases hl) _ _ known5 (fun f h => by cases h)
      simp only at kb1
      subst kb1
      obtain ⟨_, hden⟩ := soundB 20 _ _ _ _ _ k1
      obtain ⟨r1, r2, r3⟩ := sub_rel hrel hgl h0 dbtR (.inr ⟨rfl, h1⟩)
      have hvz : vals = #[] := by
        have := hv.1
        match vals, this with
        | ⟨[]⟩, _ => rfl
      subst hvz
      refine (hden _ w #[] r1 r2 ⟨rfl, fun i a x b c => by simp at b⟩).mono fun e w' he => ?_
      obtain ⟨val, ρ', q1, q2, q3, q4⟩ := he
      have q2 : val = .bool b.den := q2
      rw [kb2] at q2
      subst q2
      obtain ⟨s1, s2⟩ := hrel.calm (w' := w') ⟨q4.os, q4.tape, q4.output, q4.size, fun b hb => q4.keep b hb fun i hi => (r3 i hi).elim⟩
      exact ⟨.bool true, ρ, q1, rfl, s1, s2⟩
  · cases h
def envN : FuncId → Option (List AV → St → Out (AV × St)) := fun g => if g = 5 then some knownCon else if g = 6 then some nameCon else if g = 7 then some nameCon else none
theorem envOkN : EnvOk Tryd.prog envN cfg0 := by
  refine ⟨names, fun g c h => ?_, fun g fn c σ _ _ _ => LoopsOk.none (fun _ => rfl) c⟩
  unfold envN at h
  split at h
  · rename_i e; subst e; cases h; exact knownCon_sound
  · split at h
    · rename_i e; subst e; cases h; exact nameCon_sound ⟨_, Tryd.func6, rfl⟩ ⟨fun [_] => lo6, fun [_] => hi6, fun [_] => nm6⟩
    · split at h
      · rename_i e; subst e; cases h; exact nameCon_sound ⟨_, Tryd.func7, rfl⟩ ⟨fun [_] => lo7, fun [_] => hi7, fun [_] => nm7⟩
      · cases h
abbrev pts3 : List PT := [.inl i6]
abbrev rps3 : List Rp := [.n (.ex cN)]
theorem lawRun3 : (callE Tryd.prog envN cfg0 12 3 (splitA pts3 (rpCells (flatT pts3) rps3 0)) [tabR, dbtR]).good leafG [] = true := by kernel_rfl
end
theorem law3 {W : World} {args : Array Value} (hL : laidMetH Tryd.prog laid W) (cvs : List CV) (hv : ValsOk pts3 args.toList) (ha : AllV W (flatT pts3) cvs (flatV pts3 args.toList)) :
    Calls Tryd.prog 3 args W fun e W' => e = .returned (.bool true) ∧ Calm W W' := by
  obtain ⟨x, r, vr, rfl, hx, h⟩ := AllV.int (ts := []) ha
  obtain rfl := AllV.nil h
  letI : Env := EvN1 x
  refine law_tabs (call_sound mixed envOkN 12) (rps := rps3) (fs := []) rfl rfl ?_ (fun f h => by cases h) lawRun3 hv ha hL
  show [CV.n (clampI (-9223372036854775808) 9223372036854775807 x)] = _
  rw [show clampI (-9223372036854775808) 9223372036854775807 x = x from clamp_eq hx]
end Go.SX.Txt
