/- Numbers, registers, strings.Join: contracts whose results are strings by terms. -/
import Derived.Test.YtimbamlodfohmaaDoorTxtX
import Derived.Test.YtimbamlodfohmaaDoorTxtG
import Derived.Test.YtimbamlodfohmaaDoorTxtM
namespace Go.SX.Txt
open Go Go.SX Go.Proofs
set_option maxRecDepth 1000000
set_option linter.unusedSectionVars false
theorem rel_envT (e1 e2 : Env) {ρ : Nat → Loc} {w : World} (h : @Rel e1 ρ [tabR, dbtR] w) : @Rel e2 ρ [tabR, dbtR] w := by
  have hno : ∀ i, ¬ owned ρ [tabR, dbtR] i := fun i hi => by
    have h2 := hi.2
    match i with
    | 0 => cases h2
    | 1 => cases h2
    | n + 2 => cases h2
  have cell : ∀ {l : List Int} {i : Nat} {s : Sc} {v : Value} {n : Nat}, (l.map fun z => Sc.int .u8 (.c z))[i]? = some s → @SRel e1 ρ n s v → @SRel e2 ρ n s v := by
    intro l i s v n hi hh
    rw [List.getElem?_map] at hi
    obtain ⟨z, _, rfl⟩ := Option.map_eq_some_iff.1 hi
    exact hh
  obtain ⟨h1, _, h3⟩ := h
  refine @Rel.mk e2 ρ _ w (fun i => ?_) (fun i j _ ho => absurd ho (hno i)) (fun i hu => h3 i hu)
  match i with
  | 0 =>
    have ho := h1 0
    refine ⟨ho.1, fun hl => ⟨fun i s hi => ?_, fun h => by cases h⟩⟩
    obtain ⟨v, v1, v2⟩ := (ho.2 hl).1 i s hi
    exact ⟨v, v1, cell (l := Lib.asciiSpaceTab) hi v2⟩
  | 1 =>
    have ho := h1 1
    refine ⟨ho.1, fun hl => ⟨fun i s hi => ?_, fun h => by cases h⟩⟩
    obtain ⟨v, v1, v2⟩ := (ho.2 hl).1 i s hi
    exact ⟨v, v1, cell (l := dbL) hi v2⟩
  | n + 2 => exact True.intro
theorem hex_run {g : FuncId} {pre : List Int} (run : ∀ [Env] (n : Nat), n ≤ 7 → hexRun g pre n = true) {v : Int} (hk : 0 ≤ v ∧ v ≤ 4294967295) {ρ : Nat → Loc} {w : World} (hr : ∀ [Env], Rel ρ [tabR, dbtR] w) (hg : GlOk ρ 2) (hno : ∀ i, ¬ owned ρ [tabR, dbtR] i) :
    Calls Tryd.prog g #[.int .u32 v] w fun e w' => e = .returned (.string (bytesOf (pre ++ hexL v))) ∧ Calm w w' := by
  letI : Env := EvH v
  have hnd := nd_le v
  have hd : digL (fun k => (nmK (nd v) k).den) (nd v) = hexL v := digL_congr _ fun i hi => nmK_den hk.1 hk.2 i hi
  obtain ⟨⟨u, σ'⟩, h1, e, hb1, hb2⟩ := good_ok (Q := fun x : AV × St => ∃ e, x.1 = .one (.strt e) ∧ e.dens = pre ++ hexL v) (fun fs a hf hl => by
    unfold leafH at hl
    split at hl
    · rename_i e he
      split at hl
      · exact ⟨e, he, by rw [digits_den hl, hd]; rfl⟩
      · rename_i a b c d e'
        simp only [Bool.and_eq_true, beq_iff_eq] at hl
        obtain ⟨h1, h2, h3⟩ := hl
        refine ⟨_, he, ?_⟩
        show c :: d :: e'.dens = _
        rw [digits_den h3, hd, h1, h2]; rfl
      · cases hl
    · cases hl) _ _ (run (nd v) hnd) (fun f h => by cases h)
  simp only at hb1
  subst hb1
  obtain ⟨_, hden⟩ := soundB 30 _ _ _ _ _ h1
  refine (hden _ w #[.int .u32 v] hr hg ⟨rfl, fun i a x' b c => ?_⟩).mono fun e' w' he => ?_
  · cases i with
    | zero =>
      have hb : a = .one (.int .u32 (.ex (dgT (nd v)))) := by simpa using b.symm
      have hc : x' = .int .u32 v := by simpa using c.symm
      subst hb; subst hc
      have e1 : X.den (.ex (dgT (nd v))) = v := dgT_den hk.1 hk.2
      exact ⟨by rw [e1], by rw [e1]; exact hk⟩
    | succ i => simp at b
  obtain ⟨val, ρ', k1, k2, k3, k4⟩ := he
  have k2 : val = .string (bytesOf e.D.2) := k2.1
  rw [show e.D.2 = _ from hb2] at k2
  subst k2
  exact ⟨k1, k4.os, k4.tape, k4.output, k4.size, fun b hb => k4.keep b hb fun i hi => (hno i hi).elim⟩
section
variable [Env]
abbrev hexE (e : E) : E := .ls 61 (.cn e .nl) 0 255 8
abbrev preE2 (pre : List Int) (e : E) : E := pre.foldr (fun n e => .cn (.num n) e) e
def hexCon (pre : List Int) : List AV → St → Out (AV × St) := fun args σ =>
  match args, σ.at 0, σ.at 1 with
  | [.one (.int .u32 x)], .row false 1 (.vals l), .row false 1 (.vals m) => bif lbeq Sc.beq l tab && lbeq Sc.beq m dbt then
      match x with
      | .c n => .ok (.one (.str (bytesOf (pre ++ hexL n))), σ)
      | x => match x.e? with
        | some e => .ok (.one (.strt (preE2 pre (hexE e))), σ)
        | none => .fail "hex: no term"
      else .fail "hex: tables"
  | _, _, _ => .fail "hex"
theorem preE2_dens (pre : List Int) (e : E) : (preE2 pre e).dens = pre ++ e.dens := by
  induction pre with
  | nil => rfl
  | cons a l ih => show a :: (preE2 l e).dens = _; rw [ih]; rfl
theorem hexE_dens (henv : ∀ l, Env.lst 61 l = hexL (l.headD 0)) (e : E) : (hexE e).dens = hexL e.den := by
  show ((Env.lst 61 [e.den]).take 8).map (clampI 0 255) = _
  rw [henv]
  show ((hexL e.den).take 8).map (clampI 0 255) = _
  rw [List.take_of_length_le (hexL_len _)]
  exact (List.map_congr_left fun x hx => by have := hexL_range e.den x hx; exact clamp_eq ⟨by omega, by omega⟩).trans (List.map_id _)
theorem hexCon_sound (henv : ∀ l, Env.lst 61 l = hexL (l.headD 0)) {g : FuncId} {pre : List Int} (hp : pre.length ≤ 2 ∧ ∀ x ∈ pre, 0 ≤ x ∧ x < 256) (hf : ∃ fn, Tryd.prog.funcs[g]? = some fn ∧ fn.body.isSome = true) (run : ∀ [Env] (n : Nat), n ≤ 7 → hexRun g pre n = true) :
    ∀ args σ v σ', (hexCon pre args σ).run = some (v, σ') → Den Tryd.prog g args σ v σ' := by
  intro args σ v σ' h
  unfold hexCon at h
  split at h
  · rename_i x l m h0 h1
    cases hb : lbeq Sc.beq l tab && lbeq Sc.beq m dbt with
    | false => rw [hb] at h; cases h
    | true =>
      rw [hb] at h
      simp only [cond_true] at h
      rw [Bool.and_eq_true] at hb
      have e0 : l = tab := lbeq_eq (fun _ _ => Sc.beq_eq) hb.1
      have e1 : m = dbt := lbeq_eq (fun _ _ => Sc.beq_eq) hb.2
      subst e0; subst e1
      have key : σ' = σ ∧ ∀ ρ n, ARel ρ n v (.string (bytesOf (pre ++ hexL x.den))) := by
        have hlen : (pre ++ hexL x.den).length ≤ 10 := by
          rw [List.length_append]
          have := hexL_len x.den
          omega
        split at h
        · rename_i n
          cases h
          exact ⟨rfl, fun _ _ => ⟨rfl, by rw [bytesOf_size]; exact Nat.le_trans hlen (by decide)⟩⟩
        · split at h
          · rename_i e he
            cases h
            have hd : (preE2 pre (hexE e)).D.2 = pre ++ hexL x.den := by
              rw [← X.e?_den he]
              exact (preE2_dens pre _).trans (by rw [hexE_dens henv])
            refine ⟨rfl, fun _ _ => ⟨by rw [hd], by rw [hd]; exact Nat.le_trans hlen (by decide), ?_⟩⟩
            rw [hd]
            intro z hz
            rcases List.mem_append.1 hz with hz | hz
            · exact hp.2 z hz
            · exact hexL_range _ z hz
          · cases h
      obtain ⟨rfl, hs⟩ := key
      refine ⟨hf, fun ρ w vals hrel hgl hv => ?_⟩
      obtain ⟨hv1, hv2⟩ := hv
      obtain ⟨y, rfl⟩ : ∃ y, vals = #[y] := by
        match vals, hv1 with
        | ⟨[y]⟩, _ => exact ⟨y, rfl⟩
      have hy : SRel ρ σ'.length (.int .u32 x) y := hv2 0 _ y rfl rfl
      obtain ⟨rfl, hk⟩ := hy
      obtain ⟨r1, r2, r3⟩ := sub_rel hrel hgl h0 dbtR (.inr ⟨rfl, h1⟩)
      refine (hex_run run hk (fun [e : Env] => rel_envT _ e r1) r2 r3).mono fun e' w' he' => ?_
      obtain ⟨rfl, hcalm⟩ := he'
      obtain ⟨q1, q2⟩ := hrel.calm hcalm
      refine ⟨_, ρ, ?_, hs _ _, q1, q2⟩
      cases v with
      | pan t p => obtain ⟨y, hy, _⟩ := hs ρ 0; cases hy
      | _ => rfl
  · cases h
/-! Registers. -/
abbrev regE (e : E) : E := .ls 60 (.cn e .nl) 0 255 3
def regS (l : List ByteArray) (n : Int) : ByteArray := if n < 0 then noName else if 7 < n then noName else l.getD n.toNat noName
def regCon : List AV → St → Out (AV × St) := fun args σ =>
  match args, σ.at 0 with
  | [.one (.str s), .one (.int .i64 x)], .row false 1 (.vals l) => bif lbeq Sc.beq l tab then
      match x with
      | .c n => bif s.data.toList == fullS.data.toList then .ok (.one (.str (regS fullL n)), σ) else bif s.data.toList == lowsS.data.toList then .ok (.one (.str (regS lowsL n)), σ) else .fail "register: other string"
      | x => bif s.data.toList == fullS.data.toList then
          match x.e? with
          | some e => .ite (B.mkLt x (.c 0)) (fun _ => .ok (.one (.str noName), σ)) fun _ => .ite (B.mkLt (.c 7) x) (fun _ => .ok (.one (.str noName), σ)) fun _ => .ok (.one (.strt (regE e)), σ)
          | none => .fail "register: no term"
          else .fail "register: unknown of another string"
      else .fail "register: table"
  | _, _ => .fail "register"
def reg32Con : List AV → St → Out (AV × St) := fun args σ =>
  match args, σ.at 0 with
  | [.one (.int .i64 x)], .row false 1 (.vals l) => bif lbeq Sc.beq l tab then
      match x with
      | .c n => if 0 ≤ n ∧ n ≤ 7 then .ok (.one (.str (regS fullL n)), σ) else .fail "reg32: bounds"
      | x => match x.e? with
          | some e => .guard (B.mkLt x (.c 0)).mkNot (.guard (B.mkLt (.c 7) x).mkNot (.ok (.one (.strt (regE e)), σ)))
          | none => .fail "reg32: no term"
      else .fail "reg32: table"
  | _, _ => .fail "reg32"
end
theorem ba_ext {a b : ByteArray} (h : (a.data.toList == b.data.toList) = true) : a = b := by
  apply ByteArray.ext
  apply Array.toList_inj.1
  exact eq_of_beq h
theorem names_ok : (fullL ++ lowsL).all (fun s => decide (s.data.toList.length ≤ 3)) = true := by kernel_rfl
theorem regS_small {l : List ByteArray} (hl : ∀ s ∈ l, s ∈ fullL ++ lowsL) (n : Int) : (regS l n).size ≤ 3 := by
  unfold regS
  split
  · exact (by decide : (1 : Nat) ≤ 3)
  · split
    · exact (by decide : (1 : Nat) ≤ 3)
    · rw [List.getD_eq_getElem?_getD]
      cases h : l[n.toNat]? with
      | none => exact (by decide : (1 : Nat) ≤ 3)
      | some s => exact of_decide_eq_true (List.all_eq_true.1 names_ok s (hl s (List.mem_of_getElem? h)))
/-- what a function of known arguments gives is a known string -/
theorem str_runA [Env] {call : FuncId → List AV → St → Out (AV × St)} (hc : CallSound Tryd.prog call) {g : FuncId} {args : List AV} {vals : Array Value} {fs : List Fk} {s : ByteArray} (hf : Holds fs)
    (h : (call g args [tabR, .dead]).good (leafS s) fs = true) {ρ : Nat → Loc} {w : World} (hr : Rel ρ [tabR, .dead] w) (hg : GlOk ρ 2) (hv : VRel ρ 2 args vals) :
    Calls Tryd.prog g vals w fun e w' => e = .returned (.string s) ∧ Calm w w' := by
  obtain ⟨⟨v, σ'⟩, h1, hb1⟩ := good_ok (Q := fun x : AV × St => x.1 = .one (.str s)) (fun fs a hf hl => by
    unfold leafS at hl
    split at hl
    · rename_i b e
      rw [e, ba_ext hl]
    · cases hl) _ _ h hf
  simp only at hb1
  subst hb1
  obtain ⟨_, hden⟩ := hc _ _ _ _ _ h1
  have hno : ∀ i, ¬ owned ρ [tabR, .dead] i := fun i hi => by
    have h2 := hi.2
    match i with
    | 0 => cases h2
    | 1 => cases h2
    | n + 2 => cases h2
  refine (hden ρ w vals hr hg hv).mono fun e w' he => ?_
  obtain ⟨val, ρ', k1, k2, k3, k4⟩ := he
  have k2 : val = .string s := k2.1
  subst k2
  exact ⟨k1, k4.os, k4.tape, k4.output, k4.size, fun b hb => k4.keep b hb fun i hi => (hno i hi).elim⟩
/-- a register's name -/
theorem reg_run {s : ByteArray} {l : List ByteArray} (h1 : ∀ [Env], rgRun s (.ex cN) noName [.ge (ltD cN (.num 0))] = true) (h2 : ∀ [Env], rgRun s (.ex cN) noName [.ge (ltD (.num 7) cN)] = true)
    (h3 : ∀ [Env] (i : Nat), i < 8 → rgRun s (.c (i : Int)) (l.getD i noName) [] = true) (hs : s.size ≤ big) {n : Int} (hk : IntKind.i64.has n) {ρ : Nat → Loc} {w : World} (hr : ∀ [Env], Rel ρ [tabR, .dead] w) (hg : GlOk ρ 2) :
    Calls Tryd.prog 14 #[.string s, .int .i64 n] w fun e w' => e = .returned (.string (regS l n)) ∧ Calm w w' := by
  letI : Env := EvN1 n
  have dx : cN.den = n := (show clampI (-9223372036854775808) 9223372036854775807 n = n from clamp_eq hk)
  have one : ∀ f : Fk, f.holds → Holds [f] := fun f hf g hg => by rw [List.mem_singleton] at hg; subst hg; exact hf
  have vr : ∀ x : X, x.den = n → VRel ρ 2 [.one (.str s), .one (.int .i64 x)] #[.string s, .int .i64 n] := by
    intro x hx
    refine ⟨rfl, fun i a y ha hy => ?_⟩
    match i with
    | 0 => cases ha; cases hy; exact ⟨rfl, hs⟩
    | 1 => cases ha; cases hy; exact ⟨by show Value.int .i64 n = .int .i64 x.den; rw [hx], by rw [hx]; exact hk⟩
    | k + 2 => simp at ha
  unfold regS
  by_cases q1 : n < 0
  · rw [if_pos q1]
    exact str_runA (soundB 12) (one _ (by show 0 ≤ (ltD cN (.num 0)).den; rw [ltD_den]; show 0 ≤ (0 : Int) - cN.den - 1; omega)) h1 hr hg (vr _ dx)
  rw [if_neg q1]
  by_cases q2 : 7 < n
  · rw [if_pos q2]
    exact str_runA (soundB 12) (one _ (by show 0 ≤ (ltD (.num 7) cN).den; rw [ltD_den]; show 0 ≤ cN.den - 7 - 1; omega)) h2 hr hg (vr _ dx)
  rw [if_neg q2]
  have e : ((n.toNat : Nat) : Int) = n := by omega
  exact str_runA (soundB 12) (fun f h => by cases h) (h3 n.toNat (by omega)) hr hg (vr _ e)
theorem reg32_run {n : Int} (hn : 0 ≤ n ∧ n ≤ 7) {ρ : Nat → Loc} {w : World} (hr : ∀ [Env], Rel ρ [tabR, .dead] w) (hg : GlOk ρ 2) :
    Calls Tryd.prog 20 #[.int .i64 n] w fun e w' => e = .returned (.string (regS fullL n)) ∧ Calm w w' := by
  letI : Env := EvN1 n
  have e : ((n.toNat : Nat) : Int) = n := by omega
  unfold regS
  rw [if_neg (by omega), if_neg (by omega)]
  refine str_runA (soundB 12) (fun f h => by cases h) (rgD n.toNat (by omega)) hr hg ⟨rfl, fun i a y ha hy => ?_⟩
  match i with
  | 0 => cases ha; cases hy; exact ⟨by show Value.int .i64 n = .int .i64 ((n.toNat : Nat) : Int); rw [e], by show IntKind.i64.has ((n.toNat : Nat) : Int); rw [e]; exact ⟨by show (-9223372036854775808 : Int) ≤ n; omega, by show n ≤ (9223372036854775807 : Int); omega⟩⟩
  | k + 1 => simp at ha
section
variable [Env]
theorem regE_dens (henv : ∀ l, Env.lst 60 l = numsOf (regS fullL (l.headD 0))) (e : E) : (regE e).dens = numsOf (regS fullL e.den) := by
  show ((Env.lst 60 [e.den]).take 3).map (clampI 0 255) = _
  rw [henv]
  show ((numsOf (regS fullL e.den)).take 3).map (clampI 0 255) = _
  have h1 : (numsOf (regS fullL e.den)).length ≤ 3 := by
    have := regS_small (l := fullL) (fun s hs => List.mem_append_left _ hs) e.den
    have h2 : (numsOf (regS fullL e.den)).length = (regS fullL e.den).size := by simp [numsOf]
    omega
  rw [List.take_of_length_le h1]
  exact (List.map_congr_left fun x hx => by have := numsOf_range _ x hx; exact clamp_eq ⟨by omega, by omega⟩).trans (List.map_id _)
/-- what a string's abstract value says -/
def IsS (v : AV) (s : ByteArray) : Prop := ∀ ρ n, ARel ρ n v (.string s)
theorem endIs_str {v : AV} {s : ByteArray} (h : IsS v s) : EndIs v (.string s) (.returned (.string s)) := by
  cases v with
  | pan t p => obtain ⟨y, hy, _⟩ := h (fun _ => ⟨false, 0, 0, 0⟩) 0; cases hy
  | _ => rfl
theorem isS_str {s : ByteArray} (h : s.size ≤ 3) : IsS (.one (.str s)) s := fun _ _ => ⟨rfl, by unfold big; omega⟩
theorem isS_reg (henv : ∀ l, Env.lst 60 l = numsOf (regS fullL (l.headD 0))) (e : E) : IsS (.one (.strt (regE e))) (regS fullL e.den) := fun _ _ => by
  have hd : (regE e).D.2 = numsOf (regS fullL e.den) := regE_dens henv e
  have h1 := regS_small (l := fullL) (fun s hs => List.mem_append_left _ hs) e.den
  have h2 : (numsOf (regS fullL e.den)).length = (regS fullL e.den).size := by simp [numsOf]
  exact ⟨by rw [hd, bytesOf_numsOf], by rw [hd, h2]; unfold big; omega, by rw [hd]; exact numsOf_range _⟩
theorem regCon_sound (henv : ∀ l, Env.lst 60 l = numsOf (regS fullL (l.headD 0))) : ∀ args σ v σ', (regCon args σ).run = some (v, σ') → Den Tryd.prog 14 args σ v σ' := by
  intro args σ v σ' h
  unfold regCon at h
  split at h
  · rename_i s x l hat
    cases hb : lbeq Sc.beq l tab with
    | false => rw [hb] at h; cases h
    | true =>
      rw [hb] at h
      simp only [cond_true] at h
      have hl : l = tab := lbeq_eq (fun _ _ => Sc.beq_eq) hb
      subst hl
      have hF : ∀ s ∈ fullL, s ∈ fullL ++ lowsL := fun s hs => List.mem_append_left _ hs
      have hL : ∀ s ∈ lowsL, s ∈ fullL ++ lowsL := fun s hs => List.mem_append_right _ hs
      have key : σ' = σ ∧ ((s = fullS ∧ IsS v (regS fullL x.den)) ∨ (s = lowsS ∧ IsS v (regS lowsL x.den))) := by
        split at h
        · rename_i n
          cases h1 : (s.data.toList == fullS.data.toList) with
          | true =>
            rw [h1] at h; cases h
            exact ⟨rfl, .inl ⟨ba_ext h1, isS_str (regS_small hF _)⟩⟩
          | false =>
            rw [h1] at h
            cases h2 : (s.data.toList == lowsS.data.toList) with
            | true =>
              rw [h2] at h; cases h
              exact ⟨rfl, .inr ⟨ba_ext h2, isS_str (regS_small hL _)⟩⟩
            | false => rw [h2] at h; cases h
        · cases h1 : (s.data.toList == fullS.data.toList) with
          | false => rw [h1] at h; cases h
          | true =>
            rw [h1] at h
            simp only [cond_true] at h
            split at h
            · rename_i e he
              have hden := X.e?_den he
              rcases ite_some h with ⟨g, h⟩ | ⟨g, h⟩
              · cases h
                rw [mkLt_den, decide_eq_true_eq] at g
                have g : x.den < 0 := g
                refine ⟨rfl, .inl ⟨ba_ext h1, ?_⟩⟩
                rw [regS, if_pos g]; exact isS_str (by decide)
              · rw [mkLt_den, decide_eq_false_iff_not] at g
                have g : ¬ x.den < 0 := g
                rcases ite_some h with ⟨g2, h⟩ | ⟨g2, h⟩
                · cases h
                  rw [mkLt_den, decide_eq_true_eq] at g2
                  have g2 : 7 < x.den := g2
                  refine ⟨rfl, .inl ⟨ba_ext h1, ?_⟩⟩
                  rw [regS, if_neg g, if_pos g2]; exact isS_str (by decide)
                · cases h
                  refine ⟨rfl, .inl ⟨ba_ext h1, ?_⟩⟩
                  rw [← hden]
                  exact isS_reg henv e
            · cases h
      obtain ⟨rfl, hs⟩ := key
      refine ⟨⟨_, Tryd.func14, rfl⟩, fun ρ w vals hrel hgl hv => ?_⟩
      obtain ⟨hv1, hv2⟩ := hv
      obtain ⟨y0, y1, rfl⟩ : ∃ y0 y1, vals = #[y0, y1] := by
        match vals, hv1 with
        | ⟨[y0, y1]⟩, _ => exact ⟨y0, y1, rfl⟩
      have e0 : y0 = .string s ∧ s.size ≤ big := hv2 0 _ y0 rfl rfl
      have e1 : SRel ρ σ'.length (.int .i64 x) y1 := hv2 1 _ y1 rfl rfl
      obtain ⟨rfl, hbig⟩ := e0
      obtain ⟨rfl, hk⟩ := e1
      obtain ⟨r1, r2, _⟩ := sub_rel hrel hgl hat .dead (.inl rfl)
      rcases hs with ⟨rfl, hs⟩ | ⟨rfl, hs⟩
      · refine (reg_run (l := fullL) (fun [_] => rlo0) (fun [_] => rhi0) (fun [_] => rgF) hbig hk (fun [e : Env] => rel_env _ e r1) r2).mono fun e w' he => ?_
        obtain ⟨rfl, hcalm⟩ := he
        obtain ⟨q1, q2⟩ := hrel.calm hcalm
        exact ⟨_, ρ, endIs_str hs, hs _ _, q1, q2⟩
      · refine (reg_run (l := lowsL) (fun [_] => rlo1) (fun [_] => rhi1) (fun [_] => rgL) hbig hk (fun [e : Env] => rel_env _ e r1) r2).mono fun e w' he => ?_
        obtain ⟨rfl, hcalm⟩ := he
        obtain ⟨q1, q2⟩ := hrel.calm hcalm
        exact ⟨_, ρ, endIs_str hs, hs _ _, q1, q2⟩
  · cases h
theorem reg32Con_sound (henv : ∀ l, Env.lst 60 l = numsOf (regS fullL (l.headD 0))) : ∀ args σ v σ', (reg32Con args σ).run = some (v, σ') → Den Tryd.prog 20 args σ v σ' := by
  intro args σ v σ' h
  unfold reg32Con at h
  split at h
  · rename_i x l hat
    cases hb : lbeq Sc.beq l tab with
    | false => rw [hb] at h; cases h
    | true =>
      rw [hb] at h
      simp only [cond_true] at h
      have hl : l = tab := lbeq_eq (fun _ _ => Sc.beq_eq) hb
      subst hl
      have hF : ∀ s ∈ fullL, s ∈ fullL ++ lowsL := fun s hs => List.mem_append_left _ hs
      have key : σ' = σ ∧ (0 ≤ x.den ∧ x.den ≤ 7) ∧ IsS v (regS fullL x.den) := by
        split at h
        · rename_i n
          split at h
          · rename_i hn
            cases h
            exact ⟨rfl, hn, isS_str (regS_small hF _)⟩
          · cases h
        · split at h
          · rename_i e he
            have hden := X.e?_den he
            obtain ⟨g, h⟩ := guard_some h
            obtain ⟨g2, h⟩ := guard_some h
            cases h
            rw [mkNot_den, mkLt_den, Bool.not_eq_true', decide_eq_false_iff_not] at g g2
            have g : ¬ x.den < 0 := g
            have g2 : ¬ 7 < x.den := g2
            refine ⟨rfl, by omega, ?_⟩
            rw [← hden]
            exact isS_reg henv e
          · cases h
      obtain ⟨rfl, hn, hs⟩ := key
      refine ⟨⟨_, Tryd.func20, rfl⟩, fun ρ w vals hrel hgl hv => ?_⟩
      obtain ⟨hv1, hv2⟩ := hv
      obtain ⟨y0, rfl⟩ : ∃ y0, vals = #[y0] := by
        match vals, hv1 with
        | ⟨[y0]⟩, _ => exact ⟨y0, rfl⟩
      have e1 : SRel ρ σ'.length (.int .i64 x) y0 := hv2 0 _ y0 rfl rfl
      obtain ⟨rfl, hk⟩ := e1
      obtain ⟨r1, r2, _⟩ := sub_rel hrel hgl hat .dead (.inl rfl)
      refine (reg32_run hn (fun [e : Env] => rel_env _ e r1) r2).mono fun e w' he => ?_
      obtain ⟨rfl, hcalm⟩ := he
      obtain ⟨q1, q2⟩ := hrel.calm hcalm
      exact ⟨_, ρ, endIs_str hs, hs _ _, q1, q2⟩
  · cases h
end
end Go.SX.Txt
