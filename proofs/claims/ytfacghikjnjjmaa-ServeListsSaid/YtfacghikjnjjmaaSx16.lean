/- Regions whose order is free: the rule. -/
import Derived.Test.YtfacghikjnjjmaaSx15
namespace Go.SX
open Go Go.Lib
set_option linter.unusedSectionVars false
variable [Env]

theorem ancOf_get : ∀ (recs : List Touch) (k i : Nat) (r : Touch), recs.length = k → i < k → recs[k - 1 - i]? = some r → ancOf recs k i = r.anc
  | [], k, i, r, hl, hi, h => by simp at hl; omega
  | x :: rs, k, i, r, hl, hi, h => by
    simp only [List.length_cons] at hl
    rw [ancOf]
    by_cases e : i = k - 1
    · rw [if_pos e]
      rw [show k - 1 - i = 0 by omega] at h
      simp at h; rw [h]
    · rw [if_neg e]
      rw [show k - 1 - i = (k - 1 - 1 - i) + 1 by omega] at h
      exact ancOf_get rs (k - 1) i r (by omega) (by omega) (by simpa using h)
theorem ancOf_out : ∀ (recs : List Touch) (k i : Nat), recs.length = k → k ≤ i → ancOf recs k i = 0
  | [], _, _, _, _ => rfl
  | x :: rs, k, i, hl, hi => by
    simp only [List.length_cons] at hl
    rw [ancOf, if_neg (by omega)]
    exact ancOf_out rs (k - 1) i (by omega) (by omega)
theorem okAll_get : ∀ (recs : List Touch) (k i : Nat) (r x : Touch), okAll recs k x = true → recs.length = k → i < k → recs[k - 1 - i]? = some r → x.anc.testBit i = true ∨ apartR r x = true
  | [], k, i, r, x, _, hl, hi, h => by simp at hl; omega
  | y :: rs, k, i, r, x, ho, hl, hi, h => by
    simp only [List.length_cons] at hl
    simp only [okAll, Bool.and_eq_true, Bool.or_eq_true] at ho
    by_cases e : i = k - 1
    · rw [show k - 1 - i = 0 by omega] at h
      simp at h; subst h; subst e
      exact ho.1
    · rw [show k - 1 - i = (k - 1 - 1 - i) + 1 by omega] at h
      exact okAll_get rs (k - 1) i r x ho.2 (by omega) (by omega) (by simpa using h)
theorem ancE_bit (recs : List Touch) (j i : Nat) : ∀ (l : List Edge), (ancE recs j l).testBit i = true → ∃ e, e ∈ l ∧ Region.binds .any e = true ∧ (e.on = i ∨ (ancOf recs j e.on).testBit i = true)
  | [], h => by simp [ancE] at h
  | e :: r, h => by
    rw [ancE] at h
    split at h
    · rename_i hb
      simp only [Nat.testBit_or, Bool.or_eq_true] at h
      rcases h with (h | h) | h
      · obtain ⟨e', h1, h2⟩ := ancE_bit recs j i r h
        exact ⟨e', by simp [h1], h2⟩
      · refine ⟨e, by simp, hb, .inl ?_⟩
        rw [Nat.one_shiftLeft, Nat.testBit_two_pow] at h
        simpa using h
      · exact ⟨e, by simp, hb, .inr h⟩
    · obtain ⟨e', h1, h2⟩ := ancE_bit recs j i r h
      exact ⟨e', by simp [h1], h2⟩

section
variable {P : Program} {call : FuncId → List AV → St → Out (AV × St)} {ops : Array Oper} {T : List DStep} {f0 : Fr} {σ0 σ' : St}

abbrev AllGood (P : Program) (call : FuncId → List AV → St → Out (AV × St)) (ops : Array Oper) (T : List DStep) (f0 : Fr) (σ0 σ' : St) : Prop :=
  ∀ (k : Nat) s, T[k]? = some s → (∃ recs f, Good P call ops T f0 σ0 σ' k s recs f) ∧ ops[k]? = some s.o

def Ready (s : DStep) (S : Nat → Bool) : Prop := ∀ e, e ∈ s.o.after.toList → Region.binds .any e = true → S e.on = true
def Closed (T : List DStep) (S : Nat → Bool) : Prop := ∀ (k : Nat) s, T[k]? = some s → S k = true → Ready s S

theorem step_anc {s : DStep} {k : Nat} {recs : List Touch} {f : Fr} (h : StepOk P call ops s.o k recs f s.σ s) : s.t.anc = ancE recs k s.o.after.toList := by
  cases hex : s.ex with
  | false => rw [(h.skip hex).2.1]; rfl
  | true => rw [(h.exec hex).1]; rfl
theorem step_dst {s : DStep} {k : Nat} {recs : List Touch} {f : Fr} (h : StepOk P call ops s.o k recs f s.σ s) : s.t.dst = s.o.dst := by
  cases hex : s.ex with
  | false => rw [(h.skip hex).2.1]; rfl
  | true => rw [(h.exec hex).1]; rfl
theorem step_lk {s : DStep} {k : Nat} {recs : List Touch} {f : Fr} (h : StepOk P call ops s.o k recs f s.σ s) : s.t.lk = s.o.looksAt ops := by
  cases hex : s.ex with
  | false => rw [(h.skip hex).2.1]; rfl
  | true => rw [(h.exec hex).1]; rfl
theorem step_rdwr {s : DStep} {k i : Nat} {recs : List Touch} {f : Fr} (h : StepOk P call ops s.o k recs f s.σ s) (hi : s.t.wr.contains i = true) : s.t.rd.contains i = true := by
  cases hex : s.ex with
  | false => rw [(h.skip hex).2.1] at hi; simp [skipOf] at hi
  | true => rw [(h.exec hex).1] at hi ⊢; exact touch_rdwr hi

theorem must (hg : AllGood P call ops T f0 σ0 σ') {S : Nat → Bool} (hc : Closed T S) (i : Nat) : ∀ (k : Nat) s, T[k]? = some s → s.t.anc.testBit i = true → Ready s S → S i = true := by
  intro k
  induction k using Nat.strongRecOn with
  | _ k ih =>
    intro s hs hb hr
    obtain ⟨⟨recs, f, g⟩, _⟩ := hg k s hs
    rw [step_anc g.step] at hb
    obtain ⟨e, he, hbd, h⟩ := ancE_bit _ _ _ _ hb
    have hon := hr e he hbd
    rcases h with h | h
    · rw [← h]; exact hon
    · by_cases hlt : e.on < k
      · obtain ⟨s', h1, h2⟩ := g.hist.2 e.on hlt
        rw [ancOf_get recs k e.on s'.t g.hist.1 hlt h2] at h
        exact ih e.on hlt s' h1 h (hc e.on s' h1 hon)
      · rw [ancOf_out recs k e.on g.hist.1 (by omega)] at h
        simp at h

/-- of two operations one way round: the earlier is done, or they do not touch -/
theorem before (hg : AllGood P call ops T f0 σ0 σ') {S : Nat → Bool} (hc : Closed T S) {k i : Nat} {t s : DStep} (hk : T[k]? = some t) (hi : T[i]? = some s) (hlt : k < i) (hr : Ready s S) :
    S k = true ∨ apartR t.t s.t = true := by
  obtain ⟨⟨recs, f, g⟩, _⟩ := hg i s hi
  obtain ⟨t', h1, h2⟩ := g.hist.2 k hlt
  rw [hk] at h1; cases h1
  rcases okAll_get recs i k t.t s.t g.step.ok g.hist.1 hlt h2 with h | h
  · exact .inl (must hg hc k i s hi h hr)
  · exact .inr h

theorem ins_dst {s : DStep} {k : Nat} {recs : List Touch} {f : Fr} (h : StepOk P call ops s.o k recs f s.σ s) {p : Nat × Sc} (hi : s.t.ins = some p) : s.t.dst = none := by
  cases hex : s.ex with
  | false => rw [(h.skip hex).2.1] at hi; cases hi
  | true =>
    rw [(h.exec hex).1] at hi ⊢
    obtain ⟨ty, m, kx, x, _, h2, _⟩ := ins_spec (d := p.1) (k := p.2) hi
    exact h2
theorem insApart_some {x y : Touch} (h : insApart x y = true) : ∃ d k k', x.ins = some (d, k) ∧ y.ins = some (d, k') ∧ keyEq k k' = some false := by
  unfold insApart at h
  split at h
  · rename_i d k d' k' h1 h2
    simp only [Bool.and_eq_true, beq_iff_eq] at h
    obtain ⟨rfl, h⟩ := h
    split at h
    · rename_i he; exact ⟨d, k, k', h1, h2, he⟩
    · cases h
  · cases h
theorem stoApart_some {x y : Touch} (h : stoApart x y = true) : ∃ d o vs o' vs', x.sto = some (d, o, vs) ∧ y.sto = some (d, o', vs') ∧ (o + vs.length ≤ o' ∨ o' + vs'.length ≤ o) := by
  unfold stoApart at h
  split at h
  · rename_i d o vs d' o' vs' h1 h2
    simp only [Bool.and_eq_true, beq_iff_eq, Bool.or_eq_true, decide_eq_true_eq] at h
    obtain ⟨rfl, h⟩ := h
    exact ⟨d, o, vs, o', vs', h1, h2, h⟩
  · cases h
theorem sto_dst {s : DStep} {k : Nat} {recs : List Touch} {f : Fr} (h : StepOk P call ops s.o k recs f s.σ s) {p : Nat × Nat × List Sc} (hi : s.t.sto = some p) : s.t.dst = none ∧ s.t.ins = none := by
  cases hex : s.ex with
  | false => rw [(h.skip hex).2.1] at hi; cases hi
  | true =>
    rw [(h.exec hex).1] at hi ⊢
    obtain ⟨ty, m, kx, x, _, _, _, _, h2, _⟩ := sto_spec (d := p.1) (off := p.2.1) (vs := p.2.2) hi
    exact ⟨h2, sto_noins hi⟩
theorem apart_cases {x y : Touch} (h : apartR x y = true) : apartP x y = true ∨ insApart x y = true ∨ stoApart x y = true := by
  unfold apartR at h
  simpa only [Bool.or_eq_true] using h
theorem off_spec {l m : List Nat} (h : off l m = true) {i : Nat} (h1 : l.contains i = true) : m.contains i = false := by
  have := List.all_eq_true.1 h i (by simpa using h1)
  simpa using this

theorem agree_slot (hg : AllGood P call ops T f0 σ0 σ') {S : Nat → Bool} (hc : Closed T S) {i : Nat} {s : DStep} (hi : T[i]? = some s) (hS : S i = false) (hr : Ready s S) {d : Nat} (hd : d ∈ s.o.looksAt ops) (x : AV) :
    slotS T 0 S d x = slotS T 0 (fun m => decide (m < i)) d x := by
  obtain ⟨⟨recs, f, g⟩, _⟩ := hg i s hi
  refine slotS_congr d T 0 _ _ _ fun k t hk htd => ?_
  rw [Nat.zero_add]
  have hlk : s.t.lk.contains d = true := by rw [step_lk g.step]; simpa using hd
  by_cases hlt : k < i
  · rw [decide_eq_true hlt]
    rcases before hg hc hk hi hlt hr with h | h
    · exact h
    · rcases apart_cases h with h | h | h
      · simp only [apartP, htd, hlk, Bool.and_eq_true] at h
        simp at h
      · obtain ⟨d', k1, k2, h1, _⟩ := insApart_some h
        obtain ⟨⟨recs', f', g'⟩, _⟩ := hg k t hk
        rw [ins_dst g'.step h1] at htd; cases htd
      · obtain ⟨_, _, _, _, _, h1, _⟩ := stoApart_some h
        obtain ⟨⟨recs', f', g'⟩, _⟩ := hg k t hk
        rw [(sto_dst g'.step h1).1] at htd; cases htd
  · rw [decide_eq_false hlt]
    by_cases e : k = i
    · subst e; exact hS
    · cases hSk : S k with
      | false => rfl
      | true =>
        rcases before hg hc hi hk (by omega) (hc k t hk hSk) with h | h
        · rw [hS] at h; cases h
        · rcases apart_cases h with h | h | h
          · simp only [apartP, htd, hlk, Bool.and_eq_true] at h
            simp at h
          · obtain ⟨d', k1, k2, _, h1, _⟩ := insApart_some h
            obtain ⟨⟨recs', f', g'⟩, _⟩ := hg k t hk
            rw [ins_dst g'.step h1] at htd; cases htd
          · obtain ⟨_, _, _, _, _, _, h1, _⟩ := stoApart_some h
            obtain ⟨⟨recs', f', g'⟩, _⟩ := hg k t hk
            rw [(sto_dst g'.step h1).1] at htd; cases htd

theorem agree_obj (hg : AllGood P call ops T f0 σ0 σ') {S : Nat → Bool} (hc : Closed T S) {i : Nat} {s : DStep} (hi : T[i]? = some s) (hS : S i = false) (hr : Ready s S) (hni : s.t.ins = none) (hns : s.t.sto = none) {d : Nat} (hd : s.t.rd.contains d = true) (x : AO) :
    objS T 0 S d x = objS T 0 (fun m => decide (m < i)) d x := by
  refine objS_congr d T 0 _ _ _ fun k t hk htd => ?_
  rw [Nat.zero_add]
  by_cases hlt : k < i
  · rw [decide_eq_true hlt]
    rcases before hg hc hk hi hlt hr with h | h
    · exact h
    · rcases apart_cases h with h | h | h
      · simp only [apartP, Bool.and_eq_true] at h
        have := off_spec h.1.1.1 htd
        rw [hd] at this; cases this
      · obtain ⟨d', k1, k2, _, h1, _⟩ := insApart_some h
        rw [hni] at h1; cases h1
      · obtain ⟨_, _, _, _, _, _, h1, _⟩ := stoApart_some h
        rw [hns] at h1; cases h1
  · rw [decide_eq_false hlt]
    by_cases e : k = i
    · subst e; exact hS
    · cases hSk : S k with
      | false => rfl
      | true =>
        rcases before hg hc hi hk (by omega) (hc k t hk hSk) with h | h
        · rw [hS] at h; cases h
        · rcases apart_cases h with h | h | h
          · simp only [apartP, Bool.and_eq_true] at h
            have := off_spec h.1.1.2 htd
            rw [hd] at this; cases this
          · obtain ⟨d', k1, k2, h1, _⟩ := insApart_some h
            rw [hni] at h1; cases h1
          · obtain ⟨_, _, _, _, _, h1, _⟩ := stoApart_some h
            rw [hns] at h1; cases h1

def with1 (i : Nat) (S : Nat → Bool) : Nat → Bool := fun k => k == i || S k

theorem slot_step (hg : AllGood P call ops T f0 σ0 σ') {S : Nat → Bool} (hc : Closed T S) {i : Nat} {s : DStep} (hi : T[i]? = some s) (hS : S i = false) (d : Nat) (x : AV) :
    slotS T 0 (with1 i S) d x = if s.o.dst == some d then s.v else slotS T 0 S d x := by
  obtain ⟨⟨recs, f, g⟩, _⟩ := hg i s hi
  have hdst := step_dst g.step
  by_cases hd : s.o.dst = some d
  · rw [hd]
    simp only [beq_self_eq_true, if_true]
    refine slotS_last d T 0 _ _ i s hi (by simp [with1]) (hdst.trans hd) fun k t hlt hk htd => ?_
    rw [Nat.zero_add]
    have hne : (k == i) = false := by simp; omega
    unfold with1
    rw [hne, Bool.false_or]
    cases hSk : S k with
    | false => rfl
    | true =>
      rcases before hg hc hi hk hlt (hc k t hk hSk) with h | h
      · rw [hS] at h; cases h
      · rcases apart_cases h with h | h | h
        · simp only [apartP, hdst.trans hd, htd, Bool.and_eq_true] at h
          simp at h
        · obtain ⟨d', k1, k2, h1, _⟩ := insApart_some h
          have := ins_dst g.step h1
          rw [hdst, hd] at this; cases this
        · obtain ⟨_, _, _, _, _, h1, _⟩ := stoApart_some h
          have := (sto_dst g.step h1).1
          rw [hdst, hd] at this; cases this
  · have : (s.o.dst == some d) = false := by simpa using hd
    rw [this]
    simp only [Bool.false_eq_true, if_false]
    refine slotS_congr d T 0 _ _ _ fun k t hk htd => ?_
    have : k ≠ i := by intro e; subst e; rw [hi] at hk; cases hk; exact hd (hdst ▸ htd)
    simp [with1, this]
theorem obj_same {S : Nat → Bool} {i : Nat} {s : DStep} (hi : T[i]? = some s) {d : Nat} (hd : ¬ s.t.wr.contains d = true) (x : AO) : objS T 0 (with1 i S) d x = objS T 0 S d x := by
  refine objS_congr d T 0 _ _ _ fun k t hk htd => ?_
  have : k ≠ i := by intro e; subst e; rw [hi] at hk; cases hk; exact hd htd
  simp [with1, this]

theorem obj_step (hg : AllGood P call ops T f0 σ0 σ') {S : Nat → Bool} (hc : Closed T S) {i : Nat} {s : DStep} (hi : T[i]? = some s) (hS : S i = false) (hni : s.t.ins = none) (hns : s.t.sto = none) (d : Nat) (x : AO) :
    objS T 0 (with1 i S) d x = if s.t.wr.contains d then s.out.at d else objS T 0 S d x := by
  obtain ⟨⟨recs, f, g⟩, _⟩ := hg i s hi
  by_cases hd : s.t.wr.contains d = true
  · rw [if_pos hd, objS_top d T 0 _ S _ i s hi (by simp [with1]) (by rw [Nat.zero_add]; exact hS) hd (fun k t hne hk htd => ?_) fun k t hlt hk htd => ?_]
    · unfold DStep.put; rw [hni, hns]; rfl
    · have hne : (k == i) = false := by simpa using hne
      rw [Nat.zero_add]
      unfold with1
      rw [hne, Bool.false_or]
    rw [Nat.zero_add]
    have hne : (k == i) = false := by simp; omega
    unfold with1
    rw [hne, Bool.false_or]
    cases hSk : S k with
    | false => rfl
    | true =>
      rcases before hg hc hi hk hlt (hc k t hk hSk) with h | h
      · rw [hS] at h; cases h
      · rcases apart_cases h with h | h | h
        · simp only [apartP, Bool.and_eq_true] at h
          have h1 := off_spec h.1.1.1 hd
          obtain ⟨⟨recs', f', g'⟩, _⟩ := hg k t hk
          rw [step_rdwr g'.step htd] at h1; cases h1
        · obtain ⟨d', k1, k2, h1, _⟩ := insApart_some h
          rw [hni] at h1; cases h1
        · obtain ⟨_, _, _, _, _, h1, _⟩ := stoApart_some h
          rw [hns] at h1; cases h1
  · rw [if_neg hd]
    exact obj_same hi hd x

/-! Entries added out of order. -/
def ents : AO → List (Sc × AV)
  | .mapo es => es
  | _ => []
def isMap : AO → Bool
  | .mapo _ => true
  | _ => false
theorem isMap_ins (a : AO) (e : Option (Sc × AV)) : isMap (insM a e) = isMap a := by cases a <;> cases e <;> rfl
theorem ents_ins {a : AO} {e : Option (Sc × AV)} {q : Sc × AV} (h : q ∈ ents (insM a e)) : q ∈ ents a ∨ (isMap a = true ∧ e = some q) := by
  cases a with
  | mapo es =>
    cases e with
    | none => exact .inl h
    | some e =>
      rcases List.mem_append.1 (show q ∈ es ++ [e] from h) with h | h
      · exact .inl h
      · exact .inr ⟨rfl, by rw [List.mem_singleton] at h; rw [h]⟩
  | _ => cases e <;> exact .inl h
theorem ents_ins_l {a : AO} {e : Option (Sc × AV)} {q : Sc × AV} (h : q ∈ ents a) : q ∈ ents (insM a e) := by
  cases a <;> cases e <;> first | exact h | exact List.mem_append_left _ h
theorem ents_ins_r {a : AO} {q : Sc × AV} (h : isMap a = true) : q ∈ ents (insM a (some q)) := by
  cases a <;> first | (cases h; done) | exact List.mem_append_right _ (List.mem_singleton.2 rfl)
theorem isMap_sto (a : AO) (o : Nat) (vs : List Sc) : isMap (stoM a o vs) = isMap a := by
  cases a with
  | row own z c => cases c <;> rfl
  | _ => rfl
theorem ents_sto (a : AO) (o : Nat) (vs : List Sc) : ents (stoM a o vs) = ents a := by
  cases a with
  | row own z c => cases c <;> rfl
  | _ => rfl
theorem objS_two (d : Nat) (Q : Sc × AV → Prop) : ∀ (T : List DStep) (j : Nat) (S C : Nat → Bool) (a c : AO),
    (∀ (m : Nat) t, T[m]? = some t → t.t.wr.contains d = true → S (j + m) = C (j + m) ∨ (t.t.ins.isSome = true ∧ ∀ e, lastE (t.out.at d) = some e → Q e)) → isMap a = isMap c → (∀ e, e ∈ ents a → e ∈ ents c ∨ Q e) →
    isMap (objS T j S d a) = isMap (objS T j C d c) ∧ ∀ e, e ∈ ents (objS T j S d a) → e ∈ ents (objS T j C d c) ∨ Q e
  | [], _, _, _, _, _, _, h1, h2 => ⟨h1, h2⟩
  | t :: r, j, S, C, a, c, h, h1, h2 => by
    rw [objS, objS]
    have hr : ∀ (m : Nat) t', r[m]? = some t' → t'.t.wr.contains d = true → S (j + 1 + m) = C (j + 1 + m) ∨ (t'.t.ins.isSome = true ∧ ∀ e, lastE (t'.out.at d) = some e → Q e) := by
      intro m t' hm hw
      have := h (m + 1) t' (by simpa using hm) hw
      rwa [show j + 1 + m = j + (m + 1) by omega]
    cases hw : t.t.wr.contains d with
    | false =>
      rw [Bool.and_false, Bool.and_false]
      exact objS_two d Q r (j + 1) S C a c hr h1 h2
    | true =>
      rw [Bool.and_true, Bool.and_true]
      have h0 := h 0 t rfl hw
      rw [Nat.add_zero] at h0
      cases hin : t.t.ins.isSome with
      | false =>
        rcases h0 with e | ⟨e, _⟩
        · rw [e]
          cases C j with
          | false => exact objS_two d Q r (j + 1) S C a c hr h1 h2
          | true =>
            simp only [if_true]
            unfold DStep.put
            rw [hin]
            simp only [Bool.false_eq_true, if_false]
            split
            · exact objS_two d Q r (j + 1) S C _ _ hr (by rw [isMap_sto, isMap_sto]; exact h1) (by rw [ents_sto, ents_sto]; exact h2)
            · exact objS_two d Q r (j + 1) S C _ _ hr rfl fun e he => .inl he
        · rw [hin] at e; cases e
      | true =>
        have hput : ∀ acc, t.put d acc = insM acc (lastE (t.out.at d)) := by intro acc; unfold DStep.put; rw [hin]; rfl
        rw [hput, hput]
        refine objS_two d Q r (j + 1) S C _ _ hr ?_ ?_
        · cases S j <;> cases C j <;> simp [isMap_ins, h1]
        · intro e he
          have key : ∀ e', e' ∈ ents a → e' ∈ ents (if C j = true then insM c (lastE (t.out.at d)) else c) ∨ Q e' := by
            intro e' he'
            rcases h2 e' he' with h3 | h3
            · left; cases C j with
              | false => exact h3
              | true => exact ents_ins_l h3
            · exact .inr h3
          cases hSj : S j with
          | false => rw [hSj] at he; exact key e he
          | true =>
            rw [hSj] at he
            simp only [if_true] at he
            rcases ents_ins he with h3 | ⟨h3, h4⟩
            · exact key e h3
            · rcases h0 with e0 | ⟨_, e0⟩
              · left
                rw [← e0, hSj, h4]
                exact ents_ins_r (by rw [← h1]; exact h3)
              · exact .inr (e0 e h4)

/-! Cells put out of order. -/
def shpO : AO → Option (Bool × Nat × Nat)
  | .row own z (.vals l) => some (own, z, l.length)
  | _ => none
theorem shpO_sto (a : AO) (o : Nat) (vs : List Sc) : shpO (stoM a o vs) = shpO a := by
  cases a with
  | row own z c =>
    cases c with
    | vals l => simp [stoM, shpO, setL_length]
    | _ => rfl
  | _ => rfl
theorem shpO_ins (a : AO) (e : Option (Sc × AV)) : shpO (insM a e) = shpO a := by
  cases a <;> cases e <;> rfl
theorem objS_shp (d : Nat) : ∀ (T : List DStep) (j : Nat) (S C : Nat → Bool) (a c : AO),
    (∀ (m : Nat) t, T[m]? = some t → t.t.wr.contains d = true → S (j + m) = C (j + m) ∨ t.t.ins.isSome = true ∨ t.t.sto.isSome = true) → shpO a = shpO c → shpO (objS T j S d a) = shpO (objS T j C d c)
  | [], _, _, _, _, _, _, h => h
  | t :: r, j, S, C, a, c, h, h1 => by
    rw [objS, objS]
    refine objS_shp d r (j + 1) S C _ _ (fun m t' hm hw => by
      have := h (m + 1) t' (by simpa using hm) hw
      rwa [show j + (m + 1) = j + 1 + m by omega] at this) ?_
    cases hw : t.t.wr.contains d with
    | false => rw [Bool.and_false, Bool.and_false]; exact h1
    | true =>
      rw [Bool.and_true, Bool.and_true]
      have h0 := h 0 t rfl hw
      rw [Nat.add_zero] at h0
      cases hin : t.t.ins.isSome with
      | true =>
        have hput : ∀ acc, t.put d acc = insM acc (lastE (t.out.at d)) := by intro acc; unfold DStep.put; rw [hin]; rfl
        rw [hput, hput]
        cases S j <;> cases C j <;> simp [shpO_ins, h1]
      | false =>
        cases hst : t.t.sto with
        | some q =>
          obtain ⟨d', o, vs⟩ := q
          have hput : ∀ acc, t.put d acc = stoM acc o vs := by intro acc; unfold DStep.put; rw [hin, hst]; rfl
          rw [hput, hput]
          cases S j <;> cases C j <;> simp [shpO_sto, h1]
        | none =>
          have hput : ∀ acc, t.put d acc = t.out.at d := by intro acc; unfold DStep.put; rw [hin, hst]; rfl
          rw [hput, hput]
          rcases h0 with e | e | e
          · rw [e]; cases C j
            · exact h1
            · rfl
          · rw [hin] at e; cases e
          · rw [hst] at e; cases e
theorem set_setL : ∀ (vs : List Sc) (l : List Sc) (i o : Nat) (v : Sc), i < o ∨ o + vs.length ≤ i → (setL l o vs).set i v = setL (l.set i v) o vs
  | [], _, _, _, _, _ => rfl
  | w :: r, l, i, o, v, h => by
    simp only [List.length_cons] at h
    rw [setL, setL, set_setL r _ i (o + 1) v (by omega), List.set_comm _ _ (by omega)]
theorem setL_comm : ∀ (vs ws : List Sc) (l : List Sc) (o o' : Nat), o + vs.length ≤ o' ∨ o' + ws.length ≤ o → setL (setL l o vs) o' ws = setL (setL l o' ws) o vs
  | vs, [], l, o, o', _ => rfl
  | vs, w :: r, l, o, o', h => by
    simp only [List.length_cons] at h
    rw [setL, setL, set_setL vs l o' o w (by omega)]
    exact setL_comm vs r _ o (o' + 1) (by omega)
theorem stoM_comm (a : AO) {vs ws : List Sc} {o o' : Nat} (h : o + vs.length ≤ o' ∨ o' + ws.length ≤ o) : stoM (stoM a o vs) o' ws = stoM (stoM a o' ws) o vs := by
  cases a with
  | row own z c =>
    cases c with
    | vals l => simp only [stoM]; rw [setL_comm vs ws l o o' h]
    | _ => rfl
  | _ => rfl
theorem objS_stail (d o : Nat) (vs : List Sc) : ∀ (T : List DStep) (j : Nat) (S : Nat → Bool) (a b : AO),
    (∀ (m : Nat) t, T[m]? = some t → t.t.wr.contains d = true → S (j + m) = true → t.t.ins = none ∧ ∃ d' o' ws, t.t.sto = some (d', o', ws) ∧ (o + vs.length ≤ o' ∨ o' + ws.length ≤ o)) → a = stoM b o vs → objS T j S d a = stoM (objS T j S d b) o vs
  | [], _, _, _, _, _, h => h
  | t :: r, j, S, a, b, hh, h => by
    rw [objS, objS]
    have hr : ∀ (m : Nat) t', r[m]? = some t' → t'.t.wr.contains d = true → S (j + 1 + m) = true → t'.t.ins = none ∧ ∃ d' o' ws, t'.t.sto = some (d', o', ws) ∧ (o + vs.length ≤ o' ∨ o' + ws.length ≤ o) := by
      intro m t' hm hw hs
      exact hh (m + 1) t' (by simpa using hm) hw (by rwa [show j + (m + 1) = j + 1 + m by omega])
    cases hw : (S j && t.t.wr.contains d) with
    | false => exact objS_stail d o vs r (j + 1) S a b hr h
    | true =>
      simp only [if_true]
      simp only [Bool.and_eq_true] at hw
      obtain ⟨hin, d', o', ws, hst, hap⟩ := hh 0 t rfl hw.2 hw.1
      have hput : ∀ acc, t.put d acc = stoM acc o' ws := by intro acc; unfold DStep.put; rw [hin, hst]; rfl
      rw [hput, hput]
      exact objS_stail d o vs r (j + 1) S _ _ hr (by rw [h, stoM_comm b hap])
theorem objS_sto (d o : Nat) (vs : List Sc) : ∀ (T : List DStep) (j : Nat) (S S' : Nat → Bool) (acc : AO) (k : Nat) (t : DStep), T[k]? = some t → S (j + k) = true → S' (j + k) = false → t.t.wr.contains d = true → t.t.ins = none → (∃ d', t.t.sto = some (d', o, vs)) →
    (∀ (k' : Nat) t', k' ≠ k → T[k']? = some t' → t'.t.wr.contains d = true → S (j + k') = S' (j + k')) →
    (∀ (k' : Nat) t', k < k' → T[k']? = some t' → t'.t.wr.contains d = true → S (j + k') = true → t'.t.ins = none ∧ ∃ d' o' ws, t'.t.sto = some (d', o', ws) ∧ (o + vs.length ≤ o' ∨ o' + ws.length ≤ o)) → objS T j S d acc = stoM (objS T j S' d acc) o vs
  | [], _, _, _, _, k, t, h, _, _, _, _, _, _, _ => by simp at h
  | t0 :: r, j, S, S', acc, 0, t, h, hS, hS', hd, hin, hst, hsame, hn => by
    cases h
    rw [Nat.add_zero] at hS hS'
    rw [objS, objS, hS, hS', hd]
    simp only [Bool.and_self, if_true, Bool.false_and, Bool.false_eq_true, if_false]
    rw [objS_congr d r (j + 1) S' S acc fun k' t' hk hw => by
      have := hsame (k' + 1) t' (by omega) (by simpa using hk) hw
      rw [show j + 1 + k' = j + (k' + 1) by omega]; exact this.symm]
    refine objS_stail d o vs r (j + 1) S _ _ (fun m t' hm hw hs => hn (m + 1) t' (by omega) (by simpa using hm) hw (by rwa [show j + (m + 1) = j + 1 + m by omega])) ?_
    obtain ⟨d', hst⟩ := hst
    unfold DStep.put
    rw [hin, hst]; rfl
  | t0 :: r, j, S, S', acc, k + 1, t, h, hS, hS', hd, hin, hst, hsame, hn => by
    have e : (if (S j && t0.t.wr.contains d) = true then t0.put d acc else acc) = (if (S' j && t0.t.wr.contains d) = true then t0.put d acc else acc) := by
      cases hw : t0.t.wr.contains d with
      | false => rw [Bool.and_false, Bool.and_false]
      | true =>
        have := hsame 0 t0 (by omega) rfl hw
        rw [Nat.add_zero] at this
        rw [this]
    rw [objS, objS, e]
    exact objS_sto d o vs r (j + 1) S S' _ k t (by simpa using h) (by rwa [show j + 1 + k = j + (k + 1) by omega]) (by rwa [show j + 1 + k = j + (k + 1) by omega]) hd hin hst
      (fun k' t' hk h1 h2 => by have := hsame (k' + 1) t' (by omega) (by simpa using h1) h2; rwa [show j + 1 + k' = j + (k' + 1) by omega])
      (fun k' t' hk h1 h2 h3 => hn (k' + 1) t' (by omega) (by simpa using h1) h2 (by rwa [show j + (k' + 1) = j + 1 + k' by omega]))

def eqvO (a b : AO) : Prop := a = b ∨ ∃ es es', a = .mapo es ∧ b = .mapo es' ∧ es.Perm es'
theorem eqvO.ins {a b : AO} {e e' : Option (Sc × AV)} (h : eqvO a (insM b e)) : eqvO (insM a e') (insM (insM b e') e) := by
  cases b with
  | mapo es =>
    cases e with
    | none =>
      rcases h with h | ⟨q, q', h1, h2, h3⟩
      · left; rw [h]; cases e' <;> rfl
      · cases h2
        subst h1
        cases e' with
        | none => exact .inr ⟨_, _, rfl, rfl, h3⟩
        | some e' => exact .inr ⟨_, _, rfl, rfl, h3.append_right _⟩
    | some e =>
      have hp : ∃ q, a = .mapo q ∧ q.Perm (es ++ [e]) := by
        rcases h with h | ⟨q, q', h1, h2, h3⟩
        · exact ⟨_, h, .refl _⟩
        · cases h2; exact ⟨q, h1, h3⟩
      obtain ⟨q, rfl, hq⟩ := hp
      cases e' with
      | none => exact .inr ⟨_, _, rfl, rfl, hq⟩
      | some e' =>
        refine .inr ⟨_, _, rfl, rfl, ?_⟩
        have h1 : (q ++ [e']).Perm ((es ++ [e]) ++ [e']) := hq.append_right _
        refine h1.trans ?_
        rw [List.append_assoc, List.append_assoc]
        exact List.Perm.append_left es (List.perm_append_comm)
  | _ =>
    rcases h with h | ⟨q, q', h1, h2, h3⟩
    · left; subst h; cases e <;> cases e' <;> rfl
    · cases e <;> cases h2
theorem objS_tail (d : Nat) (e : Option (Sc × AV)) : ∀ (T : List DStep) (j : Nat) (S : Nat → Bool) (a b : AO), (∀ (m : Nat) t, T[m]? = some t → t.t.wr.contains d = true → S (j + m) = true → t.t.ins.isSome = true) → eqvO a (insM b e) → eqvO (objS T j S d a) (insM (objS T j S d b) e)
  | [], _, _, _, _, _, h => h
  | t :: r, j, S, a, b, hh, h => by
    rw [objS, objS]
    have hr : ∀ (m : Nat) t', r[m]? = some t' → t'.t.wr.contains d = true → S (j + 1 + m) = true → t'.t.ins.isSome = true := by
      intro m t' hm hw hs
      exact hh (m + 1) t' (by simpa using hm) hw (by rwa [show j + (m + 1) = j + 1 + m by omega])
    cases hw : (S j && t.t.wr.contains d) with
    | false => exact objS_tail d e r (j + 1) S a b hr h
    | true =>
      simp only [if_true]
      simp only [Bool.and_eq_true] at hw
      have hin := hh 0 t rfl hw.2 hw.1
      unfold DStep.put
      rw [hin]
      simp only [if_true]
      exact objS_tail d e r (j + 1) S _ _ hr h.ins
theorem objS_ins (d : Nat) : ∀ (T : List DStep) (j : Nat) (S S' : Nat → Bool) (acc : AO) (k : Nat) (t : DStep), T[k]? = some t → S (j + k) = true → S' (j + k) = false → t.t.wr.contains d = true → t.t.ins.isSome = true →
    (∀ (k' : Nat) t', k' ≠ k → T[k']? = some t' → t'.t.wr.contains d = true → S (j + k') = S' (j + k')) →
    (∀ (k' : Nat) t', k < k' → T[k']? = some t' → t'.t.wr.contains d = true → S (j + k') = true → t'.t.ins.isSome = true) → eqvO (objS T j S d acc) (insM (objS T j S' d acc) (lastE (t.out.at d)))
  | [], _, _, _, _, k, t, h, _, _, _, _, _, _ => by simp at h
  | t0 :: r, j, S, S', acc, 0, t, h, hS, hS', hd, hin, hsame, hn => by
    cases h
    rw [Nat.add_zero] at hS hS'
    rw [objS, objS, hS, hS', hd]
    simp only [Bool.and_self, if_true, Bool.false_and, Bool.false_eq_true, if_false]
    rw [objS_congr d r (j + 1) S' S acc fun k' t' hk hw => by
      have := hsame (k' + 1) t' (by omega) (by simpa using hk) hw
      rw [show j + 1 + k' = j + (k' + 1) by omega]; exact this.symm]
    refine objS_tail d _ r (j + 1) S _ _ (fun m t' hm hw hs => hn (m + 1) t' (by omega) (by simpa using hm) hw (by rwa [show j + (m + 1) = j + 1 + m by omega])) ?_
    left
    unfold DStep.put
    rw [hin]; rfl
  | t0 :: r, j, S, S', acc, k + 1, t, h, hS, hS', hd, hin, hsame, hn => by
    have e : (if (S j && t0.t.wr.contains d) = true then t0.put d acc else acc) = (if (S' j && t0.t.wr.contains d) = true then t0.put d acc else acc) := by
      cases hw : t0.t.wr.contains d with
      | false => rw [Bool.and_false, Bool.and_false]
      | true =>
        have := hsame 0 t0 (by omega) rfl hw
        rw [Nat.add_zero] at this
        rw [this]
    rw [objS, objS, e]
    exact objS_ins d r (j + 1) S S' _ k t (by simpa using h) (by rwa [show j + 1 + k = j + (k + 1) by omega]) (by rwa [show j + 1 + k = j + (k + 1) by omega]) hd hin
      (fun k' t' hk h1 h2 => by have := hsame (k' + 1) t' (by omega) (by simpa using h1) h2; rwa [show j + 1 + k' = j + (k' + 1) by omega])
      (fun k' t' hk h1 h2 h3 => hn (k' + 1) t' (by omega) (by simpa using h1) h2 (by rwa [show j + (k' + 1) = j + 1 + k' by omega]))

theorem eqvO.symm {a b : AO} (h : eqvO a b) : eqvO b a := by
  rcases h with rfl | ⟨_, _, h1, h2, h3⟩
  · exact .inl rfl
  · exact .inr ⟨_, _, h2, h1, h3.symm⟩
theorem Sc.below_mono {s : Sc} {n : Nat} (h : s.below 0 = true) : s.below n = true := by
  cases s <;> first | rfl | (simp [Sc.below] at h; done)
theorem Part.below_mono {p : Part} {n : Nat} (h : p.below 0 = true) : p.below n = true := by
  cases p with
  | inl s => exact Sc.below_mono (s := s) h
  | inr l => exact List.all_eq_true.2 fun s hs => Sc.below_mono (List.all_eq_true.1 h s hs)
theorem AV.below_mono {v : AV} {n : Nat} (h : v.below 0 = true) : v.below n = true := by
  cases v with
  | one s => exact Sc.below_mono (s := s) h
  | agg l => exact List.all_eq_true.2 fun s hs => Sc.below_mono (List.all_eq_true.1 h s hs)
  | tup l => exact List.all_eq_true.2 fun s hs => Part.below_mono (List.all_eq_true.1 h s hs)
  | ifc t p => exact Part.below_mono (p := p) h
  | pan t p => exact Part.below_mono (p := p) h
theorem wr_zone {s : DStep} {recs : List Touch} {k : Nat} (ht : s.t = touchOf ops recs k s.f s.σ s.out s.o) {d : Nat} (hw : s.t.wr.contains d = true) : (d < s.σ.length ∧ (chgOf s.f s.σ s.o).contains d = true) ∨ (s.σ.length ≤ d ∧ d < s.out.length) := by
  rw [ht] at hw
  rcases touch_wr_lt hw with h1 | h1
  · left
    refine ⟨h1, ?_⟩
    simp only [touchOf, List.contains_eq_mem, List.mem_append, decide_eq_true_eq] at hw
    rcases hw with hw | hw
    · unfold wrOf at hw
      unfold chgOf
      split at hw
      · rename_i hkd
        rw [hkd]
        simpa using (List.mem_filter.1 hw).1
      · rename_i hkd
        rw [hkd]
        simpa using (List.mem_filter.1 hw).1
      · cases hw
    · rw [List.mem_range'_1] at hw; omega
  · exact .inr h1
theorem eqvO.own {a b : AO} (h : eqvO a b) : b.own = a.own := by
  rcases h with rfl | ⟨_, _, rfl, rfl, _⟩ <;> rfl
theorem eqvO.dead {a b : AO} (h : eqvO a b) : b ≠ .dead → a ≠ .dead := by
  rcases h with rfl | ⟨_, _, rfl, rfl, _⟩
  · exact id
  · intro _ e; cases e
theorem eqvO.foot {a b : AO} (h : eqvO a b) {w : World} {l : Loc} {x : Nat} (hf : SX.foot w l b x) : SX.foot w l a x := by
  rcases h with rfl | ⟨_, _, rfl, rfl, _⟩
  · exact hf
  · rcases hf with hf | ⟨M, pg, e, _⟩
    · exact .inl hf
    · cases e
theorem eqvO.rel {a b : AO} (h : eqvO a b) {ρ : Nat → Loc} {n : Nat} {w : World} {l : Loc} (hr : ORel ρ n w l a) : ORel ρ n w l b := by
  rcases h with rfl | ⟨es, es', rfl, rfl, hp⟩
  · exact hr
  · obtain ⟨h1, q, h2, h3, h4⟩ := hr
    exact ⟨h1, q, h2.trans hp, h3.perm hp, h4⟩
theorem Rel.eqv {ρ : Nat → Loc} {σ σ2 : St} {w : World} (h : Rel ρ σ w) (hl : σ2.length = σ.length) (he : ∀ i, eqvO (σ.at i) (σ2.at i)) : Rel ρ σ2 w :=
  have hu : ∀ i, used ρ σ2 i → used ρ σ i := fun i u => ⟨u.1, (he i).dead u.2⟩
  have ho : ∀ i, owned ρ σ2 i → owned ρ σ i := fun i u => ⟨u.1, by rw [← (he i).own]; exact u.2⟩
  ⟨fun i => by rw [hl]; exact (he i).rel (h.obj i), fun i j hij h1 h2 b hb1 hb2 => h.sep i j hij (ho i h1) (hu j h2) b ((he i).foot hb1) ((he j).foot hb2), fun i h1 => h.bnd i (hu i h1)⟩
theorem ExtN.eqv {n : Nat} {ρ ρ' : Nat → Loc} {σ σ1 σ2 : St} {w w' : World} (h : ExtN n ρ σ w ρ' σ1 w') (hl : σ2.length = σ1.length) (he : ∀ i, eqvO (σ1.at i) (σ2.at i)) : ExtN n ρ σ w ρ' σ2 w' :=
  ⟨by rw [hl]; exact h.len, h.same, h.os, h.tape, h.output, h.size, h.keep, fun i hi b hb => h.own i ⟨hi.1, by rw [← (he i).own]; exact hi.2⟩ b ((he i).foot hb)⟩

/-! Memory when these operations are done. -/
def stS (T : List DStep) (S : Nat → Bool) (σ0 : St) (N : Nat) : St := (List.range N).map fun i => objS T 0 S i (σ0.at i)
theorem stS_length {S : Nat → Bool} {N : Nat} : (stS T S σ0 N).length = N := by simp [stS]
theorem step_wr_lt {s : DStep} {k i : Nat} {recs : List Touch} {f : Fr} (h : StepOk P call ops s.o k recs f s.σ s) (hi : s.t.wr.contains i = true) : i < s.next.length := by
  cases hex : s.ex with
  | false => rw [(h.skip hex).2.1] at hi; simp [skipOf] at hi
  | true =>
    rw [(h.exec hex).1] at hi
    have := touch_wr_lt hi
    unfold DStep.next
    rw [if_pos hex, backE_length]
    omega
theorem stS_at (hg : AllGood P call ops T f0 σ0 σ') (h0 : σ0.length ≤ σ'.length) (S : Nat → Bool) (i : Nat) : (stS T S σ0 σ'.length).at i = objS T 0 S i (σ0.at i) := by
  by_cases hi : i < σ'.length
  · rw [at_eq]
    simp [stS, hi]
  · rw [at_ge (by rw [stS_length]; omega)]
    rw [objS_none i T 0 S _ fun k t hk hw => ?_, at_ge (by omega)]
    obtain ⟨⟨recs, f, g⟩, _⟩ := hg k t hk
    have := step_wr_lt g.step hw
    have := g.nx
    omega

structure Inv (T : List DStep) (f0 : Fr) (σ0 σ' : St) (ρ0 : Nat → Loc) (a0 : Act) (w0 : World) (S : Nat → Bool) (ρ : Nat → Loc) (a : Act) (w : World) : Prop where
  size : a.tmps.size = f0.n
  slots : ∀ i, i < f0.n → ARel ρ σ'.length (slotS T 0 S i (f0.get i)) (a.tmps.getD i undef)
  rel : Rel ρ (stS T S σ0 σ'.length) w
  ext : ExtN σ0.length ρ0 σ0 w0 ρ (stS T S σ0 σ'.length) w
  dead : ∀ (k : Nat) s i, T[k]? = some s → S k = false → s.σ.length ≤ i → i < s.next.length → (ρ i).live = false
  defers : a.defers = a0.defers
  stay : ∀ t, (∀ (k : Nat) s, T[k]? = some s → s.o.dst ≠ some t) → a.tmps.getD t undef = a0.tmps.getD t undef

theorem put_getD {a : Act} {d : Option Tmp} {v : Value} {i : Nat} : (a.put d v).tmps.getD i undef = if d = some i ∧ i < a.tmps.size then v else a.tmps.getD i undef := by
  cases d with
  | none => simp [Act.put]
  | some t =>
    rw [show (a.put (some t) v).tmps = a.tmps.setIfInBounds t v from rfl, getD_set]
    by_cases h : t = i
    · subst h; simp
    · simp [h]
theorem put_size {a : Act} {d : Option Tmp} {v : Value} : (a.put d v).tmps.size = a.tmps.size := by
  cases d with
  | none => rfl
  | some t => simp [Act.put]

theorem get_ge {f : Fr} {i : Nat} (h : f.n ≤ i) : f.get i = .one .any := by
  rw [Fr.get_eq, if_neg (by omega)]
theorem undef_any {ρ : Nat → Loc} {n : Nat} {x : AV} (h : x = .one .any) (v : Value) : ARel ρ n x v := by subst h; exact ARel.any

theorem slot_of {s : DStep} {i : Nat} {S : Nat → Bool} {ρ ρ0 : Nat → Loc} {a a0 : Act} {w w0 : World} (hg : AllGood P call ops T f0 σ0 σ') (hc : Closed T S) (hi : T[i]? = some s) (hS : S i = false) (hr : Ready s S)
    (hv : Inv T f0 σ0 σ' ρ0 a0 w0 S ρ a w) {recs : List Touch} {f : Fr} (g : Good P call ops T f0 σ0 σ' i s recs f) (d : Nat) (hd : d ∈ s.o.looksAt ops) : ARel ρ σ'.length (f.get d) (a.tmps.getD d undef) := by
  by_cases hlt : d < f0.n
  · have := hv.slots d hlt
    rw [agree_slot hg hc hi hS hr hd] at this
    exact g.slots d _ _ _ this
  · rw [get_ge (by rw [g.fn]; omega)]; exact ARel.any

theorem wanted_ex {s : DStep} {i : Nat} {S : Nat → Bool} {ρ ρ0 : Nat → Loc} {a a0 : Act} {w w0 : World} (hg : AllGood P call ops T f0 σ0 σ') (hc : Closed T S) (hi : T[i]? = some s) (hS : S i = false) (hr : Ready s S)
    (hv : Inv T f0 σ0 σ' ρ0 a0 w0 S ρ a w) : Region.wanted s.o (yielded ops a.tmps) = s.ex := by
  obtain ⟨⟨recs, f, g⟩, _⟩ := hg i s hi
  have hgd := g.step.grd
  cases hgu : s.o.guard with
  | none => rw [hgu] at hgd; simp [Region.wanted, hgu, hgd]
  | some p =>
    obtain ⟨gi, want⟩ := p
    rw [hgu] at hgd
    obtain ⟨d, h1, h23⟩ := hgd
    have hlk : d ∈ s.o.looksAt ops := by
      unfold Oper.looksAt
      rw [hgu]
      refine List.mem_append_right _ ?_
      simp only [h1, Option.toList_some]
      exact List.mem_singleton.2 rfl
    have hs : ARel ρ σ'.length (f.get d) (a.tmps.getD d undef) := slot_of hg hc hi hS hr hv g d hlk
    rcases h23 with ⟨b, h2, h3⟩ | ⟨h2, h3⟩
    · have hval : a.tmps.getD d undef = .bool b.den := by rw [h2] at hs; exact hs
      have hval2 : a.tmps[d]? = some (.bool b.den) := by
        rw [Array.getD_eq_getD_getElem?] at hval
        cases ht : a.tmps[d]? with
        | none => rw [ht] at hval; cases hval
        | some x => rw [ht] at hval; exact congrArg some hval
      rw [h3]
      simp [Region.wanted, hgu, yielded, h1, hval2]
    · rw [h2] at hs
      rw [h3]
      simp [Region.wanted, hgu, slot_undef hs h1]

theorem joinLoc_same {n n' : Nat} {ρ ρ' : Nat → Loc} (hs : Same n ρ ρ') : Same n' ρ' (joinLoc n n' ρ ρ') := by
  intro i hi
  unfold joinLoc
  split
  · rfl
  · rw [hs i (by omega)]
theorem joinLoc_wake {n n' : Nat} {ρ ρ' : Nat → Loc} (hd : ∀ i, n ≤ i → i < n' → (ρ i).live = false) : ∀ i, (ρ i).live = true → joinLoc n n' ρ ρ' i = ρ i := by
  intro i hl
  unfold joinLoc
  split
  · rename_i h; rw [hd i h.1 h.2] at hl; cases hl
  · rfl

theorem chg_rd {f : Fr} {σ : St} {o : Oper} {i : Nat} (h : (chgOf f σ o).contains i = true) : (rdOf f σ o).contains i = true := by
  unfold chgOf at h
  split at h
  · exact h
  · rename_i hk
    have hm : i ∈ (idsOf f o).headD [] := by simpa using h
    have hfl : i ∈ (idsOf f o).flatten := by
      cases hi : idsOf f o with
      | nil => rw [hi] at hm; cases hm
      | cons x r => rw [hi] at hm; exact List.mem_flatten.2 ⟨x, by simp, hm⟩
    unfold rdOf
    rw [write_sees hk]
    simp only [cond_false]
    split
    · rename_i ho
      exfalso
      unfold dkind at hk
      split at hk
      · cases hk
      · rw [ho] at hk; cases hk
    · simpa using hfl
  · exact h
  · simp at h

theorem all_at {p : AO → Bool} (hp : p .dead = true) {σ : St} (h : σ.all p = true) (i : Nat) : p (σ.at i) = true := by
  rw [at_eq]
  cases hx : σ[i]? with
  | none => exact hp
  | some o => exact List.all_eq_true.1 h o (List.mem_of_getElem? hx)

/-- one operation, whichever is ready -/
theorem draw_step (hcs : CallSound P call) (hn : NamesOk P) {Q : Exit → Act → World → Prop} {K : Act → World → Prop} {s : DStep} {i : Nat} {S : Nat → Bool} {ρ ρ0 : Nat → Loc} {a a0 : Act} {w w0 : World}
    (hg : AllGood P call ops T f0 σ0 σ') (h0 : σ0.length ≤ σ'.length) (hc : Closed T S) (hi : T[i]? = some s) (hS : S i = false) (hr : Ready s S) (hv : Inv T f0 σ0 σ' ρ0 a0 w0 S ρ a w) (hgl : GlOk ρ0 σ0.length)
    (hk : ∀ ρ' a' w', Inv T f0 σ0 σ' ρ0 a0 w0 (with1 i S) ρ' a' w' → K a' w') : wpOp P ops Q i K a w := by
  have hwant := wanted_ex hg hc hi hS hr hv
  obtain ⟨⟨recs, f, g⟩, hop⟩ := hg i s hi
  have hdl : s.next.length ≤ σ'.length := g.nx
  have hw1 : ∀ k, with1 i S k = false → S k = false ∧ k ≠ i := by
    intro k hk
    simp only [with1, Bool.or_eq_false_iff, beq_eq_false_iff_ne] at hk
    exact ⟨hk.2, hk.1⟩
  unfold wpOp
  rw [hop]
  simp only
  cases hex : s.ex with
  | false =>
    rw [hex] at hwant
    rw [if_neg (by rw [hwant]; simp)]
    obtain ⟨hvv, ht, _⟩ := g.step.skip hex
    have hst : stS T (with1 i S) σ0 σ'.length = stS T S σ0 σ'.length := by
      refine ext_at (by rw [stS_length, stS_length]) fun d => ?_
      rw [stS_at hg h0, stS_at hg h0, obj_step hg hc hi hS (by rw [ht]; rfl) (by rw [ht]; rfl), ht]
      simp [skipOf]
    refine hk ρ _ w ⟨put_size.trans hv.size, fun d hdn => ?_, by rw [hst]; exact hv.rel, by rw [hst]; exact hv.ext, fun k s' d h1 h2 => hv.dead k s' d h1 (hw1 k h2).1, (put_defers _ _ _).trans hv.defers, fun t ht => by rw [put_getD, if_neg (fun h => ht i s hi h.1)]; exact hv.stay t ht⟩
    rw [slot_step hg hc hi hS, put_getD]
    by_cases hd : s.o.dst = some d
    · rw [hd]
      simp only [beq_self_eq_true, if_true, true_and]
      rw [if_pos (by rw [hv.size]; exact hdn), hvv]
      exact arel_undef
    · have : (s.o.dst == some d) = false := by simpa using hd
      rw [this]
      simp only [Bool.false_eq_true, if_false]
      rw [if_neg (fun h => hd h.1)]
      exact hv.slots d hdn
  | true =>
    rw [hex] at hwant
    rw [if_pos hwant]
    left
    obtain ⟨ht, hb1, hb2, hrun, hno, hdd, hpn⟩ := g.step.exec hex
    have hml : (memOf (chgOf s.f s.σ s.o) (rdOf s.f s.σ s.o) s.σ 0).length = s.σ.length := memOf_length _ _ _ _
    have hnl : s.next.length = s.σ.length + (s.out.length - s.σ.length) := by
      unfold DStep.next; rw [if_pos hex, backE_length]; omega
    have hrdc : ∀ d, (rdOf s.f s.σ s.o).contains d = true → s.t.rd.contains d = true := by
      intro d hd
      rw [ht]
      simp only [touchOf, List.contains_eq_mem, List.mem_append, decide_eq_true_eq] at hd ⊢
      exact .inl hd
    cases hsto : s.t.sto with
    | some q =>
      obtain ⟨d0, off, vs⟩ := q
      have hni := (sto_dst g.step hsto).2
      have hsto' := hsto
      rw [ht] at hsto'
      obtain ⟨ty, ax, x, r, sz, fld, hib, u1, u2, u3, u4, u5, u6, u7, z, l1, u8⟩ := sto_spec hsto'
      rw [← ht] at u6
      obtain ⟨l, v1, v2, v3, v4⟩ := store_run u1 u3 u5 hrun u8
      obtain ⟨x1, x2, x3⟩ := memOf_row v1
      have hwd0 : s.t.wr.contains d0 = true := by rw [u6]; simp
      have hrd0 : s.t.rd.contains d0 = true := step_rdwr g.step hwd0
      have shp : shpO (objS T 0 S d0 (σ0.at d0)) = shpO (objS T 0 (fun m => decide (m < i)) d0 (σ0.at d0)) := objS_shp d0 T 0 S _ _ _ (fun m' t hm hw => by
        rw [Nat.zero_add]
        by_cases hlt : m' < i
        · rw [decide_eq_true hlt]
          rcases before hg hc hm hi hlt hr with h | h
          · exact .inl h
          · rcases apart_cases h with h | h | h
            · simp only [apartP, Bool.and_eq_true] at h
              have := off_spec h.1.1.1 hw
              rw [hrd0] at this; cases this
            · obtain ⟨d', a1, a2, b1, b2, b3⟩ := insApart_some h
              rw [hni] at b2; cases b2
            · obtain ⟨_, _, _, _, _, b1, _⟩ := stoApart_some h
              exact .inr (.inr (by rw [b1]; rfl))
        · rw [decide_eq_false hlt]
          by_cases e : m' = i
          · subst e; exact .inl hS
          · cases hSk : S m' with
            | false => exact .inl rfl
            | true =>
              rcases before hg hc hi hm (by omega) (hc m' t hm hSk) with h | h
              · rw [hS] at h; cases h
              · rcases apart_cases h with h | h | h
                · simp only [apartP, Bool.and_eq_true] at h
                  have := off_spec h.1.1.2 hw
                  rw [hrd0] at this; cases this
                · obtain ⟨d', a1, a2, b1, b2, b3⟩ := insApart_some h
                  rw [hni] at b1; cases b1
                · obtain ⟨_, _, _, _, _, _, b1, _⟩ := stoApart_some h
                  exact .inr (.inr (by rw [b1]; rfl))) rfl
      rw [g.objs d0, x3] at shp
      obtain ⟨lS, hlS, hS0⟩ : ∃ lS, lS.length = l.length ∧ objS T 0 S d0 (σ0.at d0) = .row true z (.vals lS) := by
        generalize objS T 0 S d0 (σ0.at d0) = oo at shp
        cases oo with
        | row own z' c =>
          cases c with
          | vals l' =>
            simp only [shpO, Option.some.injEq, Prod.mk.injEq] at shp
            obtain ⟨rfl, rfl, h⟩ := shp
            exact ⟨l', h, rfl⟩
          | _ => cases shp
        | _ => cases shp
      have hat0 : (stS T S σ0 σ'.length).at d0 = .row true z (.vals lS) := by rw [stS_at hg h0]; exact hS0
      have hd0 : d0 < σ'.length := by have := g.le; omega
      have hrun2 := v4 (stS T S σ0 σ'.length) lS hat0 hlS
      rw [← u4] at hrun2
      have hat : At ρ (frOf ops s.f s.o) (stS T S σ0 σ'.length) a w := by
        refine ⟨⟨?_, ?_, hgl.mono hv.ext.same (by rw [stS_length]; exact h0)⟩, hv.rel⟩
        · show _ = s.f.n; rw [hv.size, ← g.fn, ← g.step.fn]
        · rw [stS_length]
          exact frameOf_rel s.f _ fun d hd => g.step.imp d _ _ _ (slot_of hg hc hi hS hr hv g d hd)
      refine operE_wp hcs hn hat hrun2 (fun _ ρ' val w' q1 q2 q3 => ?_) (fun h => by rw [hpn] at h; cases h)
      have hnew : (stS T S σ0 σ'.length).set d0 (.row true z (.vals (setL lS off vs))) = stS T (with1 i S) σ0 σ'.length := by
        refine ext_at (by rw [List.length_set, stS_length, stS_length]) fun d => ?_
        rw [St.at_set, stS_at hg h0 (with1 i S)]
        by_cases e : d = d0
        · subst e
          rw [if_pos ⟨rfl, by rw [stS_length]; exact hd0⟩]
          have := objS_sto d off vs T 0 (with1 i S) S (σ0.at d) i s hi (by simp [with1]) (by rw [Nat.zero_add]; exact hS) hwd0 hni ⟨_, hsto⟩
            (fun k' t' hne hk' hw => by
              have hne : (k' == i) = false := by simpa using hne
              rw [Nat.zero_add]
              unfold with1
              rw [hne, Bool.false_or])
            (fun k' t' hlt hk' hw hs => by
              rw [Nat.zero_add] at hs
              have hne : (k' == i) = false := by simp; omega
              unfold with1 at hs
              rw [hne, Bool.false_or] at hs
              obtain ⟨⟨recs', f', g'⟩, _⟩ := hg k' t' hk'
              rcases before hg hc hi hk' hlt (hc k' t' hk' hs) with h | h
              · rw [hS] at h; cases h
              · rcases apart_cases h with h | h | h
                · simp only [apartP, Bool.and_eq_true] at h
                  have := off_spec h.1.1.1 hwd0
                  rw [step_rdwr g'.step hw] at this; cases this
                · obtain ⟨d', a1, a2, b1, _⟩ := insApart_some h
                  rw [hni] at b1; cases b1
                · obtain ⟨_, _, _, o', ws, b1, b2, b3⟩ := stoApart_some h
                  rw [hsto] at b1; cases b1
                  exact ⟨(sto_dst g'.step b2).2, _, o', ws, b2, b3⟩)
          rw [this, hS0]; rfl
        · rw [if_neg (fun h => e h.1), stS_at hg h0, obj_same hi (fun h => by rw [u6] at h; exact e (by simpa using h))]
      rw [hnew] at q1 q2 q3
      have hsame : Same σ'.length ρ ρ' := by have := q3.same; rwa [stS_length] at this
      refine hk ρ' _ w' ⟨put_size.trans hv.size, fun d hdn => ?_, q2, hv.ext.trans (q3.toN (by rw [stS_length]; exact h0)), fun k s' d h1 h2 h3 h4 => ?_, (put_defers _ _ _).trans hv.defers, fun t ht => by rw [put_getD, if_neg (fun h => ht i s hi h.1)]; exact hv.stay t ht⟩
      · rw [slot_step hg hc hi hS, put_getD, u2]
        have : ((none : Option Nat) == some d) = false := rfl
        rw [this]
        simp only [Bool.false_eq_true, if_false]
        rw [if_neg (fun h => by cases h.1)]
        exact (hv.slots d hdn).mono hsame (Nat.le_refl _)
      · obtain ⟨⟨recs', f', g'⟩, _⟩ := hg k s' h1
        rw [hsame d (by have := g'.nx; omega)]
        exact hv.dead k s' d h1 (hw1 k h2).1 h3 h4
    | none =>
    suffices core : ∃ mem out : St, mem.length = s.σ.length ∧ out.length = s.out.length ∧ Rel ρ mem w ∧ (operE P call s.o (frOf ops s.f s.o) mem).run = some (s.v, out) ∧
        (∀ d, owned ρ mem d → d < s.σ.length ∧ (chgOf s.f s.σ s.o).contains d = true ∧ owned ρ (stS T S σ0 σ'.length) d) ∧
        (∀ d, d < s.σ.length → (chgOf s.f s.σ s.o).contains d = true → mem.at d = (stS T S σ0 σ'.length).at d) ∧
        (∀ d, s.σ.length ≤ d → ownB (out.at d) = true) ∧
        (∀ d, (chgOf s.f s.σ s.o).contains d = true → mem.at d = .dead → out.at d = .dead) ∧
        (∀ d, eqvO (if (d < s.σ.length ∧ (chgOf s.f s.σ s.o).contains d = true) ∨ (s.σ.length ≤ d ∧ d < s.out.length) then out.at d else (stS T S σ0 σ'.length).at d) ((stS T (with1 i S) σ0 σ'.length).at d)) by
      obtain ⟨mem, out, hml, hol, hrel, hrun, hmo, hmc, hnew, hddm, hst⟩ := core
      have hat : At ρ (frOf ops s.f s.o) mem a w := by
        refine ⟨⟨?_, ?_, hgl.mono hv.ext.same (by rw [hml]; exact g.ge)⟩, hrel⟩
        · show _ = s.f.n; rw [hv.size, ← g.fn, ← g.step.fn]
        · rw [hml]
          refine frameOf_rel s.f _ fun d hd => ?_
          exact ARel.below (g.step.imp d _ _ _ (slot_of hg hc hi hS hr hv g d hd)) (List.all_eq_true.1 hb1 d hd)
      refine operE_wp hcs hn hat hrun (fun _ ρ' val w' q1 q2 q3 => ?_) (fun h => by rw [hpn] at h; cases h)
      have hlen : s.σ.length ≤ s.out.length := by have := q3.len; rwa [hml, hol] at this
      have hdead : ∀ d, s.σ.length ≤ d → d < s.out.length → (ρ d).live = false := fun d h1 h2 => hv.dead i s d hi hS h1 (by omega)
      obtain ⟨σ2, hσ2l, hσ2⟩ : ∃ σ2 : St, σ2.length = σ'.length ∧ ∀ d, σ2.at d = if (d < s.σ.length ∧ (chgOf s.f s.σ s.o).contains d = true) ∨ (s.σ.length ≤ d ∧ d < s.out.length) then out.at d else (stS T S σ0 σ'.length).at d := by
        refine ⟨(List.range σ'.length).map fun d => if (d < s.σ.length ∧ (chgOf s.f s.σ s.o).contains d = true) ∨ (s.σ.length ≤ d ∧ d < s.out.length) then out.at d else (stS T S σ0 σ'.length).at d, by simp, fun d => ?_⟩
        by_cases hd : d < σ'.length
        · rw [at_eq]
          simp [hd]
        · rw [at_ge (by simp; omega)]
          have := g.le
          rw [if_neg (by omega), at_ge (by rw [stS_length]; omega)]
      obtain ⟨r1, r2⟩ := frame_rel (σ2 := σ2) (n0 := σ0.length) (chg := chgOf s.f s.σ s.o) hv.rel (by rw [hml]; exact g.ge) (by rw [stS_length, hol]; omega)
        (fun d hd => by rw [hml]; exact hmo d hd)
        (fun d h1 h2 => hmc d (by rwa [hml] at h1) h2)
        (fun d h1 h2 => hdead d (by rwa [hml] at h1) (by rwa [hol] at h2))
        (fun d h1 => hnew d (by rwa [hml] at h1))
        hddm q2 q3 (by rw [stS_length, hσ2l]) (fun d => by rw [hml, hol]; exact hσ2 d)
      rw [hml, hol] at r1 r2
      have r1' := r1.eqv (σ2 := stS T (with1 i S) σ0 σ'.length) (by rw [stS_length, hσ2l]) (fun d => by rw [hσ2]; exact hst d)
      have r2' := r2.eqv (σ2 := stS T (with1 i S) σ0 σ'.length) (by rw [stS_length, hσ2l]) (fun d => by rw [hσ2]; exact hst d)
      have hsame : Same s.out.length ρ' (joinLoc s.σ.length s.out.length ρ ρ') := joinLoc_same (by have := q3.same; rwa [hml] at this)
      have hwake := joinLoc_wake (ρ' := ρ') hdead
      refine hk _ _ w' ⟨put_size.trans hv.size, fun d hdn => ?_, r1', hv.ext.trans r2', fun k s' d h1 h2 h3 h4 => ?_, (put_defers _ _ _).trans hv.defers, fun t ht => by rw [put_getD, if_neg (fun h => ht i s hi h.1)]; exact hv.stay t ht⟩
      · rw [slot_step hg hc hi hS, put_getD]
        by_cases hd : s.o.dst = some d
        · rw [hd]
          simp only [beq_self_eq_true, if_true, true_and]
          rw [if_pos (by rw [hv.size]; exact hdn)]
          rw [hol] at q1
          exact q1.mono hsame (by omega)
        · have : (s.o.dst == some d) = false := by simpa using hd
          rw [this]
          simp only [Bool.false_eq_true, if_false]
          rw [if_neg (fun h => hd h.1)]
          exact (hv.slots d hdn).wake hwake
      · obtain ⟨h5, h6⟩ := hw1 k h2
        have hnot : ¬ (s.σ.length ≤ d ∧ d < s.out.length) := by
          rintro ⟨h7, h8⟩
          obtain ⟨⟨recs', f', g'⟩, _⟩ := hg k s' h1
          rcases Nat.lt_or_gt_of_ne h6 with hlt | hlt
          · have := g.lens k hlt s' h1; omega
          · have := g'.lens i hlt s hi; omega
        unfold joinLoc
        rw [if_neg hnot]
        exact hv.dead k s' d h1 h5 h3 h4
    cases hins : s.t.ins with
    | none =>
      have hag : ∀ d, (rdOf s.f s.σ s.o).contains d = true → (stS T S σ0 σ'.length).at d = s.σ.at d := by
        intro d hd
        rw [stS_at hg h0, agree_obj hg hc hi hS hr hins hsto (hrdc d hd)]
        exact g.objs d
      have hchg : ∀ d, d < s.σ.length → (chgOf s.f s.σ s.o).contains d = true → (memOf (chgOf s.f s.σ s.o) (rdOf s.f s.σ s.o) s.σ 0).at d = (stS T S σ0 σ'.length).at d := by
        intro d h1 h2
        rw [memOf_at _ _ _ _ _ h1, Nat.zero_add, if_pos h2, hag d (chg_rd h2)]
      refine ⟨memOf (chgOf s.f s.σ s.o) (rdOf s.f s.σ s.o) s.σ 0, s.out, hml, rfl, memOf_rel hv.rel (fun d _ hd => hag d (hd.elim chg_rd id)) hb2, hrun, ?_, hchg, ?_, ?_, ?_⟩
      · intro d hd
        obtain ⟨h1, h2, h3⟩ := mem_owned hd
        refine ⟨h1, h2, h3.1, ?_⟩
        rw [hag d (chg_rd h2)]; exact h3.2
      · intro d h1
        have := all_at (p := ownB) rfl hno (d - s.σ.length)
        rwa [drop_at, show s.σ.length + (d - s.σ.length) = d by omega] at this
      · intro d h1 h2
        have := List.all_eq_true.1 hdd d (by simpa using h1)
        rw [h2] at this
        simp only [deadB, Bool.not_true, Bool.false_or] at this
        cases hx : s.out.at d with
        | dead => rfl
        | _ => rw [hx] at this; cases this
      · intro d
        left
        rw [stS_at hg h0 (with1 i S), obj_step hg hc hi hS hins hsto, ← stS_at hg h0]
        have hnx := next_at g.step d
        by_cases hz : (d < s.σ.length ∧ (chgOf s.f s.σ s.o).contains d = true) ∨ (s.σ.length ≤ d ∧ d < s.out.length)
        · rw [if_pos hz]
          by_cases hw : s.t.wr.contains d = true
          · rw [if_pos hw]
          · rw [if_neg hw]
            rw [if_neg hw] at hnx
            rcases hz with ⟨h1, h2⟩ | ⟨h1, h2⟩
            · rw [hag d (chg_rd h2), ← hnx]
              unfold DStep.next
              rw [if_pos hex, backE_at, if_pos h1, Nat.zero_add, if_pos h2]
            · exfalso
              apply hw
              rw [ht]
              simp only [touchOf, List.contains_eq_mem, List.mem_append, decide_eq_true_eq]
              right; rw [List.mem_range'_1]; omega
        · rw [if_neg hz]
          by_cases hw : s.t.wr.contains d = true
          · exact (hz (wr_zone ht hw)).elim
          · rw [if_neg hw]
    | some p =>
      obtain ⟨d0, k⟩ := p
      have hins' := hins
      rw [ht] at hins'
      obtain ⟨ty, m, kx, x, u1, u2, u3, u4, u5, u6, u7, u8, u9, e1, u10⟩ := ins_spec hins'
      rw [← ht] at u4 u5
      obtain ⟨es, v1, v2, v3, v4⟩ := insert_run u1 u3 hrun u10
      obtain ⟨x1, x2, x3⟩ := memOf_mapo v1
      rw [← u9] at v2 v3 v4
      have hrd : ∀ d, (rdOf s.f s.σ s.o).contains d = true → d = d0 := by
        intro d hd
        have := hrdc d hd
        rw [u4] at this
        simpa using this
      have hchd : ∀ d, (chgOf s.f s.σ s.o).contains d = true → d = d0 := fun d hd => hrd d (chg_rd hd)
      have hwd0 : s.t.wr.contains d0 = true := by rw [u5]; simp
      -- what the map is, in this order
      have two := objS_two d0 (fun e => keyEq k e.1 = some false ∧ e.1.below 0 = true ∧ e.2.below 0 = true) T 0 S (fun m => decide (m < i)) (σ0.at d0) (σ0.at d0) (fun m' t hm hw => by
        rw [Nat.zero_add]
        have hrd0 : s.t.rd.contains d0 = true := step_rdwr g.step hwd0
        have other : ∀ (y : Touch) (e : t.t = y), insApart y s.t = true ∨ insApart s.t y = true → t.t.ins.isSome = true ∧ ∀ e, lastE (t.out.at d0) = some e → keyEq k e.1 = some false ∧ e.1.below 0 = true ∧ e.2.below 0 = true := by
          intro y ey hy
          subst ey
          obtain ⟨k', hk1, hk2⟩ : ∃ k', t.t.ins = some (d0, k') ∧ keyEq k k' = some false := by
            rcases hy with hy | hy
            · obtain ⟨d', a1, a2, b1, b2, b3⟩ := insApart_some hy
              rw [hins] at b2; cases b2
              exact ⟨a1, b1, keyEq_symm b3⟩
            · obtain ⟨d', a1, a2, b1, b2, b3⟩ := insApart_some hy
              rw [hins] at b1; cases b1
              exact ⟨a2, b2, b3⟩
          refine ⟨by rw [hk1]; rfl, fun e he => ?_⟩
          obtain ⟨⟨recs', f', g'⟩, _⟩ := hg m' t hm
          cases hext : t.ex with
          | false => rw [(g'.step.skip hext).2.1] at hk1; cases hk1
          | true =>
            obtain ⟨ht', _, _, hrun', _⟩ := g'.step.exec hext
            have hk1' := hk1
            rw [ht'] at hk1'
            obtain ⟨ty', m2, kx', x', y1, y2, y3, y4, y5, y6, y7, y8, y9, e2, y10⟩ := ins_spec hk1'
            obtain ⟨es2, z1, z2, z3, _⟩ := insert_run y1 y3 hrun' y10
            obtain ⟨z4, z5, z6⟩ := memOf_mapo z1
            rw [z3, St.at_set, if_pos ⟨rfl, by rw [memOf_length]; exact z4⟩] at he
            simp only [lastE, List.getLast?_append, List.getLast?_singleton, Option.some_or, Option.some.injEq] at he
            subst he
            rw [y9] at hk2
            exact ⟨hk2, y7, y8⟩
        by_cases hlt : m' < i
        · rw [decide_eq_true hlt]
          rcases before hg hc hm hi hlt hr with h | h
          · exact .inl h
          · rcases apart_cases h with h | h | h
            · simp only [apartP, Bool.and_eq_true] at h
              have := off_spec h.1.1.1 hw
              rw [hrd0] at this; cases this
            · exact .inr (other _ rfl (.inl h))
            · obtain ⟨_, _, _, _, _, _, b1, _⟩ := stoApart_some h
              rw [hsto] at b1; cases b1
        · rw [decide_eq_false hlt]
          by_cases e : m' = i
          · subst e; exact .inl hS
          · cases hSk : S m' with
            | false => exact .inl rfl
            | true =>
              rcases before hg hc hi hm (by omega) (hc m' t hm hSk) with h | h
              · rw [hS] at h; cases h
              · rcases apart_cases h with h | h | h
                · simp only [apartP, Bool.and_eq_true] at h
                  have := off_spec h.1.1.2 hw
                  rw [hrd0] at this; cases this
                · exact .inr (other _ rfl (.inr h))
                · obtain ⟨_, _, _, _, _, b1, _⟩ := stoApart_some h
                  rw [hsto] at b1; cases b1) rfl (fun e he => .inl he)
      rw [g.objs d0, x3] at two
      obtain ⟨esS, hesS⟩ : ∃ esS, objS T 0 S d0 (σ0.at d0) = .mapo esS := by
        have := two.1
        cases hx : objS T 0 S d0 (σ0.at d0) with
        | mapo es => exact ⟨es, rfl⟩
        | _ => rw [hx] at this; cases this
      rw [hesS] at two
      have hfindS : findE k esS 0 = some none := findE_none.2 fun p hp => by
        rcases two.2 p hp with h | h
        · exact findE_none.1 v2 p h
        · exact h.1
      have hS0 : (stS T S σ0 σ'.length).at d0 = .mapo esS := by rw [stS_at hg h0]; exact hesS
      have hset : ∀ d, St.at (s.σ.set d0 (.mapo esS)) d = if d = d0 then .mapo esS else s.σ.at d := by
        intro d
        rw [St.at_set]
        by_cases e : d = d0
        · rw [if_pos ⟨e, x1⟩, if_pos e]
        · rw [if_neg (fun h => e h.1), if_neg e]
      have hml2 : (memOf (chgOf s.f s.σ s.o) (rdOf s.f s.σ s.o) (s.σ.set d0 (.mapo esS)) 0).length = s.σ.length := by rw [memOf_length, List.length_set]
      have hmem0 : (memOf (chgOf s.f s.σ s.o) (rdOf s.f s.σ s.o) (s.σ.set d0 (.mapo esS)) 0).at d0 = .mapo esS := by
        rw [memOf_at _ _ _ _ _ (by rw [List.length_set]; exact x1), Nat.zero_add, if_pos x2, hset, if_pos rfl]
      have hmemo : ∀ d, d ≠ d0 → (memOf (chgOf s.f s.σ s.o) (rdOf s.f s.σ s.o) (s.σ.set d0 (.mapo esS)) 0).at d = .dead := by
        intro d hd
        by_cases hlt : d < s.σ.length
        · rw [memOf_at _ _ _ _ _ (by rw [List.length_set]; exact hlt), Nat.zero_add, if_neg (fun h => hd (hchd d h)), if_neg (fun h => hd (hrd d h))]
        · exact at_ge (by rw [hml2]; omega)
      have hbel : (memOf (chgOf s.f s.σ s.o) (rdOf s.f s.σ s.o) (s.σ.set d0 (.mapo esS)) 0).all (AO.below (s.σ.set d0 (.mapo esS)).length) = true := by
        rw [List.all_eq_true]
        intro q hq
        obtain ⟨d, hd⟩ := List.getElem?_of_mem hq
        have hqd : (memOf (chgOf s.f s.σ s.o) (rdOf s.f s.σ s.o) (s.σ.set d0 (.mapo esS)) 0).at d = q := by rw [at_eq, hd]; rfl
        by_cases e : d = d0
        · subst e
          rw [hmem0] at hqd
          subst hqd
          rw [List.length_set]
          show esS.all _ = true
          rw [List.all_eq_true]
          intro p hp
          rcases two.2 p hp with h | h
          · have := all_at (p := AO.below s.σ.length) rfl hb2 d
            rw [v1] at this
            exact List.all_eq_true.1 this p h
          · rw [Bool.and_eq_true]
            exact ⟨Sc.below_mono h.2.1, AV.below_mono h.2.2⟩
        · rw [hmemo d e] at hqd
          subst hqd; rfl
      refine ⟨memOf (chgOf s.f s.σ s.o) (rdOf s.f s.σ s.o) (s.σ.set d0 (.mapo esS)) 0, _, hml2, ?_, memOf_rel hv.rel (fun d _ hd => ?_) hbel, v4 _ esS hmem0 hfindS, ?_, ?_, ?_, ?_, ?_⟩
      · rw [List.length_set, hml2, ← u6]
      · have e : d = d0 := hd.elim (hchd d) (hrd d)
        subst e
        rw [hset, if_pos rfl]; exact hS0
      · intro d hd
        obtain ⟨h1, h2, h3⟩ := mem_owned hd
        have e := hchd d h2
        subst e
        refine ⟨x1, h2, h3.1, ?_⟩
        rw [hS0]; rfl
      · intro d h1 h2
        have e := hchd d h2
        subst e
        rw [hmem0, hS0]
      · intro d h1
        rw [at_ge (by rw [List.length_set, hml2]; exact h1)]; rfl
      · intro d h1 h2
        have e := hchd d h1
        subst e
        rw [hmem0] at h2; cases h2
      · intro d
        by_cases e : d = d0
        · subst e
          rw [if_pos (.inl ⟨x1, x2⟩), St.at_set, if_pos ⟨rfl, by rw [hml2]; exact x1⟩, stS_at hg h0]
          have hl : lastE (s.out.at d) = some (k, opd (frOf ops s.f s.o) x) := by
            rw [v3, St.at_set, if_pos ⟨rfl, by rw [hml]; exact x1⟩]
            simp [lastE]
          have := objS_ins d T 0 (with1 i S) S (σ0.at d) i s hi (by simp [with1]) (by rw [Nat.zero_add]; exact hS) hwd0 (by rw [hins]; rfl)
            (fun k' t' hne hk' hw => by
              have hne : (k' == i) = false := by simpa using hne
              rw [Nat.zero_add]
              unfold with1
              rw [hne, Bool.false_or])
            (fun k' t' hlt hk' hw hs => by
              rw [Nat.zero_add] at hs
              have hne : (k' == i) = false := by simp; omega
              unfold with1 at hs
              rw [hne, Bool.false_or] at hs
              rcases before hg hc hi hk' hlt (hc k' t' hk' hs) with h | h
              · rw [hS] at h; cases h
              · rcases apart_cases h with h | h | h
                · simp only [apartP, Bool.and_eq_true] at h
                  have := off_spec h.1.1.1 hwd0
                  obtain ⟨⟨recs', f', g'⟩, _⟩ := hg k' t' hk'
                  rw [step_rdwr g'.step hw] at this; cases this
                · obtain ⟨d', a1, a2, _, b2, _⟩ := insApart_some h
                  rw [b2]; rfl
                · obtain ⟨_, _, _, _, _, b1, _⟩ := stoApart_some h
                  rw [hsto] at b1; cases b1)
          rw [hl, hesS] at this
          exact this.symm
        · rw [if_neg (by rintro (⟨_, h⟩ | ⟨h1, h2⟩); exact e (hchd d h); omega), stS_at hg h0, stS_at hg h0, obj_same hi (fun h => by rw [u5] at h; exact e (by simpa using h))]
          exact .inl rfl
end
end Go.SX
