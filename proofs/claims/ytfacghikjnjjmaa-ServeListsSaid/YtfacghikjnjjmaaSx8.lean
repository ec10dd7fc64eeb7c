/- Maps, conversions, makes. -/
import Derived.Test.YtfacghikjnjjmaaSx7
import Derived.Lib.ConvBytes
import Derived.Laws.BytesString
import Derived.Laws.MakeOwn
namespace Go.SX
open Go Go.Lib
set_option linter.unusedSectionVars false
variable [Env]

section
variable {P : Program} {a : Act} {ρ : Nat → Loc} {σ : St} {w : World} {f : Fr} {o : Oper}

theorem keyFits_check' {n m : Nat} {kd : TypeDesc} {k : Sc} {v : Value} {kt : TypeId} {b : Bool} (hk : P.underlying kt = some kd) (h : keyFits kd k = true) (hr : SRel ρ n k v) : (Instr.checkKey b (m + 1) kt v).run P w = .ok () w := by
  cases kd <;> cases k <;> first
    | (cases h; done)
    | (rw [hr.1]; simp [Instr.checkKey, run_underlying hk])

theorem keyFits_check {n : Nat} {kd : TypeDesc} {k : Sc} {v : Value} {kt : TypeId} {b : Bool} (hk : P.underlying kt = some kd) (h : keyFits kd k = true) (hr : SRel ρ n k v) : (Instr.checkKey b 10000 kt v).run P w = .ok () w :=
  keyFits_check' (m := 9999) hk h hr

theorem same_of {kd : TypeDesc} {n : Nat} {k k' : Sc} {v v' : Value} (hf : keyFits kd k = true) (h : SRel ρ n k v) (h' : SRel ρ n k' v') {b : Bool} (e : keyEq k k' = some b) : Instr.sameNow kd v v' = some b := by
  unfold keyEq at e
  split at e
  · rename_i j x j' y
    split at e
    · rename_i hj
      cases e
      rw [h.1, h'.1]
      cases kd <;> first | (cases hf; done) | simp [Instr.sameNow, hj, X.den]
    · cases e
  · rename_i x y
    rw [h.1, h'.1]
    cases kd <;> first | (cases hf; done) | (cases e; simp [Instr.sameNow])
  · cases e

theorem findE_sound {n : Nat} {kd : TypeDesc} {k : Sc} {v : Value} (hf : keyFits kd k = true) (hk : SRel ρ n k v) : ∀ (es : List (Sc × AV)) (en : List MapEntry) (i : Nat), es.length = en.length →
    (∀ (j : Nat) k x (e : MapEntry), es[j]? = some (k, x) → en[j]? = some e → SRel ρ n k e.key ∧ ARel ρ n x e.val) → findE k es i = some none → Instr.findNow kd v en i = some none
  | [], en, i, hl, _, h => by
    cases en with
    | nil => rfl
    | cons a b => cases hl
  | (k', x) :: es, en, i, hl, hp, h => by
    obtain ⟨e, en, rfl⟩ : ∃ e r, en = e :: r := by cases en with | nil => cases hl | cons a b => exact ⟨a, b, rfl⟩
    simp only [findE] at h
    obtain ⟨h1, _⟩ := hp 0 k' x e rfl rfl
    split at h
    · cases h
    · rename_i he
      rw [Instr.findNow, same_of hf hk h1 he]
      exact findE_sound hf hk es en (i + 1) (by simpa using hl) (fun j k x e a b => hp (j + 1) k x e (by simpa using a) (by simpa using b)) h
    · cases h

theorem lookE_sound {n : Nat} {kd : TypeDesc} {k : Sc} {v : Value} {dflt : Out (AV × Bool)} {r : AV} {b : Bool} (hf : keyFits kd k = true) (hk : SRel ρ n k v) : ∀ (es : List (Sc × AV)) (en : List MapEntry) (i : Nat), es.length = en.length →
    (∀ (j : Nat) k x (e : MapEntry), es[j]? = some (k, x) → en[j]? = some e → SRel ρ n k e.key ∧ ARel ρ n x e.val) → (lookE k dflt es).run = some (r, b) →
    (Instr.findNow kd v en i = some none ∧ dflt.run = some (r, b)) ∨ (∃ j val, Instr.findNow kd v en i = some (some (j, val)) ∧ b = true ∧ ARel ρ n r val)
  | [], en, i, hl, _, h => by
    cases en with
    | nil => exact .inl ⟨rfl, h⟩
    | cons a b => cases hl
  | (k', x) :: es, en, i, hl, hp, h => by
    obtain ⟨e, en, rfl⟩ : ∃ e r, en = e :: r := by cases en with | nil => cases hl | cons a b => exact ⟨a, b, rfl⟩
    obtain ⟨h1, h2⟩ := hp 0 k' x e rfl rfl
    have go : ∀ (c : Bool), Instr.sameNow kd v e.key = some c → (if c then (r = x ∧ b = true) else (lookE k dflt es).run = some (r, b)) →
        (Instr.findNow kd v (e :: en) i = some none ∧ dflt.run = some (r, b)) ∨ (∃ j val, Instr.findNow kd v (e :: en) i = some (some (j, val)) ∧ b = true ∧ ARel ρ n r val) := by
      intro c hc hh
      cases c
      · simp only [Bool.false_eq_true, if_false] at hh
        have ih := lookE_sound hf hk es en (i + 1) (by simpa using hl) (fun j k x e a b => hp (j + 1) k x e (by simpa using a) (by simpa using b)) hh
        simp only [Instr.findNow, hc]
        exact ih
      · simp only [if_true] at hh
        obtain ⟨rfl, rfl⟩ := hh
        exact .inr ⟨i, e.val, by simp only [Instr.findNow, hc], rfl, h2⟩
    have int : ∀ (j : IntKind) (p q : Int), v = .int j p → e.key = .int j q → Instr.sameNow kd v e.key = some (p == q) := by
      intro j p q e1 e2
      rw [e1, e2]
      have : ∃ q, kd = .int q := by
        rw [e1] at hk
        cases kd <;> cases k <;> first | (cases hf; done) | exact ⟨_, rfl⟩ | (cases hk.1; done)
      obtain ⟨q', rfl⟩ := this
      simp [Instr.sameNow]
    have str : ∀ (p q : ByteArray), v = .string p → e.key = .string q → Instr.sameNow kd v e.key = some (p == q) := by
      intro p q e1 e2
      rw [e1, e2]
      have : kd = .string := by
        rw [e1] at hk
        cases kd <;> cases k <;> first | (cases hf; done) | rfl | (cases hk.1; done)
      subst this
      simp [Instr.sameNow]
    simp only [lookE] at h
    split at h
    · rename_i j p j' q
      split at h
      · rename_i hj
        subst hj
        refine go _ (int j p.den q hk.1 h1.1) ?_
        rcases ite_some h with ⟨hpq, h⟩ | ⟨hpq, h⟩
        · rw [mkEq_den] at hpq
          rw [if_pos (by exact hpq)]; cases h; exact ⟨rfl, rfl⟩
        · rw [mkEq_den] at hpq
          rw [if_neg (by rw [show (p.den == q) = false from hpq]; decide)]; exact h
      · cases h
    · rename_i p q
      refine go _ (str p q hk.1 h1.1) ?_
      by_cases hpq : (p == q) = true
      · rw [if_pos hpq] at h ⊢
        cases h
        exact ⟨rfl, rfl⟩
      · rw [if_neg hpq] at h ⊢
        exact h
    · cases h

theorem part?_rel {n : Nat} {v : AV} {x : Value} {p : Part} (h : ARel ρ n v x) (e : v.part? = some p) : PRel ρ n p x := by
  cases v <;> first
    | (cases e; exact h)
    | (cases e; done)

theorem getObj_run {r : Nat} {es : Array MapEntry} {c : Nat} (h : w.heap[r]? = some (.map es c)) : (getObj r).run P w = .ok (.map es c) w := by
  simp [getObj, Sem.run, h]

/-! Tables and maps of scalars. -/
theorem findNow_int {kk kk' : IntKind} {a : Int} : ∀ (en : List MapEntry) (i : Nat), (∀ e ∈ en, ∃ b, e.key = .int kk b) →
    (Instr.findNow (.int kk') (.int kk a) en i = some none ∧ ∀ e ∈ en, e.key ≠ .int kk a) ∨
    ∃ (j : Nat) (e : MapEntry), en[j]? = some e ∧ e.key = .int kk a ∧ Instr.findNow (.int kk') (.int kk a) en i = some (some (i + j, e.val))
  | [], i, _ => .inl ⟨rfl, fun e h => by simp at h⟩
  | e :: en, i, h => by
    obtain ⟨b, hb⟩ := h e (by simp)
    have hs : Instr.sameNow (.int kk') (.int kk a) e.key = some (a == b) := by rw [hb]; simp [Instr.sameNow]
    by_cases hab : a = b
    · subst hab
      refine .inr ⟨0, e, rfl, hb, ?_⟩
      simp [Instr.findNow, hs]
    · have hs' : Instr.sameNow (.int kk') (.int kk a) e.key = some false := by rw [hs]; simp [hab]
      rcases findNow_int (kk' := kk') (a := a) en (i + 1) (fun e' h' => h e' (by simp [h'])) with ⟨h1, h2⟩ | ⟨j, e', h1, h2, h3⟩
      · refine .inl ⟨by simp only [Instr.findNow, hs', h1], fun e' he' => ?_⟩
        rcases List.mem_cons.1 he' with rfl | he'
        · rw [hb]; intro hc; cases hc; exact hab rfl
        · exact h2 e' he'
      · refine .inr ⟨j + 1, e', by simpa using h1, h2, ?_⟩
        simp only [Instr.findNow, hs', h3]
        rw [show i + 1 + j = i + (j + 1) by omega]

theorem MRel.find {kk kk' : IntKind} {vk : Kd} {h : Int → Option Int} {es : Array MapEntry} (hm : MRel kk vk h es) {a : Int} (ha : kk.has a) :
    (Instr.findNow (.int kk') (.int kk a) es.toList 0 = some none ∧ h a = none ∧ ∀ e ∈ es.toList, e.key ≠ .int kk a) ∨
    ∃ (j : Nat) (e : MapEntry), es[j]? = some e ∧ e.key = .int kk a ∧ Instr.findNow (.int kk') (.int kk a) es.toList 0 = some (some (j, e.val)) ∧ ∃ x, h a = some x ∧ KRel vk x e.val := by
  have hk : ∀ e ∈ es.toList, ∃ b, e.key = .int kk b := by
    intro e he
    obtain ⟨i, hi, rfl⟩ := List.getElem_of_mem he
    obtain ⟨b, x, h1, _⟩ := hm.ent i _ (by rw [← Array.getElem?_toList]; exact List.getElem?_eq_getElem hi)
    exact ⟨b, h1⟩
  rcases findNow_int (kk' := kk') (a := a) es.toList 0 hk with ⟨h1, h2⟩ | ⟨j, e, h1, h2, h3⟩
  · refine .inl ⟨h1, ?_, h2⟩
    cases hx : h a with
    | none => rfl
    | some x =>
      obtain ⟨i, e, h3, h4⟩ := hm.has a x ha hx
      exact absurd h4 (h2 e (List.mem_of_getElem? (by rw [Array.getElem?_toList]; exact h3)))
  · rw [Array.getElem?_toList] at h1
    obtain ⟨b, x, q1, q2, q3, q4⟩ := hm.ent j e h1
    rw [h2] at q1; cases q1
    exact .inr ⟨j, e, h1, h2, by rw [h3, Nat.zero_add], x, q3, q4⟩

/-- one more -/
theorem MRel.push {kk : IntKind} {vk : Kd} {h : Int → Option Int} {es : Array MapEntry} (hm : MRel kk vk h es) {a x : Int} {v : Value} {c : Nat} (ha : kk.has a) (hv : KRel vk x v) (hno : ∀ e ∈ es.toList, e.key ≠ .int kk a) :
    MRel kk vk (putM h a x) (es.push { key := .int kk a, val := v, born := c }) := by
  refine ⟨fun i e he => ?_, fun b y hb hy => ?_, fun i j e e' h1 h2 h3 => ?_⟩
  · rw [Array.getElem?_push] at he
    split at he
    · cases he
      exact ⟨a, x, rfl, ha, by simp [putM], hv⟩
    · obtain ⟨b, y, q1, q2, q3, q4⟩ := hm.ent i e he
      refine ⟨b, y, q1, q2, ?_, q4⟩
      unfold putM
      rw [if_neg]
      · exact q3
      · intro hba; subst hba
        exact hno e (List.mem_of_getElem? (by rw [Array.getElem?_toList]; exact he)) q1
  · unfold putM at hy
    split at hy
    · rename_i e; subst e
      exact ⟨es.size, _, by rw [Array.getElem?_push, if_pos rfl], rfl⟩
    · obtain ⟨i, e, q1, q2⟩ := hm.has b y hb hy
      refine ⟨i, e, ?_, q2⟩
      have := (Array.getElem?_eq_some_iff.1 q1).1
      rw [Array.getElem?_push, if_neg (by omega)]; exact q1
  · rw [Array.getElem?_push] at h1 h2
    split at h1 <;> split at h2
    · omega
    · cases h1
      exact absurd h3.symm (hno e' (List.mem_of_getElem? (by rw [Array.getElem?_toList]; exact h2)))
    · cases h2
      exact absurd h3 (hno e (List.mem_of_getElem? (by rw [Array.getElem?_toList]; exact h1)))
    · exact hm.one i j e e' h1 h2 h3

/-- another value -/
theorem MRel.modify {kk : IntKind} {vk : Kd} {h : Int → Option Int} {es : Array MapEntry} (hm : MRel kk vk h es) {a x : Int} {v : Value} {j : Nat} {e0 : MapEntry} (ha : kk.has a) (hv : KRel vk x v) (hj : es[j]? = some e0) (hk : e0.key = .int kk a) :
    MRel kk vk (putM h a x) (es.modify j fun e => { e with key := .int kk a, val := v }) := by
  have hget : ∀ (i : Nat) e, (es.modify j fun e => { e with key := .int kk a, val := v })[i]? = some e → (i = j ∧ e.key = .int kk a ∧ e.val = v) ∨ (i ≠ j ∧ es[i]? = some e) := by
    intro i e he
    rw [Array.getElem?_modify] at he
    split at he
    · rename_i e'; subst e'
      rw [hj] at he; cases he
      exact .inl ⟨rfl, rfl, rfl⟩
    · rename_i e'; exact .inr ⟨fun h => e' h.symm, he⟩
  refine ⟨fun i e he => ?_, fun b y hb hy => ?_, fun i i' e e' h1 h2 h3 => ?_⟩
  · rcases hget i e he with ⟨rfl, q1, q2⟩ | ⟨hne, he2⟩
    · exact ⟨a, x, q1, ha, by simp [putM], by rw [q2]; exact hv⟩
    · obtain ⟨b, y, q1, q2, q3, q4⟩ := hm.ent i e he2
      refine ⟨b, y, q1, q2, ?_, q4⟩
      unfold putM
      rw [if_neg]
      · exact q3
      · intro hba; subst hba
        exact hne (hm.one i j e e0 he2 hj (q1.trans hk.symm))
  · unfold putM at hy
    split at hy
    · rename_i e; subst e
      refine ⟨j, { e0 with key := .int kk b, val := v }, ?_, rfl⟩
      rw [Array.getElem?_modify, if_pos rfl, hj]; rfl
    · rename_i hba
      obtain ⟨i, e, q1, q2⟩ := hm.has b y hb hy
      refine ⟨i, e, ?_, q2⟩
      rw [Array.getElem?_modify, if_neg]
      · exact q1
      · intro hij; subst hij
        rw [hj] at q1; cases q1
        rw [hk] at q2; cases q2; exact hba rfl
  · rcases hget i e h1 with ⟨rfl, q1, q2⟩ | ⟨hne, he⟩ <;> rcases hget i' e' h2 with ⟨rfl, q3, q4⟩ | ⟨hne', he'⟩
    · rfl
    · exact absurd (hm.one i' i e' e0 he' hj (h3.symm.trans (q1.trans hk.symm))) hne'
    · exact absurd (hm.one i i' e e0 he hj (h3.trans (q3.trans hk.symm))) hne
    · exact hm.one i i' e e' he he' h3

theorem tab_get {j : IntKind} {kd : Kd} : ∀ (es : List (Sc × AV)) (l : List (Int × Int)), tabE j kd es = some l → l.length = es.length ∧ ∀ (i : Nat) k v, es[i]? = some (k, v) → ∃ b s, k = .int j (.c b) ∧ v = .one s ∧ s.kd? = some kd ∧ l[i]? = some (b, s.vI)
  | [], l, h => by cases h; exact ⟨rfl, fun i k v h => by simp at h⟩
  | (k0, v0) :: r, l, h => by
    cases k0 <;> first | (cases h; done) | skip
    rename_i j' x
    cases x <;> first | (cases h; done) | skip
    rename_i b
    cases v0 <;> first | (cases h; done) | skip
    rename_i s
    simp only [tabE] at h
    split at h
    · rename_i hc
      simp only [Bool.and_eq_true, decide_eq_true_eq] at hc
      obtain ⟨l', h1, rfl⟩ := Option.map_eq_some_iff.1 h
      obtain ⟨e1, e2⟩ := tab_get r l' h1
      refine ⟨by simp [e1], fun i k v hi => ?_⟩
      cases i with
      | zero => cases hi; exact ⟨b, s, by rw [hc.1], rfl, kdIs_kd hc.2, rfl⟩
      | succ i => exact e2 i k v (by simpa using hi)
    · cases h
theorem assoc_hit {d : Int} : ∀ (l : List (Int × Int)), nodupK l = true → ∀ (i : Nat) b x, l[i]? = some (b, x) → assocB b l = true ∧ assocI b d l = x
  | [], _, i, b, x, h => by simp at h
  | (c, y) :: r, hn, i, b, x, h => by
    simp only [nodupK, Bool.and_eq_true, Bool.not_eq_true'] at hn
    cases i with
    | zero => cases h; simp [assocB, assocI]
    | succ i =>
      obtain ⟨h1, h2⟩ := assoc_hit (d := d) r hn.2 i b x (by simpa using h)
      have hne : (b == c) = false := by
        rw [beq_eq_false_iff_ne]; intro e; subst e; rw [h1] at hn; exact absurd hn.1 (by simp)
      simp [assocB, assocI, hne, h1, h2]
theorem assoc_some {d a : Int} : ∀ (l : List (Int × Int)), assocB a l = true → ∃ i : Nat, l[i]? = some (a, assocI a d l)
  | [], h => by cases h
  | (c, y) :: r, h => by
    simp only [assocB] at h
    cases hac : (a == c) with
    | true =>
      have := (beq_iff_eq.1 hac); subst this
      exact ⟨0, by simp [assocI]⟩
    | false =>
      rw [hac] at h
      obtain ⟨i, hi⟩ := assoc_some (d := d) r h
      exact ⟨i + 1, by simp [assocI, hac, hi]⟩
theorem assoc_none {d a : Int} : ∀ (l : List (Int × Int)), assocB a l = false → assocI a d l = d
  | [], _ => rfl
  | (c, y) :: r, h => by
    simp only [assocB] at h
    cases hac : (a == c) with
    | true => rw [hac] at h; cases h
    | false => rw [hac] at h; simp [assocI, hac]; exact assoc_none r h

/-- a table, read with a number -/
theorem tab_find {n : Nat} {kk' j : IntKind} {kd : Kd} {a d : Int} : ∀ (es : List (Sc × AV)) (l : List (Int × Int)) (en : List MapEntry) (i : Nat), tabE j kd es = some l → es.length = en.length →
    (∀ (i : Nat) k x (e : MapEntry), es[i]? = some (k, x) → en[i]? = some e → SRel ρ n k e.key ∧ ARel ρ n x e.val) →
    (Instr.findNow (.int kk') (.int j a) en i = some none ∧ assocB a l = false) ∨ ∃ jx val, Instr.findNow (.int kk') (.int j a) en i = some (some (jx, val)) ∧ assocB a l = true ∧ KRel kd (assocI a d l) val
  | [], l, en, i, h, hl, _ => by
    cases h
    cases en with
    | nil => exact .inl ⟨rfl, rfl⟩
    | cons _ _ => cases hl
  | (k0, v0) :: r, l, en, i, h, hl, hp => by
    obtain ⟨e, en, rfl⟩ : ∃ e r, en = e :: r := by cases en with | nil => cases hl | cons a b => exact ⟨a, b, rfl⟩
    obtain ⟨h1, h2⟩ := hp 0 k0 v0 e rfl rfl
    cases k0 <;> first | (cases h; done) | skip
    rename_i j' x
    cases x <;> first | (cases h; done) | skip
    rename_i b
    cases v0 <;> first | (cases h; done) | skip
    rename_i s
    simp only [tabE] at h
    split at h
    · rename_i hc
      simp only [Bool.and_eq_true, decide_eq_true_eq] at hc
      obtain ⟨l', h3, rfl⟩ := Option.map_eq_some_iff.1 h
      obtain ⟨hj, hk⟩ := hc
      subst hj
      have hs : Instr.sameNow (.int kk') (.int j a) e.key = some (a == b) := by rw [h1.1]; simp [Instr.sameNow, X.den]
      cases hab : (a == b) with
      | true =>
        right
        rw [hab] at hs
        refine ⟨i, e.val, by simp only [Instr.findNow, hs], by simp [assocB, hab], ?_⟩
        simp only [assocI, hab, cond_true]
        exact (Kd.sc_rel (ρ := ρ) (m := n)).1 (kd_sc (kdIs_kd hk) h2)
      | false =>
        rw [hab] at hs
        rcases tab_find (kk' := kk') (a := a) (d := d) r l' en (i + 1) h3 (by simpa using hl) (fun i k x e a b => hp (i + 1) k x e (by simpa using a) (by simpa using b)) with ⟨q1, q2⟩ | ⟨jx, val, q1, q2, q3⟩
        · exact .inl ⟨by simp only [Instr.findNow, hs, q1], by simp [assocB, hab, q2]⟩
        · exact .inr ⟨jx, val, by simp only [Instr.findNow, hs, q1], by simp [assocB, hab, q2], by simp only [assocI, hab, cond_false]; exact q3⟩
    · cases h

/-- a table is a map of scalars -/
theorem tab_map {n : Nat} {j : IntKind} {kd : Kd} {es : List (Sc × AV)} {l : List (Int × Int)} {en : Array MapEntry} (h : tabE j kd es = some l) (hn : nodupK l = true) (hl : es.length = en.size)
    (hp : ∀ (i : Nat) k x (e : MapEntry), es[i]? = some (k, x) → en[i]? = some e → SRel ρ n k e.key ∧ ARel ρ n x e.val) : MRel j kd (fnOf l) en := by
  obtain ⟨e1, e2⟩ := tab_get es l h
  have hget : ∀ (i : Nat) e, en[i]? = some e → ∃ b s, e.key = .int j b ∧ j.has b ∧ l[i]? = some (b, Sc.vI s) ∧ KRel kd s.vI e.val := by
    intro i e he
    have hlt : i < es.length := by rw [hl]; exact (Array.getElem?_eq_some_iff.1 he).1
    obtain ⟨b, s, q1, q2, q3, q4⟩ := e2 i es[i].1 es[i].2 (List.getElem?_eq_getElem hlt)
    obtain ⟨r1, r2⟩ := hp i es[i].1 es[i].2 e (List.getElem?_eq_getElem hlt) he
    rw [q1] at r1
    rw [q2] at r2
    exact ⟨b, s, r1.1, r1.2, q4, (Kd.sc_rel (ρ := ρ) (m := n)).1 (kd_sc q3 r2)⟩
  refine ⟨fun i e he => ?_, fun a x ha hx => ?_, fun i i' e e' h1 h2 h3 => ?_⟩
  · obtain ⟨b, s, q1, q2, q3, q4⟩ := hget i e he
    obtain ⟨r1, r2⟩ := assoc_hit (d := 0) l hn i b _ q3
    exact ⟨b, s.vI, q1, q2, by simp [fnOf, r1, r2], q4⟩
  · unfold fnOf at hx
    split at hx
    · rename_i hb
      obtain ⟨i, hi⟩ := assoc_some (d := 0) l hb
      have hlt : i < en.size := by rw [← hl, ← e1]; exact (List.getElem?_eq_some_iff.1 hi).1
      obtain ⟨b, s, q1, q2, q3, q4⟩ := hget i en[i] (Array.getElem?_eq_getElem hlt)
      rw [hi] at q3
      simp only [Option.some.injEq, Prod.mk.injEq] at q3
      obtain ⟨rfl, _⟩ := q3
      exact ⟨i, en[i], Array.getElem?_eq_getElem hlt, q1⟩
    · cases hx
  · obtain ⟨b, s, q1, q2, q3, q4⟩ := hget i e h1
    obtain ⟨b', s', r1, r2, r3, r4⟩ := hget i' e' h2
    rw [q1, r1] at h3; cases h3
    exact keys_one l hn i i' b _ _ q3 r3
where keys_one : ∀ (l : List (Int × Int)), nodupK l = true → ∀ (i i' : Nat) b x y, l[i]? = some (b, x) → l[i']? = some (b, y) → i = i'
  | [], _, i, i', b, x, y, h, _ => by simp at h
  | (c, z) :: r, hn, i, i', b, x, y, h, h' => by
    simp only [nodupK, Bool.and_eq_true, Bool.not_eq_true'] at hn
    have no : ∀ (k : Nat) w, r[k]? = some (c, w) → False := by
      intro k w hk
      obtain ⟨h1, _⟩ := assoc_hit (d := 0) r hn.2 k c w hk
      rw [h1] at hn; exact absurd hn.1 (by simp)
    cases i with
    | zero =>
      cases h
      cases i' with
      | zero => rfl
      | succ k => exact (no k y (by simpa using h')).elim
    | succ k =>
      cases i' with
      | zero => cases h'; exact (no k x (by simpa using h)).elim
      | succ k' => rw [keys_one r hn.2 k k' b x y (by simpa using h) (by simpa using h')]

/-! Entries in another order. -/
theorem ba_beq (a b : ByteArray) : (a == b) = true ↔ a = b := by
  constructor
  · intro h
    cases a with | mk x => cases b with | mk y =>
    have : x = y := by
      have h' : (x == y) = true := h
      exact eq_of_beq h'
    rw [this]
  · rintro rfl
    cases a with | mk x =>
    show (x == x) = true
    exact BEq.rfl
theorem keyEq_symm {a b : Sc} (h : keyEq a b = some false) : keyEq b a = some false := by
  unfold keyEq at h
  split at h
  · rename_i kk k k' b
    split at h
    · rename_i e; subst e
      simp only [Option.some.injEq] at h
      simp only [keyEq, if_true, Option.some.injEq]
      have h : ¬ k = b := by simpa using h
      simpa using fun e => h (Eq.symm e)
    · cases h
  · rename_i a b
    simp only [Option.some.injEq] at h
    simp only [keyEq, Option.some.injEq]
    rw [← Bool.not_eq_true, ba_beq] at h ⊢
    exact fun e => h e.symm
  · cases h
theorem KApart.perm {es es' : List (Sc × AV)} (h : KApart es) (hp : es.Perm es') : KApart es' := (hp.pairwise_iff fun {_ _} e => keyEq_symm e).1 h
/-- does a key match? -/
def keyT (k k' : Sc) : Option Bool :=
  match k, k' with
  | .int j a, .int j' (.c b) => if j = j' then some (a.den == b) else none
  | .str a, .str b => some (a == b)
  | _, _ => none
theorem keyT_apart {k a b : Sc} (h : keyEq a b = some false) {x : Bool} (hx : keyT k a = some x) : ∃ y, keyT k b = some y ∧ (x = true → y = true → False) := by
  unfold keyEq at h
  split at h
  · rename_i ka a kb b
    split at h
    · rename_i e; subst e
      simp only [Option.some.injEq] at h
      unfold keyT at hx ⊢
      cases k <;> first | (cases hx; done) | skip
      rename_i j q
      simp only at hx ⊢
      split at hx
      · rename_i e; subst e
        cases hx
        refine ⟨_, by rw [if_pos rfl], fun h1 h2 => ?_⟩
        have h1 : q.den = a := by simpa using h1
        have h2 : q.den = b := by simpa using h2
        have h : ¬ a = b := by simpa using h
        exact h (h1.symm.trans h2)
      · cases hx
    · cases h
  · rename_i a b
    simp only [Option.some.injEq] at h
    unfold keyT at hx ⊢
    cases k <;> first | (cases hx; done) | skip
    rename_i q
    simp only [Option.some.injEq] at hx ⊢
    refine ⟨_, rfl, fun h1 h2 => ?_⟩
    subst hx
    rw [ba_beq] at h1 h2
    rw [← Bool.not_eq_true, ba_beq] at h
    exact h (h1.symm.trans h2)
  · cases h
theorem lookE_cons {k : Sc} {d : Out (AV × Bool)} {p : Sc × AV} {r : List (Sc × AV)} : (lookE k d (p :: r)).run = (keyT k p.1).bind fun c => bif c then some (p.2, true) else (lookE k d r).run := by
  obtain ⟨k', v⟩ := p
  unfold keyT
  cases k <;> cases k' <;> try rfl
  · rename_i j a j' b
    cases b with
    | sem _ => rfl
    | ex _ => rfl
    | c b =>
      simp only [lookE]
      by_cases e : j = j'
      · rw [if_pos e, if_pos e, ite_run, mkEq_den]; rfl
      · rw [if_neg e, if_neg e]; rfl
  · rename_i a b
    simp only [lookE, Option.bind_some]
    cases a == b <;> rfl
theorem lookE_perm {k : Sc} {d : Out (AV × Bool)} {es es' : List (Sc × AV)} (hp : es.Perm es') : ∀ {x : AV × Bool}, KApart es → (lookE k d es).run = some x → (lookE k d es').run = some x := by
  induction hp with
  | nil => exact fun _ h => h
  | cons p hp ih =>
    intro x ha h
    rw [lookE_cons] at h ⊢
    obtain ⟨c, hc, h⟩ := Option.bind_eq_some_iff.1 h
    rw [hc]
    cases c with
    | true => exact h
    | false => exact ih (List.pairwise_cons.1 ha).2 h
  | swap p q l =>
    intro x ha h
    have hpq := (List.pairwise_cons.1 ha).1 p (by simp)
    rw [lookE_cons] at h ⊢
    obtain ⟨c, hc, h⟩ := Option.bind_eq_some_iff.1 h
    obtain ⟨y, hy, hno⟩ := keyT_apart hpq hc
    rw [lookE_cons, hc, hy]
    rw [lookE_cons, hy] at h
    cases c <;> cases y <;> first | exact h | exact (hno rfl rfl).elim
  | trans h1 h2 ih1 ih2 => exact fun ha h => ih2 (ha.perm h1) (ih1 ha h)
theorem tabE_cons {j : IntKind} {kd : Kd} {p : Sc × AV} {r : List (Sc × AV)} {l : List (Int × Int)} : tabE j kd (p :: r) = some l ↔ ∃ b s l', p = (.int j (.c b), .one s) ∧ kdIs kd s = true ∧ tabE j kd r = some l' ∧ l = (b, s.vI) :: l' := by
  constructor
  · intro h
    obtain ⟨k, v⟩ := p
    unfold tabE at h
    split at h
    · cases ‹_ :: _ = []›
    · rename_i j' b s r' e
      cases e
      split at h
      · rename_i hc
        simp only [Bool.and_eq_true, decide_eq_true_eq] at hc
        obtain ⟨rfl, hk⟩ := hc
        obtain ⟨l', h1, rfl⟩ := Option.map_eq_some_iff.1 h
        exact ⟨b, s, l', rfl, hk, h1, rfl⟩
      · cases h
    · cases h
  · rintro ⟨b, s, l', rfl, hk, h1, rfl⟩
    simp [tabE, hk, h1]
theorem tabE_perm {j : IntKind} {kd : Kd} {es es' : List (Sc × AV)} (hp : es.Perm es') : ∀ {l : List (Int × Int)}, tabE j kd es = some l → ∃ l', tabE j kd es' = some l' ∧ l.Perm l' := by
  induction hp with
  | nil => exact fun h => ⟨_, h, .refl _⟩
  | cons p hp ih =>
    intro l h
    obtain ⟨b, s, l', rfl, hk, h1, rfl⟩ := tabE_cons.1 h
    obtain ⟨l2, h2, h3⟩ := ih h1
    exact ⟨_, tabE_cons.2 ⟨b, s, l2, rfl, hk, h2, rfl⟩, h3.cons _⟩
  | swap p q r =>
    intro l h
    obtain ⟨b, s, l', rfl, hk, h1, rfl⟩ := tabE_cons.1 h
    obtain ⟨b', s', l2, rfl, hk', h2, rfl⟩ := tabE_cons.1 h1
    exact ⟨_, tabE_cons.2 ⟨b', s', _, rfl, hk', tabE_cons.2 ⟨b, s, _, rfl, hk, h2, rfl⟩, rfl⟩, List.Perm.swap _ _ _⟩
  | trans h1 h2 ih1 ih2 =>
    intro l h
    obtain ⟨l1, q1, q2⟩ := ih1 h
    obtain ⟨l2, q3, q4⟩ := ih2 q1
    exact ⟨l2, q3, q2.trans q4⟩
theorem assocB_mem {a : Int} : ∀ {l : List (Int × Int)}, assocB a l = true ↔ ∃ p, p ∈ l ∧ p.1 = a
  | [] => by simp [assocB]
  | (b, v) :: r => by
    simp only [assocB, List.mem_cons]
    by_cases h : a = b
    · subst h; simp
    · rw [show (a == b) = false by simpa using h]
      simp only [cond_false]
      rw [assocB_mem (l := r)]
      constructor
      · rintro ⟨p, h1, h2⟩; exact ⟨p, .inr h1, h2⟩
      · rintro ⟨p, rfl | h1, h2⟩
        · exact (h h2.symm).elim
        · exact ⟨p, h1, h2⟩
theorem nodupK_pair : ∀ {l : List (Int × Int)}, nodupK l = true ↔ l.Pairwise fun x y => x.1 ≠ y.1
  | [] => by simp [nodupK]
  | (b, v) :: r => by
    simp only [nodupK, Bool.and_eq_true, Bool.not_eq_true', List.pairwise_cons]
    rw [nodupK_pair (l := r)]
    refine and_congr_left fun _ => ?_
    rw [← Bool.not_eq_true, assocB_mem]
    constructor
    · intro h p hp e; exact h ⟨p, hp, e.symm⟩
    · rintro h ⟨p, hp, e⟩; exact h p hp e.symm
theorem nodupK_perm {l l' : List (Int × Int)} (hp : l.Perm l') (h : nodupK l = true) : nodupK l' = true := nodupK_pair.2 ((hp.pairwise_iff fun {_ _} e => Ne.symm e).1 (nodupK_pair.1 h))
theorem assocB_perm {l l' : List (Int × Int)} (hp : l.Perm l') (a : Int) : assocB a l' = assocB a l := by
  rw [Bool.eq_iff_iff, assocB_mem, assocB_mem]
  exact ⟨fun ⟨p, h1, h2⟩ => ⟨p, hp.mem_iff.2 h1, h2⟩, fun ⟨p, h1, h2⟩ => ⟨p, hp.mem_iff.1 h1, h2⟩⟩
theorem assocI_perm {l l' : List (Int × Int)} (hp : l.Perm l') (a d : Int) : nodupK l = true → assocI a d l' = assocI a d l := by
  induction hp with
  | nil => exact fun _ => rfl
  | cons p hp ih =>
    intro h
    obtain ⟨b, v⟩ := p
    simp only [nodupK, Bool.and_eq_true] at h
    simp only [assocI, ih h.2]
  | swap p q r =>
    intro h
    obtain ⟨b, v⟩ := p
    obtain ⟨c, u⟩ := q
    have hne : c ≠ b := (List.pairwise_cons.1 (nodupK_pair.1 h)).1 (b, v) (by simp)
    simp only [assocI]
    by_cases h1 : a = b
    · subst h1
      rw [show (a == c) = false by simpa using Ne.symm hne]
      simp
    · rw [show (a == b) = false by simpa using h1]
      simp
  | trans h1 h2 ih1 ih2 => exact fun h => (ih2 (nodupK_perm h1 h)).trans (ih1 h)
theorem tabE_nodup {j : IntKind} {kd : Kd} : ∀ {es : List (Sc × AV)} {l : List (Int × Int)}, KApart es → tabE j kd es = some l → nodupK l = true
  | [], l, _, h => by cases h; rfl
  | p :: r, l, ha, h => by
    obtain ⟨b, s, l', rfl, hk, h1, rfl⟩ := tabE_cons.1 h
    obtain ⟨a1, a2⟩ := List.pairwise_cons.1 ha
    rw [nodupK, tabE_nodup a2 h1, Bool.and_true, Bool.not_eq_true', ← Bool.not_eq_true, assocB_mem]
    rintro ⟨q, hq, e⟩
    have : ∀ (es : List (Sc × AV)) (l : List (Int × Int)), tabE j kd es = some l → ∀ q, q ∈ l → ∃ p, p ∈ es ∧ p.1 = .int j (.c q.1) := by
      intro es
      induction es with
      | nil => intro l h; cases h; intro q hq; cases hq
      | cons p r ih =>
        intro l h q hq
        obtain ⟨b, s, l', rfl, hk, h1, rfl⟩ := tabE_cons.1 h
        rcases List.mem_cons.1 hq with rfl | hq
        · exact ⟨_, List.mem_cons_self .., rfl⟩
        · obtain ⟨p, h2, h3⟩ := ih l' h1 q hq
          exact ⟨p, by simp [h2], h3⟩
    obtain ⟨p, h2, h3⟩ := this r l' h1 q hq
    have := a1 p h2
    rw [h3, e] at this
    simp [keyEq] at this
theorem bind_run {α β : Type} {o : Out α} {k : α → Out β} {a : α} (h : o.run = some a) : (o.bind k).run = (k a).run := by
  induction o with
  | fail w => cases h
  | ok b => cases h; rfl
  | grd g o ih =>
    simp only [Out.run, Out.bind] at h ⊢
    cases hg : g.den
    · rw [hg] at h; cases h
    · rw [hg] at h; exact ih h
  | br b t e ih1 ih2 =>
    simp only [Out.run, Out.bind] at h ⊢
    cases hb : b.den
    · rw [hb] at h; exact ih2 () h
    · rw [hb] at h; exact ih1 () h
def lookBody (P : Program) (e : TypeId) (k : Sc) (ok : Bool) (es : List (Sc × AV)) : Out AV :=
  match lookTab P e k es with
  | some (kv, z, a, l) => if ok then .ok (.tup [.inl (kv.sc (assocI a z l)), .inl (.bool (.sem (assocB a l)))]) else .ok (.one (kv.sc (assocI a z l)))
  | none => lookGo P e k ok es
theorem lookTab_perm {P : Program} {e : TypeId} {k : Sc} {es es' : List (Sc × AV)} (hp : es.Perm es') {x : Kd × Int × Int × List (Int × Int)} (h : lookTab P e k es = some x) : ∃ l', lookTab P e k es' = some (x.1, x.2.1, x.2.2.1, l') ∧ x.2.2.2.Perm l' ∧ ∃ j kd, tabE j kd es = some x.2.2.2 := by
  unfold lookTab at h ⊢
  split at h
  · split at h
    · obtain ⟨l, h1, rfl⟩ := Option.map_eq_some_iff.1 h
      obtain ⟨l', h2, h3⟩ := tabE_perm hp h1
      exact ⟨l', by simp only [h2, Option.map_some], h3, _, _, h1⟩
    · cases h
  · cases h
theorem lookBody_perm {P : Program} {e : TypeId} {k : Sc} {ok : Bool} {es es' : List (Sc × AV)} (hp : es.Perm es') (ha : KApart es) {v : AV} (h : (lookBody P e k ok es).run = some v) : (lookBody P e k ok es').run = some v := by
  unfold lookBody at h ⊢
  split at h
  · rename_i kv z a l ht
    obtain ⟨l', h1, h2, j, kd, h3⟩ := lookTab_perm hp ht
    have hn := tabE_nodup ha h3
    rw [h1]
    simp only
    simp only at h2 hn
    rw [assocI_perm h2 a z hn, assocB_perm h2 a]
    exact h
  · rename_i ht
    have h1 : lookTab P e k es' = none := by
      cases hx : lookTab P e k es' with
      | none => rfl
      | some x =>
        obtain ⟨l', h1, _⟩ := lookTab_perm hp.symm hx
        rw [ht] at h1; cases h1
    rw [h1]
    simp only
    unfold lookGo at h ⊢
    obtain ⟨⟨r, b⟩, h2, h3⟩ := bind_some h
    rw [bind_run (lookE_perm hp ha h2)]
    exact h3
theorem findE_none {k : Sc} : ∀ {es : List (Sc × AV)} {i : Nat}, findE k es i = some none ↔ ∀ p, p ∈ es → keyEq k p.1 = some false
  | [], i => by simp [findE]
  | (k', v) :: r, i => by
    simp only [findE, List.forall_mem_cons]
    split
    · rename_i e; simp [e]
    · rename_i e; simp [e, findE_none (es := r)]
    · rename_i e; simp [e]
theorem findE_perm {k : Sc} {es es' : List (Sc × AV)} (hp : es.Perm es') {i : Nat} (h : findE k es i = some none) : findE k es' i = some none := findE_none.2 fun p h1 => findE_none.1 h p (hp.mem_iff.2 h1)

theorem lookup_sound {t : TypeId} {s k : Sc} {x i : Value} {ok : Bool} {v : AV} (hr : Rel ρ σ w) (hx : SRel ρ σ.length s x) (hi : SRel ρ σ.length k i) (h : (lookupE P t s k ok σ).run = some v) :
    ∃ val, (Instr.lookup t x i ok).run P w = .ok val w ∧ ARel ρ σ.length v val := by
  unfold lookupE at h
  split at h
  · rename_i kt e id hu
    obtain ⟨hid, _, rfl⟩ := hx
    split at h
    · rename_i es0 kd hat hkd
      have ho := hr.obj id
      rw [hat] at ho
      obtain ⟨hlive, es, hperm, hap, en, clock, hen, hlen, hrel⟩ := ho
      split at h
      · rename_i hfit
        replace h := lookBody_perm hperm.symm hap (show (lookBody P e k ok es0).run = some v from h)
        unfold lookBody at h
        have hck := keyFits_check (P := P) (w := w) (b := en.isEmpty) hkd hfit hi
        have fin : ∀ (rv : Value) (b : Bool), (Instr.lookup t (.map (some (ρ id).block)) i ok).run P w = .ok (if ok then .tuple #[rv, .bool b] else rv) w → ∀ {p : Part} {r : AV} {bb : B}, bb.den = b → ARel ρ σ.length r rv → PRel ρ σ.length p rv →
            (if ok then v = .tup [p, .inl (.bool bb)] else v = r) → ∃ val, (Instr.lookup t (.map (some (ρ id).block)) i ok).run P w = .ok val w ∧ ARel ρ σ.length v val := by
          intro rv b hrun p r bb hbb hrv hpv hv
          cases ok with
          | true =>
            simp only [if_true] at hv hrun
            subst hv
            refine ⟨_, hrun, #[rv, .bool b], rfl, rfl, fun j p' x' a b' => ?_⟩
            match j with
            | 0 => simp at a b'; subst a; subst b'; exact hpv
            | 1 => simp at a b'; subst a; subst b'; show Value.bool b = Value.bool bb.den; rw [hbb]
            | j + 2 => simp at a
          | false =>
            simp only [Bool.false_eq_true, if_false] at hv hrun
            subst hv
            exact ⟨_, hrun, hrv⟩
        split at h
        · rename_i kv z a l htab
          unfold lookTab at htab
          split at htab
          · rename_i j a' z' hz
            split at htab
            · rename_i kv' hkv
              obtain ⟨l', hl', he⟩ := Option.map_eq_some_iff.1 htab
              cases he
              have hz2 := tzero_run (w := w) hz
              obtain ⟨zv, hzv, hzc, _⟩ := hz2
              have hzr : SRel ρ σ.length z' zv := by have := AV.ofConst_rel ρ σ.length zv; rw [← hzc] at this; exact this
              have hzk := (Kd.sc_rel (ρ := ρ) (m := σ.length)).1 (kd_sc hkv hzr)
              obtain ⟨kk', rfl⟩ : ∃ kk', kd = .int kk' := by
                cases kd <;> first | exact ⟨_, rfl⟩ | (cases hfit; done)
              have hih := hi.2
              have hi' : i = .int j a := hi.1
              subst hi'
              rcases tab_find (kk' := kk') (d := z'.vI) (a := a) es l en.toList 0 hl' (by simpa using hlen) (fun j k x e a b => hrel j k x e a (by simpa using b)) with ⟨q1, q2⟩ | ⟨jx, val, q1, q2, q3⟩
              · have hrun : (Instr.lookup t (.map (some (ρ id).block)) (.int j a) ok).run P w = .ok (if ok then .tuple #[zv, .bool false] else zv) w := by
                  simp only [Instr.lookup, Sem.run_bind, run_underlying hu, Result.andThen_ok, getObj_run hen, Sem.run_pure, hck, Instr.findKey, run_underlying hkd, q1, hzv]
                rw [← assoc_none (d := z'.vI) l q2] at hzk
                refine fin zv false hrun (p := .inl (kv.sc (assocI a z'.vI l))) (r := .one (kv.sc (assocI a z'.vI l))) (bb := .sem (assocB a l)) q2 (Kd.sc_rel.2 hzk) (Kd.sc_rel.2 hzk) ?_
                cases ok <;> (simp only [Bool.false_eq_true, if_false, if_true] at h ⊢; cases h; rfl)
              · have hrun : (Instr.lookup t (.map (some (ρ id).block)) (.int j a) ok).run P w = .ok (if ok then .tuple #[val, .bool true] else val) w := by
                  simp only [Instr.lookup, Sem.run_bind, run_underlying hu, Result.andThen_ok, getObj_run hen, Sem.run_pure, hck, Instr.findKey, run_underlying hkd, q1]
                refine fin val true hrun (p := .inl (kv.sc (assocI a z'.vI l))) (r := .one (kv.sc (assocI a z'.vI l))) (bb := .sem (assocB a l)) q2 (Kd.sc_rel.2 q3) (Kd.sc_rel.2 q3) ?_
                cases ok <;> (simp only [Bool.false_eq_true, if_false, if_true] at h ⊢; cases h; rfl)
            · cases htab
          · cases htab
        · unfold lookGo at h
          obtain ⟨⟨r, b⟩, h1, h⟩ := bind_some h
          have hls := lookE_sound (kd := kd) hfit hi es en.toList 0 (by simpa using hlen) (fun j k x e a b => hrel j k x e a (by simpa using b)) h1
          have key : ∃ rv, ARel ρ σ.length r rv ∧ (Instr.lookup t (.map (some (ρ id).block)) i ok).run P w = .ok (if ok then .tuple #[rv, .bool b] else rv) w := by
            rcases hls with ⟨hn, hd⟩ | ⟨j, val, hn, hb, hrv⟩
            · obtain ⟨z, hz, hd⟩ := bind_some hd
              cases hd
              obtain ⟨zv, hzv, rfl, _⟩ := tzero_run (w := w) (get_some hz)
              refine ⟨zv, AV.ofConst_rel _ _ _, ?_⟩
              simp only [Instr.lookup, Sem.run_bind, run_underlying hu, Result.andThen_ok, getObj_run hen, Sem.run_pure, hck, Instr.findKey, run_underlying hkd, hn, hzv]
            · refine ⟨val, hrv, ?_⟩
              rw [hb]
              simp only [Instr.lookup, Sem.run_bind, run_underlying hu, Result.andThen_ok, getObj_run hen, Sem.run_pure, hck, Instr.findKey, run_underlying hkd, hn]
          obtain ⟨rv, hrv, hrun⟩ := key
          cases ok
          case true =>
            simp only [if_true] at h
            obtain ⟨p, h2, h⟩ := bind_some h
            cases h
            exact fin rv b hrun (p := p) (r := r) (bb := .c b) rfl hrv (part?_rel hrv (get_some h2)) rfl
          case false =>
            simp only [Bool.false_eq_true, if_false] at h
            cases h
            exact ⟨_, hrun, hrv.np⟩
      · cases h
    · rename_i kk vk f kk' hat hkd
      have ho := hr.obj id
      rw [hat] at ho
      obtain ⟨hlive, en, clock, hen, hrel⟩ := ho
      split at h
      · rename_i j a z hz
        split at h
        · rename_i hc
          obtain ⟨hj, hvk⟩ := hc
          subst hj
          obtain ⟨zv, hzv, hzc, _⟩ := tzero_run (w := w) hz
          have hzr : SRel ρ σ.length z zv := by have := AV.ofConst_rel ρ σ.length zv; rw [← hzc] at this; exact this
          have hzk := (Kd.sc_rel (ρ := ρ) (m := σ.length)).1 (kd_sc (kdIs_kd hvk) hzr)
          have hck := keyFits_check (P := P) (w := w) (b := en.isEmpty) (k := .int j a) hkd rfl hi
          have hih := hi.2
          have hi' : i = .int j a.den := hi.1
          subst hi'
          have key : ∃ rv b, KRel vk ((f a.den).getD z.vI) rv ∧ (f a.den).isSome = b ∧ (Instr.lookup t (.map (some (ρ id).block)) (.int j a.den) ok).run P w = .ok (if ok then .tuple #[rv, .bool b] else rv) w := by
            rcases hrel.find (kk' := kk') hih with ⟨q1, q2, _⟩ | ⟨jx, e', q1, q2, q3, y, q4, q5⟩
            · refine ⟨zv, false, by rw [q2]; exact hzk, by rw [q2]; rfl, ?_⟩
              simp only [Instr.lookup, Sem.run_bind, run_underlying hu, Result.andThen_ok, getObj_run hen, Sem.run_pure, hck, Instr.findKey, run_underlying hkd, q1, hzv]
            · refine ⟨e'.val, true, by rw [q4]; exact q5, by rw [q4]; rfl, ?_⟩
              simp only [Instr.lookup, Sem.run_bind, run_underlying hu, Result.andThen_ok, getObj_run hen, Sem.run_pure, hck, Instr.findKey, run_underlying hkd, q3]
          obtain ⟨rv, b, k1, k2, hrun⟩ := key
          cases ok
          case true =>
            simp only [if_true] at h hrun
            cases h
            refine ⟨_, hrun, #[rv, .bool b], rfl, rfl, fun j p' x' a b' => ?_⟩
            match j with
            | 0 => simp at a b'; subst a; subst b'; exact Kd.sc_rel.2 k1
            | 1 => simp at a b'; subst a; subst b'; show Value.bool b = Value.bool _; rw [← k2]; rfl
            | j + 2 => simp at a
          case false =>
            simp only [Bool.false_eq_true, if_false] at h hrun
            cases h
            exact ⟨_, hrun, Kd.sc_rel.2 k1⟩
        · cases h
      · cases h
    · cases h
  · cases h

/-- a map's block is another one -/
theorem map_upd {id : Nat} {o : AO} {en en' : Array MapEntry} {clock clock' : Nat} (hr : Rel ρ σ w) (hid : id < σ.length) (hlive : (ρ id).live = true) (hen : w.heap[(ρ id).block]? = some (.map en clock)) (hown : (σ.at id).own = true)
    (hnp : ∀ M pg, o ≠ .pmem M pg) (hnp' : ∀ M pg, σ.at id ≠ .pmem M pg) (ho : ORel ρ σ.length { w with heap := w.heap.setIfInBounds (ρ id).block (.map en' clock') } (ρ id) o) :
    Rel ρ (σ.set id o) { w with heap := w.heap.setIfInBounds (ρ id).block (.map en' clock') } ∧ Ext ρ σ w ρ (σ.set id o) { w with heap := w.heap.setIfInBounds (ρ id).block (.map en' clock') } := by
  have hown : owned ρ σ id := ⟨hlive, hown⟩
  have hlt := hr.bnd id hown.used
  have hne : ∀ i, i ≠ id → used ρ σ i → ∀ b, foot w (ρ i) (σ.at i) b → (w.heap.setIfInBounds (ρ id).block (.map en' clock'))[b]? = w.heap[b]? := by
    intro i hi hu b hb
    rw [Array.getElem?_setIfInBounds, if_neg (fun (e : (ρ id).block = b) => hr.sep id i (Ne.symm hi) hown hu _ (foot_block _ _ _) (e ▸ hb))]
  constructor
  · refine hr.upd (fun _ _ => rfl) (by simp) id ?_ ?_ ?_ ?_ (by simp) ?_
    · intro i hi; left; rw [St.at_set, if_neg (by omega)]
    · intro i hi hu' _ b hb; exact hne i hi hu' b hb
    · rw [St.at_set, if_pos ⟨rfl, hid⟩, List.length_set]; exact ho
    · intro _; simpa using hlt
    · intro _ j hj hu' _ b hb
      rw [St.at_set, if_pos ⟨rfl, hid⟩, foot_row hnp] at hb
      subst hb
      exact hr.sep id j (Ne.symm hj) hown hu' _ (foot_block _ _ _)
  · refine ⟨by simp, fun _ _ => rfl, rfl, rfl, rfl, by simp, fun b hb hno => ?_, fun i hi b hb => ?_⟩
    · show (w.heap.setIfInBounds _ _)[b]? = _
      rw [Array.getElem?_setIfInBounds, if_neg (fun (e : (ρ id).block = b) => hno id hown (e ▸ foot_block _ _ _))]
    · left
      by_cases e : i = id
      · subst e
        rw [St.at_set, if_pos ⟨rfl, hid⟩, foot_row hnp] at hb
        subst hb
        exact ⟨i, hown, foot_block _ _ _⟩
      · rw [St.at_set, if_neg (by omega)] at hb
        have ho' : owned ρ σ i := ⟨hi.1, by have := hi.2; rwa [St.at_set, if_neg (by omega)] at this⟩
        exact ⟨i, ho', (foot_keep (hne i e ho'.used _ (foot_block _ _ _))).1 hb⟩

theorem sameBits_int (k : IntKind) (a : Int) : Instr.sameBits 10000 (.int k a) (.int k a) = true := by simp [Instr.sameBits]

theorem insert_maps {t kt e : TypeId} {kk kk' : IntKind} {vk : Kd} {f : Int → Option Int} {id : Nat} {a y : Int} {v : Value} {en : Array MapEntry} {clock : Nat} (hr : Rel ρ σ w) (hu : P.underlying t = some (.map kt e)) (hkd : P.underlying kt = some (.int kk'))
    (hid : id < σ.length) (hlive : (ρ id).live = true) (hen : w.heap[(ρ id).block]? = some (.map en clock)) (hown : (σ.at id).own = true) (hnp' : ∀ M pg, σ.at id ≠ .pmem M pg) (hrel : MRel kk vk f en) (ha : kk.has a) (hv : KRel vk y v) :
    ∃ w', (Instr.mapUpdate t (.map (some (ρ id).block)) (.int kk a) v).run P w = .ok () w' ∧ Rel ρ (σ.set id (.maps kk vk (putM f a y))) w' ∧ Ext ρ σ w ρ (σ.set id (.maps kk vk (putM f a y))) w' := by
  have hck : (Instr.checkKey false 10000 kt (.int kk a)).run P w = .ok () w := keyFits_check (P := P) (w := w) (ρ := ρ) (n := 0) (k := .int kk (.c a)) hkd rfl ⟨rfl, ha⟩
  have hlt : (ρ id).block < w.heap.size := heap_lt hen
  rcases hrel.find (kk' := kk') ha with ⟨q1, q2, q3⟩ | ⟨jx, e', q1, q2, q3, _⟩
  · obtain ⟨g1, g2⟩ := map_upd (o := .maps kk vk (putM f a y)) (en' := en.push { key := .int kk a, val := v, born := clock }) (clock' := clock + 1) hr hid hlive hen hown (fun _ _ e => by cases e) hnp'
      ⟨hlive, en.push { key := .int kk a, val := v, born := clock }, clock + 1, by show (w.heap.setIfInBounds _ _)[_]? = _; rw [Array.getElem?_setIfInBounds, if_pos rfl, if_pos hlt], hrel.push ha hv q3⟩
    refine ⟨_, ?_, g1, g2⟩
    simp only [Instr.mapUpdate, Sem.run_bind, run_underlying hu, Result.andThen_ok, getObj_run hen, hck, Instr.findKey, run_underlying hkd, q1, Sem.run_pure]
    simp [setObj, Sem.run, hen]
  · obtain ⟨g1, g2⟩ := map_upd (o := .maps kk vk (putM f a y)) (en' := en.modify jx fun e => { e with key := .int kk a, val := v }) (clock' := clock) hr hid hlive hen hown (fun _ _ e => by cases e) hnp'
      ⟨hlive, en.modify jx fun e => { e with key := .int kk a, val := v }, clock, by show (w.heap.setIfInBounds _ _)[_]? = _; rw [Array.getElem?_setIfInBounds, if_pos rfl, if_pos hlt], hrel.modify ha hv q1 q2⟩
    refine ⟨_, ?_, g1, g2⟩
    simp only [Instr.mapUpdate, Sem.run_bind, run_underlying hu, Result.andThen_ok, getObj_run hen, hck, Instr.findKey, run_underlying hkd, q3, Sem.run_pure, q1, Option.map_some, Option.getD_some, q2, Instr.keyThatStays, sameBits_int, if_true]
    simp [setObj, Sem.run, hen]

theorem insert_sound {t : TypeId} {s k : Sc} {x : AV} {vm vk vx : Value} {σ' : St} (hr : Rel ρ σ w) (hx : SRel ρ σ.length s vm) (hk : SRel ρ σ.length k vk) (hv : ARel ρ σ.length x vx) (h : (insertE P t s k x σ).run = some σ') :
    ∃ w', (Instr.mapUpdate t vm vk vx).run P w = .ok () w' ∧ Rel ρ σ' w' ∧ Ext ρ σ w ρ σ' w' := by
  unfold insertE at h
  split at h
  · rename_i kt e id hu
    obtain ⟨hid, _, rfl⟩ := hx
    split at h
    · rename_i es0 kd hat hkd
      have ho := hr.obj id
      rw [hat] at ho
      obtain ⟨hlive, es, hperm, hap, en, clock, hen, hlen, hrel⟩ := ho
      have hlt : (ρ id).block < w.heap.size := heap_lt hen
      split at h
      · rename_i hfit
        have hck := keyFits_check (P := P) (w := w) (b := false) hkd hfit hk
        split at h
        · rename_i hkn hfind
          cases h
          have hfn := findE_sound (kd := kd) hfit hk es en.toList 0 (by simpa using hlen) (fun j k x e a b => hrel j k x e a (by simpa using b)) (findE_perm hperm.symm hfind)
          have hfa := findE_none.1 hfind
          obtain ⟨g1, g2⟩ := map_upd (o := .mapo (es0 ++ [(k, x)])) (en' := en.push { key := vk, val := vx, born := clock }) (clock' := clock + 1) hr hid hlive hen (by rw [hat]; rfl) (fun _ _ e => by cases e) (fun _ _ e => by rw [hat] at e; cases e)
            ⟨hlive, es ++ [(k, x)], hperm.append_right _, List.pairwise_append.2 ⟨hap, List.pairwise_singleton _ _, fun a h1 b h2 => by
                rw [List.mem_singleton] at h2; subst h2; exact keyEq_symm (hfa a h1)⟩, en.push { key := vk, val := vx, born := clock }, clock + 1, by show (w.heap.setIfInBounds _ _)[_]? = _; rw [Array.getElem?_setIfInBounds, if_pos rfl, if_pos hlt], by simp [hlen], fun i k' x' e' h1 h2 => by
              rw [List.getElem?_append] at h1
              rw [Array.getElem?_push] at h2
              by_cases hi : i < es.length
              · rw [if_pos hi] at h1
                rw [if_neg (by omega)] at h2
                exact hrel i k' x' e' h1 h2
              · rw [if_neg hi] at h1
                by_cases he : i = en.size
                · rw [if_pos he] at h2
                  rw [show i - es.length = 0 by omega] at h1
                  cases h1; cases h2
                  exact ⟨hk, hv⟩
                · rw [List.getElem?_eq_none (by simp; omega)] at h1
                  cases h1⟩
          refine ⟨_, ?_, g1, g2⟩
          simp only [Instr.mapUpdate, Sem.run_bind, run_underlying hu, Result.andThen_ok, getObj_run hen, hck, Instr.findKey, run_underlying hkd, hfn, Sem.run_pure]
          simp [setObj, Sem.run, hen]
        · split at h
          · rename_i j a vk' s' hks
            split at h
            · rename_i l htab
              split at h
              · rename_i hc
                simp only [Bool.and_eq_true] at hc
                obtain ⟨hkd', hnd⟩ := hc
                cases h
                obtain ⟨kk', rfl⟩ : ∃ kk', kd = .int kk' := by
                  cases kd <;> first | exact ⟨_, rfl⟩ | (cases hfit; done)
                rw [hk.1]
                obtain ⟨l', htab', hlp⟩ := tabE_perm hperm.symm htab
                have hfn : fnOf l = fnOf l' := by funext q; unfold fnOf; rw [assocB_perm hlp, assocI_perm hlp _ _ hnd]
                rw [hfn]
                exact insert_maps hr hu hkd hid hlive hen (by rw [hat]; rfl) (fun _ _ e => by rw [hat] at e; cases e) (tab_map htab' (nodupK_perm hlp hnd) hlen hrel) hk.2 ((Kd.sc_rel (ρ := ρ) (m := σ.length)).1 (kd_sc (kdIs_kd hkd') hv))
              · cases h
            · cases h
          · cases h
      · cases h
    · rename_i kk vk' f kk' hat hkd
      have ho := hr.obj id
      rw [hat] at ho
      obtain ⟨hlive, en, clock, hen, hrel⟩ := ho
      split at h
      · rename_i j a s'
        split at h
        · rename_i hc
          obtain ⟨hj, hkd'⟩ := hc
          subst hj
          cases h
          rw [hk.1]
          exact insert_maps hr hu hkd hid hlive hen (by rw [hat]; rfl) (fun _ _ e => by rw [hat] at e; cases e) hrel hk.2 ((Kd.sc_rel (ρ := ρ) (m := σ.length)).1 (kd_sc (kdIs_kd hkd') hv))
        · cases h
      · cases h
    · cases h
  · cases h

theorem makeMap_sound {t : TypeId} (hr : Rel ρ σ w) :
    ∃ ρ' w' val, (Instr.makeMap t none).run P w = .ok val w' ∧ SRel ρ' (σ.length + 1) (.mp σ.length) val ∧ Rel ρ' (σ.new (.mapo [])) w' ∧ Ext ρ σ w ρ' (σ.new (.mapo [])) w' := by
  obtain ⟨g1, g2⟩ := hr.fresh (o := .mapo []) (ob := .map #[] 0) (w' := { w with heap := w.heap.push (.map #[] 0) }) ⟨true, w.heap.size, 0, 0⟩ (fun _ => rfl) rfl rfl rfl rfl (fun _ _ e => by cases e)
    ⟨rfl, [], .refl _, .nil, #[], 0, by simp, rfl, fun i k v e h => by simp at h⟩
  exact ⟨_, _, .map (some w.heap.size), by simp [Instr.makeMap], ⟨by omega, by rw [setLoc_at], by rw [setLoc_at]⟩, g1, g2⟩

/-! Conversions. -/
theorem bytesWorld_heap (w : World) (e : TypeId) (s : ByteArray) : (bytesWorld w e s).heap = w.heap.push (.cells (bytesCells w e s) e ((bytesCells w e s).size, (bytesCells w e s).size + 1)) := by
  apply Array.ext_getElem?
  intro i
  rw [Array.getElem?_push]
  by_cases h : i = w.heap.size
  · rw [if_pos h, h, bytesWorld_at_new]
  · rw [if_neg h]
    rcases Nat.lt_or_ge i w.heap.size with h' | h'
    · exact bytesWorld_at_old w e s i h'
    · rw [Array.getElem?_eq_none (by rw [bytesWorld_size]; omega), Array.getElem?_eq_none h']

theorem str_bytes_sound {src dst e : TypeId} {u : TypeDesc} {s : ByteArray} {c : List Sc} (hr : Rel ρ σ w) (hs : P.underlying src = some u) (hd : P.underlying dst = some (.slice e)) (he : P.underlying e = some (.int .u8))
    (hc : LRel ρ σ.length c (strCells s)) :
    ∃ ρ' w' val, (convert src dst (.string s)).run P w = .ok val w' ∧ SlRel ρ' (σ.length + 1) true σ.length 0 s.size 1 val ∧ Rel ρ' (σ.new (.row true 1 (.vals c))) w' ∧ Ext ρ σ w ρ' (σ.new (.row true 1 (.vals c))) w' := by
  have hlen : c.length = s.size := by rw [hc.1, strCells_length]
  have hge := grownCap_ge w s.size 0 e
  have hsz : (bytesCells w e s).size = grownCap w s.size 0 e := by
    have : s.data.size = s.size := rfl
    simp [bytesCells]; omega
  have hrest : (bytesWorld w e s).os = w.os ∧ (bytesWorld w e s).tape = w.tape ∧ (bytesWorld w e s).output = w.output := by
    unfold bytesWorld World.freeze
    simp [World.alloc, World.drew, -World.alloc_eq, -World.drew_eq]
  obtain ⟨g1, g2⟩ := fresh_row (l := c) (cs := bytesCells w e s) (e := e) 1 (grownCap w s.size 0 e) hr
    (by
      have : (bytesCells w e s).toList.take c.length = strCells s := by
        rw [hlen]
        unfold bytesCells
        rw [Array.toList_append, List.take_append_of_le_length (by simp), List.take_of_length_le (by simp)]
        simp [strCells]
      rw [this]; exact hc) (bytesWorld_heap w e s) hrest.1 hrest.2.1 hrest.2.2 (fun i hi => by omega) (by omega) (by omega)
  refine ⟨_, _, _, run_convert_string_bytes w src dst e s hs hd he, ?_, g1, g2⟩
  exact ⟨by omega, .inr <| .inl ⟨⟨w.heap.size, 0, none⟩, grownCap w s.size 0 e, rfl, by rw [setLoc_at], rfl, hge, by rw [setLoc_at]; simp, fun _ => by rw [setLoc_at]⟩⟩

theorem push_bytes : ∀ (l : List Int) (acc : ByteArray), l.foldl (fun r n => r.push (UInt8.ofNat n.toNat)) acc = ⟨acc.data ++ (l.map fun n => UInt8.ofNat n.toNat).toArray⟩
  | [], acc => by simp
  | n :: l, acc => by
    rw [List.foldl_cons, push_bytes l]
    show (⟨acc.data.push _ ++ _⟩ : ByteArray) = _
    congr 1
    apply Array.ext'
    simp

theorem knownL_get : ∀ (c : List Sc) (l : List Int), knownL c = some l → c = l.map fun n => .int .u8 (.c n)
  | [], l, h => by cases h; rfl
  | s :: r, l, h => by
    cases s <;> first | (cases h; done) | skip
    rename_i k x
    cases k <;> first | (cases h; done) | skip
    cases x <;> first | (cases h; done) | skip
    simp only [knownL] at h
    obtain ⟨l', h1, rfl⟩ := Option.map_eq_some_iff.1 h
    rw [knownL_get r l' h1]; rfl

/-- a slice's bytes as a string -/
theorem bytesToString_run {x : Value} {l : List Int} (h : (l = [] ∧ x = .slice none 0 0) ∨ ∃ A k vs, x = .slice (some A) l.length k ∧ vs = l.map (.int .u8) ∧ ∀ (j : Nat) v, vs[j]? = some v → w.cell? (A.add j) = some v) :
    (Conv.bytesToString x).run P w = .ok (.string (bytesOf l)) w := by
  rcases h with ⟨rfl, rfl⟩ | ⟨A, k, vs, rfl, rfl, hcell⟩
  · rfl
  · have hload := run_loadCells_list (P := P) w A _ hcell
    rw [List.length_map] at hload
    rw [run_bytesToString w A l.length k l hload, push_bytes]
    simp [bytesOf]

theorem u8_has {n : Int} (h : IntKind.has .u8 n) : 0 ≤ n ∧ n < 256 := by
  simp only [IntKind.has, IntKind.min, IntKind.max, IntKind.signed, IntKind.bits, Bool.false_eq_true, if_false] at h
  omega

theorem strOf_rel {n : Nat} {t : Option E} {l : List Int} {v : Value} (h : SRel ρ n (.strf l) v) (ht : ∀ e, t = some e → e.dens = l) : SRel ρ n (strOf t l) v := by
  unfold strOf
  split
  · rename_i e
    have : e.D.2 = l := ht e rfl
    show v = .string (bytesOf e.D.2) ∧ e.D.2.length ≤ big ∧ ∀ x ∈ e.D.2, 0 ≤ x ∧ x < 256
    rw [this]; exact h
  · exact h
theorem src_of_sem {ks : List Kd} {x : Sc} {r : X × (Nat → Nat → Int) × B} (h : semRows σ ks x = some r) : srcF σ ks x = some r := by
  cases x <;> first | exact h | cases h
theorem convE_sound {src dst : TypeId} {x : Sc} {vx : Value} {v : AV} {σ' : St} (hr : Rel ρ σ w) (hx : SRel ρ σ.length x vx) (h : (convE P src dst x σ).run = some (v, σ')) :
    ∃ ρ' w' val, (convert src dst vx).run P w = .ok val w' ∧ ARel ρ' σ'.length v val ∧ Rel ρ' σ' w' ∧ Ext ρ σ w ρ' σ' w' := by
  have same : ∀ {s : Sc} {val : Value}, v = .one s → σ' = σ → (convert src dst vx).run P w = .ok val w → SRel ρ σ.length s val → ∃ ρ' w' val, (convert src dst vx).run P w = .ok val w' ∧ ARel ρ' σ'.length v val ∧ Rel ρ' σ' w' ∧ Ext ρ σ w ρ' σ' w' := by
    rintro s val rfl rfl h1 h2
    exact ⟨ρ, w, val, h1, h2, hr, Ext.refl _ _ _⟩
  unfold convE at h
  split at h
  · rename_i d k j n hs hd
    cases h
    have e := hx.1
    subst e
    refine same rfl rfl (val := .int k (k.wrap n.den)) ?_ (wint (wrap_den k n) (wrap_has k n.den))
    simp [convert, run_underlying hs, run_underlying hd, Conv.intToInt]
  · rename_i s hs hd
    cases h
    have e := hx.1
    subst e
    refine same rfl rfl (val := .string s) ?_ hx
    simp [convert, run_underlying hs, run_underlying hd]
  · rename_i s hs hd
    cases h
    have e := hx.1
    subst e
    refine same rfl rfl (val := .string (bytesOf s)) ?_ hx
    simp [convert, run_underlying hs, run_underlying hd]
  · rename_i s hs hd
    cases h
    have e := hx.1
    subst e
    refine same rfl rfl (val := .string (bytesOf s.D.2)) ?_ hx
    simp [convert, run_underlying hs, run_underlying hd]
  · rename_i e hs' hd
    split at h
    · rename_i he
      have conv : ∀ {l : List Int}, (∃ A k m, vx = .slice A m k) → (Conv.bytesToString vx).run P w = .ok (.string (bytesOf l)) w → (convert src dst vx).run P w = .ok (.string (bytesOf l)) w := by
        rintro l ⟨A, k, m, rfl⟩ h
        simp only [convert, Sem.run_bind, run_underlying hs', run_underlying hd, run_underlying he, Result.andThen_ok, h]
      split at h
      · rename_i l hl
        split at h
        · rename_i hsz
          cases h
          split at hl
          · rename_i hszo
            obtain ⟨c, hc, hk⟩ := Option.bind_eq_some_iff.1 hl
            have hk := knownL_get c l hk
            rcases sliceCells_rel hr hx hc with ⟨rfl, rfl, rfl⟩ | ⟨nn, id, off, len, sz, rfl, hlen, hb, hval⟩
            · have : l = [] := by cases l with | nil => rfl | cons a b => cases hk
              subst this
              exact same rfl rfl (conv ⟨_, _, _, rfl⟩ (bytesToString_run (.inl ⟨rfl, rfl⟩))) ⟨rfl, Nat.zero_le _⟩
            · have hz1 : sz = 1 := of_decide_eq_true hszo
              subst hz1
              rcases hval with ⟨_, h0, hv⟩ | ⟨A, k, vs, hv, _, _, _, _, _, hl2, hrel, hcell⟩ | ⟨h0, A, hv, _⟩
              rotate_left 2
              · subst h0; subst hv
                have : l = [] := by
                  rw [hk, List.length_map, Nat.zero_mul] at hlen
                  exact List.eq_nil_of_length_eq_zero hlen
                subst this
                exact same rfl rfl (conv ⟨_, _, _, rfl⟩ (bytesToString_run (.inr ⟨A, 0, [], rfl, rfl, fun j v hj => by simp at hj⟩))) ⟨rfl, Nat.zero_le _⟩
              · subst h0; subst hv
                have : l = [] := by
                  rw [hk, List.length_map, Nat.zero_mul] at hlen
                  exact List.eq_nil_of_length_eq_zero hlen
                subst this
                exact same rfl rfl (conv ⟨_, _, _, rfl⟩ (bytesToString_run (.inl ⟨rfl, rfl⟩))) ⟨rfl, Nat.zero_le _⟩
              · subst hv
                rw [hk, List.length_map, Nat.mul_one] at hlen
                subst hlen
                have hvs : vs = l.map (.int .u8) := by
                  apply List.ext_getElem?
                  intro i
                  by_cases hi : i < l.length
                  · have hlt : i < vs.length := by rw [hl2, Nat.mul_one]; exact hi
                    have := hrel.2 i (.int .u8 (.c l[i])) vs[i] (by rw [hk, List.getElem?_map, List.getElem?_eq_getElem hi]; rfl) (List.getElem?_eq_getElem hlt)
                    rw [List.getElem?_eq_getElem hlt, this.1, List.getElem?_map, List.getElem?_eq_getElem hi]; rfl
                  · rw [List.getElem?_eq_none (by rw [hl2, Nat.mul_one]; omega), List.getElem?_eq_none (by simp; omega)]
                refine same rfl rfl (conv ⟨_, _, _, rfl⟩ (bytesToString_run (.inr ⟨A, k, vs, rfl, hvs, hcell⟩))) ⟨rfl, ?_⟩
                rw [bytesOf_size]; exact hb
          · cases hl
        · cases h
      · split at h
        · rename_i n f g hsem
          obtain ⟨hg, h⟩ := guard_some h
          cases h
          obtain ⟨m, h1, h2, h3⟩ := semRows_rel hr hx hsem hg
          have hn : n.den.toNat = m := by rw [h1]; exact Int.toNat_natCast m
          rcases h3 with ⟨rfl, rfl⟩ | ⟨A, k, vs, rfl, h4, h5, h6, h7⟩
          · exact same rfl rfl (conv (l := listF f 0) ⟨_, _, _, rfl⟩ (bytesToString_run (.inl ⟨rfl, rfl⟩))) (strOf_rel (by rw [hn]; exact ⟨rfl, Nat.zero_le _, fun x h => by simp [listF] at h⟩) fun e he => tm_ok hx he (src_of_sem hsem) hg)
          · have hrv : ∀ i, i < m → (rowVals [.int .u8] f m)[i]? = some (.int .u8 (.sem (f i 0))) := by
              intro i hi
              simp only [rowVals, List.length_cons, List.length_nil, Nat.zero_add, Nat.mul_one, List.getElem?_map, List.getElem?_range hi, Option.map_some, Nat.div_one, Nat.mod_one]
              rfl
            have hel : ∀ i, i < m → ∃ v, vs[i]? = some v ∧ v = .int .u8 (f i 0) ∧ IntKind.has .u8 (f i 0) := by
              intro i hi
              have hlt : i < vs.length := by rw [h5]; simpa using hi
              have := h7.2 i _ _ (hrv i hi) (List.getElem?_eq_getElem hlt)
              exact ⟨_, List.getElem?_eq_getElem hlt, this.1, this.2⟩
            have hvs : vs = (listF f m).map (.int .u8) := by
              apply List.ext_getElem?
              intro i
              by_cases hi : i < m
              · obtain ⟨v, q1, q2, _⟩ := hel i hi
                rw [q1, q2]
                simp [listF, hi]
              · rw [List.getElem?_eq_none (by rw [h5]; simp; omega), List.getElem?_eq_none (by simp [listF]; omega)]
            refine same rfl rfl (conv (l := listF f m) ⟨_, _, _, rfl⟩ (bytesToString_run (.inr ⟨A, k, vs, by simp [listF], hvs, h6⟩))) (strOf_rel ?_ fun e he => tm_ok hx he (src_of_sem hsem) hg)
            rw [hn]
            refine ⟨rfl, by rw [listF, List.length_map, List.length_range]; exact h2, fun x hx => ?_⟩
            obtain ⟨i, hi, rfl⟩ := List.mem_map.1 hx
            obtain ⟨_, _, _, q⟩ := hel i (List.mem_range.1 hi)
            exact u8_has q
        · cases h
    · cases h
  · rename_i e hs hd
    split at h
    · rename_i s he
      cases h
      have e := hx.1
      subst e
      obtain ⟨ρ', w', val, q1, q2, q3, q4⟩ := str_bytes_sound (P := P) (c := (numsOf s).map fun n => .int .u8 (.c n)) hr hs hd he (strNums_LRel s)
      exact ⟨ρ', w', val, q1, by rw [St.len_new]; exact ⟨0, s.size, rfl, rfl, hx.2, q2⟩, q3, q4⟩
    · rename_i l he
      cases h
      have e := hx.1
      subst e
      obtain ⟨ρ', w', val, q1, q2, q3, q4⟩ := str_bytes_sound (P := P) hr hs hd he (byteRows_LRel l hx.2.2)
      rw [bytesOf_size] at q2
      exact ⟨ρ', w', val, q1, by rw [St.len_new]; exact ⟨0, l.length, rfl, rfl, hx.2.1, q2⟩, q3.like (by rw [St.len_new, St.len_new]) (new_like like_fn), q4.like (by rw [St.len_new, St.len_new]) (new_like like_fn)⟩
    · cases h
  · rename_i e nn id off l sz hs hd
    split at h
    · rename_i own sz' c he hat
      split at h
      · rename_i hc
        obtain ⟨rfl, hl0⟩ := hc
        cases h
        have hse := hs.symm.trans hd
        cases hse
        have hx2 := hx
        obtain ⟨o, m, h1, h2, h3, h4, h5⟩ := hx2
        have h2 : l = (m : Int) := h2
        rcases h5 with ⟨_, h0, _⟩ | ⟨A, k, hv, hlive, _, hmk, _, hA⟩ | ⟨h0, _⟩
        · omega
        rotate_left
        · omega
        · obtain ⟨cs, ee, fr, g1, g2, g3⟩ := hr.frz hat hlive
          have hA := hA (by omega)
          refine ⟨ρ, _, vx, ?_, hx, g2, g3⟩
          have hsh : w.shape? A.block = some (ee, cs.size) := by
            rw [hA]
            simp [World.shape?, g1]
          subst hv
          have hblk : A.block = (ρ id).block := by rw [hA]
          simp only [convert, Sem.run_bind, run_underlying hs, run_underlying he, Result.andThen_ok, beq_self_eq_true, markStringish, run_shape, run_freeze, Sem.run_pure, hsh]
          try rw [hblk]
      · cases h
    · cases h
  · cases h

theorem ofConst_cells {v : Value} {z : Sc} (h : AV.ofConst v = .one z) : v.cells = #[v] := by
  cases v <;> first | rfl | (cases h; done)

theorem made_get {z : Array Value} {v : Value} (hz : z = #[v]) (n i : Nat) (hi : i < n) : (madeCells z n)[i]? = some v := by
  subst hz
  simp [madeCells, hi, Nat.mod_one]

theorem make_core {t e : TypeId} {i : TypeInfo} {zv : Value} {z : Sc} {n : Nat} (hr : Rel ρ σ w) (hu : P.underlying t = some (.slice e)) (hi : P.info? e = some i) (hz' : i.zero = some zv) (hi1 : i.size = 1) (hby : i.bytes ≠ 0) (hzc : AV.ofConst zv = .one z) (hroom : n * i.bytes ≤ roomB) :
    ∃ ρ' w' val, (Instr.makeSlice t (.int .i64 n) (.int .i64 n)).run P w = .ok val w' ∧ SlRel ρ' (σ.length + 1) true σ.length 0 n 1 val ∧ Rel ρ' (σ.new (.row true 1 (.vals (List.replicate n z)))) w' ∧ Ext ρ σ w ρ' (σ.new (.row true 1 (.vals (List.replicate n z)))) w' := by
  have hcz := ofConst_cells hzc
  have hzr : SRel ρ σ.length z zv := by have := AV.ofConst_rel ρ σ.length zv; rw [hzc] at this; exact this
  have hle : n ≤ roomB := Nat.le_trans (Nat.le_mul_of_pos_right _ (Nat.pos_of_ne_zero hby)) hroom
  unfold roomB at hle hroom
  have hbz : (i.bytes : Int) * n ≤ 281474976710656 := by
    have : ((n * i.bytes : Nat) : Int) ≤ 140737488355328 := Int.ofNat_le.2 hroom
    rw [Int.natCast_mul, Int.mul_comm] at this
    omega
  have hrun := run_make (P := P) w t e i _ hu hi hz' .i64 .i64 (n : Int) (n : Int) (by omega) (Int.le_refl _) hbz (by omega)
  rw [Int.toNat_natCast] at hrun
  have hmc : ∀ j, j < n → (madeCells zv.cells (n * i.size))[j]? = some zv := fun j hj => made_get hcz _ j (by rw [hi1]; omega)
  have hsz : (madeCells zv.cells (n * i.size)).size = n := by rw [size_madeCells, hi1, Nat.mul_one]
  obtain ⟨g1, g2⟩ := fresh_row (w' := w.alloc (.cells (madeCells zv.cells (n * i.size)) e)) (l := List.replicate n z) (cs := madeCells zv.cells (n * i.size)) (e := e) (fr := (0, 0)) 1 n hr
    (by
      rw [List.length_replicate, List.take_of_length_le (by simp [hsz])]
      refine ⟨by simp [hsz], fun j s x h1 h2 => ?_⟩
      rw [List.getElem?_replicate] at h1
      split at h1
      · rename_i hj
        cases h1
        rw [Array.getElem?_toList, hmc j hj] at h2
        cases h2
        exact hzr
      · cases h1) rfl rfl rfl rfl (fun i _ => by omega) (by simp) (by omega)
  refine ⟨_, _, _, hrun, ?_, g1, g2⟩
  exact ⟨by omega, .inr <| .inl ⟨⟨w.heap.size, 0, none⟩, n, rfl, by rw [setLoc_at], rfl, Nat.le_refl _, by rw [setLoc_at]; simp, fun _ => by rw [setLoc_at]⟩⟩

theorem like_rep {own : Bool} {z : Sc} {k : Kd} {n : Nat} (h : z.kd? = some k) : Like (.row own 1 (.vals (List.replicate n z))) (.row own 1 (.fn n [k] fun _ _ => z.vI)) := by
  refine ⟨fun ρ m w l h' => ?_, id, (fun _ e => (by cases e)), fun w l b h => by rw [foot_row (fun _ _ e => by cases e)] at h ⊢; exact h⟩
  have hlen : (Cells.vals (List.replicate n z)).len = (Cells.fn n [k] fun _ _ => z.vI).len := by simp [Cells.len]
  refine ⟨fun hl => by rw [← hlen]; exact h'.1 hl, fun hl => ⟨fun i s hi => ?_, fun ho => by rw [← hlen]; exact (h'.2 hl).2 ho⟩⟩
  simp only [Cells.at, List.length_cons, List.length_nil, Nat.zero_add, Nat.lt_add_one, Nat.div_one, Nat.mod_one, true_and] at hi
  split at hi
  · rename_i hlt
    cases hi
    obtain ⟨v, q1, q2⟩ := (h'.2 hl).1 i z (by simp [Cells.at, hlt])
    exact ⟨v, q1, kd_sc h q2⟩
  · cases hi

theorem zeros_dens {n : X} {z : Sc} {x : E} (hz : z.vI = 0) (hx : x.den = n.den) (hg : (B.ex (.eq (.ln (zerosE x)) x)).den = true) : (zerosE x).dens = listF (fun _ _ => z.vI) n.den.toNat := by
  have hlen : (((zerosE x).dens.length : Nat) : Int) = x.den := of_decide_eq_true hg
  apply List.ext_getElem?
  intro i
  by_cases hi : i < n.den.toNat
  · rw [List.getElem?_eq_getElem (by omega)]
    have h0 : (zerosE x).dens[i]'(by omega) = 0 := by
      have : (zerosE x).dens = ((Env.lst 77 (E.cn x .nl).D.2).take big).map (clampI 0 0) := rfl
      simp only [this, List.getElem_map]
      unfold clampI
      split <;> omega
    rw [h0]
    simp [listF, hi, hz]
  · rw [List.getElem?_eq_none (by omega), List.getElem?_eq_none (by simp [listF]; omega)]
theorem makeSliceE_sound {t : TypeId} {l c : Sc} {vl vc : Value} {v : AV} {σ' : St} (hr : Rel ρ σ w) (hl : SRel ρ σ.length l vl) (hc : SRel ρ σ.length c vc) (h : (makeSliceE P t l c σ).run = some (v, σ')) :
    ∃ ρ' w' val, (Instr.makeSlice t vl vc).run P w = .ok val w' ∧ ARel ρ' σ'.length v val ∧ Rel ρ' σ' w' ∧ Ext ρ σ w ρ' σ' w' := by
  unfold makeSliceE at h
  split at h
  · rename_i e hu
    obtain ⟨sz, e1, h1⟩ := bind_some h
    obtain ⟨by_, e2, h2⟩ := bind_some h1
    obtain ⟨z, e3, h3⟩ := bind_some h2
    clear h h1 h2
    have hs := get_some e1
    have hb := get_some e2
    have hz := get_some e3
    split at h3
    · cases h3
    · rename_i hby
      obtain ⟨i, hi, hi1⟩ := Option.map_eq_some_iff.1 hs
      obtain ⟨i', hi', hi2⟩ := Option.map_eq_some_iff.1 hb
      rw [hi] at hi'
      cases hi'
      obtain ⟨zv, hzv, hzc⟩ := Option.map_eq_some_iff.1 hz
      obtain ⟨i', hi', hz'⟩ := Option.bind_eq_some_iff.1 hzv
      rw [hi] at hi'
      cases hi'
      subst hi2
      have core := fun (n : Nat) (z : Sc) (h1 : i.size = 1) (h2 : AV.ofConst zv = .one z) (h3 : n * i.bytes ≤ roomB) => make_core (P := P) (t := t) (n := n) (z := z) hr hu hi hz' h1 hby h2 h3
      split at h3
      · rename_i n m z
        rw [hl.1, hc.1]
        split at h3
        · rename_i hcond
          obtain ⟨hnm, hn0, _, hroom⟩ := hcond
          subst hnm
          cases h3
          obtain ⟨ρ', w', val, q1, q2, q3, q4⟩ := core n.toNat z hi1 hzc hroom
          have e : ((n.toNat : Nat) : Int) = n := by omega
          rw [e] at q1
          exact ⟨ρ', w', val, q1, by rw [St.len_new]; exact ⟨0, n.toNat, rfl, by show n = _; omega, room_big (Nat.pos_of_ne_zero hby) hroom, q2⟩, q3, q4⟩
        · split at h3
          · rename_i hcond
            obtain ⟨hnm, hn0, hroom⟩ := hcond
            subst hnm
            split at h3
            · rename_i k hk
              cases h3
              obtain ⟨ρ', w', val, q1, q2, q3, q4⟩ := core n.toNat z hi1 hzc hroom
              have e : ((n.toNat : Nat) : Int) = n := by omega
              rw [e] at q1
              exact ⟨ρ', w', val, q1, by rw [St.len_new]; exact ⟨0, n.toNat, rfl, by show n = _; omega, room_big (Nat.pos_of_ne_zero hby) hroom, q2⟩, q3.like (by rw [St.len_new, St.len_new]) (new_like (like_rep hk)), q4.like (by rw [St.len_new, St.len_new]) (new_like (like_rep hk))⟩
            · cases h3
          · cases h3
      · rename_i n m z _
        rw [hl.1, hc.1]
        split at h3
        · rename_i k hk
          obtain ⟨g1, h4⟩ := guard_some h3
          obtain ⟨g2, h5⟩ := guard_some h4
          obtain ⟨g3, h6⟩ := guard_some h5
          have g1 : n.den = m.den := by rw [mkEq_den] at g1; simpa using g1
          rw [le_den] at g2
          have g2 : 0 ≤ n.den := g2
          rw [le_den] at g3
          have g3 : n.den ≤ ((roomB / i.bytes : Nat) : Int) := g3
          have e : ((n.den.toNat : Nat) : Int) = n.den := by omega
          have hroom : n.den.toNat * i.bytes ≤ roomB := by
            have h1 : n.den.toNat ≤ roomB / i.bytes := by omega
            exact (Nat.le_div_iff_mul_le (Nat.pos_of_ne_zero hby)).1 h1
          obtain ⟨ρ', w', val, q1, q2, q3, q4⟩ := core n.den.toNat z hi1 hzc hroom
          rw [e] at q1
          rw [← g1]
          split at h6
          · rename_i _ x hx hz0
            obtain ⟨g4, h7⟩ := guard_some h6
            cases h7
            have hl := (like_rep hk).trans (like_list (own := true) (zeros_dens (eq_of_beq hz0) (X.e?_den hx) g4))
            have g5 : (X.ex (.ln (zerosE x))).den = x.den := of_decide_eq_true g4
            exact ⟨ρ', w', val, q1, by rw [St.len_new]; exact ⟨0, n.den.toNat, rfl, by rw [g5, X.e?_den hx]; exact e.symm, room_big (Nat.pos_of_ne_zero hby) hroom, q2⟩, q3.like (by rw [St.len_new, St.len_new]) (new_like hl), q4.like (by rw [St.len_new, St.len_new]) (new_like hl)⟩
          · cases h6
            exact ⟨ρ', w', val, q1, by rw [St.len_new]; exact ⟨0, n.den.toNat, rfl, e.symm, room_big (Nat.pos_of_ne_zero hby) hroom, q2⟩, q3.like (by rw [St.len_new, St.len_new]) (new_like (like_rep hk)), q4.like (by rw [St.len_new, St.len_new]) (new_like (like_rep hk))⟩
        · cases h3
      · cases h3
  · cases h
end
end Go.SX
