/- Functions and calls. -/
import Derived.Test.YtfacghikjnjjmaaSx12
namespace Go.SX
open Go Go.Lib
set_option linter.unusedSectionVars false
variable [Env]

section
variable {P : Program}

theorem put_frel {ρ : Nat → Loc} {n : Nat} {ts : Array Value} : ∀ (l : List AV) (f : Fr) (i : Nat), FRel ρ n f ts → (∀ (j : Nat) a, l[j]? = some a → ARel ρ n a (ts.getD (i + j) undef)) → FRel ρ n (Fr.put f l i) ts
  | [], f, i, h, _ => h
  | x :: l, f, i, h, hl => by
    refine put_frel l _ (i + 1) ?_ (fun j a hj => by have := hl (j + 1) a (by simpa using hj); rwa [show i + 1 + j = i + (j + 1) by omega])
    have hx := hl 0 x rfl
    rw [Nat.add_zero] at hx
    have := h.set (t := i) hx
    have e : ts.setIfInBounds i (ts.getD i undef) = ts := by
      apply Array.ext
      · simp
      · intro k h1 h2
        rw [Array.getElem_setIfInBounds]
        split
        · rename_i e; subst e; rw [Array.getD_eq_getD_getElem?, Array.getElem?_eq_getElem h2]; rfl
        · rfl
    rwa [e] at this

theorem enter_frel {ρ : Nat → Loc} {n : Nat} {args : List AV} {vals : Array Value} (h : VRel ρ n args vals) (hg : GlOk ρ n) (m d : Nat) :
    FRel ρ n (Fr.put ⟨args.length + (m - args.length), F.fresh d⟩ args 0) (vals ++ Array.replicate (m - vals.size) undef) := by
  refine put_frel _ _ _ ⟨by simp [h.1], fun t => by rw [freshF_get]; exact ARel.any, hg⟩ (fun j a hj => ?_)
  obtain ⟨hlt, _⟩ := List.getElem?_eq_some_iff.1 hj
  have hlt' : j < vals.size := h.1 ▸ hlt
  have e : (vals ++ Array.replicate (m - vals.size) undef).getD (0 + j) undef = vals[j] := by
    rw [Nat.zero_add, Array.getD_eq_getD_getElem?, Array.getElem?_append_left hlt', Array.getElem?_eq_getElem hlt']; rfl
  rw [e]
  exact h.2 j a _ hj (Array.getElem?_eq_getElem hlt')

/-! Results. -/
theorem loadE_ptr {t : TypeId} {s : Sc} {v : AV} {σ : St} (h : (loadE P t s σ).run = some v) : ∃ id row sz fld hi, s = .ptr id row sz fld hi := by
  unfold loadE at h
  split at h
  · exact ⟨_, _, _, _, _, rfl⟩
  · cases h

def resVal (tmps : Array Value) : ResultVar → Sem Value
  | .tmp t => pure (tmps.getD t undef)
  | .cell a t => do loadVar t (← asAddr (tmps.getD a undef))

theorem resE_sound {ρ : Nat → Loc} {f : Fr} {σ : St} {a : Act} {w : World} (hat : At ρ f σ a w) : ∀ (l : List ResultVar) (ps : List Part), (resE P f σ l).run = some ps →
    ∃ vs, (l.mapM (resVal a.tmps)).run P w = .ok vs w ∧ ps.length = vs.length ∧ ∀ (i : Nat) p x, ps[i]? = some p → vs[i]? = some x → PRel ρ σ.length p x
  | [], ps, h => by cases h; exact ⟨[], by simp, rfl, fun i p x h _ => by simp at h⟩
  | .tmp t :: r, ps, h => by
    simp only [resE] at h
    obtain ⟨p, h1, h⟩ := bind_some h
    obtain ⟨ps', h2, h⟩ := bind_some h
    cases h
    obtain ⟨vs, q1, q2, q3⟩ := resE_sound hat r ps' h2
    have hp := part?_rel (hat.fr.2.1 t) (get_some h1)
    refine ⟨a.tmps.getD t undef :: vs, by simp [List.mapM_cons, resVal, q1], by simp [q2], fun i p' x e1 e2 => ?_⟩
    cases i with
    | zero => cases e1; cases e2; exact hp
    | succ i => exact q3 i p' x (by simpa using e1) (by simpa using e2)
  | .cell c t :: r, ps, h => by
    simp only [resE] at h
    obtain ⟨v, h0, h⟩ := bind_some h
    obtain ⟨p, h1, h⟩ := bind_some h
    obtain ⟨ps', h2, h⟩ := bind_some h
    cases h
    obtain ⟨vs, q1, q2, q3⟩ := resE_sound hat r ps' h2
    have hs : SRel ρ σ.length (match f.get c with | .one s => s | _ => .any) (a.tmps.getD c undef) := by
      have h1 := hat.fr.2.1 c
      split
      · rename_i s hs; rw [hs] at h1; exact h1
      · exact True.intro
    obtain ⟨val, hl, hv⟩ := loadE_sound hat.rel hs h0
    obtain ⟨id, row, sz, fld, hi, e⟩ := loadE_ptr h0
    have hs2 : SRel ρ σ.length (.ptr id row sz fld hi) (a.tmps.getD c undef) := by rw [← e]; exact hs
    obtain ⟨_, _, rn, _, _, hx⟩ := hs2
    have hp := part?_rel hv (get_some h1)
    have hlv : (resVal a.tmps (.cell c t)).run P w = .ok val w := by
      rw [← hl]
      simp only [resVal, hx, Instr.loadAt, asAddr, Instr.sureAddr, Sem.run_bind, Sem.run_pure, Result.andThen_ok]
    refine ⟨val :: vs, by simp [List.mapM_cons, hlv, q1], by simp [q2], fun i p' x e1 e2 => ?_⟩
    cases i with
    | zero => cases e1; cases e2; exact hp
    | succ i => exact q3 i p' x (by simpa using e1) (by simpa using e2)

def packE : List Part → AV
  | [p] => AV.ofPart p
  | ps => .tup ps

theorem results_sound {ρ : Nat → Loc} {f : Fr} {σ : St} {a : Act} {w : World} {fn : Func} (hat : At ρ f σ a w) {ps : List Part} (h : (resE P f σ fn.results.toList).run = some ps) :
    ∃ val, (results fn a.tmps).run P w = .ok val w ∧ ARel ρ σ.length (packE ps) val := by
  obtain ⟨vs, q1, q2, q3⟩ := resE_sound hat _ _ h
  have hrun : (results fn a.tmps).run P w = .ok (if h : vs.toArray.size = 1 then vs.toArray[0] else .tuple vs.toArray) w := by
    have hres : results fn a.tmps = (fn.results.mapM (resVal a.tmps) >>= fun vs => pure (if h : vs.size = 1 then vs[0] else .tuple vs)) := by
      unfold results
      congr 2
    have e : fn.results = fn.results.toList.toArray := rfl
    rw [hres, e, List.mapM_toArray]
    simp only [Sem.run_bind, Sem.run_map, q1]
    rfl
  refine ⟨_, hrun, ?_⟩
  match ps, q2, q3 with
  | [p], q2, q3 =>
    match vs, q2, q3 with
    | [x], _, q3 =>
      have := q3 0 p x rfl rfl
      simp only [List.size_toArray, List.length_cons, List.length_nil, Nat.zero_add, dif_pos, List.getElem_toArray, List.getElem_cons_zero]
      cases p with
      | inl s => exact this
      | inr l => exact this
  | [], q2, q3 =>
    have : vs = [] := List.eq_nil_of_length_eq_zero q2.symm
    subst this
    exact ⟨#[], rfl, rfl, fun i p x h _ => by simp at h⟩
  | p1 :: p2 :: ps, q2, q3 =>
    rw [dif_neg (by simp at q2 ⊢; omega)]
    exact ⟨vs.toArray, rfl, by simp [← q2], fun i p x h1 h2 => q3 i p x h1 (by simpa using h2)⟩

/-! Forgetting. -/
theorem SRel.below {ρ : Nat → Loc} {n m : Nat} {s : Sc} {v : Value} (h : SRel ρ m s v) (hb : s.below n = true) : SRel ρ n s v := by
  cases s with
  | ptr id row sz fld hi => exact ⟨by simpa [Sc.below] using hb, h.2⟩
  | sl nn id off len sz =>
    obtain ⟨o, l, q1, q2, q3, q4⟩ := h
    exact ⟨o, l, q1, q2, q3, by simpa [Sc.below] using hb, q4.2⟩
  | mp id => exact ⟨by simpa [Sc.below] using hb, h.2⟩
  | _ => exact h

theorem LRel.below {ρ : Nat → Loc} {n m : Nat} {l : List Sc} {vs : List Value} (h : LRel ρ m l vs) (hb : l.all (Sc.below n) = true) : LRel ρ n l vs :=
  ⟨h.1, fun i s v a b => (h.2 i s v a b).below (List.all_eq_true.1 hb s (List.mem_of_getElem? a))⟩

theorem PRel.below {ρ : Nat → Loc} {n m : Nat} {p : Part} {v : Value} (h : PRel ρ m p v) (hb : Part.below n p = true) : PRel ρ n p v := by
  cases p with
  | inl s => exact SRel.below h hb
  | inr l => obtain ⟨cs, e, r⟩ := h; exact ⟨cs, e, r.below hb⟩
theorem ARel.below {ρ : Nat → Loc} {n m : Nat} {x : AV} {v : Value} (h : ARel ρ m x v) (hb : x.below n = true) : ARel ρ n x v := by
  cases x with
  | one s => exact SRel.below h hb
  | agg l => obtain ⟨cs, e, r⟩ := h; exact ⟨cs, e, r.below hb⟩
  | tup l =>
    obtain ⟨vs, e, el, r⟩ := h
    exact ⟨vs, e, el, fun i p x a b => (r i p x a b).below (List.all_eq_true.1 hb p (List.mem_of_getElem? a))⟩
  | ifc t p => obtain ⟨x, e, r⟩ := h; exact ⟨x, e, r.below hb⟩
  | pan t p => obtain ⟨x, e, r⟩ := h; exact ⟨x, e, r.below hb⟩

theorem ORel.below {ρ : Nat → Loc} {n m : Nat} {w : World} {l : Loc} {o : AO} (h : ORel ρ m w l o) (hb : o.below n = true) : ORel ρ n w l o := by
  cases o with
  | dead => exact True.intro
  | row own sz c =>
    refine ⟨h.1, fun hl => ⟨fun i s hi => ?_, (h.2 hl).2⟩⟩
    obtain ⟨v, hv, hr⟩ := (h.2 hl).1 i s hi
    refine ⟨v, hv, ?_⟩
    cases c with
    | vals l =>
      exact hr.below (List.all_eq_true.1 hb s (List.mem_of_getElem? hi))
    | fn k ks f =>
      simp only [Cells.at] at hi
      split at hi
      · cases hi; exact Kd.sc_rel.2 (Kd.sc_rel.1 hr)
      · cases hi
    | ex k e | tb ks e =>
      simp only [Cells.at] at hi
      split at hi
      · cases hi; exact Kd.sc_rel.2 (Kd.sc_rel.1 hr)
      · cases hi
  | mapo es =>
    obtain ⟨hl, es', hp, hap, en, clock, h1, h2, h3⟩ := h
    refine ⟨hl, es', hp, hap, en, clock, h1, h2, fun i k v e a b => ?_⟩
    obtain ⟨q1, q2⟩ := h3 i k v e a b
    have := List.all_eq_true.1 hb _ (hp.mem_iff.1 (List.mem_of_getElem? a))
    simp only [Bool.and_eq_true] at this
    exact ⟨q1.below this.1, q2.below this.2⟩
  | maps kk vk f => exact h
  | pmem M pg => exact h

theorem at_take {σ : St} {n i : Nat} : St.at (σ.take n) i = if i < n then σ.at i else .dead := by
  unfold St.at
  rw [List.getD_eq_getElem?_getD, List.getD_eq_getElem?_getD, List.getElem?_take]
  split <;> rfl

theorem forget_sound {ρ : Nat → Loc} {σ : St} {w : World} {n : Nat} {v : AV} {val : Value} (hr : Rel ρ σ w) (hv : ARel ρ σ.length v val) : Rel ρ (forget n v σ) w ∧ ARel ρ (forget n v σ).length v val ∧ (∀ i, owned ρ (forget n v σ) i → owned ρ σ i ∧ (forget n v σ).at i = σ.at i) ∧ (n ≤ σ.length → n ≤ (forget n v σ).length) := by
  unfold forget
  split
  · rename_i hb
    simp only [Bool.and_eq_true] at hb
    have at' : ∀ i, used ρ (σ.take n) i → St.at (σ.take n) i = σ.at i := by
      intro i h
      have := h.2
      rw [at_take] at this ⊢
      split
      · rfl
      · rename_i hi; rw [if_neg hi] at this; exact absurd rfl this
    have hu : ∀ i, used ρ (σ.take n) i → used ρ σ i := fun i h => ⟨h.1, by rw [← at' i h]; exact h.2⟩
    have ho : ∀ i, owned ρ (σ.take n) i → owned ρ σ i := fun i h => ⟨h.1, by rw [← at' i h.used]; exact h.2⟩
    by_cases hn : n ≤ σ.length
    · have hl : (σ.take n).length = n := by simp; omega
      refine ⟨⟨fun i => ?_, fun i j hij h1 h2 b hb1 hb2 => ?_, fun i h => hr.bnd i (hu i h)⟩, by rw [hl]; exact hv.below hb.1, fun i h => ⟨ho i h, at' i h.used⟩, fun _ => by omega⟩
      · rw [hl]
        by_cases hi : i < n
        · have hm : St.at (σ.take n) i ∈ σ.take n ∨ St.at (σ.take n) i = .dead := by
            unfold St.at
            rw [List.getD_eq_getElem?_getD]
            cases hx : (σ.take n)[i]? with
            | none => exact .inr rfl
            | some o => exact .inl (List.mem_of_getElem? hx)
          have he : St.at (σ.take n) i = σ.at i := by rw [at_take, if_pos hi]
          rcases hm with hm | hm
          · have := List.all_eq_true.1 hb.2 _ hm
            rw [he] at this ⊢
            exact (hr.obj i).below this
          · rw [hm]; exact True.intro
        · rw [at_take, if_neg hi]; exact True.intro
      · rw [at' i h1.used] at hb1
        rw [at' j h2] at hb2
        exact hr.sep i j hij (ho i h1) (hu j h2) b hb1 hb2
    · have e : σ.take n = σ := List.take_of_length_le (by omega)
      rw [e]
      exact ⟨hr, hv, fun _ h => ⟨h, rfl⟩, fun h => h⟩
  · exact ⟨hr, hv, fun _ h => ⟨h, rfl⟩, fun h => h⟩

theorem packE_np (ps : List Part) : (packE ps).panB = false := by
  unfold packE
  split
  · exact part_np
  · rfl

theorem codeD_true : ∀ c : Code, codeD (fun _ => true) c = true
  | .region _ ops _ => List.all_eq_true.2 fun o _ => by unfold opD; cases o.dst <;> rfl
  | .seq a b => by simp only [codeD, codeD_true a, codeD_true b, Bool.and_self]
  | .cond _ a b => by simp only [codeD, codeD_true a, codeD_true b, Bool.and_self]
  | .block _ b => codeD_true b
  | .loop b => codeD_true b
  | .skip => rfl
  | .rangeFunc .. => rfl
  | .exit _ => rfl
  | .scope _ => rfl
  | .label _ => rfl
  | .goto _ => rfl
  | .ret => rfl
  | .refuse _ => rfl
/-- one function -/
theorem fnE_sound {call : FuncId → List AV → St → Out (AV × St)} {cf : Cfg} {g : FuncId} {fn : Func} {args : List AV} {σ σ' : St} {v : AV}
    (hc : CallSound P call) (hn : NamesOk P) (hdr : DrawOk P call) (hfn : P.funcs[g]? = some fn) (hlo : ∀ c, fn.body = some c → LoopsOk P cf σ.length c)
    (h : (fnE P call cf fn args σ).run = some (v, σ')) : Den P g args σ v σ' := by
  unfold fnE at h
  cases hb : fn.body with
  | none => rw [hb] at h; cases h
  | some c =>
    rw [hb] at h
    simp only at h
    refine ⟨⟨fn, hfn, by rw [hb]; rfl⟩, fun ρ w vals hr hgl hv => ?_⟩
    obtain ⟨⟨e, f, σ1⟩, h1, h2⟩ := bind_some h
    clear h
    refine calls_of_wp hfn hb (codeE_wp (n0 := σ.length) hc hn hdr (D := fun _ => true) c _ f σ σ1 e ρ _ w _ (codeD_true c) (Nat.le_refl _) ⟨enter_frel hv hgl _ _, hr⟩ (hlo c hb) h1 fun ρ' a' w' p1 p2 p3 => ?_)
    have p3 := p3.1
    have ext : ∀ {v : AV} {val : Value}, ARel ρ' σ1.length v val → ARel ρ' (forget σ.length v σ1).length v val ∧ Rel ρ' (forget σ.length v σ1) w' ∧ Ext ρ σ w ρ' (forget σ.length v σ1) w' := by
      intro v val hv
      obtain ⟨s1, s2, s3, s4⟩ := forget_sound (n := σ.length) p1.rel hv
      exact ⟨s2, s1, ⟨s4 p2.len, p2.same, p2.os, p2.tape, p2.output, p2.size, p2.keep, fun i hi b hb => by
        obtain ⟨q1, q2⟩ := s3 i hi
        rw [q2] at hb
        exact p2.own i q1 b hb⟩⟩
    have fin : ((resE P f σ1 fn.results.toList).bind fun ps => match ps with | [p] => .ok (AV.ofPart p, forget σ.length (AV.ofPart p) σ1) | ps => .ok (.tup ps, forget σ.length (.tup ps) σ1)).run = some (v, σ') →
        a'.defers = [] ∧ ∃ x, (results fn a'.tmps).run P w' = .ok x w' ∧ ∃ val ρ', EndIs v val (.returned x) ∧ ARel ρ' σ'.length v val ∧ Rel ρ' σ' w' ∧ Ext ρ σ w ρ' σ' w' := by
      intro h
      obtain ⟨ps, h3, h4⟩ := bind_some h
      obtain ⟨val, r1, r2⟩ := results_sound p1 h3
      refine ⟨p3, val, r1, val, ρ', ?_⟩
      have hh : (v, σ') = (packE ps, forget σ.length (packE ps) σ1) := by
        clear h3 r1 r2
        match ps, h4 with
        | [p], h4 => cases h4; rfl
        | [], h4 => cases h4; rfl
        | p1 :: p2 :: ps, h4 => cases h4; rfl
      have np := packE_np ps
      generalize packE ps = u at hh r2 np
      cases hh
      refine ⟨?_, ext r2⟩
      unfold EndIs
      rw [np]; rfl
    cases e with
    | exit i => cases h2
    | normal => exact fin h2
    | ret => exact fin h2
    | pan t p =>
      cases h2
      intro val hval
      refine ⟨p3, val, ρ', ?_, ext hval⟩
      rfl

/-- what contracts and loops' laws must come to -/
structure EnvOk (P : Program) (env : FuncId → Option (List AV → St → Out (AV × St))) (cfg : FuncId → Cfg) : Prop where
  names : NamesOk P
  calls : ∀ g c, env g = some c → ∀ args σ v σ', (c args σ).run = some (v, σ') → Den P g args σ v σ'
  loops : ∀ g fn c (σ : St), env g = none → P.funcs[g]? = some fn → fn.body = some c → LoopsOk P (cfg g) (obN (cfg g) σ) c

theorem callE_sound {env : FuncId → Option (List AV → St → Out (AV × St))} {cfg : FuncId → Cfg} (he : EnvOk P env cfg) (hdr : ∀ call, CallSound P call → DrawOk P call) : ∀ d, CallSound P (callE P env cfg d)
  | 0 => fun g args σ v σ' h => by cases h
  | d + 1 => fun g args σ v σ' h => by
    simp only [callE] at h
    cases hg : env g with
    | some c => rw [hg] at h; exact he.calls g c hg args σ v σ' h
    | none =>
      rw [hg] at h
      simp only at h
      cases hf : P.funcs[g]? with
      | none => rw [hf] at h; cases h
      | some fn =>
        rw [hf] at h
        have ih := callE_sound he hdr d
        simp only at h
        cases hob : obOk (cfg g) σ with
        | false => rw [hob] at h; cases h
        | true =>
        rw [hob, cond_true] at h
        have hn : obN (cfg g) σ = σ.length := by
          unfold obOk at hob
          unfold obN
          cases ho : (cfg g).ob with
          | none => rfl
          | some n => rw [ho] at hob; exact (eq_of_beq hob).symm
        have h : (fnE P (callE P env cfg d) (cfg g) fn args σ).run = some (v, σ') := by
          cases hm : (cfg g).mg with
          | false => simp only [hm, cond_false] at h; exact h
          | true => simp only [hm, cond_true] at h; rw [mrg_run avstBeq_eq] at h; exact h
        exact fnE_sound ih he.names (hdr _ ih) hf (fun c hc => by have h1 := he.loops g fn c σ hg hf hc; rw [hn] at h1; exact h1) h
end
end Go.SX
