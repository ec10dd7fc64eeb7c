/- Regions whose order is free: every order comes to the same. -/
import Derived.Test.YtfacghikjnjjmaaSx14
namespace Go.SX
open Go Go.Lib
set_option linter.unusedSectionVars false
variable [Env]

/-- one operation's share of a run in the order of the text -/
structure DStep where
  o : Oper
  ex : Bool
  t : Touch
  f : Fr
  σ : St
  v : AV
  out : St

def slotS : List DStep → Nat → (Nat → Bool) → Nat → AV → AV
  | [], _, _, _, acc => acc
  | t :: r, j, S, s, acc => slotS r (j + 1) S s (if S j && t.t.dst == some s then t.v else acc)
def lastE : AO → Option (Sc × AV)
  | .mapo es => es.getLast?
  | _ => none
def insM (acc : AO) (e : Option (Sc × AV)) : AO :=
  match acc, e with
  | .mapo es, some e => .mapo (es ++ [e])
  | a, _ => a
/-- cells put into a row -/
def stoM (acc : AO) (o : Nat) (vs : List Sc) : AO :=
  match acc with
  | .row own z (.vals l) => .row own z (.vals (setL l o vs))
  | a => a
/-- what an operation makes of an object that it writes -/
def DStep.put (t : DStep) (i : Nat) (acc : AO) : AO := if t.t.ins.isSome then insM acc (lastE (t.out.at i)) else match t.t.sto with
  | some (_, o, vs) => stoM acc o vs
  | none => t.out.at i
def objS : List DStep → Nat → (Nat → Bool) → Nat → AO → AO
  | [], _, _, _, acc => acc
  | t :: r, j, S, i, acc => objS r (j + 1) S i (if S j && t.t.wr.contains i then t.put i acc else acc)

theorem slotS_congr (s : Nat) : ∀ (T : List DStep) (j : Nat) (S S' : Nat → Bool) (acc : AV), (∀ (k : Nat) t, T[k]? = some t → t.t.dst = some s → S (j + k) = S' (j + k)) → slotS T j S s acc = slotS T j S' s acc
  | [], _, _, _, _, _ => rfl
  | t :: r, j, S, S', acc, h => by
    have e : (if (S j && t.t.dst == some s) = true then t.v else acc) = (if (S' j && t.t.dst == some s) = true then t.v else acc) := by
      by_cases hd : t.t.dst = some s
      · have := h 0 t rfl hd
        rw [Nat.add_zero] at this
        rw [this]
      · have : (t.t.dst == some s) = false := by simpa using hd
        rw [this, Bool.and_false, Bool.and_false]
    rw [slotS, slotS, e]
    exact slotS_congr s r (j + 1) S S' _ fun k t' hk hd => by have := h (k + 1) t' (by simpa using hk) hd; rwa [show j + 1 + k = j + (k + 1) by omega]
theorem slotS_none (s : Nat) : ∀ (T : List DStep) (j : Nat) (S : Nat → Bool) (acc : AV), (∀ (k : Nat) t, T[k]? = some t → t.t.dst = some s → S (j + k) = false) → slotS T j S s acc = acc
  | [], _, _, _, _ => rfl
  | t :: r, j, S, acc, h => by
    have e : (if (S j && t.t.dst == some s) = true then t.v else acc) = acc := by
      by_cases hd : t.t.dst = some s
      · have := h 0 t rfl hd
        rw [Nat.add_zero] at this
        rw [this]; rfl
      · have : (t.t.dst == some s) = false := by simpa using hd
        rw [this, Bool.and_false]; rfl
    rw [slotS, e]
    exact slotS_none s r (j + 1) S _ fun k t' hk hd => by have := h (k + 1) t' (by simpa using hk) hd; rwa [show j + 1 + k = j + (k + 1) by omega]
theorem slotS_last (s : Nat) : ∀ (T : List DStep) (j : Nat) (S : Nat → Bool) (acc : AV) (k : Nat) (t : DStep), T[k]? = some t → S (j + k) = true → t.t.dst = some s →
    (∀ (k' : Nat) t', k < k' → T[k']? = some t' → t'.t.dst = some s → S (j + k') = false) → slotS T j S s acc = t.v
  | [], _, _, _, k, t, h, _, _, _ => by simp at h
  | t0 :: r, j, S, acc, 0, t, h, hS, hd, hn => by
    cases h
    rw [Nat.add_zero] at hS
    rw [slotS, hS, hd]
    simp only [beq_self_eq_true, Bool.and_self, if_true]
    exact slotS_none s r (j + 1) S _ fun k t' hk hd' => by have := hn (k + 1) t' (by omega) (by simpa using hk) hd'; rwa [show j + 1 + k = j + (k + 1) by omega]
  | t0 :: r, j, S, acc, k + 1, t, h, hS, hd, hn => by
    rw [slotS]
    exact slotS_last s r (j + 1) S _ k t (by simpa using h) (by rwa [show j + 1 + k = j + (k + 1) by omega]) hd fun k' t' hlt hk hd' => by have := hn (k' + 1) t' (by omega) (by simpa using hk) hd'; rwa [show j + 1 + k' = j + (k' + 1) by omega]

theorem objS_congr (i : Nat) : ∀ (T : List DStep) (j : Nat) (S S' : Nat → Bool) (acc : AO), (∀ (k : Nat) t, T[k]? = some t → t.t.wr.contains i = true → S (j + k) = S' (j + k)) → objS T j S i acc = objS T j S' i acc
  | [], _, _, _, _, _ => rfl
  | t :: r, j, S, S', acc, h => by
    have e : (if (S j && t.t.wr.contains i) = true then t.put i acc else acc) = (if (S' j && t.t.wr.contains i) = true then t.put i acc else acc) := by
      cases hd : t.t.wr.contains i
      · rw [Bool.and_false, Bool.and_false]
      · have := h 0 t rfl hd
        rw [Nat.add_zero] at this
        rw [this]
    rw [objS, objS, e]
    exact objS_congr i r (j + 1) S S' _ fun k t' hk hd => by have := h (k + 1) t' (by simpa using hk) hd; rwa [show j + 1 + k = j + (k + 1) by omega]
theorem objS_none (i : Nat) : ∀ (T : List DStep) (j : Nat) (S : Nat → Bool) (acc : AO), (∀ (k : Nat) t, T[k]? = some t → t.t.wr.contains i = true → S (j + k) = false) → objS T j S i acc = acc
  | [], _, _, _, _ => rfl
  | t :: r, j, S, acc, h => by
    have e : (if (S j && t.t.wr.contains i) = true then t.put i acc else acc) = acc := by
      cases hd : t.t.wr.contains i
      · rw [Bool.and_false]; rfl
      · have := h 0 t rfl hd
        rw [Nat.add_zero] at this
        rw [this]; rfl
    rw [objS, e]
    exact objS_none i r (j + 1) S _ fun k t' hk hd => by have := h (k + 1) t' (by simpa using hk) hd; rwa [show j + 1 + k = j + (k + 1) by omega]
theorem objS_top (i : Nat) : ∀ (T : List DStep) (j : Nat) (S S' : Nat → Bool) (acc : AO) (k : Nat) (t : DStep), T[k]? = some t → S (j + k) = true → S' (j + k) = false → t.t.wr.contains i = true →
    (∀ (k' : Nat) t', k' ≠ k → T[k']? = some t' → t'.t.wr.contains i = true → S (j + k') = S' (j + k')) →
    (∀ (k' : Nat) t', k < k' → T[k']? = some t' → t'.t.wr.contains i = true → S (j + k') = false) → objS T j S i acc = t.put i (objS T j S' i acc)
  | [], _, _, _, _, k, t, h, _, _, _, _, _ => by simp at h
  | t0 :: r, j, S, S', acc, 0, t, h, hS, hS', hd, hsame, hn => by
    cases h
    rw [Nat.add_zero] at hS hS'
    rw [objS, objS, hS, hS', hd]
    simp only [Bool.and_self, if_true, Bool.false_and, Bool.false_eq_true, if_false]
    rw [objS_none i r (j + 1) S _ fun k' t' hk hw => ?_, objS_none i r (j + 1) S' _ fun k' t' hk hw => ?_]
    · have := hn (k' + 1) t' (by omega) (by simpa using hk) hw
      have h2 := hsame (k' + 1) t' (by omega) (by simpa using hk) hw
      rw [show j + 1 + k' = j + (k' + 1) by omega, ← h2]; exact this
    · have := hn (k' + 1) t' (by omega) (by simpa using hk) hw
      rwa [show j + 1 + k' = j + (k' + 1) by omega]
  | t0 :: r, j, S, S', acc, k + 1, t, h, hS, hS', hd, hsame, hn => by
    have e : (if (S j && t0.t.wr.contains i) = true then t0.put i acc else acc) = (if (S' j && t0.t.wr.contains i) = true then t0.put i acc else acc) := by
      cases hw : t0.t.wr.contains i with
      | false => rw [Bool.and_false, Bool.and_false]
      | true =>
        have := hsame 0 t0 (by omega) rfl hw
        rw [Nat.add_zero] at this
        rw [this]
    rw [objS, objS, e]
    exact objS_top i r (j + 1) S S' _ k t (by simpa using h) (by rwa [show j + 1 + k = j + (k + 1) by omega]) (by rwa [show j + 1 + k = j + (k + 1) by omega]) hd
      (fun k' t' hk h1 h2 => by have := hsame (k' + 1) t' (by omega) (by simpa using h1) h2; rwa [show j + 1 + k' = j + (k' + 1) by omega])
      (fun k' t' hk h1 h2 => by have := hn (k' + 1) t' (by omega) (by simpa using h1) h2; rwa [show j + 1 + k' = j + (k' + 1) by omega])

def Imp (x y : AV) : Prop := ∀ (ρ : Nat → Loc) (n : Nat) (v : Value), ARel ρ n x v → ARel ρ n y v
theorem Imp.refl (x : AV) : Imp x x := fun _ _ _ h => h
theorem Imp.trans {x y z : AV} (h : Imp x y) (k : Imp y z) : Imp x z := fun ρ n v a => k ρ n v (h ρ n v a)
theorem Imp.any (x : AV) : Imp x (.one .any) := fun _ _ _ _ => ARel.any

theorem Imp.put {f : Fr} {d : Option Nat} {v : AV} {V : Nat → AV} (h : ∀ s, Imp (V s) (f.get s)) (s : Nat) : Imp (if d == some s then v else V s) ((putF f d v).get s) := by
  cases d with
  | none => exact h s
  | some t =>
    by_cases e : s = t
    · subst e
      simp only [beq_self_eq_true, if_true, putF]
      rcases Fr.get_set_eq f s v with e | e
      · rw [e]; exact .refl _
      · rw [e]; exact .any _
    · have : (some t == some s) = false := by simpa using fun h => e h.symm
      rw [this]
      simp only [putF, Bool.false_eq_true, if_false]
      rw [Fr.get_set_ne _ _ e]
      exact h s

section
variable {P : Program} {call : FuncId → List AV → St → Out (AV × St)} {ops : Array Oper}

structure StepOk (P : Program) (call : FuncId → List AV → St → Out (AV × St)) (ops : Array Oper) (o : Oper) (j : Nat) (recs : List Touch) (f : Fr) (σ : St) (s : DStep) : Prop where
  op : s.o = o
  mem : s.σ = σ
  edges : o.after.toList.all (fun e => !Region.binds .any e || decide (e.on < j)) = true
  imp : ∀ i, Imp (f.get i) (s.f.get i)
  fn : s.f.n = f.n
  grd : match o.guard with | none => s.ex = true | some (g, want) => ∃ d, (ops[g]?).bind (·.dst) = some d ∧ ((∃ b, f.get d = .one (.bool b) ∧ s.ex = (b.den == want)) ∨ (f.get d = .tup [] ∧ s.ex = false))
  ok : okAll recs j s.t = true
  skip : s.ex = false → s.v = .tup [] ∧ s.t = skipOf ops recs j o ∧ s.out = σ
  exec : s.ex = true → s.t = touchOf ops recs j s.f σ s.out o ∧
    (o.looksAt ops).all (fun t => (s.f.get t).below σ.length) = true ∧ (memOf (chgOf s.f σ o) (rdOf s.f σ o) σ 0).all (AO.below σ.length) = true ∧
    (operE P call o (frOf ops s.f o) (memOf (chgOf s.f σ o) (rdOf s.f σ o) σ 0)).run = some (s.v, s.out) ∧
    (s.out.drop σ.length).all ownB = true ∧ (chgOf s.f σ o).all (fun i => !deadB (St.at (memOf (chgOf s.f σ o) (rdOf s.f σ o) σ 0) i) || deadB (s.out.at i)) = true ∧ s.v.panB = false

def DStep.next (s : DStep) : St := if s.ex then backE (chgOf s.f s.σ s.o) s.out s.σ 0 else s.σ

inductive Chain (P : Program) (call : FuncId → List AV → St → Out (AV × St)) (ops : Array Oper) : List Oper → Nat → List Touch → Fr → St → List DStep → Fr → St → Prop
  | nil {j : Nat} {recs : List Touch} {f : Fr} {σ : St} : Chain P call ops [] j recs f σ [] f σ
  | cons {o : Oper} {r : List Oper} {j : Nat} {recs : List Touch} {f f' : Fr} {σ σ' : St} {s : DStep} {T : List DStep} :
      StepOk P call ops o j recs f σ s → Chain P call ops r (j + 1) (s.t :: recs) (putF s.f o.dst s.v) s.next T f' σ' → Chain P call ops (o :: r) j recs f σ (s :: T) f' σ'

theorem drawX_some {o : Oper} {j : Nat} {recs : List Touch} {f : Fr} {σ : St} {k : Touch → Fr → St → Out (Fr × St)} {x : Fr × St} (h : (drawX P call ops o j recs f σ k).run = some x) :
    ∃ v out, (o.looksAt ops).all (fun t => (f.get t).below σ.length) = true ∧ (memOf (chgOf f σ o) (rdOf f σ o) σ 0).all (AO.below σ.length) = true ∧
    (operE P call o (frOf ops f o) (memOf (chgOf f σ o) (rdOf f σ o) σ 0)).run = some (v, out) ∧
    (out.drop σ.length).all ownB = true ∧ (chgOf f σ o).all (fun i => !deadB (St.at (memOf (chgOf f σ o) (rdOf f σ o) σ 0) i) || deadB (out.at i)) = true ∧
    okAll recs j (touchOf ops recs j f σ out o) = true ∧ v.panB = false ∧ (k (touchOf ops recs j f σ out o) (putF f o.dst v) (backE (chgOf f σ o) out σ 0)).run = some x := by
  unfold drawX at h
  split at h
  · rename_i h1
    simp only [Bool.and_eq_true] at h1
    obtain ⟨⟨v, out⟩, h2, h⟩ := bind_some h
    simp only at h
    split at h
    · rename_i h3
      simp only [Bool.and_eq_true, Bool.not_eq_true'] at h3
      exact ⟨v, out, h1.1, h1.2, h2, h3.1.1.1, h3.1.1.2, h3.1.2, h3.2, h⟩
    · cases h
  · cases h
theorem drawS_some {o : Oper} {j : Nat} {recs : List Touch} {f : Fr} {σ : St} {k : Touch → Fr → St → Out (Fr × St)} {x : Fr × St} (h : (drawS ops o j recs f σ k).run = some x) :
    okAll recs j (skipOf ops recs j o) = true ∧ (k (skipOf ops recs j o) (putF f o.dst (.tup [])) σ).run = some x := by
  unfold drawS at h
  split at h
  · rename_i h1; exact ⟨h1, h⟩
  · cases h

theorem drawGo_chain : ∀ (l : List Oper) (j : Nat) (recs : List Touch) (f f' : Fr) (σ σ' : St), (drawGo P call ops l j recs f σ).run = some (f', σ') → ∃ T, Chain P call ops l j recs f σ T f' σ'
  | [], j, recs, f, f', σ, σ', h => by cases h; exact ⟨[], .nil⟩
  | o :: r, j, recs, f, f', σ, σ', h => by
    simp only [drawGo] at h
    split at h
    · rename_i hed
      have goX : ∀ (g : Fr), g.n = f.n → (∀ i, Imp (f.get i) (g.get i)) → (match o.guard with | none => True | some (gi, want) => ∃ d, (ops[gi]?).bind (·.dst) = some d ∧ ((∃ b, f.get d = .one (.bool b) ∧ true = (b.den == want)) ∨ (f.get d = .tup [] ∧ true = false))) →
          (drawX P call ops o j recs g σ fun t f' σ' => drawGo P call ops r (j + 1) (t :: recs) f' σ').run = some (f', σ') → ∃ T, Chain P call ops (o :: r) j recs f σ T f' σ' := by
        intro g hgn himp hgd h
        obtain ⟨v, out, a1, a2, a3, a4, a5, a6, a7, h⟩ := drawX_some h
        obtain ⟨T, hT⟩ := drawGo_chain r _ _ _ _ _ _ h
        refine ⟨⟨o, true, touchOf ops recs j g σ out o, g, σ, v, out⟩ :: T, .cons ⟨rfl, rfl, hed, himp, hgn, ?_, a6, (fun h => by cases h), fun _ => ⟨rfl, a1, a2, a3, a4, a5, a7⟩⟩ hT⟩
        split
        · rfl
        · rename_i gi want hg; rw [hg] at hgd; exact hgd
      have goS : ∀ (g : Fr), g.n = f.n → (∀ i, Imp (f.get i) (g.get i)) → (match o.guard with | none => False | some (gi, want) => ∃ d, (ops[gi]?).bind (·.dst) = some d ∧ ((∃ b, f.get d = .one (.bool b) ∧ false = (b.den == want)) ∨ (f.get d = .tup [] ∧ false = false))) →
          (drawS ops o j recs g σ fun t f' σ' => drawGo P call ops r (j + 1) (t :: recs) f' σ').run = some (f', σ') → ∃ T, Chain P call ops (o :: r) j recs f σ T f' σ' := by
        intro g hgn himp hgd h
        obtain ⟨a6, h⟩ := drawS_some h
        obtain ⟨T, hT⟩ := drawGo_chain r _ _ _ _ _ _ h
        refine ⟨⟨o, false, skipOf ops recs j o, g, σ, .tup [], σ⟩ :: T, .cons ⟨rfl, rfl, hed, himp, hgn, ?_, a6, fun _ => ⟨rfl, rfl, rfl⟩, fun h => by cases h⟩ hT⟩
        split
        · rename_i hg; rw [hg] at hgd; exact hgd.elim
        · rename_i gi want hg; rw [hg] at hgd; exact hgd
      split at h
      · rename_i hg
        exact goX f rfl (fun _ => .refl _) (by rw [hg]; exact True.intro) h
      · rename_i gi want hg
        split at h
        · cases h
        · rename_i d hd
          split at h
          · rename_i b hb
            rcases ite_some h with ⟨e, h⟩ | ⟨e, h⟩
            · rw [mkIff_den] at e
              exact goX f rfl (fun _ => .refl _) (by rw [hg]; exact ⟨d, hd, .inl ⟨b, hb, e.symm⟩⟩) h
            · rw [mkIff_den] at e
              exact goS f rfl (fun _ => .refl _) (by rw [hg]; exact ⟨d, hd, .inl ⟨b, hb, e.symm⟩⟩) h
          · rename_i hb
            exact goS f rfl (fun _ => .refl _) (by rw [hg]; exact ⟨d, hd, .inr ⟨hb, rfl⟩⟩) h
          · cases h
    · cases h

/-! What a chain tells, place by place. -/
def Hist (T : List DStep) (j : Nat) (recs : List Touch) : Prop := recs.length = j ∧ ∀ i, i < j → ∃ s, T[i]? = some s ∧ recs[j - 1 - i]? = some s.t

structure Good (P : Program) (call : FuncId → List AV → St → Out (AV × St)) (ops : Array Oper) (T : List DStep) (f0 : Fr) (σ0 : St) (σ' : St) (k : Nat) (s : DStep) (recs : List Touch) (f : Fr) : Prop where
  step : StepOk P call ops s.o k recs f s.σ s
  hist : Hist T k recs
  slots : ∀ i, Imp (slotS T 0 (fun m => decide (m < k)) i (f0.get i)) (f.get i)
  objs : ∀ i, objS T 0 (fun m => decide (m < k)) i (σ0.at i) = s.σ.at i
  fn : f.n = f0.n
  ge : σ0.length ≤ s.σ.length
  le : s.σ.length ≤ σ'.length
  nx : s.next.length ≤ σ'.length
  lens : ∀ k', k' < k → ∀ s', T[k']? = some s' → s'.next.length ≤ s.σ.length

theorem next_len (s : DStep) : s.σ.length ≤ s.next.length := by
  unfold DStep.next
  split
  · rw [backE_length]; omega
  · exact Nat.le_refl _
theorem write_sees {o : Oper} (h : dkind o = .write) : blindO o = false := by
  unfold dkind at h
  split at h
  · cases h
  · rename_i hs
    unfold blindO
    split at h
    all_goals first
      | (rename_i ho; rw [ho]; done)
      | (cases h; done)
theorem touch_rdwr {recs : List Touch} {j : Nat} {f : Fr} {σ out : St} {o : Oper} {i : Nat} (h : (touchOf ops recs j f σ out o).wr.contains i = true) : (touchOf ops recs j f σ out o).rd.contains i = true := by
  simp only [touchOf, List.contains_eq_mem, List.mem_append, decide_eq_true_eq] at h ⊢
  rcases h with h | h
  · left
    unfold wrOf at h
    split at h
    · rename_i hk
      have hm := (List.mem_filter.1 h).1
      have hfl : i ∈ (idsOf f o).flatten := by
        cases hi : idsOf f o with
        | nil => rw [hi] at hm; cases hm
        | cons x r => rw [hi] at hm; exact List.mem_flatten.2 ⟨x, by simp, hm⟩
      unfold rdOf
      rw [write_sees hk]
      simp only [cond_false]
      split
      · rename_i ho
        exfalso
        unfold dkind at hk
        split at hk
        · cases hk
        · rw [ho] at hk; cases hk
      · exact hfl
    · exact (List.mem_filter.1 h).1
    · cases h
  · exact .inr h
theorem touch_wr_lt {recs : List Touch} {j : Nat} {f : Fr} {σ out : St} {o : Oper} {i : Nat} (h : (touchOf ops recs j f σ out o).wr.contains i = true) : i < σ.length ∨ (σ.length ≤ i ∧ i < out.length) := by
  simp only [touchOf, List.contains_eq_mem, List.mem_append, decide_eq_true_eq] at h
  rcases h with h | h
  · left
    unfold wrOf at h
    split at h
    · simpa using (List.mem_filter.1 h).2
    · have := (List.mem_filter.1 h).2
      rw [Bool.and_eq_true, decide_eq_true_eq] at this
      exact this.1
    · cases h
  · right
    rw [List.mem_range'_1] at h
    omega

theorem next_at {o : Oper} {j : Nat} {recs : List Touch} {f : Fr} {s : DStep} (hs : StepOk P call ops o j recs f s.σ s) (i : Nat) :
    s.next.at i = if s.t.wr.contains i then s.out.at i else s.σ.at i := by
  unfold DStep.next
  cases hex : s.ex with
  | false =>
    obtain ⟨_, ht, _⟩ := hs.skip hex
    rw [ht]
    simp [skipOf]
  | true =>
    obtain ⟨ht, hb1, hb2, hrun, hn, hd, _⟩ := hs.exec hex
    simp only [if_true]
    rw [backE_at, Nat.zero_add, hs.op, ht]
    by_cases hi : i < s.σ.length
    · rw [if_pos hi]
      have hnr : ¬ i ∈ List.range' s.σ.length (s.out.length - s.σ.length) := by rw [List.mem_range'_1]; omega
      have hw : (touchOf ops recs j s.f s.σ s.out o).wr.contains i = (wrOf s.f s.σ s.out o).contains i := by
        simp only [touchOf, List.contains_eq_mem, List.mem_append, hnr, or_false]
      rw [hw]
      -- by kinds
      have hq : dkind o = .quiet → s.out = memOf (chgOf s.f s.σ o) (rdOf s.f s.σ o) s.σ 0 := by
        intro hk
        have hsil : silentO o = true := by
          unfold dkind at hk
          split at hk
          · rename_i h; exact h
          · split at hk <;> cases hk
        exact silent_op hsil hrun
      cases hk : dkind o with
      | quiet =>
        have e1 : (wrOf s.f s.σ s.out o).contains i = false := by simp [wrOf, hk]
        rw [e1, hq hk]
        by_cases hc : (chgOf s.f s.σ o).contains i = true
        · rw [if_pos hc, memOf_at _ _ _ _ _ hi, Nat.zero_add, if_pos hc]; rfl
        · rw [if_neg hc]; rfl
      | lent =>
        have e1 : (wrOf s.f s.σ s.out o).contains i = false := by simp [wrOf, hk]
        have e2 : (chgOf s.f s.σ o).contains i = false := by simp [chgOf, hk]
        rw [e1, e2]
      | write =>
        have e1 : (wrOf s.f s.σ s.out o).contains i = (chgOf s.f s.σ o).contains i := by
          simp [wrOf, chgOf, hk, hi]
        rw [e1]
      | calls =>
        have e2 : chgOf s.f s.σ o = rdOf s.f s.σ o := by simp [chgOf, hk]
        by_cases hc : (wrOf s.f s.σ s.out o).contains i = true
        · rw [if_pos hc]
          have : (chgOf s.f s.σ o).contains i = true := by
            rw [e2]
            simp only [wrOf, hk, List.contains_eq_mem, decide_eq_true_eq] at hc ⊢
            exact (List.mem_filter.1 hc).1
          rw [if_pos this]
        · rw [if_neg hc]
          split
          · rename_i hc2
            rw [e2] at hc2
            have hc2 : i ∈ rdOf s.f s.σ o := by simpa using hc2
            cases hb : (s.out.at i).beq (s.σ.at i) with
            | true => exact AO.beq_eq hb
            | false =>
              exfalso
              apply hc
              simp only [wrOf, hk, List.contains_eq_mem, decide_eq_true_eq]
              exact List.mem_filter.2 ⟨hc2, by simp [hi, hb]⟩
          · rfl
    · rw [if_neg hi]
      by_cases h2 : i < s.out.length
      · have : (touchOf ops recs j s.f s.σ s.out o).wr.contains i = true := by
          simp only [touchOf, List.contains_eq_mem, List.mem_append, decide_eq_true_eq]
          right; rw [List.mem_range'_1]; omega
        rw [if_pos this]
      · rw [at_ge (by omega)]
        split
        · rfl
        · rw [at_ge (by omega)]

/-! Entries added to a map. -/
theorem ins_spec {recs : List Touch} {j : Nat} {f : Fr} {σ out : St} {o : Oper} {d : Nat} {k : Sc} (h : (touchOf ops recs j f σ out o).ins = some (d, k)) :
    ∃ ty m kx x, o.op = .insert ty m kx x ∧ o.dst = none ∧ opds (frOf ops f o) m = .mp d ∧ (touchOf ops recs j f σ out o).rd = [d] ∧ (touchOf ops recs j f σ out o).wr = [d] ∧ out.length = σ.length ∧
      (opds (frOf ops f o) kx).below 0 = true ∧ (opd (frOf ops f o) x).below 0 = true ∧ k = opds (frOf ops f o) kx ∧ ∃ e1, out.at d = .mapo e1 := by
  have h' : insOf ops f σ out o (touchOf ops recs j f σ out o).rd (touchOf ops recs j f σ out o).wr = some (d, k) := h
  generalize (touchOf ops recs j f σ out o).rd = rd at h' ⊢
  generalize (touchOf ops recs j f σ out o).wr = wr at h' ⊢
  unfold insOf at h'
  split at h'
  · rename_i ty m kx x hop hdst
    split at h'
    · rename_i d0 d1 d2 hm
      split at h'
      · rename_i hc
        simp only [Bool.and_eq_true, beq_iff_eq] at hc
        split at h'
        · rename_i e1 he
          cases h'
          obtain ⟨⟨⟨⟨rfl, rfl⟩, h3⟩, h4⟩, h5⟩ := hc
          exact ⟨ty, m, kx, x, hop, hdst, hm, rfl, rfl, h3, h4, h5, rfl, e1, he⟩
        · cases h'
      · cases h'
    · cases h'
  · cases h'
theorem insert_run {o : Oper} {fr : Fr} {μ out : St} {v : AV} {ty : TypeId} {m kx x : Operand} {d : Nat} (ho : o.op = .insert ty m kx x) (hm : opds fr m = .mp d) (hrun : (operE P call o fr μ).run = some (v, out)) {e1 : List (Sc × AV)} (he : out.at d = .mapo e1) :
    ∃ es, μ.at d = .mapo es ∧ findE (opds fr kx) es 0 = some none ∧ out = μ.set d (.mapo (es ++ [(opds fr kx, opd fr x)])) ∧
      ∀ μ' es', μ'.at d = .mapo es' → findE (opds fr kx) es' 0 = some none → (operE P call o fr μ').run = some (v, μ'.set d (.mapo (es' ++ [(opds fr kx, opd fr x)]))) := by
  have e0 : ∀ μ, (operE0 P call o fr μ).run = ((insertE P ty (.mp d) (opds fr kx) (opd fr x) μ).bind fun σ' => .ok (AV.one .any, σ')).run := by
    intro μ
    unfold operE0
    split
    · rename_i h; rw [ho] at h; cases h
    · rw [named_run]
      unfold opE
      rw [ho]
      simp only
      rw [hm]
  have e : ∀ μ, (operE P call o fr μ).run = ((insertE P ty (.mp d) (opds fr kx) (opd fr x) μ).bind fun σ' => .ok (AV.one .any, σ')).run := by
    intro μ
    rw [← e0]
    unfold operE
    cases hx : (operE0 P call o fr μ).run with
    | none =>
      cases hy : ((operE0 P call o fr μ).bind (splitO o)).run with
      | none => rfl
      | some y => obtain ⟨z, hz, _⟩ := bind_some hy; rw [hx] at hz; cases hz
    | some y =>
      rw [bind_run hx]
      rw [e0] at hx
      obtain ⟨σ2, _, h2⟩ := bind_some hx
      cases h2
      unfold splitO; cases isCallO o <;> rfl
  rw [e] at hrun
  obtain ⟨σ', h, hr⟩ := bind_some hrun
  cases hr
  have notmaps : ∀ kk vk g, μ.at d ≠ .dead → out = μ.set d (.maps kk vk g) → False := by
    intro kk vk g hd e
    rw [e, St.at_set] at he
    split at he
    · cases he
    · rename_i hn
      refine hn ⟨rfl, ?_⟩
      rcases Nat.lt_or_ge d μ.length with h' | h'
      · exact h'
      · exact (hd (at_ge h')).elim
  unfold insertE at h
  split at h
  · rename_i kt ev id hu hid
    cases hid
    split at h
    · rename_i es kd hat hkd
      split at h
      · rename_i hfit
        split at h
        · rename_i hkn hfind
          cases h
          refine ⟨es, hat, hfind, rfl, fun μ' es' h1 h2 => ?_⟩
          rw [e]
          have : insertE P ty (.mp d) (opds fr kx) (opd fr x) μ' = .ok (μ'.set d (.mapo (es' ++ [(opds fr kx, opd fr x)]))) := by
            unfold insertE
            simp only [hu, h1, hkd, hfit, if_true, hkn, h2]
          rw [this]; rfl
        · split at h
          · split at h
            · split at h
              · cases h
                exact (notmaps _ _ _ (by rw [hat]; intro h; cases h) rfl).elim
              · cases h
            · cases h
          · cases h
      · cases h
    · rename_i kk vk' f kk' hat hkd
      split at h
      · split at h
        · cases h
          exact (notmaps _ _ _ (by rw [hat]; intro h; cases h) rfl).elim
        · cases h
      · cases h
    · cases h
  · cases h
theorem memOf_mapo {chg rd : List Nat} {σ : St} {d : Nat} {es : List (Sc × AV)} (h : (memOf chg rd σ 0).at d = .mapo es) : d < σ.length ∧ chg.contains d = true ∧ σ.at d = .mapo es := by
  rcases Nat.lt_or_ge d σ.length with hlt | hge
  · rw [memOf_at _ _ _ _ _ hlt, Nat.zero_add] at h
    split at h
    · rename_i hc; exact ⟨hlt, hc, h⟩
    · split at h
      · cases hx : σ.at d <;> (rw [hx] at h; cases h)
      · cases h
  · rw [at_ge (by rw [memOf_length]; exact hge)] at h; cases h
/-! Cells put into a row. -/
theorem sto_spec {recs : List Touch} {j : Nat} {f : Fr} {σ out : St} {o : Oper} {d off : Nat} {vs : List Sc} (h : (touchOf ops recs j f σ out o).sto = some (d, off, vs)) :
    ∃ ty ax x r sz fld hi, o.op = .store ty ax x ∧ o.dst = none ∧ opds (frOf ops f o) ax = .ptr d (.c r) sz fld hi ∧ off = offs r.toNat sz fld ∧ (opd (frOf ops f o) x).cells? = some vs ∧
      (touchOf ops recs j f σ out o).wr = [d] ∧ out.length = σ.length ∧ ∃ z l, out.at d = .row true z (.vals l) := by
  have h' : stoOf ops f σ out o (touchOf ops recs j f σ out o).wr = some (d, off, vs) := h
  generalize (touchOf ops recs j f σ out o).wr = wr at h' ⊢
  unfold stoOf at h'
  split at h'
  · rename_i ty ax x hop hdst
    split at h'
    · rename_i d0 r sz fld hi vs0 d2 h1 h2
      split at h'
      · rename_i hc
        simp only [Bool.and_eq_true, beq_iff_eq] at hc
        split at h'
        · rename_i z l he
          cases h'
          obtain ⟨rfl, h3⟩ := hc
          exact ⟨ty, ax, x, r, sz, fld, hi, hop, hdst, h1, rfl, h2, rfl, h3, z, l, he⟩
        · cases h'
      · cases h'
    · cases h'
  · cases h'
theorem sto_noins {recs : List Touch} {j : Nat} {f : Fr} {σ out : St} {o : Oper} {q : Nat × Nat × List Sc} (h : (touchOf ops recs j f σ out o).sto = some q) : (touchOf ops recs j f σ out o).ins = none := by
  obtain ⟨d, off, vs⟩ := q
  obtain ⟨ty, ax, x, _, _, _, _, h1, _⟩ := sto_spec h
  show insOf ops f σ out o _ _ = none
  unfold insOf
  rw [h1]
theorem store_run {o : Oper} {fr : Fr} {μ out : St} {v : AV} {ty : TypeId} {ax x : Operand} {d : Nat} {r : Int} {sz fld hi : Nat} {vs : List Sc} (ho : o.op = .store ty ax x) (hm : opds fr ax = .ptr d (.c r) sz fld hi) (hv : (opd fr x).cells? = some vs)
    (hrun : (operE P call o fr μ).run = some (v, out)) {z : Nat} {l1 : List Sc} (he : out.at d = .row true z (.vals l1)) :
    ∃ l, μ.at d = .row true z (.vals l) ∧ offs r.toNat sz fld + vs.length ≤ l.length ∧ out = μ.set d (.row true z (.vals (setL l (offs r.toNat sz fld) vs))) ∧
      ∀ μ' l', μ'.at d = .row true z (.vals l') → l'.length = l.length → (operE P call o fr μ').run = some (v, μ'.set d (.row true z (.vals (setL l' (offs r.toNat sz fld) vs)))) := by
  have e0 : ∀ μ, (operE0 P call o fr μ).run = ((storeE P ty (.ptr d (.c r) sz fld hi) (opd fr x) μ).bind fun σ' => .ok (AV.one .any, σ')).run := by
    intro μ
    unfold operE0
    split
    · rename_i h; rw [ho] at h; cases h
    · rw [named_run]
      unfold opE
      rw [ho]
      simp only
      rw [hm]
  have e : ∀ μ, (operE P call o fr μ).run = ((storeE P ty (.ptr d (.c r) sz fld hi) (opd fr x) μ).bind fun σ' => .ok (AV.one .any, σ')).run := by
    intro μ
    rw [← e0]
    unfold operE
    cases hx : (operE0 P call o fr μ).run with
    | none =>
      cases hy : ((operE0 P call o fr μ).bind (splitO o)).run with
      | none => rfl
      | some y => obtain ⟨z, hz, _⟩ := bind_some hy; rw [hx] at hz; cases hz
    | some y =>
      rw [bind_run hx]
      rw [e0] at hx
      obtain ⟨σ2, _, h2⟩ := bind_some hx
      cases h2
      unfold splitO; cases isCallO o <;> rfl
  rw [e] at hrun
  obtain ⟨σ', h, hr⟩ := bind_some hrun
  cases hr
  unfold storeE at h
  simp only at h
  split at h
  · rename_i z' c hat
    obtain ⟨n, hn, h⟩ := bind_some h
    have hn' := get_some hn
    obtain ⟨vs', hvs', h⟩ := bind_some h
    have := get_some hvs'
    rw [hv] at this; cases this
    split at h
    · rename_i hc
      obtain ⟨c', hc', h⟩ := bind_some h
      cases h
      have hlt : d < μ.length := by
        rcases Nat.lt_or_ge d μ.length with h' | h'
        · exact h'
        · rw [at_ge h'] at hat; cases hat
      rw [St.at_set, if_pos ⟨rfl, hlt⟩] at he
      cases he
      cases c with
      | vals l =>
        unfold Cells.write at hc'
        simp only at hc'
        split at hc'
        · rename_i hle
          cases hc'
          refine ⟨l, hat, hle, rfl, fun μ' l' h1 h2 => ?_⟩
          rw [e]
          have : (storeE P ty (.ptr d (.c r) sz fld hi) (opd fr x) μ').run = some (μ'.set d (.row true z (.vals (setL l' (offs r.toNat sz fld) vs)))) := by
            unfold storeE
            simp only [h1]
            rw [bind_run hn, bind_run hvs', if_pos hc]
            simp only [Cells.write, if_pos (h2 ▸ hle)]
            rfl
          rw [bind_run this]
          rfl
        · cases hc'
      | fn n ks f =>
        unfold Cells.write at hc'
        simp only at hc'
        split at hc'
        · obtain ⟨_, h⟩ := guard_some hc'
          cases h
        · cases hc'
      | ex k e =>
        unfold Cells.write at hc'
        simp only at hc'
        split at hc'
        · split at hc'
          · split at hc'
            · obtain ⟨_, h⟩ := guard_some hc'
              obtain ⟨_, h⟩ := guard_some h
              cases h
            · cases hc'
          · cases hc'
        · cases hc'
      | tb ks e => cases hc'
    · cases h
  · cases h
theorem memOf_row {chg rd : List Nat} {σ : St} {d z : Nat} {c : Cells} (h : (memOf chg rd σ 0).at d = .row true z c) : d < σ.length ∧ chg.contains d = true ∧ σ.at d = .row true z c := by
  rcases Nat.lt_or_ge d σ.length with hlt | hge
  · rw [memOf_at _ _ _ _ _ hlt, Nat.zero_add] at h
    split at h
    · rename_i hc; exact ⟨hlt, hc, h⟩
    · split at h
      · cases hx : σ.at d <;> (rw [hx] at h; cases h)
      · cases h
  · rw [at_ge (by rw [memOf_length]; exact hge)] at h; cases h
theorem put_next {o : Oper} {j : Nat} {recs : List Touch} {f : Fr} {s : DStep} (hs : StepOk P call ops o j recs f s.σ s) {i : Nat} (hw : s.t.wr.contains i = true) : s.put i (s.σ.at i) = s.out.at i := by
  unfold DStep.put
  cases hi : s.t.ins with
  | none =>
    simp only [Option.isSome_none, Bool.false_eq_true, if_false]
    split
    · rename_i d off vs hst
      cases hex : s.ex with
      | false => rw [(hs.skip hex).2.1] at hst; cases hst
      | true =>
        obtain ⟨ht, hb1, hb2, hrun, hn, hd, _⟩ := hs.exec hex
        rw [ht] at hst hw
        obtain ⟨ty, ax, x, r, sz, fld, hi', h1, h2, h3, h4, h5, h6, h7, z, l1, h8⟩ := sto_spec hst
        rw [h6] at hw
        have hid : i = d := by simpa using hw
        subst hid
        obtain ⟨l, q1, q2, q3, _⟩ := store_run h1 h3 h5 hrun h8
        obtain ⟨r1, r2, r3⟩ := memOf_row q1
        rw [r3, q3, St.at_set, if_pos ⟨rfl, by rw [memOf_length]; exact r1⟩, h4]
        rfl
    · rfl
  | some p =>
    obtain ⟨d, k⟩ := p
    cases hex : s.ex with
    | false => rw [(hs.skip hex).2.1] at hi; cases hi
    | true =>
      obtain ⟨ht, hb1, hb2, hrun, hn, hd, _⟩ := hs.exec hex
      rw [ht] at hi hw
      obtain ⟨ty, m, kx, x, h1, h2, h3, h4, h5, h6, h7, h8, h9, e1, h10⟩ := ins_spec hi
      rw [h5] at hw
      have hid : i = d := by simpa using hw
      subst hid
      obtain ⟨es, q1, q2, q3, _⟩ := insert_run h1 h3 hrun h10
      obtain ⟨r1, r2, r3⟩ := memOf_mapo q1
      simp only [Option.isSome_some, if_true]
      rw [r3, q3, St.at_set, if_pos ⟨rfl, by rw [memOf_length]; exact r1⟩]
      simp [lastE, insM]

theorem chain_good : ∀ (l : List Oper) (j : Nat) (recs : List Touch) (f f' : Fr) (σ σ' : St) (T : List DStep), Chain P call ops l j recs f σ T f' σ' → ∀ (TT : List DStep) (f0 : Fr) (σ0 : St),
    (∀ (k : Nat), T[k]? = TT[j + k]?) → Hist TT j recs → (∀ i, Imp (slotS TT 0 (fun m => decide (m < j)) i (f0.get i)) (f.get i)) → (∀ i, objS TT 0 (fun m => decide (m < j)) i (σ0.at i) = σ.at i) → f.n = f0.n → σ0.length ≤ σ.length → (∀ k', k' < j → ∀ s', TT[k']? = some s' → s'.next.length ≤ σ.length) →
    (∀ k s, T[k]? = some s → (∃ recs f, Good P call ops TT f0 σ0 σ' (j + k) s recs f) ∧ l[k]? = some s.o) ∧ T.length = l.length ∧
    (∀ i, Imp (slotS TT 0 (fun m => decide (m < j + l.length)) i (f0.get i)) (f'.get i)) ∧ (∀ i, objS TT 0 (fun m => decide (m < j + l.length)) i (σ0.at i) = σ'.at i) ∧ f'.n = f0.n ∧ σ.length ≤ σ'.length := by
  intro l j recs f f' σ σ' T hch
  induction hch with
  | nil =>
    intro TT f0 σ0 hT hh hV hM hn hl hls
    exact ⟨fun k s h => by simp at h, rfl, hV, hM, hn, Nat.le_refl _⟩
  | @cons o r j recs f f' σ σ' s T hs hch ih =>
    intro TT f0 σ0 hT hh hV hM hn hl hls
    obtain ⟨so, sm⟩ : s.o = o ∧ s.σ = σ := ⟨hs.op, hs.mem⟩
    subst so sm
    have hTj : TT[j]? = some s := by have := hT 0; simpa using this.symm
    have hlt : j < TT.length := (List.getElem?_eq_some_iff.1 hTj).1
    have hdst : s.t.dst = s.o.dst := by
      cases hex : s.ex with
      | false => rw [(hs.skip hex).2.1]; rfl
      | true => rw [(hs.exec hex).1]; rfl
    have hVn : ∀ i, slotS TT 0 (fun m => decide (m < j + 1)) i (f0.get i) = if s.o.dst == some i then s.v else slotS TT 0 (fun m => decide (m < j)) i (f0.get i) := by
      intro i
      by_cases hd : s.o.dst = some i
      · rw [hd]
        simp only [beq_self_eq_true, if_true]
        refine slotS_last i TT 0 _ _ j s hTj (by simp) (hdst.trans hd) fun k' t' hk' _ _ => by simp; omega
      · have : (s.o.dst == some i) = false := by simpa using hd
        rw [this]
        simp only [Bool.false_eq_true, if_false]
        refine slotS_congr i TT 0 _ _ _ fun k t hk hd' => ?_
        have : k ≠ j := by intro e; subst e; rw [hTj] at hk; cases hk; exact hd (hdst ▸ hd')
        simp only [Nat.zero_add, decide_eq_decide]; omega
    have hMn : ∀ i, objS TT 0 (fun m => decide (m < j + 1)) i (σ0.at i) = s.next.at i := by
      intro i
      rw [next_at hs]
      split
      · rename_i hw
        rw [objS_top i TT 0 _ (fun m => decide (m < j)) _ j s hTj (by simp) (by simp) hw (fun k' t' hk' _ _ => by simp only [Nat.zero_add, decide_eq_decide]; omega) (fun k' t' hk' _ _ => by simp; omega), hM i]
        exact put_next hs hw
      · rename_i hw
        rw [← hM i]
        refine objS_congr i TT 0 _ _ _ fun k t hk hd' => ?_
        have : k ≠ j := by intro e; subst e; rw [hTj] at hk; cases hk; exact hw hd'
        simp only [Nat.zero_add, decide_eq_decide]; omega
    obtain ⟨g1, g2, g3, g4, g5, g6⟩ := ih TT f0 σ0 (fun k => by have := hT (k + 1); rw [show j + 1 + k = j + (k + 1) by omega]; simpa using this)
      ⟨by simp [hh.1], fun i hi => by
        by_cases e : i = j
        · subst e; exact ⟨s, hTj, by simp⟩
        · obtain ⟨s', h1, h2⟩ := hh.2 i (by omega)
          refine ⟨s', h1, ?_⟩
          rw [show j + 1 - 1 - i = (j - 1 - i) + 1 by omega]
          simpa using h2⟩
      (fun i => by rw [hVn i]; exact Imp.put (fun s' => (hV s').trans (hs.imp s')) i) hMn (by rw [← hn, ← hs.fn]; cases s.o.dst <;> simp [putF, Fr.set_n]) (Nat.le_trans hl (next_len s)) (fun k' hk' s' h' => by
        by_cases e : k' = j
        · subst e; rw [hTj] at h'; cases h'; exact Nat.le_refl _
        · exact Nat.le_trans (hls k' (by omega) s' h') (next_len s))
    refine ⟨fun k s' hk => ?_, by simp [g2], ?_, ?_, g5, Nat.le_trans (next_len s) g6⟩
    · cases k with
      | zero =>
        cases hk
        exact ⟨⟨recs, f, hs, hh, hV, hM, hn, hl, Nat.le_trans (next_len s) g6, g6, hls⟩, rfl⟩
      | succ k =>
        obtain ⟨h1, h2⟩ := g1 k s' (by simpa using hk)
        rw [show j + (k + 1) = j + 1 + k by omega]
        exact ⟨h1, by simpa using h2⟩
    · rw [List.length_cons, show j + (r.length + 1) = j + 1 + r.length by omega]; exact g3
    · rw [List.length_cons, show j + (r.length + 1) = j + 1 + r.length by omega]; exact g4
end
end Go.SX
