/- Code: the rules, put together. -/
import Derived.Test.YtfacghikjnjjmaaSx11
namespace Go.SX
open Go Go.Lib
set_option linter.unusedSectionVars false
variable [Env]

section
variable {P : Program} {call : FuncId → List AV → St → Out (AV × St)} {cf : Cfg} {n0 : Nat}

def DrawOk (P : Program) (call : FuncId → List AV → St → Out (AV × St)) : Prop :=
  ∀ (D : Nat → Bool) (n0 id : Nat) (ops : Array Oper) (f f' : Fr) (σ σ' : St) (e : Ex) (ρ : Nat → Loc) (a : Act) (w : World) (Q : Exit → Act → World → Prop),
    ops.toList.all (opD D) = true → n0 ≤ σ.length → At ρ f σ a w → (drawE P call ops f σ).run = some (e, f', σ') → Then D n0 ρ σ a w e f' σ' Q → (Code.region id ops true).wp P Q a w

theorem cond_bool {ρ : Nat → Loc} {n : Nat} {f : Fr} {a : Act} {c : Operand} {b : B} (h : FRel ρ n f a.tmps) (e : opds f c = .bool b) : a.eval c = .bool b.den := by
  have hr := opds_rel h c
  rw [e] at hr; exact hr

theorem codeE_wp (hc : CallSound P call) (hn : NamesOk P) (hdr : DrawOk P call) {D : Nat → Bool} : ∀ (c : Code) (f f' : Fr) (σ σ' : St) (e : Ex) (ρ : Nat → Loc) (a : Act) (w : World) (Q : Exit → Act → World → Prop),
    codeD D c = true → n0 ≤ σ.length → At ρ f σ a w → LoopsOk P cf n0 c → (codeE P call cf n0 c f σ).run = some (e, f', σ') → Then D n0 ρ σ a w e f' σ' Q → c.wp P Q a w
  | .skip, f, f', σ, σ', e, ρ, a, w, Q, hD, hl, hat, _, h, hq => by
    cases h
    exact wp_skip (hq ρ a w hat (ExtN.refl _ _ _ hl) (.refl _ _))
  | .region id ops d, f, f', σ, σ', e, ρ, a, w, Q, hD, hl, hat, _, h, hq => by
    simp only [codeE] at h
    cases d with
    | true => exact hdr D n0 id ops f f' σ σ' e ρ a w Q hD hl hat h hq
    | false =>
      simp only [Bool.false_eq_true, if_false] at h
      exact wp_region (opsE_wp hc hn (D := D) hD _ _ _ _ _ _ _ _ _ hat h fun ρ' a' w' p1 p2 p3 => hq ρ' a' w' p1 (p2.toN hl) p3)
  | .seq x y, f, f', σ, σ', e, ρ, a, w, Q, hD, hl, hat, hlo, h, hq => by
    simp only [codeE] at h
    obtain ⟨⟨e1, f1, σ1⟩, h1, h2⟩ := bind_some h
    have hD := Bool.and_eq_true_iff.1 hD
    refine wp_seq (codeE_wp hc hn hdr x f f1 σ σ1 e1 ρ a w _ hD.1 hl hat hlo.1 h1 fun ρ1 a1 w1 p1 p2 p3 => ?_)
    cases e1 with
    | normal =>
      exact codeE_wp hc hn hdr y f1 f' σ1 σ' e ρ1 a1 w1 _ hD.2 p2.len p1 hlo.2 h2 fun ρ2 a2 w2 q1 q2 q3 => hq ρ2 a2 w2 q1 (p2.trans q2) (p3.trans q3)
    | exit i => cases h2; exact hq ρ1 a1 w1 p1 p2 p3
    | ret => cases h2; exact hq ρ1 a1 w1 p1 p2 p3
    | pan t p => cases h2; exact fun val hv => hq ρ1 a1 w1 p1 p2 p3 val hv
  | .cond c x y, f, f', σ, σ', e, ρ, a, w, Q, hD, hl, hat, hlo, h, hq => by
    simp only [codeE] at h
    split at h
    · rename_i t ht
      have hv := cond_bool hat.fr ht
      rcases ite_some h with ⟨hb, h'⟩ | ⟨hb, h'⟩
      · rw [hb] at hv
        exact wp_cond_true hv (codeE_wp hc hn hdr x f f' σ σ' e ρ a w Q (Bool.and_eq_true_iff.1 hD).1 hl hat hlo.1 h' hq)
      · rw [hb] at hv
        exact wp_cond_false hv (codeE_wp hc hn hdr y f f' σ σ' e ρ a w Q (Bool.and_eq_true_iff.1 hD).2 hl hat hlo.2 h' hq)
    · cases h
  | .block id b, f, f', σ, σ', e, ρ, a, w, Q, hD, hl, hat, hlo, h, hq => by
    simp only [codeE] at h
    obtain ⟨⟨e1, f1, σ1⟩, h1, h2⟩ := bind_some h
    refine wp_block (codeE_wp hc hn hdr b f f1 σ σ1 e1 ρ a w _ hD hl hat hlo h1 fun ρ1 a1 w1 p1 p2 p3 => ?_)
    cases e1 with
    | normal => cases h2; exact hq ρ1 a1 w1 p1 p2 p3
    | exit i =>
      cases h2
      simp only [ExPost, Exit.inBlock]
      by_cases hi : i = id
      · rw [if_pos hi]
        have := hq ρ1 a1 w1 p1 p2 p3
        rw [if_pos hi] at this
        exact this
      · rw [if_neg hi]
        have := hq ρ1 a1 w1 p1 p2 p3
        rw [if_neg hi] at this
        exact this
    | ret => cases h2; exact hq ρ1 a1 w1 p1 p2 p3
    | pan t p => cases h2; exact fun val hv => hq ρ1 a1 w1 p1 p2 p3 val hv
  | .loop b, f, f', σ, σ', e, ρ, a, w, Q, hD, hl, hat, hlo, h, hq => by
    simp only [codeE] at h
    cases ht : tidy cf n0 (firstRegion b) f σ with
    | none => rw [ht] at h; cases h
    | some p =>
      obtain ⟨f1, σ1⟩ := p
      rw [ht] at h
      simp only at h
      obtain ⟨ρ1, p1, p2⟩ := tidy_sound ht hl hat
      have hrounds : ∀ (k : Nat) (f1 f' : Fr) (σ1 σ' : St) (e : Ex) (ρ1 : Nat → Loc) (a1 : Act) (w1 : World) (Q : Exit → Act → World → Prop), n0 ≤ σ1.length → At ρ1 f1 σ1 a1 w1 →
          (loopN0 (tidy cf n0 (firstRegion b)) (codeE P call cf n0 b) k f1 σ1).run = some (e, f', σ') → Then D n0 ρ1 σ1 a1 w1 e f' σ' Q → Code.rounds P b Q k a1 w1 := by
        intro k
        induction k with
        | zero => intro f1 f' σ1 σ' e ρ1 a1 w1 Q _ _ h _; cases h
        | succ k ih =>
          intro f1 f' σ1 σ' e ρ1 a1 w1 Q hl hat h hq
          simp only [loopN0] at h
          obtain ⟨⟨e2, f2, σ2⟩, h1, h2⟩ := bind_some h
          rw [rounds_succ]
          refine codeE_wp hc hn hdr b f1 f2 σ1 σ2 e2 ρ1 a1 w1 _ hD hl hat hlo.1 h1 fun ρ2 a2 w2 q1 q2 q3 => ?_
          cases e2 with
          | normal =>
            simp only at h2
            cases ht : tidy cf n0 (firstRegion b) f2 σ2 with
            | none => rw [ht] at h2; cases h2
            | some p =>
              obtain ⟨f3, σ3⟩ := p
              rw [ht] at h2
              simp only at h2
              obtain ⟨ρ3, r1, r2⟩ := tidy_sound ht q2.len q1
              exact ih f3 f' σ3 σ' e ρ3 a2 w2 Q r2.len r1 h2 fun ρ4 a4 w4 s1 s2 s3 => hq ρ4 a4 w4 s1 ((q2.trans r2).trans s2) (q3.trans s3)
          | exit i => cases h2; exact hq ρ2 a2 w2 q1 q2 q3
          | ret => cases h2; exact hq ρ2 a2 w2 q1 q2 q3
          | pan t p => cases h2; exact fun val hv => hq ρ2 a2 w2 q1 q2 q3 val hv
      cases hlc : cf.lc (firstRegion b) with
      | none =>
        rw [hlc] at h
        rw [loopN_run _ (fun fs e => by
          cases hm : cf.lm (firstRegion b) with
          | false => rw [hm] at e; cases e
          | true => rw [hm] at e; cases e; exact hlo.2.2)] at h
        exact wp_loop_rounds cf.fuel (hrounds _ _ _ _ _ _ _ _ _ _ p2.len p1 h fun ρ4 a4 w4 s1 s2 s3 => hq ρ4 a4 w4 s1 (p2.trans s2) s3)
      | some g =>
        rw [hlc] at h
        exact hlo.2.1 g hlc f1 σ1 e f' σ' h D ρ1 a w Q hD p2.len p1 fun ρ4 a4 w4 s1 s2 s3 => hq ρ4 a4 w4 s1 (p2.trans s2) s3
  | .exit i, f, f', σ, σ', e, ρ, a, w, Q, hD, hl, hat, _, h, hq => by
    cases h
    exact wp_exit (hq ρ a w hat (ExtN.refl _ _ _ hl) (.refl _ _))
  | .ret, f, f', σ, σ', e, ρ, a, w, Q, hD, hl, hat, _, h, hq => by
    cases h
    exact wp_ret (hq ρ a w hat (ExtN.refl _ _ _ hl) (.refl _ _))
  | .rangeFunc .., _, _, _, _, _, _, _, _, _, _, _, _, _, h, _ => by cases h
  | .scope _, _, _, _, _, _, _, _, _, _, _, _, _, _, h, _ => by cases h
  | .label _, _, _, _, _, _, _, _, _, _, _, _, _, _, h, _ => by cases h
  | .goto _, _, _, _, _, _, _, _, _, _, _, _, _, _, h, _ => by cases h
  | .refuse _, _, _, _, _, _, _, _, _, _, _, _, _, _, h, _ => by cases h
end
end Go.SX
