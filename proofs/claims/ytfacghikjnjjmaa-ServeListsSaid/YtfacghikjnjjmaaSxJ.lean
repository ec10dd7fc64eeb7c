/- Contracts whose results are told by ways, as far as they are known. -/
import Derived.Test.YtfacghikjnjjmaaSxI
namespace Go.SX
open Go Go.Lib
set_option linter.unusedSectionVars false
section
variable [Env]
/-- the second number of arguments' terms, and what must hold -/
def b0A : E → E × B
  | .cn n (.cc (.sb e o m) r) => if n.beq m then (selE o e, B.mkAnd (B.le (.c 0) (xOf o)) (B.le ((xOf o).plus (xOf n)) (.ex (.ln e)))) else (selE (.num 1) (.cn n (.cc (.sb e o m) r)), .c true)
  | .cn n (.cc e r) => if n.beq (.ln e) then (selE (.num 0) e, .c true) else (selE (.num 1) (.cn n (.cc e r)), .c true)
  | a => (selE (.num 1) a, .c true)
theorem b0A_ok {a : E} (hg : (b0A a).2.den = true) (h : 0 < a.dens.headD 0) : (b0A a).1.den = a.dens.getD 1 0 := by
  have dflt : ∀ a : E, (selE (.num 1) a).den = a.dens.getD 1 0 := fun a => selE_den a _
  unfold b0A at hg ⊢
  split at hg
  · rename_i n e o m r
    split at hg
    · rename_i hb
      cases E.beq_eq hb
      rw [mkAnd_den, Bool.and_eq_true, le_den, le_den, plus_den, xOf_den, xOf_den] at hg
      have g1 : 0 ≤ o.den := hg.1
      have g2 : o.den + n.den ≤ ((e.D.2.length : Nat) : Int) := hg.2
      have h0 : 0 < n.den := h
      rw [if_pos hb]
      show (selE o e).den = _
      rw [selE_den]
      show _ = (n.D.1 :: ((e.D.2.drop o.den.toNat).take n.den.toNat ++ r.D.2)).getD 1 0
      rw [List.getD_cons_succ, List.getD_eq_getElem?_getD, List.getD_eq_getElem?_getD, List.getElem?_append_left (by rw [List.length_take, List.length_drop]; omega), List.getElem?_take, if_pos (by omega), List.getElem?_drop, Nat.add_zero]
    · rename_i hb
      rw [if_neg hb]
      exact dflt _
  · rename_i n e r hne
    split at hg
    · rename_i hb
      have hb' := E.beq_eq hb
      rw [if_pos hb]
      show (selE (.num 0) e).den = _
      rw [selE_den]
      have h0 : 0 < n.den := h
      have hn : n.den = ((e.D.2.length : Nat) : Int) := by rw [hb']; rfl
      show _ = (n.D.1 :: (e.D.2 ++ r.D.2)).getD 1 0
      rw [List.getD_cons_succ, List.getD_eq_getElem?_getD, List.getD_eq_getElem?_getD, List.getElem?_append_left (by omega)]
      rfl
    · rename_i hb
      rw [if_neg hb]
      exact dflt _
  · exact dflt _
def outEs (hb : Nat) (f : Nat) (e : E) : List CT → List (Int × Int) → Nat → List E
  | .sc .bool :: ts, _ :: bs, i => .ap (f + i) e 0 1 :: outEs hb f e ts bs (i + 1)
  | _ :: ts, b :: bs, i => .ap (if hb.testBit i then f + i + HB else f + i) e b.1 b.2 :: outEs hb f e ts bs (i + 1)
  | _, _, _ => []
def RT.out : RT → Out (List E)
  | .lf l => .ok l
  | .br c t e => .br (.ex c) (fun _ => t.out) (fun _ => e.out)
theorem RT.out_run : ∀ {r : RT} {l : List E}, r.out.run = some l → l.map E.den = r.den
  | .lf l, _, h => by cases h; rfl
  | .br c t e, l, h => by
    simp only [RT.out, Out.run] at h
    simp only [RT.den]
    cases hc : B.den (.ex c) with
    | true =>
      rw [hc] at h
      have hc : c.den = true := hc
      rw [hc]; exact RT.out_run (r := t) h
    | false =>
      rw [hc] at h
      have hc : c.den = false := hc
      rw [hc]; exact RT.out_run (r := e) h
def rpsE : List CT → List E → List Rp
  | .sc .bool :: ts, e :: l => .b (.ex (.eq e (.num 1))) :: rpsE ts l
  | _ :: ts, e :: l => .n (xOf e) :: rpsE ts l
  | _, _ => []
theorem rpsE_cvs : ∀ {ts : List CT} {bs : List (Int × Int)} {ns : List Int} {l : List E}, inBs ts bs ns → l.map E.den = ns → rpCVs ts (rpsE ts l) = mkCVs ts ns ∧ rpsOk ts (rpsE ts l) = true ∧ ts.all scT = true
  | [], bs, ns, l, h, hl => by
    cases bs <;> cases ns <;> first | (cases h; done) | (cases l <;> first | exact ⟨rfl, rfl, rfl⟩ | cases hl)
  | t :: ts, bs, ns, l, h, hl => by
    cases bs with
    | nil => cases t <;> first | (cases h; done) | (rename_i k; cases k <;> cases h)
    | cons b bs =>
      cases ns with
      | nil => cases t <;> first | (cases h; done) | (rename_i k; cases k <;> cases h)
      | cons n ns =>
        cases l with
        | nil => cases hl
        | cons e l =>
          rw [List.map_cons, List.cons.injEq] at hl
          obtain ⟨h1, h2⟩ := hl
          cases t <;> first | (cases h; done) | skip
          rename_i k
          cases k with
          | int k =>
            obtain ⟨_, h⟩ := h
            obtain ⟨q1, q2, q3⟩ := rpsE_cvs h h2
            refine ⟨?_, ?_, by simp [scT, q3]⟩
            · show CV.n (xOf e).den :: _ = CV.n n :: _
              rw [xOf_den, h1, q1]
            · simp only [rpsE, rpsOk, Rp.ok, q2, Bool.and_self]
          | bool =>
            obtain ⟨⟨_, _⟩, h⟩ := h
            obtain ⟨q1, q2, q3⟩ := rpsE_cvs h h2
            refine ⟨?_, ?_, by simp [scT, q3]⟩
            · show CV.b (e.den == (1 : Int)) :: _ = CV.b (iB n) :: _
              rw [h1, q1]; rfl
            · simp only [rpsE, rpsOk, Rp.ok, q2, Bool.and_self]
theorem outEs_den {hb : Nat} {f : Nat} {e : E} (hfb : f + 100000 < HB) : ∀ {ts : List CT} {bs : List (Int × Int)} {ns : List Int} {i : Nat}, i + ns.length < 100000 → inBs ts (rsv hb (e.dens.headD 0) bs i) ns → (∀ j, j < ns.length → Env.app (f + (i + j)) e.dens = ns.getD j 0) → (outEs hb f e ts bs i).map E.den = ns
  | [], bs, ns, i, _, h, _ => by
    cases bs <;> cases ns <;> first | rfl | cases h
  | t :: ts, bs, ns, i, hlt, h, ha => by
    cases bs with
    | nil => cases t <;> first | (cases h; done) | (rename_i k; cases k <;> cases h)
    | cons b bs =>
      cases ns with
      | nil => cases t <;> first | (cases h; done) | (rename_i k; cases k <;> cases h)
      | cons n ns =>
        cases t <;> first | (cases h; done) | skip
        rename_i k
        simp only [List.length_cons] at hlt
        have hn : Env.app (f + i) e.D.2 = n := by have h0 := ha 0 (by simp); rw [Nat.add_zero] at h0; exact h0
        have hr : ∀ j, j < ns.length → Env.app (f + (i + 1 + j)) e.dens = ns.getD j 0 := fun j hj => by
          have := ha (j + 1) (by simp; omega)
          rw [show i + 1 + j = i + (j + 1) by omega, this]; simp
        have m1 : (f + i) % HB = f + i := Nat.mod_eq_of_lt (by omega)
        have m2 : (f + i + HB) % HB = f + i := by rw [Nat.add_mod_right, m1]
        cases k with
        | int k =>
          obtain ⟨h1, h2⟩ := h
          have q := outEs_den hfb (i := i + 1) (by omega) h2 hr
          show E.den (.ap (if hb.testBit i then f + i + HB else f + i) e b.1 b.2) :: _ = n :: ns
          rw [q]
          refine congrArg (fun x => x :: ns) ?_
          cases hbit : hb.testBit i with
          | false =>
            simp only [hbit, Bool.false_eq_true, if_false] at h1 ⊢
            show clampI b.1 (hiA (f + i) b.2 e.D.2) (Env.app ((f + i) % HB) e.D.2) = n
            rw [m1, hn]
            unfold hiA
            rw [if_neg (by omega), clamp_eq h1]
          | true =>
            simp only [hbit, if_true] at h1 ⊢
            show clampI b.1 (hiA (f + i + HB) b.2 e.D.2) (Env.app ((f + i + HB) % HB) e.D.2) = n
            rw [m2, hn]
            unfold hiA
            rw [if_pos (by omega)]
            exact clamp_eq h1
        | bool =>
          obtain ⟨⟨_, h1⟩, h2⟩ := h
          have q := outEs_den hfb (i := i + 1) (by omega) h2 hr
          show clampI 0 (hiA (f + i) 1 e.D.2) (Env.app ((f + i) % HB) e.D.2) :: _ = n :: ns
          rw [m1, hn, q]
          unfold hiA
          rw [if_neg (by omega), clamp_eq (by omega)]
/-- a contract whose results are told by ways -/
def tCon (j : Nat) (s : Sig) (f : E → E → List E → RT) (pre : E → Bool) (pg : E → B := fun _ => .c true) : Con := fun args σ =>
  match (flatA s.pts args).bind (termsIn σ (flatT s.pts)) with
  | some (e, g) => .guard g (.guard (pg e) (.guard (b0A e).2 (bif pre e then (f e (b0A e).1 (outEs s.hb (64 * j) e (flatT s.rts) s.bs 0)).out.bind fun l => .ok (resAV s.rts (rpCells (flatT s.rts) (rpsE (flatT s.rts) l) 0), σ) else .fail "contract: pre")))
  | none => .fail "contract"
theorem tCon_sound {P : Program} {j : Nat} {s : Sig} {f : E → E → List E → RT} {pre : E → Bool} {pg : E → B} {g : FuncId} (hrt : s.rt = some f) (hg : g ∈ s.gs) (hfn : ∃ fn, P.funcs[g]? = some fn ∧ fn.body.isSome = true) (hfl : (flatT s.pts).all flatB = true) (hlen : s.bs.length ≤ 64) (hj : j < 1000000 := by decide)
    (happ : ∀ i l, i < 64 → Env.app (64 * j + i) l = (Res P s l).getD i 0)
    (hpre : ∀ e cvs, pre e = true → (pg e).den = true → (∃ w vs, AllV w (flatT s.pts) cvs vs) → e.dens = encs cvs → HasRes P s cvs) : ∀ args σ v σ', (tCon j s f pre pg args σ).run = some (v, σ') → Den P g args σ v σ' := by
  intro args σ v σ' hrun
  unfold tCon at hrun
  split at hrun
  · rename_i e gg hin
    obtain ⟨c, hc1, hc2⟩ := Option.bind_eq_some_iff.1 hin
    obtain ⟨hgg, hrun⟩ := guard_some hrun
    obtain ⟨hpg, hrun⟩ := guard_some hrun
    obtain ⟨hgb, hrun⟩ := guard_some hrun
    cases hp : pre e with
    | false => rw [hp] at hrun; cases hrun
    | true =>
      rw [hp] at hrun
      obtain ⟨l, hl, hrun⟩ := bind_some hrun
      cases hrun
      refine ⟨hfn, fun ρ w vals hrel _ hv => ?_⟩
      have hv2 : ∀ (i : Nat) x y, args[i]? = some x → vals.toList[i]? = some y → ARel ρ σ.length x y := fun i x y a b => hv.2 i x y a (by simpa using b)
      have hal : args.length = vals.toList.length := by simpa using hv.1
      have hvo := valsOk_of s.pts args vals.toList c hal hv2 hc1
      have hlr := flat_rel s.pts args vals.toList c hal hv2 hc1
      obtain ⟨cvs, hall, he⟩ := terms_in hrel hlr hc2 hgg
      obtain ⟨k1, kp, k2⟩ := Res_ok (hpre e cvs hp hpg ⟨w, _, hall⟩ he) (decs_encs hfl hall)
      have hrl : ∀ {bs : List (Int × Int)} {hd : Int} {i : Nat}, (rsv s.hb hd bs i).length = bs.length := by
        intro bs hd
        induction bs with
        | nil => intro i; rfl
        | cons b bs ih => intro i; simp [rsv, ih]
      have hnl : ∀ {ts : List CT} {bs : List (Int × Int)} {ns : List Int}, inBs ts bs ns → ns.length = bs.length := by
        intro ts
        induction ts with
        | nil => intro bs ns h; cases bs <;> cases ns <;> first | rfl | cases h
        | cons t ts ih =>
          intro bs ns h
          cases bs <;> cases ns <;> cases t <;> first | (cases h; done) | (rename_i k; cases k <;> first | (cases h; done) | (simp only [List.length_cons]; rw [ih h.2]))
      have k1' : inBs (flatT s.rts) (rsv s.hb (e.dens.headD 0) s.bs 0) (Res P s (encs cvs)) := by rw [he]; exact k1
      have hout := outEs_den (hb := s.hb) (f := 64 * j) (e := e) (by unfold HB; omega) (i := 0) (by rw [hnl k1, hrl]; omega) k1' fun i hi => by
        rw [Nat.zero_add, he]
        exact happ i _ (by rw [hnl k1, hrl] at hi; omega)
      have hlden : l.map E.den = Res P s (encs cvs) := by
        rw [RT.out_run hl]
        unfold Post at kp
        rw [hrt] at kp
        exact kp inferInstance e _ _ he (fun h => by rw [← he] at h ⊢; exact b0A_ok hgb h) hout
      obtain ⟨o1, o2, o3⟩ := rpsE_cvs k1' hlden
      refine (k2 g hg w vals hvo hall).mono fun e' w' he' => ?_
      obtain ⟨val, rfl, ⟨r1, r2, r3⟩, hcalm⟩ := he'
      obtain ⟨k3, k4⟩ := hrel.calm hcalm
      rw [← o1] at r3
      obtain ⟨k5, k6⟩ := resAV_rel r1 r2 (rp_out (ρ := ρ) (n := σ.length) _ _ _ 0 o3 o2 r3)
      exact ⟨val, ρ, by unfold EndIs; rw [k6]; rfl, k5, k3, k4⟩
  · cases hrun
end
end Go.SX
