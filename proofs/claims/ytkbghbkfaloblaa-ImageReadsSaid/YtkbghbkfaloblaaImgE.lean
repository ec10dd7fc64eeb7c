/- ImageReads: true, whatever the input. -/
import Derived.Test.YtkbghbkfaloblaaImgR0
import Derived.Test.YtkbghbkfaloblaaImgR1
import Derived.Test.YtkbghbkfaloblaaImgR2
import Derived.Test.YtkbghbkfaloblaaImgR3
import Derived.Test.YtkbghbkfaloblaaImgR4
namespace Go.SX.Img
open Go Go.SX Go.Proofs
set_option maxRecDepth 1000000
set_option linter.unusedSectionVars false
theorem readsL [Env] : ((longs 200 (flatT pts4) 0).all fun f => (callE Try.prog envR (cfgR []) 12 4 (argsOf pts4) (objsOf pts4)).good leafTrue [f]) = true := by kernel_rfl
def wsR (j : Nat) : Option WSig := if j = 200 then some wR else none
/-- two lists by names -/
@[reducible] noncomputable def EN (xs : List Int) (ls : List (List Int)) (A B : List Int) : Env where
  val := (envW base wsR (E0 xs ls)).val
  app := (envW base wsR (E0 xs ls)).app
  lst i l := if i = 78 then A else if i = 79 then B else (E0 xs ls).lst i l
theorem loops15 : loopsC ((Try.f15.body).getD .skip) = [(3, loopOf Try.prog 15 0)] := by kernel_rfl
theorem happN (xs : List Int) (ls : List (List Int)) (A B : List Int) : ∀ i l, i < 64 → (EN xs ls A B).app (64 * 200 + i) l = (Wh base wR l).getD i 0 :=
  fun i l hi => envW_app (base := base) (e := E0 xs ls) (s := wR) (ws := wsR) rfl i l hi
theorem envOkN (xs : List Int) (ls : List (List Int)) (A B : List Int) (fs : List Fk) (hf : @Holds (EN xs ls A B) fs) : @EnvOk (EN xs ls A B) Try.prog (@envR (EN xs ls A B)) (@cfgR (EN xs ls A B) fs) := by
  letI : Env := EN xs ls A B
  refine ⟨names, fun g c h => ?_, fun g fn c σ hg hfn hc => ?_⟩
  · unfold envR at h
    split at h
    · rename_i e; subst e; cases h
      exact trueCon_sound ⟨_, Try.func7, rfl⟩ law7
    · cases h
  · unfold cfgR
    split
    · rename_i e; subst e
      rw [Try.func17] at hfn
      cases hfn
      refine LoopsOk.of fun p hp g' hg' => ?_
      have hb : Try.f17.body.getD .skip = c := by rw [hc]; rfl
      rw [← hb, loops17, List.mem_singleton] at hp
      subst hp
      simp only [if_true, Option.some.injEq] at hg'
      subst hg'
      exact wCon_sound (j := 200) okP (EN xs ls A B) (by decide) (by decide) 4 (resP (EN xs ls A B) (happN xs ls A B)) _
    · split
      · rename_i e; subst e
        rw [Try.func15] at hfn
        cases hfn
        refine LoopsOk.of fun p hp g' hg' => ?_
        have hb : Try.f15.body.getD .skip = c := by rw [hc]; rfl
        rw [← hb, loops15, List.mem_singleton] at hp
        subst hp
        simp only [if_true, Option.some.injEq] at hg'
        subst hg'
        exact wCon_sound (j := 200) okR (EN xs ls A B) (by decide) (by decide) 4 (res_own rfl (happN xs ls A B)) _
      · split
        · exact LoopsOk.none (fun _ => rfl) c hf
        · exact LoopsOk.none (fun _ => rfl) c
theorem nil_holds [Env] : Holds [] := fun f h => by cases h
theorem eqF [Env] {a b : E} (h : a.den = b.den) : (Fk.eq (eqD a b)).holds := by
  show (eqD a b).den = 0
  rw [eqD_den]; omega
theorem dq_of [Env] {a b : E} (h : a.dens = b.dens) : (E.dq a b).den = 0 := by
  show (if a.D.2 = b.D.2 then (0 : Int) else 1) = 0
  exact if_pos h
theorem clamp_all {A : List Int} {n : Nat} (hl : A.length ≤ n) (hr : ∀ x ∈ A, 0 ≤ x ∧ x ≤ 255) : (A.take n).map (clampI 0 255) = A := by
  rw [List.take_of_length_le hl]
  exact (List.map_congr_left fun x hx => clamp_eq (hr x hx)).trans (List.map_id _)
/-- lists of bytes by their terms -/
theorem bytes_of [Env] {e : E} {n : Nat} (hR : e.R.2 = (0, 255)) (hL : e.L.2 ≤ (n : Int)) : e.dens.length ≤ n ∧ ∀ x ∈ e.dens, 0 ≤ x ∧ x ≤ 255 := by
  refine ⟨?_, fun x hx => ?_⟩
  · have := (E.L_in e).2
    show e.D.2.length ≤ n
    omega
  · have := (E.R_in e).2 x (List.mem_cons_of_mem _ hx)
    rw [hR] at this
    exact this
theorem set_len [Env] (r a e : E) : (setE r a e).dens.length = e.dens.length := by
  show ((e.D.2.set r.D.1.toNat a.D.1).map (clampI _ _)).length = e.D.2.length
  rw [List.length_map, List.length_set]
theorem R0 : (setE r0 a0 bE).R.2 = (0, 255) := by kernel_rfl
theorem L0 : (setE r0 a0 bE).L.2 = 234 := by kernel_rfl
theorem N0 : nmS r0 a0 bE = n78 := by kernel_rfl
theorem R3 : (setE r3 a3 bE).R.2 = (0, 255) := by kernel_rfl
theorem L3 : (setE r3 a3 bE).L.2 = 234 := by kernel_rfl
theorem N3 : nmS r3 a3 bE = n78 := by kernel_rfl
theorem RG : e79.R.2 = (0, 255) := by kernel_rfl
theorem LG : e79.L.2 = 238 := by kernel_rfl
theorem lenG : decEqL [lnF r3 a3] (eqD (.ln e79) (.pl (.num 34) (.ln l1E))) = some true := by kernel_rfl
theorem indep0 (xs : List Int) (ls : List (List Int)) (A B : List Int) : @E.dens (EN xs ls A B) (setE r0 a0 bE) = @E.dens (EN xs ls [] []) (setE r0 a0 bE) := rfl
theorem indep3 (xs : List Int) (ls : List (List Int)) (A B : List Int) : @E.dens (EN xs ls A B) (setE r3 a3 bE) = @E.dens (EN xs ls [] []) (setE r3 a3 bE) := rfl
theorem indepG (xs : List Int) (ls : List (List Int)) (A B : List Int) : @E.dens (EN xs ls A B) e79 = @E.dens (EN xs ls A []) e79 := rfl
theorem n78_dens (xs : List Int) (ls : List (List Int)) (A B : List Int) (h : A.length ≤ 234 ∧ ∀ x ∈ A, 0 ≤ x ∧ x ≤ 255) : @E.dens (EN xs ls A B) n78 = A := clamp_all h.1 h.2
theorem n79_dens (xs : List Int) (ls : List (List Int)) (A B : List Int) (h : B.length ≤ 238 ∧ ∀ x ∈ B, 0 ≤ x ∧ x ≤ 255) : @E.dens (EN xs ls A B) n79 = B := clamp_all h.1 h.2
noncomputable def A0 (xs : List Int) (ls : List (List Int)) : List Int := @E.dens (EN xs ls [] []) (setE r0 a0 bE)
noncomputable def A3 (xs : List Int) (ls : List (List Int)) : List Int := @E.dens (EN xs ls [] []) (setE r3 a3 bE)
noncomputable def B3 (xs : List Int) (ls : List (List Int)) : List Int := @E.dens (EN xs ls (A3 xs ls) []) e79
theorem A0_ok (xs : List Int) (ls : List (List Int)) : (A0 xs ls).length ≤ 234 ∧ ∀ x ∈ A0 xs ls, 0 ≤ x ∧ x ≤ 255 := @bytes_of (EN xs ls [] []) _ 234 R0 (by rw [L0]; decide)
theorem A3_ok (xs : List Int) (ls : List (List Int)) : (A3 xs ls).length ≤ 234 ∧ ∀ x ∈ A3 xs ls, 0 ≤ x ∧ x ≤ 255 := @bytes_of (EN xs ls [] []) _ 234 R3 (by rw [L3]; decide)
theorem B3_ok (xs : List Int) (ls : List (List Int)) : (B3 xs ls).length ≤ 238 ∧ ∀ x ∈ B3 xs ls, 0 ≤ x ∧ x ≤ 255 := @bytes_of (EN xs ls (A3 xs ls) []) _ 238 RG (by rw [LG]; decide)
theorem f0 (xs : List Int) (ls : List (List Int)) : @Fk.holds (EN xs ls (A0 xs ls) []) (lnF r0 a0) ∧ @Fk.holds (EN xs ls (A0 xs ls) []) (dqF r0 a0) := by
  letI : Env := EN xs ls (A0 xs ls) []
  have hd : (nmS r0 a0 bE).dens = (setE r0 a0 bE).dens := by
    rw [N0]
    exact (n78_dens xs ls _ _ (A0_ok xs ls)).trans (indep0 xs ls _ _).symm
  refine ⟨eqF ?_, eqF (dq_of hd)⟩
  show (((nmS r0 a0 bE).dens.length : Nat) : Int) = ((bE.dens.length : Nat) : Int)
  rw [hd, set_len]
theorem f3 (xs : List Int) (ls : List (List Int)) : @Fk.holds (EN xs ls (A3 xs ls) (B3 xs ls)) (lnF r3 a3) ∧ @Fk.holds (EN xs ls (A3 xs ls) (B3 xs ls)) (dqF r3 a3) ∧ @Fk.holds (EN xs ls (A3 xs ls) (B3 xs ls)) lnG ∧ @Fk.holds (EN xs ls (A3 xs ls) (B3 xs ls)) dqG := by
  letI : Env := EN xs ls (A3 xs ls) (B3 xs ls)
  have hd : (nmS r3 a3 bE).dens = (setE r3 a3 bE).dens := by
    rw [N3]
    exact (n78_dens xs ls _ _ (A3_ok xs ls)).trans (indep3 xs ls _ _).symm
  have hg : n79.dens = e79.dens := (n79_dens xs ls _ _ (B3_ok xs ls)).trans (indepG xs ls _ _).symm
  have h1 : (lnF r3 a3).holds := by
    refine eqF ?_
    show (((nmS r3 a3 bE).dens.length : Nat) : Int) = ((bE.dens.length : Nat) : Int)
    rw [hd, set_len]
  refine ⟨h1, eqF (dq_of hd), eqF ?_, eqF (dq_of hg)⟩
  have h2 := decEqL_ok lenG (fun f hf => by rw [List.mem_singleton] at hf; subst hf; exact h1)
  rw [eqD_den] at h2
  have h3 := beq_iff_eq.1 h2.symm
  show (((n79.dens).length : Nat) : Int) = (E.pl (.num 34) (.ln l1E)).den
  rw [hg]
  show (E.ln e79).den = _
  omega
theorem law4 (cvs : List CV) (h : ∃ w vs, AllV w (flatT pts4) cvs vs) : PureSem Try.prog 4 pts4 [.inl bo] cvs [.b true] := by
  obtain ⟨w, vs, h⟩ := h
  have hp : (flatT pts4).all plainT = true := rfl
  have h1 := lists_len cvs
  have h2 : cvs.length = 5 := AllV_len h
  have hn : ∀ A B, ∀ k, k < (namesOf cvs).length → (EN (namesOf cvs) (listsOf cvs) A B).val (0 + k) = (namesOf cvs).getD k 0 := fun A B k hk => by rw [Nat.zero_add]; rfl
  have hl : ∀ A B, ∀ k, k < (listsOf cvs).length → (EN (namesOf cvs) (listsOf cvs) A B).lst (0 + k) [] = (listsOf cvs).getD k [] := fun A B k hk => by
    rw [Nat.zero_add]
    show (if k = 78 then A else if k = 79 then B else _) = _
    rw [if_neg (by omega), if_neg (by omega)]
    rfl
  rcases @rpsM_cvs (EN (namesOf cvs) (listsOf cvs) [] []) 200 _ _ _ _ 0 0 hp h (hn [] []) (hl [] []) with _ | ⟨f, hf, hh⟩
  rotate_left
  · letI : Env := EN (namesOf cvs) (listsOf cvs) [] []
    exact law_of_good (call_sound mixed (envOkN _ _ [] [] [] nil_holds) 12) (rpsOf (flatT pts4) 0 0) (fs := [f]) (fun g hg => by rw [List.mem_singleton] at hg; subst hg; exact hh) (rpsOf_ok hp) (rpsOf_cvs hp h (hn [] []) (hl [] [])) (List.all_eq_true.1 readsL f hf)
  have hhow : ∃ how : Int, 0 ≤ how ∧ how ≤ 255 ∧ (namesOf cvs).getD 2 0 = how := by
    obtain ⟨x, r, vr, rfl, _, _, h⟩ := AllV.list (ts := [.lst [.int .u8], u1, u8, u8]) h
    obtain ⟨y, r, vr, rfl, _, _, h⟩ := AllV.list (ts := [u1, u8, u8]) h
    obtain ⟨a, r, vr, rfl, _, h⟩ := AllV.int (ts := [u8, u8]) h
    obtain ⟨b, r, vr, rfl, _, h⟩ := AllV.int (ts := [u8]) h
    obtain ⟨c, r, vr, rfl, hc, h⟩ := AllV.int (ts := []) h
    obtain rfl := AllV.nil h
    exact ⟨c, hc.1, hc.2, rfl⟩
  obtain ⟨how, hb1, hb2, hhow⟩ := hhow
  have hhw : ∀ (A B : List Int) (k : Int), how.tmod 5 = k → @Fk.holds (EN (namesOf cvs) (listsOf cvs) A B) (hw k) := fun A B k hk => by
    letI : Env := EN (namesOf cvs) (listsOf cvs) A B
    refine eqF ?_
    show (clampI 0 255 ((namesOf cvs).getD 2 0)).tmod 5 = k
    rw [hhow, clamp_eq ⟨hb1, hb2⟩]
    exact hk
  have run : ∀ (A B : List Int) (fs gs : List Fk), @Holds (EN (namesOf cvs) (listsOf cvs) A B) fs → @Holds (EN (namesOf cvs) (listsOf cvs) A B) gs → (∀ e : Env, (@callE e Try.prog (@envR e) (@cfgR e fs) 12 4 (argsM 200 pts4) (objsM 200 pts4)).good (@leafTrue) gs = true) → PureSem Try.prog 4 pts4 [.inl bo] cvs [.b true] := by
    intro A B fs gs hf hg hr
    letI : Env := EN (namesOf cvs) (listsOf cvs) A B
    rcases rpsM_cvs (m := 200) (i := 0) (j := 0) hp h (hn A B) (hl A B) with h3 | ⟨f, hf', hh⟩
    · exact law_of_good (call_sound mixed (envOkN _ _ A B fs hf) 12) (rpsM 200 (flatT pts4) 0 0) (fs := gs) hg (rpsM_ok hp) h3 (hr inferInstance)
    · exact law_of_good (call_sound mixed (envOkN _ _ A B [] nil_holds) 12) (rpsOf (flatT pts4) 0 0) (fs := [f]) (fun g hg => by rw [List.mem_singleton] at hg; subst hg; exact hh) (rpsOf_ok hp) (rpsOf_cvs hp h (hn A B) (hl A B)) (List.all_eq_true.1 readsL f hf')
  have hcase : how.tmod 5 = 0 ∨ how.tmod 5 = 1 ∨ how.tmod 5 = 2 ∨ how.tmod 5 = 3 ∨ how.tmod 5 = 4 := by
    rw [Int.tmod_eq_emod_of_nonneg hb1]; omega
  rcases hcase with hk | hk | hk | hk | hk
  · obtain ⟨q1, q2⟩ := f0 (namesOf cvs) (listsOf cvs)
    exact run _ _ (fsK 0) (gsK 0) (fun f hf => by
      simp only [fsK, List.mem_singleton] at hf; subst hf; exact q1) (fun f hf => by
      simp only [gsK, List.mem_cons, List.not_mem_nil, or_false] at hf
      rcases hf with rfl | rfl | rfl
      · exact hhw _ _ 0 hk
      · exact q1
      · exact q2) (fun e => @reads0 e)
  · exact run [] [] (fsK 1) (gsK 1) (fun f hf => by cases hf) (fun f hf => by
      simp only [gsK, List.mem_singleton] at hf; subst hf; exact hhw _ _ 1 hk) (fun e => @reads1 e)
  · exact run [] [] (fsK 2) (gsK 2) (fun f hf => by cases hf) (fun f hf => by
      simp only [gsK, List.mem_singleton] at hf; subst hf; exact hhw _ _ 2 hk) (fun e => @reads2 e)
  · obtain ⟨q1, q2, q3, q4⟩ := f3 (namesOf cvs) (listsOf cvs)
    exact run _ _ (fsK 3) (gsK 3) (fun f hf => by
      simp only [fsK, List.mem_cons, List.not_mem_nil, or_false] at hf
      rcases hf with rfl | rfl
      · exact q1
      · exact q3) (fun f hf => by
      simp only [gsK, List.mem_cons, List.not_mem_nil, or_false] at hf
      rcases hf with rfl | rfl | rfl | rfl | rfl
      · exact hhw _ _ 3 hk
      · exact q1
      · exact q3
      · exact q2
      · exact q4) (fun e => @reads3 e)
  · exact run [] [] (fsK 4) (gsK 4) (fun f hf => by cases hf) (fun f hf => by
      simp only [gsK, List.mem_singleton] at hf; subst hf; exact hhw _ _ 4 hk) (fun e => @reads4 e)
end Go.SX.Img
