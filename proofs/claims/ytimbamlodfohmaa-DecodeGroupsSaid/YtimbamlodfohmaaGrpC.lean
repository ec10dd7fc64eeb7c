/- DecodeGroups: true, whatever the input. -/
import Derived.Test.YtimbamlodfohmaaSxK
import Derived.Test.YtimbamlodfohmaaGrpB1
import Derived.Test.YtimbamlodfohmaaGrpB2
import Derived.Test.YtimbamlodfohmaaGrpB3
import Derived.Test.YtimbamlodfohmaaGrpB4
namespace Go.SX.One
open Go Go.SX Go.Proofs
set_option maxRecDepth 1000000
set_option linter.unusedSectionVars false
def tabC : List Int := [143, 193, 209, 211, 198, 199, 246, 247, 254, 255]
theorem runsG [Env] {c : Int} (hc : c ∈ tabC) {y : Int} (hy : 0 ≤ y ∧ y ≤ 7) : goodG (.cn (.num c) (.cn (mE y) lsM2)) (.num c) = true := by
  have h3 : y = 0 ∨ y = 1 ∨ y = 2 ∨ y = 3 ∨ y = 4 ∨ y = 5 ∨ y = 6 ∨ y = 7 := by omega
  simp only [tabC, List.mem_cons, List.not_mem_nil, or_false] at hc
  rcases hc with rfl | rfl | rfl | rfl | rfl | rfl | rfl | rfl | rfl | rfl <;> rcases h3 with rfl | rfl | rfl | rfl | rfl | rfl | rfl | rfl
  · exact grp143_0
  · exact grp143_1
  · exact grp143_2
  · exact grp143_3
  · exact grp143_4
  · exact grp143_5
  · exact grp143_6
  · exact grp143_7
  · exact grp193_0
  · exact grp193_1
  · exact grp193_2
  · exact grp193_3
  · exact grp193_4
  · exact grp193_5
  · exact grp193_6
  · exact grp193_7
  · exact grp209_0
  · exact grp209_1
  · exact grp209_2
  · exact grp209_3
  · exact grp209_4
  · exact grp209_5
  · exact grp209_6
  · exact grp209_7
  · exact grp211_0
  · exact grp211_1
  · exact grp211_2
  · exact grp211_3
  · exact grp211_4
  · exact grp211_5
  · exact grp211_6
  · exact grp211_7
  · exact grp198_0
  · exact grp198_1
  · exact grp198_2
  · exact grp198_3
  · exact grp198_4
  · exact grp198_5
  · exact grp198_6
  · exact grp198_7
  · exact grp199_0
  · exact grp199_1
  · exact grp199_2
  · exact grp199_3
  · exact grp199_4
  · exact grp199_5
  · exact grp199_6
  · exact grp199_7
  · exact grp246_0
  · exact grp246_1
  · exact grp246_2
  · exact grp246_3
  · exact grp246_4
  · exact grp246_5
  · exact grp246_6
  · exact grp246_7
  · exact grp247_0
  · exact grp247_1
  · exact grp247_2
  · exact grp247_3
  · exact grp247_4
  · exact grp247_5
  · exact grp247_6
  · exact grp247_7
  · exact grp254_0
  · exact grp254_1
  · exact grp254_2
  · exact grp254_3
  · exact grp254_4
  · exact grp254_5
  · exact grp254_6
  · exact grp254_7
  · exact grp255_0
  · exact grp255_1
  · exact grp255_2
  · exact grp255_3
  · exact grp255_4
  · exact grp255_5
  · exact grp255_6
  · exact grp255_7
theorem runsN [Env] {c : Int} (hc : c ∈ tabC) : goodG (.cn (.num c) .nl) (.num c) = true := by
  simp only [tabC, List.mem_cons, List.not_mem_nil, or_false] at hc
  rcases hc with rfl | rfl | rfl | rfl | rfl | rfl | rfl | rfl | rfl | rfl
  · exact grp143_n
  · exact grp193_n
  · exact grp209_n
  · exact grp211_n
  · exact grp198_n
  · exact grp199_n
  · exact grp246_n
  · exact grp247_n
  · exact grp254_n
  · exact grp255_n
theorem runsR [Env] {c : Int} (hc : c ∈ ([128, 129, 131] : List Int)) : goodG (.cn (.num c) lsM) (.num c) = true := by
  simp only [List.mem_cons, List.not_mem_nil, or_false] at hc
  rcases hc with rfl | rfl | rfl
  · exact grp128_r
  · exact grp129_r
  · exact grp131_r
theorem hasG (ns : List Int) (ls : List (List Int)) (l : E) (c : Int) (xs : List Int) (hd : @E.dens (envOf Try.prog sigs ns ls) l = xs) (hb : xs.getD 0 0 = c) (run : ∀ [Env], goodG l (.num c) = true) : HasRes Try.prog sigGrp [CV.l xs] := by
  letI : Env := envOf Try.prog sigs ns ls
  refine res_of_both (call_sound mixed (envOk1 fun i l hi => envOf_app (s := sigRM) rfl i l hi) 12) (s := sigGrp) rfl [.tm l] resp_grp (argE l) (.num c) ?_ ?_ (fs := []) (fun f h => (by cases h)) rfl ?_ run
  · show ((l.dens.length : Nat) : Int) :: (l.dens ++ []) = ((xs.length : Nat) : Int) :: xs ++ []
    rw [hd]; rfl
  · show c = (((xs.length : Nat) : Int) :: xs ++ []).getD 1 0
    rw [← hb]; simp
  · show [CV.l l.dens] = _
    rw [hd]
theorem mE_den (e : Env) {m : Int} (hm : 0 ≤ m ∧ m ≤ 255) (h0 : @Env.val e 0 = m / 64) (h1 : @Env.val e 1 = m % 8) : @E.den e (mE (m / 8 % 8)) = m := by
  show semI .mul .i64 (clampI 0 3 (@Env.val e 0)) 64 + (8 * (m / 8 % 8) + clampI 0 7 (@Env.val e 1)) = m
  rw [h0, h1, clamp_eq (show (0 : Int) ≤ m / 64 ∧ m / 64 ≤ 3 by omega), clamp_eq (show (0 : Int) ≤ m % 8 ∧ m % 8 ≤ 7 by omega)]
  show IntKind.i64.wrap (m / 64 * 64) + _ = m
  rw [wrap_of_has ⟨by show (-9223372036854775808 : Int) ≤ _; omega, by show _ ≤ (9223372036854775807 : Int); omega⟩]
  omega
theorem resGrp {c : Int} {t : List Int} (hl : (c :: t).length ≤ big) (hx : ∀ x ∈ c :: t, 0 ≤ x ∧ x ≤ 255) (hc : c ∈ grpC) : HasRes Try.prog sigGrp [CV.l (c :: t)] := by
  have hlt : t.length ≤ 9223372036854775806 := by simp only [List.length_cons] at hl; unfold big at hl; omega
  have hc' : c ∈ ([128, 129, 131] : List Int) ∨ c ∈ tabC := by
    simp only [grpC, List.mem_cons, List.not_mem_nil, or_false] at hc
    simp only [tabC, List.mem_cons, List.not_mem_nil, or_false]
    omega
  rcases hc' with h | h
  · refine hasG [] [t] (.cn (.num c) lsM) c _ ?_ rfl (runsR h)
    letI : Env := envOf Try.prog sigs [] [t]
    have ht : lsM.dens = t := ls_dens rfl hlt fun x hm => hx x (List.mem_cons_of_mem _ hm)
    show c :: lsM.dens = _
    rw [ht]
  · cases t with
    | nil => exact hasG [] [] (.cn (.num c) .nl) c _ rfl rfl (runsN h)
    | cons m t =>
      have hm : 0 ≤ m ∧ m ≤ 255 := hx m (by simp)
      refine hasG [m / 64, m % 8] [t] (.cn (.num c) (.cn (mE (m / 8 % 8)) lsM2)) c _ ?_ rfl (runsG h (by omega))
      letI : Env := envOf Try.prog sigs [m / 64, m % 8] [t]
      have ht : lsM2.dens = t := ls_dens rfl (by simp only [List.length_cons] at hlt; omega) fun x hm => hx x (List.mem_cons_of_mem _ (List.mem_cons_of_mem _ hm))
      show c :: (mE (m / 8 % 8)).den :: lsM2.dens = _
      rw [ht, mE_den _ hm rfl rfl]
def firstE : E → Option Int
  | .cn _ (.cc (.cn (.num c) _) _) => some c
  | .cn _ (.cn (.num c) _) => some c
  | _ => none
theorem firstE_den [Env] {e : E} {c : Int} (h : firstE e = some c) : ∃ n t, e.dens = n :: c :: t := by
  unfold firstE at h
  split at h
  · cases h; exact ⟨_, _, rfl⟩
  · cases h; exact ⟨_, _, rfl⟩
  · cases h
def preG (e : E) : Bool := match firstE e with
  | some c => grpC.contains c
  | none => false
theorem pre_has [Env] {e : E} {cvs : List CV} (hp : preG e = true) (h : ∃ w vs, AllV w (flatT sigGrp.pts) cvs vs) (he : e.dens = encs cvs) : HasRes Try.prog sigGrp cvs := by
  unfold preG at hp
  split at hp
  · rename_i c hf
    obtain ⟨n, t, hd⟩ := firstE_den hf
    obtain ⟨w, vs, h⟩ := h
    obtain ⟨xs, r, vr, rfl, hl, hx, h⟩ := AllV.list (ts := []) h
    obtain rfl := AllV.nil h
    have h2 : n :: c :: t = ((xs.length : Nat) : Int) :: (xs ++ []) := by rw [← hd, he]; rfl
    rw [List.append_nil, List.cons.injEq] at h2
    obtain ⟨_, h2⟩ := h2
    subst h2
    exact resGrp hl hx (by simpa using hp)
  · cases hp
section
variable [Env]
theorem known10 : (callE Try.prog env0 cfg0 12 10 (argsOf []) (objsOf [])).good leafTrue [] = true := by kernel_rfl
abbrev trueCon (pts : List PT) : Con := pCon pts [.inl bo] (fun _ => .c true) fun _ => [.b (.c true)]
end
def sigs2 (j : Nat) : Option Sig := if j = 28 then some sigRM else if j = 13 then some sigGrp else none
@[reducible] noncomputable def E2 (xs : List Int) (ls : List (List Int)) : Env := envL Try.prog sigs2 (fun _ => none) xs ls
theorem law10 (cvs : List CV) (h : ∃ w vs, AllV w (flatT []) cvs vs) : PureSem Try.prog 10 [] [.inl bo] cvs [.b true] :=
  law_canon (sig := sigs2) (lsig := fun _ => none) (call := fun e => @callE e Try.prog env0 cfg0 12) (fun xs ls _ => @sound0 (E2 xs ls) 12) (fun _ _ => rfl) rfl (by decide) (fun e => @known10 e) cvs h
section
variable [Env]
theorem trueCon_sound {g : FuncId} {pts : List PT} (hf : ∃ fn, Try.prog.funcs[g]? = some fn ∧ fn.body.isSome = true) (h : ∀ cvs, (∃ w vs, AllV w (flatT pts) cvs vs) → PureSem Try.prog g pts [.inl bo] cvs [.b true]) :
    ∀ args σ v σ', (trueCon pts args σ).run = some (v, σ') → Den Try.prog g args σ v σ' :=
  pCon_sound hf rfl fun cvs _ hh => ⟨rfl, h cvs hh⟩
def envG : FuncId → Option Con := fun g =>
  if g = 10 then some (trueCon []) else if g = 13 then some (tCon 13 sigGrp rtGrp preG) else if g = 16 then some (tCon 13 sigGrp rtGrp preG) else none
end
theorem envOkG (e : Env) (h13 : ∀ i l, i < 64 → e.app (64 * 13 + i) l = (Res Try.prog sigGrp l).getD i 0) : @EnvOk e Try.prog (@envG e) cfg0 := by
  letI : Env := e
  refine ⟨names, fun g c h => ?_, fun g fn c σ _ _ _ => LoopsOk.none (fun _ => rfl) c⟩
  unfold envG at h
  split at h
  · rename_i e; subst e; cases h
    exact trueCon_sound ⟨_, Try.func10, rfl⟩ law10
  · split at h
    · rename_i e; subst e; cases h
      exact tCon_sound (s := sigGrp) rfl (by decide) ⟨_, Try.func13, rfl⟩ rfl (by decide) (by decide) h13 fun e cvs hp _ hh he => pre_has hp hh he
    · split at h
      · rename_i e; subst e; cases h
        exact tCon_sound (s := sigGrp) rfl (by decide) ⟨_, Try.func16, rfl⟩ rfl (by decide) (by decide) h13 fun e cvs hp _ hh he => pre_has hp hh he
      · cases h
theorem app13 (xs : List Int) (ls : List (List Int)) (i : Nat) (l : List Int) (hi : i < 64) : (E2 xs ls).app (64 * 13 + i) l = (Res Try.prog sigGrp l).getD i 0 := envL_app (s := sigGrp) rfl i l hi
end Go.SX.One
