/- Both readers of instructions give the same of all bytes. -/
import Derived.Test.YtcldncojpmljhaaOneB1
import Derived.Test.YtcldncojpmljhaaOneB2
import Derived.Test.YtcldncojpmljhaaOneB3
import Derived.Test.YtcldncojpmljhaaOneB4
import Derived.Test.YtcldncojpmljhaaOneB5
import Derived.Test.YtcldncojpmljhaaOneB6
namespace Go.SX.One
open Go Go.SX Go.Proofs
set_option maxRecDepth 1000000
def cls : List E := [
  (.pl (.op .mul .i64 (.nm 0 0 7) (.num 8)) (.num 0)),
  (.pl (.op .mul .i64 (.nm 0 0 7) (.num 8)) (.num 1)),
  (.pl (.op .mul .i64 (.nm 0 0 7) (.num 8)) (.num 2)),
  (.pl (.op .mul .i64 (.nm 0 0 7) (.num 8)) (.num 3)),
  (.pl (.op .mul .i64 (.nm 0 0 7) (.num 8)) (.num 4)),
  (.pl (.op .mul .i64 (.nm 0 0 7) (.num 8)) (.num 5)),
  (.pl (.op .mul .i64 (.nm 0 0 7) (.num 8)) (.num 6)),
  (.num 7),
  (.pl (.op .mul .i64 (.nm 0 2 7) (.num 8)) (.num 7)),
  (.nm 0 64 71),
  (.nm 0 72 79),
  (.nm 0 80 87),
  (.nm 0 88 95),
  (.nm 0 96 101),
  (.num 103),
  (.num 104),
  (.num 105),
  (.num 106),
  (.num 107),
  (.nm 0 108 111),
  (.nm 0 112 127),
  (.num 128),
  (.num 129),
  (.num 130),
  (.num 131),
  (.num 132),
  (.num 133),
  (.num 134),
  (.num 135),
  (.num 136),
  (.num 137),
  (.num 138),
  (.num 139),
  (.num 140),
  (.num 141),
  (.num 142),
  (.num 143),
  (.num 144),
  (.nm 0 145 151),
  (.num 152),
  (.num 153),
  (.nm 0 154 159),
  (.num 160),
  (.num 161),
  (.num 162),
  (.num 163),
  (.num 164),
  (.num 165),
  (.num 166),
  (.num 167),
  (.num 168),
  (.num 169),
  (.num 170),
  (.num 171),
  (.num 172),
  (.num 173),
  (.num 174),
  (.num 175),
  (.nm 0 176 183),
  (.nm 0 184 191),
  (.num 192),
  (.num 193),
  (.num 194),
  (.num 195),
  (.nm 0 196 197),
  (.num 198),
  (.num 199),
  (.num 200),
  (.num 201),
  (.nm 0 202 203),
  (.num 204),
  (.nm 0 205 208),
  (.num 209),
  (.num 210),
  (.num 211),
  (.nm 0 212 231),
  (.num 232),
  (.num 233),
  (.num 234),
  (.num 235),
  (.nm 0 236 241),
  (.num 244),
  (.num 245),
  (.num 246),
  (.num 247),
  (.num 248),
  (.num 249),
  (.nm 0 250 251),
  (.num 252),
  (.num 253),
  (.num 254),
  (.num 255),
  (.num 15),
  (.num 102),
  (.num 242),
  (.num 243)]
theorem runs [Env] : ∀ e ∈ cls, good1 (.cn e lsM) e = true := by
  intro e h
  simp only [cls, List.mem_cons, List.not_mem_nil, or_false] at h
  rcases h with rfl | rfl | rfl | rfl | rfl | rfl | rfl | rfl | rfl | rfl | rfl | rfl | rfl | rfl | rfl | rfl | rfl | rfl | rfl | rfl | rfl | rfl | rfl | rfl | rfl | rfl | rfl | rfl | rfl | rfl | rfl | rfl | rfl | rfl | rfl | rfl | rfl | rfl | rfl | rfl | rfl | rfl | rfl | rfl | rfl | rfl | rfl | rfl | rfl | rfl | rfl | rfl | rfl | rfl | rfl | rfl | rfl | rfl | rfl | rfl | rfl | rfl | rfl | rfl | rfl | rfl | rfl | rfl | rfl | rfl | rfl | rfl | rfl | rfl | rfl | rfl | rfl | rfl | rfl | rfl | rfl | rfl | rfl | rfl | rfl | rfl | rfl | rfl | rfl | rfl | rfl | rfl | rfl | rfl | rfl | rfl
  · exact run0
  · exact run1
  · exact run2
  · exact run3
  · exact run4
  · exact run5
  · exact run6
  · exact run7
  · exact run8
  · exact run9
  · exact run10
  · exact run11
  · exact run12
  · exact run13
  · exact run14
  · exact run15
  · exact run16
  · exact run17
  · exact run18
  · exact run19
  · exact run20
  · exact run21
  · exact run22
  · exact run23
  · exact run24
  · exact run25
  · exact run26
  · exact run27
  · exact run28
  · exact run29
  · exact run30
  · exact run31
  · exact run32
  · exact run33
  · exact run34
  · exact run35
  · exact run36
  · exact run37
  · exact run38
  · exact run39
  · exact run40
  · exact run41
  · exact run42
  · exact run43
  · exact run44
  · exact run45
  · exact run46
  · exact run47
  · exact run48
  · exact run49
  · exact run50
  · exact run51
  · exact run52
  · exact run53
  · exact run54
  · exact run55
  · exact run56
  · exact run57
  · exact run58
  · exact run59
  · exact run60
  · exact run61
  · exact run62
  · exact run63
  · exact run64
  · exact run65
  · exact run66
  · exact run67
  · exact run68
  · exact run69
  · exact run70
  · exact run71
  · exact run72
  · exact run73
  · exact run74
  · exact run75
  · exact run76
  · exact run77
  · exact run78
  · exact run79
  · exact run80
  · exact run81
  · exact run82
  · exact run83
  · exact run84
  · exact run85
  · exact run86
  · exact run87
  · exact run88
  · exact run89
  · exact run90
  · exact run91
  · exact run92
  · exact run93
  · exact run94
  · exact run95

/-- terms of the first name alone -/
def pure0 : E → Bool
  | .num _ => true
  | .nm i _ _ => i == 0
  | .pl a b => pure0 a && pure0 b
  | .op _ _ a b => pure0 a && pure0 b
  | _ => false
theorem den_val {e1 e2 : Env} (hv : @Env.val e1 0 = @Env.val e2 0) : ∀ e : E, pure0 e = true → @E.den e1 e = @E.den e2 e
  | .num n, _ => rfl
  | .nm i lo hi, h => by
    have : i = 0 := by simpa [pure0] using h
    subst this
    show clampI lo hi (@Env.val e1 0) = clampI lo hi (@Env.val e2 0)
    rw [hv]
  | .pl a b, h => by
    simp only [pure0, Bool.and_eq_true] at h
    show @E.den e1 a + @E.den e1 b = @E.den e2 a + @E.den e2 b
    rw [den_val hv a h.1, den_val hv b h.2]
  | .op o k a b, h => by
    simp only [pure0, Bool.and_eq_true] at h
    show semI o k (@E.den e1 a) (@E.den e1 b) = semI o k (@E.den e2 a) (@E.den e2 b)
    rw [den_val hv a h.1, den_val hv b h.2]
abbrev valEnv (v : Int) : Env := ⟨fun _ => v, fun _ _ => 0, fun _ _ => []⟩
def coverB (c : Nat) : Bool := cls.any fun e => pure0 e && (@E.den (valEnv c) e == (c : Int) || @E.den (valEnv ((c / 8 : Nat) : Int)) e == (c : Int))
theorem cover_all : (List.range 256).all coverB = true := by kernel_rfl
theorem cover {c : Int} (h : 0 ≤ c ∧ c ≤ 255) : ∃ e ∈ cls, ∃ v, ∀ (i : Env), @Env.val i 0 = v → @E.den i e = c := by
  have h1 := List.all_eq_true.1 cover_all c.toNat (by rw [List.mem_range]; omega)
  unfold coverB at h1
  obtain ⟨e, he, h2⟩ := List.any_eq_true.1 h1
  rw [Bool.and_eq_true, Bool.or_eq_true, beq_iff_eq, beq_iff_eq] at h2
  obtain ⟨hp, h2⟩ := h2
  have hc : ((c.toNat : Nat) : Int) = c := by omega
  rw [hc] at h2
  rcases h2 with h2 | h2
  · exact ⟨e, he, c, fun i hi => by rw [← h2]; exact den_val (e2 := valEnv c) hi e hp⟩
  · exact ⟨e, he, _, fun i hi => by rw [← h2]; exact den_val (e2 := valEnv _) hi e hp⟩
theorem resOne (cvs : List CV) (h : ∃ w vs, AllV w (flatT sigOne.pts) cvs vs) : HasRes Try.prog sigOne cvs := by
  obtain ⟨w, vs, h⟩ := h
  obtain ⟨xs, r, vr, rfl, hl, hx, h⟩ := AllV.list (ts := []) h
  obtain rfl := AllV.nil h
  cases xs with
  | nil =>
    letI : Env := envOf Try.prog sigs [] []
    refine res_of_both (call_sound mixed (envOk1 fun i l hi => envOf_app (s := sigRM) rfl i l hi) 12) (s := sigOne) rfl [.tm .nl] resp_one (argE .nl) n0 rfl rfl (fs := []) (fun f h => (by cases h)) rfl rfl runNil
  | cons c t =>
    have hc : 0 ≤ c ∧ c ≤ 255 := hx c (List.mem_cons_self ..)
    obtain ⟨e, he, v, hv⟩ := cover hc
    letI : Env := envOf Try.prog sigs [v] [t]
    have ht : lsM.dens = t := ls_dens rfl (by simp only [List.length_cons] at hl; unfold big at hl; omega) fun x hm => hx x (List.mem_cons_of_mem _ hm)
    have hce : e.den = c := hv inferInstance rfl
    have hd : (E.cn e lsM).dens = c :: t := by show e.den :: lsM.dens = _; rw [hce, ht]
    refine res_of_both (call_sound mixed (envOk1 fun i l hi => envOf_app (s := sigRM) rfl i l hi) 12) (s := sigOne) rfl [.tm (.cn e lsM)] resp_one (argE (.cn e lsM)) e ?_ ?_ (fs := []) (fun f h => (by cases h)) rfl ?_ (runs e he)
    · show (((E.cn e lsM).dens.length : Nat) : Int) :: ((E.cn e lsM).dens ++ []) = ((((c :: t) : List Int).length : Nat) : Int) :: (c :: t) ++ []
      rw [hd]; rfl
    · rw [hce]; rfl
    · show [CV.l (E.cn e lsM).dens] = _
      rw [hd]
section
variable [Env]
/-- both readers of instructions as one function -/
def envD : FuncId → Option Con := fun g =>
  if g = 13 then some (tCon 13 sigOne rtOne fun _ => true) else if g = 16 then some (tCon 13 sigOne rtOne fun _ => true) else env1 g
theorem envOkD (h28 : ∀ i l, i < 64 → Env.app (64 * 28 + i) l = (Res Try.prog sigRM l).getD i 0) (h13 : ∀ i l, i < 64 → Env.app (64 * 13 + i) l = (Res Try.prog sigOne l).getD i 0) : EnvOk Try.prog envD cfg0 := by
  refine ⟨names, fun g c h => ?_, fun g fn c σ _ _ _ => LoopsOk.none (fun _ => rfl) c⟩
  unfold envD at h
  split at h
  · rename_i e; subst e; cases h
    exact tCon_sound (s := sigOne) rfl (by decide) ⟨_, Try.func13, rfl⟩ rfl (by decide) (by decide) h13 fun e cvs _ hh _ => resOne cvs hh
  · split at h
    · rename_i e; subst e; cases h
      exact tCon_sound (s := sigOne) rfl (by decide) ⟨_, Try.func16, rfl⟩ rfl (by decide) (by decide) h13 fun e cvs _ hh _ => resOne cvs hh
    · exact (envOk1 h28).calls g c h
end
end Go.SX.One
