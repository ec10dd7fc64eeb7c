/- ImageBack: what puts bytes behind others, with pads ahead of them: a contract. -/
import Derived.Test.YtkbghbkfaloblaaImgC
import Derived.Test.YtkbghbkfaloblaaSxFu
namespace Go.SX.Img
open Go Go.SX Go.Proofs
set_option maxRecDepth 1000000
set_option linter.unusedSectionVars false
/-! Small numbers. -/
theorem i64_of {n : Int} (h1 : -1000000 ≤ n) (h2 : n ≤ 1000000) : IntKind.i64.wrap n = n := wrap_of_has ⟨by simp [IntKind.min, IntKind.signed, IntKind.bits]; omega, by simp [IntKind.max, IntKind.signed, IntKind.bits]; omega⟩
theorem add64 {a b : Int} (h1 : -1000000 ≤ a + b) (h2 : a + b ≤ 1000000) : semI .add .i64 a b = a + b := i64_of h1 h2
theorem sub64 {a b : Int} (h1 : -1000000 ≤ a - b) (h2 : a - b ≤ 1000000) : semI .sub .i64 a b = a - b := i64_of h1 h2
theorem quo64 {a : Int} (h1 : 0 ≤ a) (h2 : a ≤ 1000000) : semI .quo .i64 a 32 = a / 32 := by
  show IntKind.i64.wrap (a.tdiv 32) = _
  rw [Int.tdiv_eq_ediv_of_nonneg h1]
  exact i64_of (by omega) (by omega)
theorem rem64 {a : Int} (h1 : 0 ≤ a) : semI .rem .i64 a 32 = a % 32 := Int.tmod_eq_emod_of_nonneg h1
theorem hasNop {n : Nat} {x : Int × List Int} (h : TV.has ⟨true, 0, 255, n⟩ x) (hl : x.2.length < n) (y : Int) (hy : 0 ≤ y ∧ y ≤ 255) : TV.has ⟨true, 0, 255, n⟩ (0, x.2 ++ [y]) := by
  unfold TV.has at h ⊢
  simp only [if_true] at h ⊢
  refine ⟨trivial, by simp; omega, fun z hz => ?_⟩
  rcases List.mem_append.1 hz with hz | hz
  · exact h.2.2 z hz
  · have := List.mem_singleton.1 hz
    subst this
    exact hy
theorem has_len {n : Nat} {x : Int × List Int} (h : TV.has ⟨true, 0, 255, n⟩ x) : x.2.length ≤ n := by
  unfold TV.has at h
  simp only [if_true] at h
  exact h.2.1
/-! The loop of pads. -/
def tl (n : Nat) : TV := ⟨true, 0, 255, n⟩
def tn (a b : Int) : TV := ⟨false, a, b, 0⟩
def pvs : List TV := [tl 4000, tl 32, tl 40]
def pC : E := (tl 4000).leaf 0
def pT : E := (tl 32).leaf 1
def pB : E := (tl 40).leaf 2
def pQ1 : E := .op .quo .i64 (.pl (.ln pC) (.ln pT)) (.num 32)
def pQ2 : E := .op .quo .i64 (.op .sub .i64 (.op .add .i64 (.pl (.ln pC) (.ln pT)) (.ln pB)) (.num 1)) (.num 32)
def pQ0 : E := .op .quo .i64 (.ln pC) (.num 32)
def pQ3 : E := .op .quo .i64 (.op .sub .i64 (.pl (.ln pC) (.ln pT)) (.num 1)) (.num 32)
def pFl : List (Nat × AV) := [(0, .one (.sl false 2 (.c 0) (.ex (.pl (.ln pC) (.ln pT))) 1)), (1, .one (.sl false 1 (.c 0) (.ex (.ln pB)) 1))]
def pSt : St := [.dead, .row false 1 (.ex (.int .u8) pB), .row true 1 (.ex (.int .u8) (.cc pC pT))]
def putL : TSig where
  vars := pvs
  fn := 22
  fl := pFl
  st := pSt
  wt := .br (.eq pQ1 pQ2) (.stop 0 [pC, pT, pB]) (.go [pC, .cc pT (.cn (.num 144) .nl), pB])
  inv := [.lt (.num 0) (.ln pB), .lt (.ln pB) (.num 33), .or (.eq (.ln pT) (.num 0)) (.eq pQ0 pQ3)]
  mea := .mi (.num 64) (.ln pT)
  nk := 1
  os := fun _ => pvs
  ex := fun _ => .exit 0
  xfl := fun _ => pFl
  xst := fun _ => pSt
  chk := false
  kp := [0, 2]
theorem put_dens {xs : List (Int × List Int)} (hv : hasAll pvs xs) : ∃ x0 x1 x2, xs = [x0, x1, x2] ∧ @E.D (envT base xs) pC = x0 ∧ @E.D (envT base xs) pT = x1 ∧ @E.D (envT base xs) pB = x2 ∧ TV.has (tl 4000) x0 ∧ TV.has (tl 32) x1 ∧ TV.has (tl 40) x2 := by
  match xs, hv with
  | [x0, x1, x2], hv =>
    obtain ⟨h0, h1, h2, _⟩ := hv
    exact ⟨x0, x1, x2, rfl, leaf_D base (i := 0) h0, leaf_D base (i := 1) h1, leaf_D base (i := 2) h2, h0, h1, h2⟩
theorem put_inv {xs : List (Int × List Int)} {x0 x1 x2 : Int × List Int} (e : xs = [x0, x1, x2]) (d0 : @E.D (envT base xs) pC = x0) (d1 : @E.D (envT base xs) pT = x1) (d2 : @E.D (envT base xs) pB = x2) (h0 : TV.has (tl 4000) x0) (h1 : TV.has (tl 32) x1) (h2 : TV.has (tl 40) x2) :
    ((∀ b ∈ putL.inv, @EB.den (envT base xs) b = true) ↔ (0 < x2.2.length ∧ x2.2.length < 33 ∧ (x1.2.length = 0 ∨ x0.2.length / 32 = (x0.2.length + x1.2.length - 1) / 32))) ∧
    (@EB.den (envT base xs) (.eq pQ1 pQ2) = true ↔ (x0.2.length + x1.2.length) / 32 = (x0.2.length + x1.2.length + x2.2.length - 1) / 32) ∧ meaT base putL xs = 64 - (x1.2.length : Int) := by
  letI : Env := envT base xs
  have l0 := has_len h0
  have l1 := has_len h1
  have l2 := has_len h2
  have e0 : (E.ln pC).den = (x0.2.length : Int) := by show ((pC.D.2.length : Nat) : Int) = _; rw [d0]
  have e1 : (E.ln pT).den = (x1.2.length : Int) := by show ((pT.D.2.length : Nat) : Int) = _; rw [d1]
  have e2 : (E.ln pB).den = (x2.2.length : Int) := by show ((pB.D.2.length : Nat) : Int) = _; rw [d2]
  have q0 : pQ0.den = (x0.2.length : Int) / 32 := by
    show semI .quo .i64 (E.ln pC).den 32 = _
    rw [e0]; exact quo64 (by omega) (by omega)
  have q1 : pQ1.den = ((x0.2.length : Int) + x1.2.length) / 32 := by
    show semI .quo .i64 ((E.ln pC).den + (E.ln pT).den) 32 = _
    rw [e0, e1]; exact quo64 (by omega) (by omega)
  have s2 : semI .add .i64 ((x0.2.length : Int) + x1.2.length) x2.2.length = (x0.2.length : Int) + x1.2.length + x2.2.length := add64 (by omega) (by omega)
  have q2 : 0 < x2.2.length → pQ2.den = ((x0.2.length : Int) + x1.2.length + x2.2.length - 1) / 32 := fun hb => by
    show semI .quo .i64 (semI .sub .i64 (semI .add .i64 ((E.ln pC).den + (E.ln pT).den) (E.ln pB).den) 1) 32 = _
    rw [e0, e1, e2, s2, sub64 (by omega) (by omega)]; exact quo64 (by omega) (by omega)
  have q2' : x2.2.length = 0 → pQ2.den = ((x0.2.length + x1.2.length + x2.2.length - 1 : Nat) : Int) / 32 := fun hb => by
    show semI .quo .i64 (semI .sub .i64 (semI .add .i64 ((E.ln pC).den + (E.ln pT).den) (E.ln pB).den) 1) 32 = _
    rw [e0, e1, e2, s2, sub64 (by omega) (by omega)]
    by_cases hz : x0.2.length + x1.2.length = 0
    · have e3 : (x0.2.length : Int) + x1.2.length + x2.2.length - 1 = -1 := by omega
      have e4 : ((x0.2.length + x1.2.length + x2.2.length - 1 : Nat) : Int) = 0 := by omega
      rw [e3, e4]; decide
    · have e4 : ((x0.2.length + x1.2.length + x2.2.length - 1 : Nat) : Int) = (x0.2.length : Int) + x1.2.length + x2.2.length - 1 := by omega
      rw [e4]; exact quo64 (by omega) (by omega)
  have q3 : 0 < x1.2.length → pQ3.den = ((x0.2.length : Int) + x1.2.length - 1) / 32 := fun hb => by
    show semI .quo .i64 (semI .sub .i64 ((E.ln pC).den + (E.ln pT).den) 1) 32 = _
    rw [e0, e1, sub64 (by omega) (by omega)]; exact quo64 (by omega) (by omega)
  have a1 : (EB.lt (.num 0) (.ln pB)).den = decide ((0 : Int) < x2.2.length) := by show decide ((0 : Int) < (E.ln pB).den) = _; rw [e2]
  have a2 : (EB.lt (.ln pB) (.num 33)).den = decide ((x2.2.length : Int) < 33) := by show decide ((E.ln pB).den < (33 : Int)) = _; rw [e2]
  have a3 : (EB.or (.eq (.ln pT) (.num 0)) (.eq pQ0 pQ3)).den = true ↔ (x1.2.length = 0 ∨ x0.2.length / 32 = (x0.2.length + x1.2.length - 1) / 32) := by
    show (((E.ln pT).den == (0 : Int)) || (pQ0.den == pQ3.den)) = true ↔ _
    rw [Bool.or_eq_true, beq_iff_eq, beq_iff_eq, e1]
    by_cases hz : x1.2.length = 0
    · exact ⟨fun _ => .inl hz, fun _ => .inl (by omega)⟩
    · rw [q0, q3 (by omega)]
      omega
  refine ⟨⟨fun h => ?_, fun h b hb => ?_⟩, ?_, ?_⟩
  · have b1 := h _ (List.mem_cons_self ..)
    have b2 := h _ (List.mem_cons_of_mem _ (List.mem_cons_self ..))
    have b3 := h _ (List.mem_cons_of_mem _ (List.mem_cons_of_mem _ (List.mem_cons_self ..)))
    rw [a1, decide_eq_true_eq] at b1
    rw [a2, decide_eq_true_eq] at b2
    exact ⟨by omega, by omega, a3.1 b3⟩
  · obtain ⟨g1, g2, g3⟩ := h
    rcases List.mem_cons.1 hb with rfl | hb
    · rw [a1, decide_eq_true_eq]; omega
    rcases List.mem_cons.1 hb with rfl | hb
    · rw [a2, decide_eq_true_eq]; omega
    rcases List.mem_cons.1 hb with rfl | hb
    · exact a3.2 g3
    · cases hb
  · show (pQ1.den == pQ2.den) = true ↔ _
    rw [beq_iff_eq, q1]
    by_cases hz : x2.2.length = 0
    · rw [q2' hz]; omega
    · rw [q2 (by omega)]; omega
  · show (64 : Int) - (E.ln pT).den = _
    rw [e1]
theorem put_sem : ∀ xs, GoodT base putL xs → match tstep base putL xs with
    | .inl ys => GoodT base putL ys ∧ meaT base putL ys < meaT base putL xs ∧ 0 ≤ meaT base putL xs
    | .inr (k, o) => hasAll (putL.os k) o := by
  intro xs hg
  obtain ⟨x0, x1, x2, e, d0, d1, d2, h0, h1, h2⟩ := put_dens hg.1
  obtain ⟨i1, i2, i3⟩ := put_inv e d0 d1 d2 h0 h1 h2
  obtain ⟨j1, j2, j3⟩ := i1.1 hg.2
  have l0 := has_len h0
  have l1 := has_len h1
  have hst : tstep base putL xs = bif @EB.den (envT base xs) (.eq pQ1 pQ2) then .inr (0, [@E.D (envT base xs) pC, @E.D (envT base xs) pT, @E.D (envT base xs) pB]) else
      .inl [@E.D (envT base xs) pC, (0, (@E.D (envT base xs) pT).2 ++ [144]), @E.D (envT base xs) pB] := by
    show @WT.vals (envT base xs) putL.wt = _
    show (bif @EB.den (envT base xs) (.eq pQ1 pQ2) then _ else _) = _
    cases @EB.den (envT base xs) (.eq pQ1 pQ2) <;> rfl
  rw [hst, d0, d1, d2]
  cases hc : @EB.den (envT base xs) (.eq pQ1 pQ2) with
  | true => exact ⟨h0, h1, h2, trivial⟩
  | false =>
    have hne : ¬ (x0.2.length + x1.2.length) / 32 = (x0.2.length + x1.2.length + x2.2.length - 1) / 32 := fun h => by
      rw [i2.2 h] at hc; cases hc
    have hlt : x1.2.length < 32 := by omega
    have hn : TV.has (tl 32) (0, x1.2 ++ [144]) := hasNop h1 hlt 144 (by omega)
    have hall : hasAll pvs [x0, (0, x1.2 ++ [144]), x2] := ⟨h0, hn, h2, trivial⟩
    obtain ⟨y0, y1, y2, e', d0', d1', d2', h0', h1', h2'⟩ := put_dens hall
    have ee := e'
    simp only [List.cons.injEq, and_true] at ee
    obtain ⟨rfl, rfl, rfl⟩ := ee
    obtain ⟨k1, k2, k3⟩ := put_inv rfl d0' d1' d2' h0' h1' h2'
    have hlen : (x1.2 ++ [144]).length = x1.2.length + 1 := by simp
    rw [hlen] at k1
    have k3 : meaT base putL [x0, (0, x1.2 ++ [144]), x2] = 64 - ((x1.2.length + 1 : Nat) : Int) := by rw [k3]; show 64 - (((x1.2 ++ [144]).length : Nat) : Int) = _; rw [hlen]
    refine ⟨⟨hall, k1.2 ⟨j1, j2, .inr ?_⟩⟩, ?_, ?_⟩
    · omega
    · show meaT base putL [x0, (0, x1.2 ++ [144]), x2] < _
      rw [k3, i3]; omega
    · rw [i3]; omega
def cfP0 : Cfg := { lv := fun id => if id = 1 then some [0, 1] else none }
theorem roundPut [Env] : roundT Try.prog (callE Try.prog env0 cfg0 12) cfP0 2 1 putL (loopOf Try.prog 25 0) = true := by kernel_rfl
theorem okPut : TOk Try.prog base (fun e => @callE e Try.prog (@env0) cfg0 12) (fun _ => cfP0) 2 1 putL (loopOf Try.prog 25 0) where
  sound xs := @sound0 (envT base xs) 12
  names := names
  mixed := mixed
  loops xs := @LoopsOk.none (envT base xs) _ _ _ (fun _ => rfl) _ (fun f h => by cases h)
  puts := by kernel_rfl
  big := by decide
  sem := fun _ => put_sem
  round := fun _ xs => @roundPut (envT base xs)
/-! The function. -/
section
variable [Env]
def cfP : Cfg := { lv := fun id => if id = 1 then some [0, 1] else none, lc := fun id => if id = 1 then some (tmCon 100 putL [(0, .inl 0), (2, .inl 1), (1, .inr .nl)] [(0, 1, 2)]) else none, ob := some 2 }
def cfgP : FuncId → Cfg := fun g => if g = 25 then cfP else {}
end
def pvF : List TV := [tl 4000, tl 40]
def fC : E := (tl 4000).leaf 0
def fB : E := (tl 40).leaf 1
def putX : FSig where
  vars := pvF
  g := 25
  args := [.one (.sl false 0 (.c 0) (.ex (.ln fC)) 1), .one (.sl false 1 (.c 0) (.ex (.ln fB)) 1)]
  st := [.row true 1 (.ex (.int .u8) fC), .row false 1 (.ex (.int .u8) fB)]
  inv := [.lt (.num 0) (.ln fB), .lt (.ln fB) (.num 33)]
  wt := .stop 0 [fC, .ls 6402 (encTV pvs [fC, .nl, fB]) 0 255 32, fB]
  nk := 1
  os := fun _ => pvs
  xres := fun _ => .one (.sl false 2 (.c 0) (.ex (.pl (.ln pC) (.pl (.ln pT) (.ln pB)))) 1)
  xst := fun _ => [.dead, .row false 1 (.ex (.int .u8) pB), .row true 1 (.ex (.int .u8) (.cc pC (.cc pT pB)))]
theorem loops25 : loopsC ((Try.f25.body).getD .skip) = [(1, loopOf Try.prog 25 0)] := by kernel_rfl
theorem envOkP [e : Env] (h : FnIs e 100 (TmR base putL)) : EnvOk Try.prog env0 cfgP := by
  refine ⟨names, fun g c h => (by cases h), fun g fn c σ _ hf hc => ?_⟩
  unfold cfgP
  split
  · rename_i e; subst e
    rw [Try.func25] at hf
    cases hf
    refine LoopsOk.ob (n0 := 2) rfl σ fun p hp g' hg' => ?_
    have hb : Try.f25.body.getD .skip = c := by rw [hc]; rfl
    rw [← hb, loops25, List.mem_singleton] at hp
    subst hp
    have hg' : some (tmCon 100 putL [(0, .inl 0), (2, .inl 1), (1, .inr .nl)] [(0, 1, 2)]) = some g' := hg'
    cases hg'
    exact tmCon_sound okPut _ (by decide) (fun _ => show pvs.length ≤ 60 by decide) (by kernel_rfl) (by kernel_rfl) (fun _ => .inl ⟨0, rfl⟩) h.tm
  · exact LoopsOk.none (fun _ => rfl) c
theorem runPut [Env] : fRun (callE Try.prog env0 cfgP 12) putX = true := by kernel_rfl
theorem putX_sound (e : Env) (h : FnIs e 100 (TmR base putL)) : ∀ args σ v σ', @Out.run e _ (@frameCon 0 (@fCon e putX []) args σ) = some (v, σ') → @Den e Try.prog 25 args σ v σ' :=
  @frameCon_sound e _ _ _ _ (fCon_sound (s := putX) (call := fun e => @callE e Try.prog (@env0) (@cfgP e) 12) (fun xs => @call_sound (envT e xs) Try.prog _ _ mixed (@envOkP (envT e xs) (h.T (by decide) xs)) 12) (by kernel_rfl) (fun xs => @runPut (envT e xs)) ⟨_, Try.func25, rfl⟩)
end Go.SX.Img
