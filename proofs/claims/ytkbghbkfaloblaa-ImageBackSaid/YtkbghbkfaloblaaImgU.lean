/- ImageBack: the loops of what puts pieces together: pads, pieces, halts. -/
import Derived.Test.YtkbghbkfaloblaaImgT
import Derived.Test.YtkbghbkfaloblaaImgS2
namespace Go.SX.Img
open Go Go.SX Go.Proofs
set_option maxRecDepth 1000000
set_option linter.unusedSectionVars false
def tL : TV := ⟨true, 0, 4294967295, 100⟩
def pks : List Kd := [.int .u8, .int .u8, .int .u8, .int .u32]
def slC (id : Nat) (n : E) : AV := .one (.sl false id (.c 0) (.ex n) 1)
def intA (k : IntKind) (e : E) : AV := .one (.int k (.ex e))
def cN : E := (tn 0 25).leaf 0
def cL : E := tL.leaf 1
def cD : E := (tn 0 1).leaf 2
def cI : E := (tn 0 25).leaf 3
def cF : E := (tn 0 4000).leaf 4
def cC : E := (tl 3400).leaf 5
def codeL : TSig where
  vars := [tn 0 25, tL, tn 0 1, tn 0 25, tn 0 4000, tl 3400]
  fn := 196
  fl := [(7, intA .i64 cI), (0, .one (.sl false 0 (.c 0) (.ex cN) 4)), (1, .one (.bool (.ex (.eq cD (.num 1))))), (5, slC 1 (.ln cC)), (6, intA .i64 cF), (4, .one .nils)]
  st := [.row false 4 (.tb pks cL), .row true 1 (.ex (.int .u8) cC)]
  wt := .stop 0 []
  inv := [.eq (.ln cL) (mulE 4 cN), .lt (.ln cC) (.pl (.op .mul .i64 cI (.num 128)) (.num 1)), .lt cI (.pl cN (.num 1))]
  mea := .mi cN cI
  nk := 1
  os := fun _ => [tn 0 4000, tl 3400]
  ex := fun _ => .exit 0
  xfl := fun _ => [(5, slC 1 (.ln ((tl 3400).leaf 1))), (6, intA .i64 ((tn 0 4000).leaf 0)), (4, .one .nils)]
  xst := fun _ => [.dead, .row true 1 (.ex (.int .u8) ((tl 3400).leaf 1))]
/-! Pads to the bundle's last five bytes. -/
def nvs : List TV := [tn 0 25, tL, tn 0 1, tn 0 25, tn 0 4000, tn 0 4294967295, tl 3500, tl 32]
def nS : E := (tn 0 4294967295).leaf 5
def nC : E := (tl 3500).leaf 6
def nT : E := (tl 32).leaf 7
def nfl : List (Nat × AV) := [(7, intA .i64 cI), (0, .one (.sl false 0 (.c 0) (.ex cN) 4)), (1, .one (.bool (.ex (.eq cD (.num 1))))), (5, slC 1 (.pl (.ln nC) (.ln nT))), (6, intA .i64 cF), (4, .one .nils), (10, intA .u32 nS)]
def nst : St := [.row false 4 (.tb pks cL), .row true 1 (.ex (.int .u8) (.cc nC nT))]
def nQ : E := .op .rem .i64 (.pl (.ln nC) (.ln nT)) (.num 32)
def nQ0 : E := .op .rem .i64 (.ln nC) (.num 32)
def nQ1 : E := .op .rem .i64 (.mi (.num 59) nQ0) (.num 32)
def nopL : TSig where
  vars := nvs
  fn := 196
  fl := nfl
  st := nst
  wt := .br (.eq nQ (.num 27)) (.stop 0 [cN, cL, cD, cI, cF, nS, nC, nT]) (.go [cN, cL, cD, cI, cF, nS, nC, .cc nT (.cn (.num 144) .nl)])
  inv := [.lt (.ln nT) (.pl nQ1 (.num 1))]
  mea := .mi (.num 64) (.ln nT)
  nk := 1
  os := fun _ => nvs
  ex := fun _ => .exit 3
  xfl := fun _ => nfl
  xst := fun _ => nst
  chk := false
  kp := [0, 1, 2, 3, 4, 5, 6]
theorem nop_dens {xs : List (Int × List Int)} (hv : hasAll nvs xs) : ∃ x0 x1 x2 x3 x4 x5 x6 x7, xs = [x0, x1, x2, x3, x4, x5, x6, x7] ∧ @E.D (envT base xs) cN = x0 ∧ @E.D (envT base xs) cL = x1 ∧ @E.D (envT base xs) cD = x2 ∧ @E.D (envT base xs) cI = x3 ∧ @E.D (envT base xs) cF = x4 ∧ @E.D (envT base xs) nS = x5 ∧ @E.D (envT base xs) nC = x6 ∧ @E.D (envT base xs) nT = x7 ∧ TV.has (tl 3500) x6 ∧ TV.has (tl 32) x7 := by
  match xs, hv with
  | [x0, x1, x2, x3, x4, x5, x6, x7], hv =>
    obtain ⟨h0, h1, h2, h3, h4, h5, h6, h7, _⟩ := hv
    exact ⟨x0, x1, x2, x3, x4, x5, x6, x7, rfl, leaf_D base (i := 0) h0, leaf_D base (i := 1) h1, leaf_D base (i := 2) h2, leaf_D base (i := 3) h3, leaf_D base (i := 4) h4, leaf_D base (i := 5) h5, leaf_D base (i := 6) h6, leaf_D base (i := 7) h7, h6, h7⟩
theorem nop_inv {xs : List (Int × List Int)} {x6 x7 : Int × List Int} (d6 : @E.D (envT base xs) nC = x6) (d7 : @E.D (envT base xs) nT = x7) (_ : TV.has (tl 3500) x6) (_ : TV.has (tl 32) x7) :
    ((∀ b ∈ nopL.inv, @EB.den (envT base xs) b = true) ↔ x7.2.length ≤ (59 - x6.2.length % 32) % 32) ∧ (@EB.den (envT base xs) (.eq nQ (.num 27)) = true ↔ (x6.2.length + x7.2.length) % 32 = 27) ∧ meaT base nopL xs = 64 - (x7.2.length : Int) := by
  letI : Env := envT base xs
  have e0 : (E.ln nC).den = (x6.2.length : Int) := by show ((nC.D.2.length : Nat) : Int) = _; rw [d6]
  have e1 : (E.ln nT).den = (x7.2.length : Int) := by show ((nT.D.2.length : Nat) : Int) = _; rw [d7]
  have q0 : nQ0.den = (x6.2.length : Int) % 32 := by
    show semI .rem .i64 (E.ln nC).den 32 = _
    rw [e0]; exact rem64 (by omega)
  have q1 : nQ1.den = (59 - (x6.2.length : Int) % 32) % 32 := by
    show semI .rem .i64 (59 - nQ0.den) 32 = _
    rw [q0]; exact rem64 (by omega)
  have q2 : nQ.den = ((x6.2.length : Int) + x7.2.length) % 32 := by
    show semI .rem .i64 ((E.ln nC).den + (E.ln nT).den) 32 = _
    rw [e0, e1]; exact rem64 (by omega)
  have a1 : (EB.lt (.ln nT) (.pl nQ1 (.num 1))).den = decide ((x7.2.length : Int) < (59 - (x6.2.length : Int) % 32) % 32 + 1) := by
    show decide ((E.ln nT).den < nQ1.den + 1) = _
    rw [e1, q1]
  refine ⟨⟨fun h => ?_, fun h b hb => ?_⟩, ?_, ?_⟩
  · have b1 := h _ (List.mem_cons_self ..)
    rw [a1, decide_eq_true_eq] at b1
    omega
  · rcases List.mem_cons.1 hb with rfl | hb
    · rw [a1, decide_eq_true_eq]; omega
    · cases hb
  · show (nQ.den == (27 : Int)) = true ↔ _
    rw [beq_iff_eq, q2]; omega
  · show (64 : Int) - (E.ln nT).den = _
    rw [e1]
theorem nop_sem : ∀ xs, GoodT base nopL xs → match tstep base nopL xs with
    | .inl ys => GoodT base nopL ys ∧ meaT base nopL ys < meaT base nopL xs ∧ 0 ≤ meaT base nopL xs
    | .inr (k, o) => hasAll (nopL.os k) o := by
  intro xs hg
  have hv := hg.1
  obtain ⟨x0, x1, x2, x3, x4, x5, x6, x7, e, d0, d1, d2, d3, d4, d5, d6, d7, h6, h7⟩ := nop_dens hg.1
  obtain ⟨i1, i2, i3⟩ := nop_inv d6 d7 h6 h7
  have j1 := i1.1 hg.2
  have l7 := has_len h7
  have hst : tstep base nopL xs = bif @EB.den (envT base xs) (.eq nQ (.num 27)) then .inr (0, [@E.D (envT base xs) cN, @E.D (envT base xs) cL, @E.D (envT base xs) cD, @E.D (envT base xs) cI, @E.D (envT base xs) cF, @E.D (envT base xs) nS, @E.D (envT base xs) nC, @E.D (envT base xs) nT]) else
      .inl [@E.D (envT base xs) cN, @E.D (envT base xs) cL, @E.D (envT base xs) cD, @E.D (envT base xs) cI, @E.D (envT base xs) cF, @E.D (envT base xs) nS, @E.D (envT base xs) nC, (0, (@E.D (envT base xs) nT).2 ++ [144])] := by
    show @WT.vals (envT base xs) nopL.wt = _
    show (bif @EB.den (envT base xs) (.eq nQ (.num 27)) then _ else _) = _
    cases @EB.den (envT base xs) (.eq nQ (.num 27)) <;> rfl
  rw [hst, d0, d1, d2, d3, d4, d5, d6, d7]
  cases hc : @EB.den (envT base xs) (.eq nQ (.num 27)) with
  | true => show hasAll nvs _; rw [← e]; exact hv
  | false =>
    have hne : ¬ (x6.2.length + x7.2.length) % 32 = 27 := fun h => by rw [i2.2 h] at hc; cases hc
    have hlt : x7.2.length < 32 := by omega
    have hn : TV.has (tl 32) (0, x7.2 ++ [144]) := hasNop h7 hlt 144 (by omega)
    subst e
    obtain ⟨g0, g1, g2, g3, g4, g5, g6, g7, _⟩ := hv
    have hall : hasAll nvs [x0, x1, x2, x3, x4, x5, x6, (0, x7.2 ++ [144])] := ⟨g0, g1, g2, g3, g4, g5, g6, hn, trivial⟩
    obtain ⟨y0, y1, y2, y3, y4, y5, y6, y7, e', _, _, _, _, _, _, d6', d7', h6', h7'⟩ := nop_dens hall
    simp only [List.cons.injEq, and_true] at e'
    obtain ⟨rfl, rfl, rfl, rfl, rfl, rfl, rfl, rfl⟩ := e'
    obtain ⟨k1, k2, k3⟩ := nop_inv d6' d7' h6' h7'
    have hlen : (x7.2 ++ [144]).length = x7.2.length + 1 := by simp
    rw [hlen] at k1
    have k3 : meaT base nopL [x0, x1, x2, x3, x4, x5, x6, (0, x7.2 ++ [144])] = 64 - ((x7.2.length + 1 : Nat) : Int) := by rw [k3]; show 64 - (((x7.2 ++ [144]).length : Nat) : Int) = _; rw [hlen]
    refine ⟨⟨hall, k1.2 (by omega)⟩, ?_, ?_⟩
    · show meaT base nopL [x0, x1, x2, x3, x4, x5, x6, (0, x7.2 ++ [144])] < _
      rw [k3, i3]; omega
    · rw [i3]; omega
/-! Pads until six bytes go in. -/
def mvs : List TV := [tn 0 25, tL, tn 0 1, tn 0 25, tn 0 4000, tn 0 255, tn 0 255, tn 0 255, tn 0 4294967295, tl 3500, tl 32]
def mC : E := (tl 3500).leaf 9
def mT : E := (tl 32).leaf 10
def mP (i : Nat) : E := (tn 0 255).leaf i
def mN : E := (tn 0 4294967295).leaf 8
def mfl : List (Nat × AV) := [(7, intA .i64 cI), (0, .one (.sl false 0 (.c 0) (.ex cN) 4)), (1, .one (.bool (.ex (.eq cD (.num 1))))), (5, slC 1 (.pl (.ln mC) (.ln mT))), (6, intA .i64 cF), (4, .one .nils), (8, .one (.ptr 2 (.c 0) 1 0 0))]
def mst : St := [.row false 4 (.tb pks cL), .row true 1 (.ex (.int .u8) (.cc mC mT)), .row true 1 (.vals [.int .u8 (.ex (mP 5)), .int .u8 (.ex (mP 6)), .int .u8 (.ex (mP 7)), .int .u32 (.ex mN)])]
def mQ : E := .op .rem .i64 (.pl (.ln mC) (.ln mT)) (.num 32)
def mQ0 : E := .op .rem .i64 (.ln mC) (.num 32)
def momL : TSig where
  vars := mvs
  fn := 196
  fl := mfl
  st := mst
  wt := .br (.lt (.num 26) mQ) (.go [cN, cL, cD, cI, cF, mP 5, mP 6, mP 7, mN, mC, .cc mT (.cn (.num 144) .nl)]) (.stop 0 [cN, cL, cD, cI, cF, mP 5, mP 6, mP 7, mN, mC, mT])
  inv := [.lt (.ln mT) (.mi (.num 33) mQ0)]
  mea := .mi (.num 64) (.ln mT)
  nk := 1
  os := fun _ => mvs
  ex := fun _ => .exit 5
  xfl := fun _ => mfl
  xst := fun _ => mst
  chk := false
  kp := [0, 1, 2, 3, 4, 5, 6, 7, 8, 9]
theorem mom_dens {xs : List (Int × List Int)} (hv : hasAll mvs xs) : ∃ x0 x1 x2 x3 x4 x5 x6 x7 x8 x9 x10, xs = [x0, x1, x2, x3, x4, x5, x6, x7, x8, x9, x10] ∧ @E.D (envT base xs) cN = x0 ∧ @E.D (envT base xs) cL = x1 ∧ @E.D (envT base xs) cD = x2 ∧ @E.D (envT base xs) cI = x3 ∧ @E.D (envT base xs) cF = x4 ∧ @E.D (envT base xs) (mP 5) = x5 ∧ @E.D (envT base xs) (mP 6) = x6 ∧ @E.D (envT base xs) (mP 7) = x7 ∧ @E.D (envT base xs) mN = x8 ∧ @E.D (envT base xs) mC = x9 ∧ @E.D (envT base xs) mT = x10 ∧ TV.has (tl 3500) x9 ∧ TV.has (tl 32) x10 := by
  match xs, hv with
  | [x0, x1, x2, x3, x4, x5, x6, x7, x8, x9, x10], hv =>
    obtain ⟨h0, h1, h2, h3, h4, h5, h6, h7, h8, h9, h10, _⟩ := hv
    exact ⟨x0, x1, x2, x3, x4, x5, x6, x7, x8, x9, x10, rfl, leaf_D base (i := 0) h0, leaf_D base (i := 1) h1, leaf_D base (i := 2) h2, leaf_D base (i := 3) h3, leaf_D base (i := 4) h4, leaf_D base (i := 5) h5, leaf_D base (i := 6) h6, leaf_D base (i := 7) h7, leaf_D base (i := 8) h8, leaf_D base (i := 9) h9, leaf_D base (i := 10) h10, h9, h10⟩
theorem mom_inv {xs : List (Int × List Int)} {x6 x7 : Int × List Int} (d6 : @E.D (envT base xs) mC = x6) (d7 : @E.D (envT base xs) mT = x7) (_ : TV.has (tl 3500) x6) (_ : TV.has (tl 32) x7) :
    ((∀ b ∈ momL.inv, @EB.den (envT base xs) b = true) ↔ x7.2.length ≤ 32 - x6.2.length % 32) ∧ (@EB.den (envT base xs) (.lt (.num 26) mQ) = true ↔ 26 < (x6.2.length + x7.2.length) % 32) ∧ meaT base momL xs = 64 - (x7.2.length : Int) := by
  letI : Env := envT base xs
  have e0 : (E.ln mC).den = (x6.2.length : Int) := by show ((mC.D.2.length : Nat) : Int) = _; rw [d6]
  have e1 : (E.ln mT).den = (x7.2.length : Int) := by show ((mT.D.2.length : Nat) : Int) = _; rw [d7]
  have q0 : mQ0.den = (x6.2.length : Int) % 32 := by
    show semI .rem .i64 (E.ln mC).den 32 = _
    rw [e0]; exact rem64 (by omega)
  have q2 : mQ.den = ((x6.2.length : Int) + x7.2.length) % 32 := by
    show semI .rem .i64 ((E.ln mC).den + (E.ln mT).den) 32 = _
    rw [e0, e1]; exact rem64 (by omega)
  have a1 : (EB.lt (.ln mT) (.mi (.num 33) mQ0)).den = decide ((x7.2.length : Int) < 33 - (x6.2.length : Int) % 32) := by
    show decide ((E.ln mT).den < 33 - mQ0.den) = _
    rw [e1, q0]
  refine ⟨⟨fun h => ?_, fun h b hb => ?_⟩, ?_, ?_⟩
  · have b1 := h _ (List.mem_cons_self ..)
    rw [a1, decide_eq_true_eq] at b1
    omega
  · rcases List.mem_cons.1 hb with rfl | hb
    · rw [a1, decide_eq_true_eq]; omega
    · cases hb
  · show decide ((26 : Int) < mQ.den) = true ↔ _
    rw [decide_eq_true_eq, q2]; omega
  · show (64 : Int) - (E.ln mT).den = _
    rw [e1]
theorem mom_sem : ∀ xs, GoodT base momL xs → match tstep base momL xs with
    | .inl ys => GoodT base momL ys ∧ meaT base momL ys < meaT base momL xs ∧ 0 ≤ meaT base momL xs
    | .inr (k, o) => hasAll (momL.os k) o := by
  intro xs hg
  have hv := hg.1
  obtain ⟨x0, x1, x2, x3, x4, x5, x6, x7, x8, x9, x10, e, d0, d1, d2, d3, d4, d5, d6, d7, d8, d9, d10, h9, h10⟩ := mom_dens hg.1
  obtain ⟨i1, i2, i3⟩ := mom_inv d9 d10 h9 h10
  have j1 := i1.1 hg.2
  have l10 := has_len h10
  have hst : tstep base momL xs = bif @EB.den (envT base xs) (.lt (.num 26) mQ) then .inl [@E.D (envT base xs) cN, @E.D (envT base xs) cL, @E.D (envT base xs) cD, @E.D (envT base xs) cI, @E.D (envT base xs) cF, @E.D (envT base xs) (mP 5), @E.D (envT base xs) (mP 6), @E.D (envT base xs) (mP 7), @E.D (envT base xs) mN, @E.D (envT base xs) mC, (0, (@E.D (envT base xs) mT).2 ++ [144])] else
      .inr (0, [@E.D (envT base xs) cN, @E.D (envT base xs) cL, @E.D (envT base xs) cD, @E.D (envT base xs) cI, @E.D (envT base xs) cF, @E.D (envT base xs) (mP 5), @E.D (envT base xs) (mP 6), @E.D (envT base xs) (mP 7), @E.D (envT base xs) mN, @E.D (envT base xs) mC, @E.D (envT base xs) mT]) := by
    show @WT.vals (envT base xs) momL.wt = _
    show (bif @EB.den (envT base xs) (.lt (.num 26) mQ) then _ else _) = _
    cases @EB.den (envT base xs) (.lt (.num 26) mQ) <;> rfl
  rw [hst, d0, d1, d2, d3, d4, d5, d6, d7, d8, d9, d10]
  cases hc : @EB.den (envT base xs) (.lt (.num 26) mQ) with
  | false => show hasAll mvs _; rw [← e]; exact hv
  | true =>
    have hne := i2.1 hc
    have hlt : x10.2.length < 32 := by omega
    have hn : TV.has (tl 32) (0, x10.2 ++ [144]) := hasNop h10 hlt 144 (by omega)
    subst e
    obtain ⟨g0, g1, g2, g3, g4, g5, g6, g7, g8, g9, g10, _⟩ := hv
    have hall : hasAll mvs [x0, x1, x2, x3, x4, x5, x6, x7, x8, x9, (0, x10.2 ++ [144])] := ⟨g0, g1, g2, g3, g4, g5, g6, g7, g8, g9, hn, trivial⟩
    obtain ⟨y0, y1, y2, y3, y4, y5, y6, y7, y8, y9, y10, e', _, _, _, _, _, _, _, _, _, d9', d10', h9', h10'⟩ := mom_dens hall
    simp only [List.cons.injEq, and_true] at e'
    obtain ⟨rfl, rfl, rfl, rfl, rfl, rfl, rfl, rfl, rfl, rfl, rfl⟩ := e'
    obtain ⟨k1, k2, k3⟩ := mom_inv d9' d10' h9' h10'
    have hlen : (x10.2 ++ [144]).length = x10.2.length + 1 := by simp
    rw [hlen] at k1
    have k3 : meaT base momL [x0, x1, x2, x3, x4, x5, x6, x7, x8, x9, (0, x10.2 ++ [144])] = 64 - ((x10.2.length + 1 : Nat) : Int) := by rw [k3]; show 64 - (((x10.2 ++ [144]).length : Nat) : Int) = _; rw [hlen]
    refine ⟨⟨hall, k1.2 (by omega)⟩, ?_, ?_⟩
    · show meaT base momL [x0, x1, x2, x3, x4, x5, x6, x7, x8, x9, (0, x10.2 ++ [144])] < _
      rw [k3, i3]; omega
    · rw [i3]; omega
/-! Halts up to the farthest jump. -/
def hF : E := (tn 0 4000).leaf 0
def hC : E := (tl 4000).leaf 1
def hltL : TSig where
  vars := [tn 0 4000, tl 4000]
  fn := 196
  fl := [(5, slC 1 (.ln hC)), (6, intA .i64 hF), (4, .one .nils)]
  st := [.dead, .row true 1 (.ex (.int .u8) hC)]
  wt := .stop 0 []
  inv := []
  mea := .mi hF (.ln hC)
  nk := 1
  os := fun _ => [tl 4000]
  ex := fun _ => .exit 7
  xfl := fun _ => [(5, slC 1 (.ln ((tl 4000).leaf 0)))]
  xst := fun _ => [.dead, .row true 1 (.ex (.int .u8) ((tl 4000).leaf 0))]
def cfLv (id : Nat) : Option (List Nat) := if id = 4 then some [7, 0, 1, 5, 6, 4] else if id = 15 then some [5, 10, 7, 0, 1, 6, 4] else if id = 19 then some [5, 8, 7, 0, 1, 6, 4] else if id = 37 then some [5, 6, 4] else none
def cfC0 : Cfg := { lv := cfLv }
section
variable [Env]
theorem roundNop : roundT Try.prog (callE Try.prog env0 cfg0 12) cfC0 1 15 nopL (loopOf Try.prog 18 1) = true := by kernel_rfl
theorem roundMom : roundT Try.prog (callE Try.prog env0 cfg0 12) cfC0 1 19 momL (loopOf Try.prog 18 2) = true := by kernel_rfl
theorem roundHlt : roundA Try.prog (callE Try.prog env0 cfg0 12) cfC0 1 37 hltL (loopOf Try.prog 18 3) (knows hltL.inv) = true := by kernel_rfl
end
theorem okNop : TOk Try.prog base (fun e => @callE e Try.prog (@env0) cfg0 12) (fun _ => cfC0) 1 15 nopL (loopOf Try.prog 18 1) where
  sound xs := @sound0 (envT base xs) 12
  names := names
  mixed := mixed
  loops xs := @LoopsOk.none (envT base xs) _ _ _ (fun _ => rfl) _ (fun f h => by cases h)
  puts := by kernel_rfl
  big := by decide
  sem := fun _ => nop_sem
  round := fun _ xs => @roundNop (envT base xs)
theorem okMom : TOk Try.prog base (fun e => @callE e Try.prog (@env0) cfg0 12) (fun _ => cfC0) 1 19 momL (loopOf Try.prog 18 2) where
  sound xs := @sound0 (envT base xs) 12
  names := names
  mixed := mixed
  loops xs := @LoopsOk.none (envT base xs) _ _ _ (fun _ => rfl) _ (fun f h => by cases h)
  puts := by kernel_rfl
  big := by decide
  sem := fun _ => mom_sem
  round := fun _ xs => @roundMom (envT base xs)
noncomputable def hltA : TSig := hltL.au base Try.prog (fun e => @callE e Try.prog (@env0) cfg0 12) (fun _ => cfC0) 1 37 (loopOf Try.prog 18 3)
theorem okHlt : TOk Try.prog base (fun e => @callE e Try.prog (@env0) cfg0 12) (fun _ => cfC0) 1 37 hltA (loopOf Try.prog 18 3) where
  sound xs := @sound0 (envT base xs) 12
  names := names
  mixed := mixed
  loops xs := @LoopsOk.none (envT base xs) _ _ _ (fun _ => rfl) _ (fun f h => by cases h)
  puts := by kernel_rfl
  big := by decide
  sem := fun h => by cases h
  round := fun h => by cases h
  roundA := fun g hg => ⟨rfl, (Option.some.inj hg).symm, fun xs hgd => ⟨_, @knows_ok (envT base xs) hltL.inv hgd.2, @roundHlt (envT base xs)⟩⟩
end Go.SX.Img
