/- The law of ClassBytes: true, whatever the register, whatever the number. -/
import Derived.Test.YtndcomioiakepaaClsA
namespace Go.SX.Cls
open Go Go.SX Go.Proofs

theorem and7 (r : Int) : ∃ q : Nat, q < 8 ∧ semI .and .u8 r 7 = (q : Int) := by
  have hq : (BitVec.ofInt 8 r &&& BitVec.ofInt 8 7).toNat < 8 := by
    rw [BitVec.toNat_and]; exact Nat.lt_of_le_of_lt Nat.and_le_right (by decide)
  refine ⟨(BitVec.ofInt 8 r &&& BitVec.ofInt 8 7).toNat, hq, ?_⟩
  show IntKind.wrap .u8 _ = _
  refine wrap_of_has ?_
  simp only [IntKind.has, IntKind.min, IntKind.max, IntKind.signed, IntKind.bits, Bool.false_eq_true, if_false]
  omega
theorem or8 (q : Nat) (h : q < 8) : semI .or .u8 224 (q : Int) = 224 + (q : Int) := by
  have : q = 0 ∨ q = 1 ∨ q = 2 ∨ q = 3 ∨ q = 4 ∨ q = 5 ∨ q = 6 ∨ q = 7 := by omega
  rcases this with rfl | rfl | rfl | rfl | rfl | rfl | rfl | rfl <;> rfl
theorem class3 (a d : Int) : classOf [5, 4, 1, a, 4, d, 3] = bif !(a == 4) then (bif d == 4294967264 then 3 else 1) else 1 := by
  simp [classOf, classOf7]
theorem class6 (a d : Int) : classOf [5, 4, 1, a, 4, d, 6] = 1 := by
  simp [classOf, classOf7]
theorem class5 (a d : Int) : classOf [5, 4, 1, a, 4, d, 5] = 1 := by
  simp [classOf, classOf7]
theorem has_iff (k : IntKind) (n : Int) : k.has n ↔ k.min ≤ n ∧ n ≤ k.max := Iff.rfl
theorem i8_ge (t : Int) (h : 128 ≤ t ∧ t ≤ 255) : IntKind.wrap .i8 t = t - 256 := by
  simp only [IntKind.wrap, IntKind.signed, IntKind.bits, Bool.true_and, Nat.reduceSub, Int.reducePow]
  split <;> (rename_i h'; simp at h'; omega)
theorem u32_neg (y : Int) (h : -256 ≤ y ∧ y < 0) : IntKind.wrap .u32 y = y + 4294967296 := by
  simp only [IntKind.wrap, IntKind.signed, IntKind.bits, Bool.false_and, Bool.false_eq_true, if_false, Int.reducePow]
  omega
theorem disp3 (x t : Int) (h : 0 ≤ t ∧ t ≤ 255) : (oneDisp [131, x, t] == 4294967264) = (t == 224) := by
  have : oneDisp [131, x, t] = IntKind.wrap .u32 (IntKind.wrap .i32 (IntKind.wrap .i8 t)) := rfl
  rw [this, Bool.eq_iff_iff, beq_iff_eq, beq_iff_eq]
  have m8 : IntKind.i8.min = -128 ∧ IntKind.i8.max = 127 := ⟨rfl, rfl⟩
  have m32 : IntKind.i32.min = -2147483648 ∧ IntKind.i32.max = 2147483647 := ⟨rfl, rfl⟩
  have mu : IntKind.u32.min = 0 ∧ IntKind.u32.max = 4294967295 := ⟨rfl, rfl⟩
  by_cases h1 : t ≤ 127
  · rw [wrap_of_has (k := .i8) ((has_iff _ _).2 (by omega)), wrap_of_has (k := .i32) ((has_iff _ _).2 (by omega)), wrap_of_has (k := .u32) ((has_iff _ _).2 (by omega))]
    omega
  · rw [i8_ge t (by omega), wrap_of_has (k := .i32) ((has_iff _ _).2 (by omega)), u32_neg _ (by omega)]
    omega
theorem F4_eq (r v : Int) : F4 r v = some [.b true] := by
  obtain ⟨q, hq, e⟩ := and7 r
  have ht : 0 ≤ IntKind.wrap .u8 v ∧ IntKind.wrap .u8 v ≤ 255 := by
    have := wrap_has .u8 v
    simpa [IntKind.has, IntKind.min, IntKind.max, IntKind.signed, IntKind.bits] using this
  unfold F4
  rw [e, or8 q hq]
  generalize IntKind.wrap .u8 v = t at *
  generalize IntKind.wrap .u8 (semI .shr .u32 v 8) = a
  generalize IntKind.wrap .u8 (semI .shr .u32 v 16) = b
  generalize IntKind.wrap .u8 (semI .shr .u32 v 24) = c
  have p1 : onePre [131, 224 + (q : Int), t] = true := by
    simp [onePre]; omega
  have p2 : onePre [129, 224 + (q : Int), t, a, b, c] = true := by
    simp [onePre]; omega
  have p3 : onePre [37, 224, 255, 255, 255] = true := rfl
  have p4 : oneReg [131, 224 + (q : Int), t] = q := by
    simp [oneReg]; omega
  rw [p1, p2, p3, class3, class6, class5, p4, disp3 _ _ ht]
  cases h1 : (t == 224) <;> cases h2 : ((q : Int) == 4) <;> rfl
theorem law4 (r v : Int) : PureSem Try.prog 4 [.inl (.sc (.int .u8)), .inl u3] [.inl bo] [.n r, .n v] [.b true] :=
  pure_of_eval (sound1 8) [.n (.sem r), .n (.sem v)] rfl rfl (by rw [run4]; exact F4_eq r v)
theorem calls4 (a b : Int) (W : World) (ha : IntKind.u8.has a) (hb : IntKind.u32.has b) : Calls Try.prog 4 #[.int .u8 a, .int .u32 b] W fun e W' => e = .returned (.bool true) ∧ Calm W W' := by
  refine (law4 a b W #[.int .u8 a, .int .u32 b] True.intro ⟨⟨a, rfl, rfl, ha⟩, ⟨b, rfl, rfl, hb⟩, True.intro⟩).mono fun e W' h => ?_
  obtain ⟨val, rfl, ⟨_, _, h1⟩, h2⟩ := h
  obtain ⟨⟨x, hx, rfl⟩, _⟩ := h1
  cases hx
  exact ⟨rfl, h2⟩
end Go.SX.Cls
