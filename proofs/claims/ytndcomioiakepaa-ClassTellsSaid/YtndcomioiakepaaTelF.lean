/- ClassTells: both classes, both pairs alike; the law. -/
import Derived.Test.YtndcomioiakepaaTelE
namespace Go.SX.Tel
open Go Go.SX Go.Proofs Go.SX.Op
set_option maxRecDepth 1000000
set_option linter.unusedSectionVars false
theorem res14 (cvs : List CV) (h : ∃ w vs, AllV w (flatT sig14.pts) cvs vs) : HasRes Try.prog sig14 cvs := by
  obtain ⟨w, vs, h⟩ := h
  obtain ⟨a0, r, vr, rfl, ha0, h⟩ := AllV.int (ts := [i6, i6, i6, i6, i6, i6, i6, u3, i6, i6, i6, i6, i6, u3, u3, bo, i6]) h
  obtain ⟨a1, r, vr, rfl, ha1, h⟩ := AllV.int (ts := [i6, i6, i6, i6, i6, i6, u3, i6, i6, i6, i6, i6, u3, u3, bo, i6]) h
  obtain ⟨a2, r, vr, rfl, ha2, h⟩ := AllV.int (ts := [i6, i6, i6, i6, i6, u3, i6, i6, i6, i6, i6, u3, u3, bo, i6]) h
  obtain ⟨a3, r, vr, rfl, ha3, h⟩ := AllV.int (ts := [i6, i6, i6, i6, u3, i6, i6, i6, i6, i6, u3, u3, bo, i6]) h
  obtain ⟨a4, r, vr, rfl, ha4, h⟩ := AllV.int (ts := [i6, i6, i6, u3, i6, i6, i6, i6, i6, u3, u3, bo, i6]) h
  obtain ⟨a5, r, vr, rfl, ha5, h⟩ := AllV.int (ts := [i6, i6, u3, i6, i6, i6, i6, i6, u3, u3, bo, i6]) h
  obtain ⟨a6, r, vr, rfl, ha6, h⟩ := AllV.int (ts := [i6, u3, i6, i6, i6, i6, i6, u3, u3, bo, i6]) h
  obtain ⟨a7, r, vr, rfl, ha7, h⟩ := AllV.int (ts := [u3, i6, i6, i6, i6, i6, u3, u3, bo, i6]) h
  obtain ⟨a8, r, vr, rfl, ha8, h⟩ := AllV.int (ts := [i6, i6, i6, i6, i6, u3, u3, bo, i6]) h
  obtain ⟨a9, r, vr, rfl, ha9, h⟩ := AllV.int (ts := [i6, i6, i6, i6, u3, u3, bo, i6]) h
  obtain ⟨a10, r, vr, rfl, ha10, h⟩ := AllV.int (ts := [i6, i6, i6, u3, u3, bo, i6]) h
  obtain ⟨a11, r, vr, rfl, ha11, h⟩ := AllV.int (ts := [i6, i6, u3, u3, bo, i6]) h
  obtain ⟨a12, r, vr, rfl, ha12, h⟩ := AllV.int (ts := [i6, u3, u3, bo, i6]) h
  obtain ⟨a13, r, vr, rfl, ha13, h⟩ := AllV.int (ts := [u3, u3, bo, i6]) h
  obtain ⟨a14, r, vr, rfl, ha14, h⟩ := AllV.int (ts := [u3, bo, i6]) h
  obtain ⟨a15, r, vr, rfl, ha15, h⟩ := AllV.int (ts := [bo, i6]) h
  obtain ⟨a16, r, vr, rfl, hza16⟩ := AllV.bool (ts := [i6]) h
  have h := hza16
  obtain ⟨a17, r, vr, rfl, ha17, h⟩ := AllV.int (ts := []) h
  obtain rfl := AllV.nil h
  letI : Env := E0 [a0, a1, a2, a3, a4, a5, a6, a7, a8, a9, a10, a11, a12, a13, a14, a15, bI a16, a17] []
  refine res_of_both (sound0 12) (s := sig14) rfl irps (fs := []) (fun f h => (by cases h)) rfl ?_ both14
  show [CV.n (X.ex (.nm 0 (-9223372036854775808) 9223372036854775807)).den, CV.n (X.ex (.nm 1 (-9223372036854775808) 9223372036854775807)).den, CV.n (X.ex (.nm 2 (-9223372036854775808) 9223372036854775807)).den, CV.n (X.ex (.nm 3 (-9223372036854775808) 9223372036854775807)).den, CV.n (X.ex (.nm 4 (-9223372036854775808) 9223372036854775807)).den, CV.n (X.ex (.nm 5 (-9223372036854775808) 9223372036854775807)).den, CV.n (X.ex (.nm 6 (-9223372036854775808) 9223372036854775807)).den, CV.n (X.ex (.nm 7 (-9223372036854775808) 9223372036854775807)).den, CV.n (X.ex (.nm 8 0 4294967295)).den, CV.n (X.ex (.nm 9 (-9223372036854775808) 9223372036854775807)).den, CV.n (X.ex (.nm 10 (-9223372036854775808) 9223372036854775807)).den, CV.n (X.ex (.nm 11 (-9223372036854775808) 9223372036854775807)).den, CV.n (X.ex (.nm 12 (-9223372036854775808) 9223372036854775807)).den, CV.n (X.ex (.nm 13 (-9223372036854775808) 9223372036854775807)).den, CV.n (X.ex (.nm 14 0 4294967295)).den, CV.n (X.ex (.nm 15 0 4294967295)).den, CV.b (B.ex (.eq (.nm 16 0 1) (.num 1))).den, CV.n (X.ex (.nm 17 (-9223372036854775808) 9223372036854775807)).den] = _
  have ea0 : (X.ex (.nm 0 (-9223372036854775808) 9223372036854775807)).den = a0 := nm_den rfl ha0
  have ea1 : (X.ex (.nm 1 (-9223372036854775808) 9223372036854775807)).den = a1 := nm_den rfl ha1
  have ea2 : (X.ex (.nm 2 (-9223372036854775808) 9223372036854775807)).den = a2 := nm_den rfl ha2
  have ea3 : (X.ex (.nm 3 (-9223372036854775808) 9223372036854775807)).den = a3 := nm_den rfl ha3
  have ea4 : (X.ex (.nm 4 (-9223372036854775808) 9223372036854775807)).den = a4 := nm_den rfl ha4
  have ea5 : (X.ex (.nm 5 (-9223372036854775808) 9223372036854775807)).den = a5 := nm_den rfl ha5
  have ea6 : (X.ex (.nm 6 (-9223372036854775808) 9223372036854775807)).den = a6 := nm_den rfl ha6
  have ea7 : (X.ex (.nm 7 (-9223372036854775808) 9223372036854775807)).den = a7 := nm_den rfl ha7
  have ea8 : (X.ex (.nm 8 0 4294967295)).den = a8 := nm_den rfl ha8
  have ea9 : (X.ex (.nm 9 (-9223372036854775808) 9223372036854775807)).den = a9 := nm_den rfl ha9
  have ea10 : (X.ex (.nm 10 (-9223372036854775808) 9223372036854775807)).den = a10 := nm_den rfl ha10
  have ea11 : (X.ex (.nm 11 (-9223372036854775808) 9223372036854775807)).den = a11 := nm_den rfl ha11
  have ea12 : (X.ex (.nm 12 (-9223372036854775808) 9223372036854775807)).den = a12 := nm_den rfl ha12
  have ea13 : (X.ex (.nm 13 (-9223372036854775808) 9223372036854775807)).den = a13 := nm_den rfl ha13
  have ea14 : (X.ex (.nm 14 0 4294967295)).den = a14 := nm_den rfl ha14
  have ea15 : (X.ex (.nm 15 0 4294967295)).den = a15 := nm_den rfl ha15
  have ea16 : (B.ex (.eq (.nm 16 0 1) (.num 1))).den = a16 := nb_den rfl
  have ea17 : (X.ex (.nm 17 (-9223372036854775808) 9223372036854775807)).den = a17 := nm_den rfl ha17
  rw [ea0, ea1, ea2, ea3, ea4, ea5, ea6, ea7, ea8, ea9, ea10, ea11, ea12, ea13, ea14, ea15, ea16, ea17]
theorem res16 (cvs : List CV) (h : ∃ w vs, AllV w (flatT sig16.pts) cvs vs) : HasRes Try.prog sig16 cvs := by
  obtain ⟨w, vs, h⟩ := h
  obtain ⟨a0, r, vr, rfl, ha0, h⟩ := AllV.int (ts := [i6, i6, i6, i6, i6, i6, i6, u3, i6, i6, i6, i6, i6, u3, u3, bo, i6, i6, i6, i6, i6, i6, i6, i6, i6, u3, i6, i6, i6, i6, i6, u3, u3, bo, i6]) h
  obtain ⟨a1, r, vr, rfl, ha1, h⟩ := AllV.int (ts := [i6, i6, i6, i6, i6, i6, u3, i6, i6, i6, i6, i6, u3, u3, bo, i6, i6, i6, i6, i6, i6, i6, i6, i6, u3, i6, i6, i6, i6, i6, u3, u3, bo, i6]) h
  obtain ⟨a2, r, vr, rfl, ha2, h⟩ := AllV.int (ts := [i6, i6, i6, i6, i6, u3, i6, i6, i6, i6, i6, u3, u3, bo, i6, i6, i6, i6, i6, i6, i6, i6, i6, u3, i6, i6, i6, i6, i6, u3, u3, bo, i6]) h
  obtain ⟨a3, r, vr, rfl, ha3, h⟩ := AllV.int (ts := [i6, i6, i6, i6, u3, i6, i6, i6, i6, i6, u3, u3, bo, i6, i6, i6, i6, i6, i6, i6, i6, i6, u3, i6, i6, i6, i6, i6, u3, u3, bo, i6]) h
  obtain ⟨a4, r, vr, rfl, ha4, h⟩ := AllV.int (ts := [i6, i6, i6, u3, i6, i6, i6, i6, i6, u3, u3, bo, i6, i6, i6, i6, i6, i6, i6, i6, i6, u3, i6, i6, i6, i6, i6, u3, u3, bo, i6]) h
  obtain ⟨a5, r, vr, rfl, ha5, h⟩ := AllV.int (ts := [i6, i6, u3, i6, i6, i6, i6, i6, u3, u3, bo, i6, i6, i6, i6, i6, i6, i6, i6, i6, u3, i6, i6, i6, i6, i6, u3, u3, bo, i6]) h
  obtain ⟨a6, r, vr, rfl, ha6, h⟩ := AllV.int (ts := [i6, u3, i6, i6, i6, i6, i6, u3, u3, bo, i6, i6, i6, i6, i6, i6, i6, i6, i6, u3, i6, i6, i6, i6, i6, u3, u3, bo, i6]) h
  obtain ⟨a7, r, vr, rfl, ha7, h⟩ := AllV.int (ts := [u3, i6, i6, i6, i6, i6, u3, u3, bo, i6, i6, i6, i6, i6, i6, i6, i6, i6, u3, i6, i6, i6, i6, i6, u3, u3, bo, i6]) h
  obtain ⟨a8, r, vr, rfl, ha8, h⟩ := AllV.int (ts := [i6, i6, i6, i6, i6, u3, u3, bo, i6, i6, i6, i6, i6, i6, i6, i6, i6, u3, i6, i6, i6, i6, i6, u3, u3, bo, i6]) h
  obtain ⟨a9, r, vr, rfl, ha9, h⟩ := AllV.int (ts := [i6, i6, i6, i6, u3, u3, bo, i6, i6, i6, i6, i6, i6, i6, i6, i6, u3, i6, i6, i6, i6, i6, u3, u3, bo, i6]) h
  obtain ⟨a10, r, vr, rfl, ha10, h⟩ := AllV.int (ts := [i6, i6, i6, u3, u3, bo, i6, i6, i6, i6, i6, i6, i6, i6, i6, u3, i6, i6, i6, i6, i6, u3, u3, bo, i6]) h
  obtain ⟨a11, r, vr, rfl, ha11, h⟩ := AllV.int (ts := [i6, i6, u3, u3, bo, i6, i6, i6, i6, i6, i6, i6, i6, i6, u3, i6, i6, i6, i6, i6, u3, u3, bo, i6]) h
  obtain ⟨a12, r, vr, rfl, ha12, h⟩ := AllV.int (ts := [i6, u3, u3, bo, i6, i6, i6, i6, i6, i6, i6, i6, i6, u3, i6, i6, i6, i6, i6, u3, u3, bo, i6]) h
  obtain ⟨a13, r, vr, rfl, ha13, h⟩ := AllV.int (ts := [u3, u3, bo, i6, i6, i6, i6, i6, i6, i6, i6, i6, u3, i6, i6, i6, i6, i6, u3, u3, bo, i6]) h
  obtain ⟨a14, r, vr, rfl, ha14, h⟩ := AllV.int (ts := [u3, bo, i6, i6, i6, i6, i6, i6, i6, i6, i6, u3, i6, i6, i6, i6, i6, u3, u3, bo, i6]) h
  obtain ⟨a15, r, vr, rfl, ha15, h⟩ := AllV.int (ts := [bo, i6, i6, i6, i6, i6, i6, i6, i6, i6, u3, i6, i6, i6, i6, i6, u3, u3, bo, i6]) h
  obtain ⟨a16, r, vr, rfl, hza16⟩ := AllV.bool (ts := [i6, i6, i6, i6, i6, i6, i6, i6, i6, u3, i6, i6, i6, i6, i6, u3, u3, bo, i6]) h
  have h := hza16
  obtain ⟨a17, r, vr, rfl, ha17, h⟩ := AllV.int (ts := [i6, i6, i6, i6, i6, i6, i6, i6, u3, i6, i6, i6, i6, i6, u3, u3, bo, i6]) h
  obtain ⟨b0, r, vr, rfl, hb0, h⟩ := AllV.int (ts := [i6, i6, i6, i6, i6, i6, i6, u3, i6, i6, i6, i6, i6, u3, u3, bo, i6]) h
  obtain ⟨b1, r, vr, rfl, hb1, h⟩ := AllV.int (ts := [i6, i6, i6, i6, i6, i6, u3, i6, i6, i6, i6, i6, u3, u3, bo, i6]) h
  obtain ⟨b2, r, vr, rfl, hb2, h⟩ := AllV.int (ts := [i6, i6, i6, i6, i6, u3, i6, i6, i6, i6, i6, u3, u3, bo, i6]) h
  obtain ⟨b3, r, vr, rfl, hb3, h⟩ := AllV.int (ts := [i6, i6, i6, i6, u3, i6, i6, i6, i6, i6, u3, u3, bo, i6]) h
  obtain ⟨b4, r, vr, rfl, hb4, h⟩ := AllV.int (ts := [i6, i6, i6, u3, i6, i6, i6, i6, i6, u3, u3, bo, i6]) h
  obtain ⟨b5, r, vr, rfl, hb5, h⟩ := AllV.int (ts := [i6, i6, u3, i6, i6, i6, i6, i6, u3, u3, bo, i6]) h
  obtain ⟨b6, r, vr, rfl, hb6, h⟩ := AllV.int (ts := [i6, u3, i6, i6, i6, i6, i6, u3, u3, bo, i6]) h
  obtain ⟨b7, r, vr, rfl, hb7, h⟩ := AllV.int (ts := [u3, i6, i6, i6, i6, i6, u3, u3, bo, i6]) h
  obtain ⟨b8, r, vr, rfl, hb8, h⟩ := AllV.int (ts := [i6, i6, i6, i6, i6, u3, u3, bo, i6]) h
  obtain ⟨b9, r, vr, rfl, hb9, h⟩ := AllV.int (ts := [i6, i6, i6, i6, u3, u3, bo, i6]) h
  obtain ⟨b10, r, vr, rfl, hb10, h⟩ := AllV.int (ts := [i6, i6, i6, u3, u3, bo, i6]) h
  obtain ⟨b11, r, vr, rfl, hb11, h⟩ := AllV.int (ts := [i6, i6, u3, u3, bo, i6]) h
  obtain ⟨b12, r, vr, rfl, hb12, h⟩ := AllV.int (ts := [i6, u3, u3, bo, i6]) h
  obtain ⟨b13, r, vr, rfl, hb13, h⟩ := AllV.int (ts := [u3, u3, bo, i6]) h
  obtain ⟨b14, r, vr, rfl, hb14, h⟩ := AllV.int (ts := [u3, bo, i6]) h
  obtain ⟨b15, r, vr, rfl, hb15, h⟩ := AllV.int (ts := [bo, i6]) h
  obtain ⟨b16, r, vr, rfl, hzb16⟩ := AllV.bool (ts := [i6]) h
  have h := hzb16
  obtain ⟨b17, r, vr, rfl, hb17, h⟩ := AllV.int (ts := []) h
  obtain rfl := AllV.nil h
  letI : Env := E0 [a0, a1, a2, a3, a4, a5, a6, a7, a8, a9, a10, a11, a12, a13, a14, a15, bI a16, a17, b0, b1, b2, b3, b4, b5, b6, b7, b8, b9, b10, b11, b12, b13, b14, b15, bI b16, b17] []
  refine res_of_both (sound0 12) (s := sig16) rfl (irps ++ irps2) (fs := []) (fun f h => (by cases h)) rfl ?_ both16
  show [CV.n (X.ex (.nm 0 (-9223372036854775808) 9223372036854775807)).den, CV.n (X.ex (.nm 1 (-9223372036854775808) 9223372036854775807)).den, CV.n (X.ex (.nm 2 (-9223372036854775808) 9223372036854775807)).den, CV.n (X.ex (.nm 3 (-9223372036854775808) 9223372036854775807)).den, CV.n (X.ex (.nm 4 (-9223372036854775808) 9223372036854775807)).den, CV.n (X.ex (.nm 5 (-9223372036854775808) 9223372036854775807)).den, CV.n (X.ex (.nm 6 (-9223372036854775808) 9223372036854775807)).den, CV.n (X.ex (.nm 7 (-9223372036854775808) 9223372036854775807)).den, CV.n (X.ex (.nm 8 0 4294967295)).den, CV.n (X.ex (.nm 9 (-9223372036854775808) 9223372036854775807)).den, CV.n (X.ex (.nm 10 (-9223372036854775808) 9223372036854775807)).den, CV.n (X.ex (.nm 11 (-9223372036854775808) 9223372036854775807)).den, CV.n (X.ex (.nm 12 (-9223372036854775808) 9223372036854775807)).den, CV.n (X.ex (.nm 13 (-9223372036854775808) 9223372036854775807)).den, CV.n (X.ex (.nm 14 0 4294967295)).den, CV.n (X.ex (.nm 15 0 4294967295)).den, CV.b (B.ex (.eq (.nm 16 0 1) (.num 1))).den, CV.n (X.ex (.nm 17 (-9223372036854775808) 9223372036854775807)).den, CV.n (X.ex (.nm 18 (-9223372036854775808) 9223372036854775807)).den, CV.n (X.ex (.nm 19 (-9223372036854775808) 9223372036854775807)).den, CV.n (X.ex (.nm 20 (-9223372036854775808) 9223372036854775807)).den, CV.n (X.ex (.nm 21 (-9223372036854775808) 9223372036854775807)).den, CV.n (X.ex (.nm 22 (-9223372036854775808) 9223372036854775807)).den, CV.n (X.ex (.nm 23 (-9223372036854775808) 9223372036854775807)).den, CV.n (X.ex (.nm 24 (-9223372036854775808) 9223372036854775807)).den, CV.n (X.ex (.nm 25 (-9223372036854775808) 9223372036854775807)).den, CV.n (X.ex (.nm 26 0 4294967295)).den, CV.n (X.ex (.nm 27 (-9223372036854775808) 9223372036854775807)).den, CV.n (X.ex (.nm 28 (-9223372036854775808) 9223372036854775807)).den, CV.n (X.ex (.nm 29 (-9223372036854775808) 9223372036854775807)).den, CV.n (X.ex (.nm 30 (-9223372036854775808) 9223372036854775807)).den, CV.n (X.ex (.nm 31 (-9223372036854775808) 9223372036854775807)).den, CV.n (X.ex (.nm 32 0 4294967295)).den, CV.n (X.ex (.nm 33 0 4294967295)).den, CV.b (B.ex (.eq (.nm 34 0 1) (.num 1))).den, CV.n (X.ex (.nm 35 (-9223372036854775808) 9223372036854775807)).den] = _
  have ea0 : (X.ex (.nm 0 (-9223372036854775808) 9223372036854775807)).den = a0 := nm_den rfl ha0
  have ea1 : (X.ex (.nm 1 (-9223372036854775808) 9223372036854775807)).den = a1 := nm_den rfl ha1
  have ea2 : (X.ex (.nm 2 (-9223372036854775808) 9223372036854775807)).den = a2 := nm_den rfl ha2
  have ea3 : (X.ex (.nm 3 (-9223372036854775808) 9223372036854775807)).den = a3 := nm_den rfl ha3
  have ea4 : (X.ex (.nm 4 (-9223372036854775808) 9223372036854775807)).den = a4 := nm_den rfl ha4
  have ea5 : (X.ex (.nm 5 (-9223372036854775808) 9223372036854775807)).den = a5 := nm_den rfl ha5
  have ea6 : (X.ex (.nm 6 (-9223372036854775808) 9223372036854775807)).den = a6 := nm_den rfl ha6
  have ea7 : (X.ex (.nm 7 (-9223372036854775808) 9223372036854775807)).den = a7 := nm_den rfl ha7
  have ea8 : (X.ex (.nm 8 0 4294967295)).den = a8 := nm_den rfl ha8
  have ea9 : (X.ex (.nm 9 (-9223372036854775808) 9223372036854775807)).den = a9 := nm_den rfl ha9
  have ea10 : (X.ex (.nm 10 (-9223372036854775808) 9223372036854775807)).den = a10 := nm_den rfl ha10
  have ea11 : (X.ex (.nm 11 (-9223372036854775808) 9223372036854775807)).den = a11 := nm_den rfl ha11
  have ea12 : (X.ex (.nm 12 (-9223372036854775808) 9223372036854775807)).den = a12 := nm_den rfl ha12
  have ea13 : (X.ex (.nm 13 (-9223372036854775808) 9223372036854775807)).den = a13 := nm_den rfl ha13
  have ea14 : (X.ex (.nm 14 0 4294967295)).den = a14 := nm_den rfl ha14
  have ea15 : (X.ex (.nm 15 0 4294967295)).den = a15 := nm_den rfl ha15
  have ea16 : (B.ex (.eq (.nm 16 0 1) (.num 1))).den = a16 := nb_den rfl
  have ea17 : (X.ex (.nm 17 (-9223372036854775808) 9223372036854775807)).den = a17 := nm_den rfl ha17
  have eb0 : (X.ex (.nm 18 (-9223372036854775808) 9223372036854775807)).den = b0 := nm_den rfl hb0
  have eb1 : (X.ex (.nm 19 (-9223372036854775808) 9223372036854775807)).den = b1 := nm_den rfl hb1
  have eb2 : (X.ex (.nm 20 (-9223372036854775808) 9223372036854775807)).den = b2 := nm_den rfl hb2
  have eb3 : (X.ex (.nm 21 (-9223372036854775808) 9223372036854775807)).den = b3 := nm_den rfl hb3
  have eb4 : (X.ex (.nm 22 (-9223372036854775808) 9223372036854775807)).den = b4 := nm_den rfl hb4
  have eb5 : (X.ex (.nm 23 (-9223372036854775808) 9223372036854775807)).den = b5 := nm_den rfl hb5
  have eb6 : (X.ex (.nm 24 (-9223372036854775808) 9223372036854775807)).den = b6 := nm_den rfl hb6
  have eb7 : (X.ex (.nm 25 (-9223372036854775808) 9223372036854775807)).den = b7 := nm_den rfl hb7
  have eb8 : (X.ex (.nm 26 0 4294967295)).den = b8 := nm_den rfl hb8
  have eb9 : (X.ex (.nm 27 (-9223372036854775808) 9223372036854775807)).den = b9 := nm_den rfl hb9
  have eb10 : (X.ex (.nm 28 (-9223372036854775808) 9223372036854775807)).den = b10 := nm_den rfl hb10
  have eb11 : (X.ex (.nm 29 (-9223372036854775808) 9223372036854775807)).den = b11 := nm_den rfl hb11
  have eb12 : (X.ex (.nm 30 (-9223372036854775808) 9223372036854775807)).den = b12 := nm_den rfl hb12
  have eb13 : (X.ex (.nm 31 (-9223372036854775808) 9223372036854775807)).den = b13 := nm_den rfl hb13
  have eb14 : (X.ex (.nm 32 0 4294967295)).den = b14 := nm_den rfl hb14
  have eb15 : (X.ex (.nm 33 0 4294967295)).den = b15 := nm_den rfl hb15
  have eb16 : (B.ex (.eq (.nm 34 0 1) (.num 1))).den = b16 := nb_den rfl
  have eb17 : (X.ex (.nm 35 (-9223372036854775808) 9223372036854775807)).den = b17 := nm_den rfl hb17
  rw [ea0, ea1, ea2, ea3, ea4, ea5, ea6, ea7, ea8, ea9, ea10, ea11, ea12, ea13, ea14, ea15, ea16, ea17, eb0, eb1, eb2, eb3, eb4, eb5, eb6, eb7, eb8, eb9, eb10, eb11, eb12, eb13, eb14, eb15, eb16, eb17]
theorem known_sem [Env] (cvs : List CV) (_ : (B.c true).den = true) (h : ∃ w vs, AllV w (flatT []) cvs vs) : rpsOk (flatT [(Sum.inl bo : PT)]) [.b (.c true)] = true ∧ PureSem Try.prog 11 [] [.inl bo] cvs (rpCVs (flatT [(Sum.inl bo : PT)]) [.b (.c true)]) := by
  obtain ⟨w, vs, h⟩ := h
  obtain rfl := AllV.nil h
  exact ⟨rfl, law_of_good (sound0 12) [] (fs := []) (fun f h => (by cases h)) rfl rfl known11⟩
def ptsL : List PT := [instrT, .inl u8, .inl u8, .inl u8, .inl u8, .inl u3]
def lRps : List Rp := irps ++ [byteN 18, byteN 19, byteN 20, byteN 21, wordN 22]
section
variable [Env]
def env3 : FuncId → Option Con := fun g =>
  if g = 12 then some (aCon 12 sig12 pre12) else if g = 13 then some (xCon 100 sig13)
  else if g = 14 then some (aCon 14 sig14 fun _ => true) else if g = 15 then some (aCon 14 sig14 fun _ => true)
  else if g = 16 then some (aCon 16 sig16 fun _ => true) else if g = 17 then some (aCon 16 sig16 fun _ => true)
  else if g = 11 then some (pCon [] [.inl bo] (fun _ => .c true) fun _ => [.b (.c true)]) else none
theorem run3 : (callE Try.prog env3 cfg0 12 3 (splitA ptsL (rpCells (flatT ptsL) lRps 0)) (rpObjs (flatT ptsL) lRps)).good leafTrue [] = true := by kernel_rfl
end
theorem envOk3 (xs : List Int) (ls : List (List Int)) : @EnvOk (E0 xs ls) Try.prog (@env3 (E0 xs ls)) cfg0 := by
  letI : Env := E0 xs ls
  refine ⟨names, fun g c h => ?_, fun g fn c σ _ _ _ => LoopsOk.none (fun _ => rfl) c⟩
  have ha := happ xs ls
  unfold env3 at h
  split at h
  · rename_i e; subst e; cases h
    exact aCon_sound (by decide) ⟨_, Try.func12, rfl⟩ rfl (by decide) (fun i l hi => ha 12 sig12 i l rfl hi) fun e cvs hp hh hd => pre_ok e cvs hp hh hd
  · split at h
    · rename_i e; subst e; cases h
      exact xCon_sound (s := sig13) ⟨_, Try.func13, rfl⟩ rfl (fun l => envL_lst (P := Try.prog) (sig := sigT) (lsig := lsigT) (xs := xs) (ls := ls) (j := 100) (s := sig13) rfl l) hasBytes
    · split at h
      · rename_i e; subst e; cases h
        exact aCon_sound (by decide) ⟨_, Try.func14, rfl⟩ rfl (by decide) (fun i l hi => ha 14 sig14 i l rfl hi) fun e cvs _ hh _ => res14 cvs hh
      · split at h
        · rename_i e; subst e; cases h
          exact aCon_sound (by decide) ⟨_, Try.func15, rfl⟩ rfl (by decide) (fun i l hi => ha 14 sig14 i l rfl hi) fun e cvs _ hh _ => res14 cvs hh
        · split at h
          · rename_i e; subst e; cases h
            exact aCon_sound (by decide) ⟨_, Try.func16, rfl⟩ rfl (by decide) (fun i l hi => ha 16 sig16 i l rfl hi) fun e cvs _ hh _ => res16 cvs hh
          · split at h
            · rename_i e; subst e; cases h
              exact aCon_sound (by decide) ⟨_, Try.func17, rfl⟩ rfl (by decide) (fun i l hi => ha 16 sig16 i l rfl hi) fun e cvs _ hh _ => res16 cvs hh
            · split at h
              · rename_i e; subst e; cases h
                exact pCon_sound ⟨_, Try.func11, rfl⟩ rfl fun cvs hp hh => known_sem cvs hp hh
              · cases h
theorem law3 (cvs : List CV) (h : ∃ w vs, AllV w (flatT ptsL) cvs vs) : PureSem Try.prog 3 ptsL [.inl bo] cvs [.b true] := by
  obtain ⟨w, vs, h⟩ := h
  obtain ⟨a0, r, vr, rfl, ha0, h⟩ := AllV.int (ts := [i6, i6, i6, i6, i6, i6, i6, u3, i6, i6, i6, i6, i6, u3, u3, bo, i6, u8, u8, u8, u8, u3]) h
  obtain ⟨a1, r, vr, rfl, ha1, h⟩ := AllV.int (ts := [i6, i6, i6, i6, i6, i6, u3, i6, i6, i6, i6, i6, u3, u3, bo, i6, u8, u8, u8, u8, u3]) h
  obtain ⟨a2, r, vr, rfl, ha2, h⟩ := AllV.int (ts := [i6, i6, i6, i6, i6, u3, i6, i6, i6, i6, i6, u3, u3, bo, i6, u8, u8, u8, u8, u3]) h
  obtain ⟨a3, r, vr, rfl, ha3, h⟩ := AllV.int (ts := [i6, i6, i6, i6, u3, i6, i6, i6, i6, i6, u3, u3, bo, i6, u8, u8, u8, u8, u3]) h
  obtain ⟨a4, r, vr, rfl, ha4, h⟩ := AllV.int (ts := [i6, i6, i6, u3, i6, i6, i6, i6, i6, u3, u3, bo, i6, u8, u8, u8, u8, u3]) h
  obtain ⟨a5, r, vr, rfl, ha5, h⟩ := AllV.int (ts := [i6, i6, u3, i6, i6, i6, i6, i6, u3, u3, bo, i6, u8, u8, u8, u8, u3]) h
  obtain ⟨a6, r, vr, rfl, ha6, h⟩ := AllV.int (ts := [i6, u3, i6, i6, i6, i6, i6, u3, u3, bo, i6, u8, u8, u8, u8, u3]) h
  obtain ⟨a7, r, vr, rfl, ha7, h⟩ := AllV.int (ts := [u3, i6, i6, i6, i6, i6, u3, u3, bo, i6, u8, u8, u8, u8, u3]) h
  obtain ⟨a8, r, vr, rfl, ha8, h⟩ := AllV.int (ts := [i6, i6, i6, i6, i6, u3, u3, bo, i6, u8, u8, u8, u8, u3]) h
  obtain ⟨a9, r, vr, rfl, ha9, h⟩ := AllV.int (ts := [i6, i6, i6, i6, u3, u3, bo, i6, u8, u8, u8, u8, u3]) h
  obtain ⟨a10, r, vr, rfl, ha10, h⟩ := AllV.int (ts := [i6, i6, i6, u3, u3, bo, i6, u8, u8, u8, u8, u3]) h
  obtain ⟨a11, r, vr, rfl, ha11, h⟩ := AllV.int (ts := [i6, i6, u3, u3, bo, i6, u8, u8, u8, u8, u3]) h
  obtain ⟨a12, r, vr, rfl, ha12, h⟩ := AllV.int (ts := [i6, u3, u3, bo, i6, u8, u8, u8, u8, u3]) h
  obtain ⟨a13, r, vr, rfl, ha13, h⟩ := AllV.int (ts := [u3, u3, bo, i6, u8, u8, u8, u8, u3]) h
  obtain ⟨a14, r, vr, rfl, ha14, h⟩ := AllV.int (ts := [u3, bo, i6, u8, u8, u8, u8, u3]) h
  obtain ⟨a15, r, vr, rfl, ha15, h⟩ := AllV.int (ts := [bo, i6, u8, u8, u8, u8, u3]) h
  obtain ⟨a16, r, vr, rfl, hza16⟩ := AllV.bool (ts := [i6, u8, u8, u8, u8, u3]) h
  have h := hza16
  obtain ⟨a17, r, vr, rfl, ha17, h⟩ := AllV.int (ts := [u8, u8, u8, u8, u3]) h
  obtain ⟨k, r, vr, rfl, hk, h⟩ := AllV.int (ts := [u8, u8, u8, u3]) h
  obtain ⟨m, r, vr, rfl, hm, h⟩ := AllV.int (ts := [u8, u8, u3]) h
  obtain ⟨x, r, vr, rfl, hx, h⟩ := AllV.int (ts := [u8, u3]) h
  obtain ⟨y, r, vr, rfl, hy, h⟩ := AllV.int (ts := [u3]) h
  obtain ⟨d, r, vr, rfl, hd, h⟩ := AllV.int (ts := []) h
  obtain rfl := AllV.nil h
  letI : Env := E0 [a0, a1, a2, a3, a4, a5, a6, a7, a8, a9, a10, a11, a12, a13, a14, a15, bI a16, a17, k, m, x, y, d] []
  refine law_of_good (call_sound mixed (envOk3 _ _) 12) lRps (fs := []) (fun f h => (by cases h)) rfl ?_ run3
  show [CV.n (X.ex (.nm 0 (-9223372036854775808) 9223372036854775807)).den, CV.n (X.ex (.nm 1 (-9223372036854775808) 9223372036854775807)).den, CV.n (X.ex (.nm 2 (-9223372036854775808) 9223372036854775807)).den, CV.n (X.ex (.nm 3 (-9223372036854775808) 9223372036854775807)).den, CV.n (X.ex (.nm 4 (-9223372036854775808) 9223372036854775807)).den, CV.n (X.ex (.nm 5 (-9223372036854775808) 9223372036854775807)).den, CV.n (X.ex (.nm 6 (-9223372036854775808) 9223372036854775807)).den, CV.n (X.ex (.nm 7 (-9223372036854775808) 9223372036854775807)).den, CV.n (X.ex (.nm 8 0 4294967295)).den, CV.n (X.ex (.nm 9 (-9223372036854775808) 9223372036854775807)).den, CV.n (X.ex (.nm 10 (-9223372036854775808) 9223372036854775807)).den, CV.n (X.ex (.nm 11 (-9223372036854775808) 9223372036854775807)).den, CV.n (X.ex (.nm 12 (-9223372036854775808) 9223372036854775807)).den, CV.n (X.ex (.nm 13 (-9223372036854775808) 9223372036854775807)).den, CV.n (X.ex (.nm 14 0 4294967295)).den, CV.n (X.ex (.nm 15 0 4294967295)).den, CV.b (B.ex (.eq (.nm 16 0 1) (.num 1))).den, CV.n (X.ex (.nm 17 (-9223372036854775808) 9223372036854775807)).den, CV.n (X.ex (.nm 18 0 255)).den, CV.n (X.ex (.nm 19 0 255)).den, CV.n (X.ex (.nm 20 0 255)).den, CV.n (X.ex (.nm 21 0 255)).den, CV.n (X.ex (.nm 22 0 4294967295)).den] = _
  have ea0 : (X.ex (.nm 0 (-9223372036854775808) 9223372036854775807)).den = a0 := nm_den rfl ha0
  have ea1 : (X.ex (.nm 1 (-9223372036854775808) 9223372036854775807)).den = a1 := nm_den rfl ha1
  have ea2 : (X.ex (.nm 2 (-9223372036854775808) 9223372036854775807)).den = a2 := nm_den rfl ha2
  have ea3 : (X.ex (.nm 3 (-9223372036854775808) 9223372036854775807)).den = a3 := nm_den rfl ha3
  have ea4 : (X.ex (.nm 4 (-9223372036854775808) 9223372036854775807)).den = a4 := nm_den rfl ha4
  have ea5 : (X.ex (.nm 5 (-9223372036854775808) 9223372036854775807)).den = a5 := nm_den rfl ha5
  have ea6 : (X.ex (.nm 6 (-9223372036854775808) 9223372036854775807)).den = a6 := nm_den rfl ha6
  have ea7 : (X.ex (.nm 7 (-9223372036854775808) 9223372036854775807)).den = a7 := nm_den rfl ha7
  have ea8 : (X.ex (.nm 8 0 4294967295)).den = a8 := nm_den rfl ha8
  have ea9 : (X.ex (.nm 9 (-9223372036854775808) 9223372036854775807)).den = a9 := nm_den rfl ha9
  have ea10 : (X.ex (.nm 10 (-9223372036854775808) 9223372036854775807)).den = a10 := nm_den rfl ha10
  have ea11 : (X.ex (.nm 11 (-9223372036854775808) 9223372036854775807)).den = a11 := nm_den rfl ha11
  have ea12 : (X.ex (.nm 12 (-9223372036854775808) 9223372036854775807)).den = a12 := nm_den rfl ha12
  have ea13 : (X.ex (.nm 13 (-9223372036854775808) 9223372036854775807)).den = a13 := nm_den rfl ha13
  have ea14 : (X.ex (.nm 14 0 4294967295)).den = a14 := nm_den rfl ha14
  have ea15 : (X.ex (.nm 15 0 4294967295)).den = a15 := nm_den rfl ha15
  have ea16 : (B.ex (.eq (.nm 16 0 1) (.num 1))).den = a16 := nb_den rfl
  have ea17 : (X.ex (.nm 17 (-9223372036854775808) 9223372036854775807)).den = a17 := nm_den rfl ha17
  have ek : (X.ex (.nm 18 0 255)).den = k := nm_den rfl hk
  have em : (X.ex (.nm 19 0 255)).den = m := nm_den rfl hm
  have ex : (X.ex (.nm 20 0 255)).den = x := nm_den rfl hx
  have ey : (X.ex (.nm 21 0 255)).den = y := nm_den rfl hy
  have ed : (X.ex (.nm 22 0 4294967295)).den = d := nm_den rfl hd
  rw [ea0, ea1, ea2, ea3, ea4, ea5, ea6, ea7, ea8, ea9, ea10, ea11, ea12, ea13, ea14, ea15, ea16, ea17, ek, em, ex, ey, ed]
end Go.SX.Tel
