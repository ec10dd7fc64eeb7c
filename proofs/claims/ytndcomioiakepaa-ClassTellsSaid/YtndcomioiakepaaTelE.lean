/- ClassTells: the law is true of all values. -/
import Derived.Test.YtndcomioiakepaaTelB0
import Derived.Test.YtndcomioiakepaaTelB1
import Derived.Test.YtndcomioiakepaaTelB2
import Derived.Test.YtndcomioiakepaaTelB3
import Derived.Test.YtndcomioiakepaaTelD
namespace Go.SX.Tel
open Go Go.SX Go.Proofs Go.SX.Op
set_option maxRecDepth 1000000
set_option linter.unusedSectionVars false
theorem Happ.of {xs : List Int} {ls : List (List Int)} : @Happ (E0 xs ls) := happ xs ls
section
variable [Env]
theorem ones (h : List Int) (hm : h ∈ heads) : oneRun (headC h) = true := by
  simp only [heads, List.mem_append] at hm
  rcases hm with hm | hm | hm | hm | hm | hm | hm | hm | hm | hm | hm | hm | hm | hm | hm | hm | hm
  · exact List.all_eq_true.1 ones0 h hm
  · exact List.all_eq_true.1 ones1 h hm
  · exact List.all_eq_true.1 ones2 h hm
  · exact List.all_eq_true.1 ones3 h hm
  · exact List.all_eq_true.1 ones4 h hm
  · exact List.all_eq_true.1 ones5 h hm
  · exact List.all_eq_true.1 ones6 h hm
  · exact List.all_eq_true.1 ones7 h hm
  · exact List.all_eq_true.1 ones8 h hm
  · exact List.all_eq_true.1 ones9 h hm
  · exact List.all_eq_true.1 ones10 h hm
  · exact List.all_eq_true.1 ones11 h hm
  · exact List.all_eq_true.1 ones12 h hm
  · exact List.all_eq_true.1 ones13 h hm
  · exact List.all_eq_true.1 ones14 h hm
  · exact List.all_eq_true.1 ones15 h hm
  · exact List.all_eq_true.1 ones16 h hm
end
theorem one_of (c : List Sc) (xs t : List Int) (ls : List (List Int)) (hr : @oneRun (E0 t ls) c = true) (hc : c.map (@Sc.vI (E0 t ls)) = xs) : HasRes Try.prog sig12 [.l xs] := by
  letI : Env := E0 t ls
  have hr : oneRun c = true := hr
  unfold oneRun at hr
  rw [Bool.and_eq_true] at hr
  refine res_of_good (call_sound mixed (envOk1 (happ t ls)) 12) (s := sig12) rfl [.l c] (fs := []) (fun f h => (by cases h)) hr.1 ?_ hr.2
  show [listCV [Kd.int .u8] (rowsF 1 c) (c.length / 1)] = _
  rw [Nat.div_one]
  show [CV.l (listF (fun r c' => rowsF 1 c r c') c.length)] = _
  rw [list_cells]
  exact congrArg (fun l => [CV.l l]) hc
theorem one_head (h t : List Int) (hm : h ∈ heads) (ht : t.length = 12) (hx : ∀ x ∈ h ++ t, IntKind.u8.has x) : HasRes Try.prog sig12 [.l (h ++ t)] := by
  refine one_of (headC h) _ t [] (@ones (E0 t []) h hm) ?_
  letI : Env := E0 t []
  unfold headC
  rw [List.map_append, List.map_map, List.map_map]
  congr 1
  · exact List.map_id h
  · refine List.ext_getElem (by simp [ht]) fun i h1 h2 => ?_
    simp only [List.getElem_map, List.getElem_range]
    show clampI 0 255 (t.getD i 0) = _
    have hi : t.getD i 0 = t[i] := by rw [List.getD_eq_getElem?_getD, List.getElem?_eq_getElem h2]; rfl
    rw [hi]
    exact clamp_eq (hx _ (List.mem_append_right _ (List.getElem_mem ..)))
theorem nB_vI (x : Int) (hx : IntKind.u8.has x) : @Sc.vI (E0 [x] []) nB = x := clamp_eq hx
theorem one83 (x : Int) (hx : IntKind.u8.has x) : HasRes Try.prog sig12 [.l [131, x, 224]] :=
  one_of [cB 131, nB, cB 224] _ [x] [] (@m83 (E0 [x] [])) (by
    show [131, @Sc.vI (E0 [x] []) nB, 224] = _
    rw [nB_vI x hx])
theorem one81 (x : Int) (hx : IntKind.u8.has x) : HasRes Try.prog sig12 [.l [129, x, 224, 255, 255, 255]] :=
  one_of [cB 129, nB, cB 224, cB 255, cB 255, cB 255] _ [x] [] (@m81 (E0 [x] [])) (by
    show [129, @Sc.vI (E0 [x] []) nB, 224, 255, 255, 255] = _
    rw [nB_vI x hx])
theorem oneff (x : Int) (hx : IntKind.u8.has x) : HasRes Try.prog sig12 [.l [255, x]] :=
  one_of [cB 255, nB] _ [x] [] (@mff (E0 [x] [])) (by
    show [255, @Sc.vI (E0 [x] []) nB] = _
    rw [nB_vI x hx])
theorem onenil : HasRes Try.prog sig12 [.l []] := one_of [] _ [] [] (@mnil (E0 [] [])) rfl
theorem shape_ok (l : List Sc) (h : shapeB l = true) [Env] : l.length ≤ 15 ∧ Shape (l.map Sc.vI) := by
  unfold shapeB at h
  obtain ⟨hd, hm, hh⟩ := List.any_eq_true.1 h
  rw [Bool.and_eq_true] at hh
  have h1 : l.take hd.length = hd.map cB := lbeq_eq (fun _ _ => Sc.beq_eq) hh.1
  have h2 : l.length = hd.length + 12 := eq_of_beq hh.2
  have h3 : hd.length ≤ 3 := by
    have : heads.all (fun h => decide (h.length ≤ 3)) = true := by kernel_rfl
    exact of_decide_eq_true (List.all_eq_true.1 this hd hm)
  refine ⟨by omega, hd, (l.drop hd.length).map Sc.vI, hm, by rw [List.length_map, List.length_drop]; omega, ?_⟩
  have e : hd = (l.take hd.length).map Sc.vI := by
    rw [h1, List.map_map]
    exact (List.map_id hd).symm
  conv => lhs; rw [← List.take_append_drop hd.length l, List.map_append]
  rw [← e]
theorem hasBytes (cvs : List CV) (h : ∃ w vs, AllV w (flatT sig13.pts) cvs vs) : HasL Try.prog sig13 cvs := by
  obtain ⟨w, vs, h⟩ := h
  obtain ⟨a, r, vr, rfl, ha, h⟩ := AllV.int (ts := [u8, u3]) h
  obtain ⟨b, r, vr, rfl, hb, h⟩ := AllV.int (ts := [u3]) h
  obtain ⟨d, r, vr, rfl, hd, h⟩ := AllV.int (ts := []) h
  obtain rfl := AllV.nil h
  letI : Env := E0 [a, b, d] []
  have hw : ∃ fs, Holds fs ∧ bytesRun fs = true := by
    have h0 : Holds [] := fun f h => by cases h
    cases h1 : q4.den with
    | true => exact ⟨_, know_ok h1 h0, bytes0⟩
    | false => exact ⟨_, know_ok h1 h0, bytes1⟩
  obtain ⟨fs, hf, hr⟩ := hw
  refine hasL_of_good (sound0 12) (s := sig13) bRps hf rfl ?_ (ok := shapeB) (fun l hl => shape_ok l hl) hr
  show [CV.n (X.ex (.nm 0 0 255)).den, .n (X.ex (.nm 1 0 255)).den, .n (X.ex (.nm 2 0 4294967295)).den] = _
  have e0 : (X.ex (.nm 0 0 255)).den = a := nm_den rfl ha
  have e1 : (X.ex (.nm 1 0 255)).den = b := nm_den rfl hb
  have e2 : (X.ex (.nm 2 0 4294967295)).den = d := nm_den rfl hd
  rw [e0, e1, e2]
theorem resL_shape (l : List Int) : ResL Try.prog sig13 l = [] ∨ (Shape (ResL Try.prog sig13 l) ∧ (ResL Try.prog sig13 l).length ≤ 15 ∧ ∀ x ∈ ResL Try.prog sig13 l, IntKind.u8.has x) := by
  unfold ResL
  split
  · rename_i h
    obtain ⟨q1, q2, q3, _⟩ := Classical.choose_spec h
    exact .inr ⟨q3, q1, q2⟩
  · exact .inl rfl
theorem pre_ok {xs : List Int} {ls : List (List Int)} (e : E) (cvs : List CV) (hp : pre12 e = true) (hh : ∃ w vs, AllV w (flatT sig12.pts) cvs vs) (hd0 : @E.dens (E0 xs ls) e = encs cvs) : HasRes Try.prog sig12 cvs := by
  letI : Env := E0 xs ls
  obtain ⟨w, vs, hh⟩ := hh
  obtain ⟨ys, r, vr, rfl, hl, hx, hh⟩ := AllV.list (ts := []) hh
  obtain rfl := AllV.nil hh
  have hd : e.dens = (ys.length : Int) :: (ys ++ []) := hd0
  clear hd0
  rw [List.append_nil] at hd
  unfold pre12 at hp
  split at hp
  · rename_i a i b lo hi n
    simp only [Bool.and_eq_true, beq_iff_eq] at hp
    obtain ⟨rfl, rfl, rfl, rfl⟩ := hp
    have h1 : a.den :: ((E.ls 100 b 0 255 15).dens ++ []) = (ys.length : Int) :: ys := hd
    rw [List.append_nil] at h1
    have h2 : (E.ls 100 b 0 255 15).dens = ys := (List.cons.inj h1).2
    have h3 : (E.ls 100 b 0 255 15).dens = ((ResL Try.prog sig13 b.dens).take 15).map (clampI 0 255) := by
      show ((Env.lst 100 b.D.2).take 15).map (clampI 0 255) = _
      have : Env.lst 100 b.D.2 = ResL Try.prog sig13 b.D.2 := envL_lst (P := Try.prog) (sig := sigT) (lsig := lsigT) (xs := xs) (ls := ls) (j := 100) (s := sig13) rfl b.D.2
      rw [this]; rfl
    rcases resL_shape b.dens with h4 | ⟨h4, h5, h6⟩
    · rw [h4] at h3
      rw [← h2, h3]
      exact onenil
    · have h7 : ys = ResL Try.prog sig13 b.dens := by
        rw [← h2, h3, List.take_of_length_le h5]
        exact (List.map_congr_left fun x hm => clamp_eq (h6 x hm)).trans (List.map_id _)
      rw [← h7] at h4
      obtain ⟨h, t, hm, ht, rfl⟩ := h4
      exact one_head h t hm ht hx
  · rename_i a b
    have h1 : a.den :: [131, b.den, 224] = (ys.length : Int) :: ys := hd
    obtain rfl := (List.cons.inj h1).2
    exact one83 _ (hx _ (by simp))
  · rename_i a b
    have h1 : a.den :: [129, b.den, 224, 255, 255, 255] = (ys.length : Int) :: ys := hd
    obtain rfl := (List.cons.inj h1).2
    exact one81 _ (hx _ (by simp))
  · rename_i a b
    have h1 : a.den :: [255, b.den] = (ys.length : Int) :: ys := hd
    obtain rfl := (List.cons.inj h1).2
    exact oneff _ (hx _ (by simp))
  · cases hp
end Go.SX.Tel
