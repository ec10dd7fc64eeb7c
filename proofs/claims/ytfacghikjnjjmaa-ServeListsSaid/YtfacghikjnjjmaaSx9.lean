/- All operations but calls. -/
import Derived.Test.YtfacghikjnjjmaaSx8
import Derived.Laws.Build
namespace Go.SX
open Go Go.Lib
set_option linter.unusedSectionVars false
variable [Env]

section
variable {P : Program} {a : Act} {ρ : Nat → Loc} {σ : St} {w : World} {f : Fr} {o : Oper}

theorem run_val {s : Sem Value} {v : Value} {w' : World} (h : s.run P w = .ok v w') : (do pure (Next.value (← s)) : Sem Next).run P w = .ok (.value v) w' := by
  rw [Sem.run_bind, h]; rfl
theorem run_unit {s : Sem Unit} {w' : World} (h : s.run P w = .ok () w') : (do s; pure Next.skip : Sem Next).run P w = .ok .skip w' := by
  rw [Sem.run_bind, h]; rfl

theorem part_np {p : Part} : (AV.ofPart p).panB = false := by cases p <;> rfl
theorem partE_np {t : TypeId} {l : List Sc} {off : Nat} {v : AV} (h : partE P t l off = some v) : v.panB = false := by
  unfold partE at h
  split at h
  · split at h
    · cases h; rfl
    · cases h
  · obtain ⟨s, _, rfl⟩ := Option.map_eq_some_iff.1 h; rfl
  · cases h
theorem loadE_np {t : TypeId} {s : Sc} {v : AV} (h : (loadE P t s σ).run = some v) : v.panB = false := by
  unfold loadE at h
  split at h
  · split at h
    · obtain ⟨g, _, h⟩ := bind_some h
      obtain ⟨k, _, h⟩ := bind_some h
      split at h
      · obtain ⟨l, _, h⟩ := bind_some h; cases h; rfl
      · obtain ⟨l, _, h⟩ := bind_some h; cases h; rfl
    · cases h
  · cases h
theorem tzero_np {t : TypeId} {z : AV} (h : tzero P t = some z) : z.panB = false := by
  unfold tzero at h
  obtain ⟨v, _, rfl⟩ := Option.map_eq_some_iff.1 h
  unfold AV.ofConst; split <;> rfl
theorem part?_np {v : AV} {p : Part} (h : v.part? = some p) : v.panB = false := by
  cases v <;> first | rfl | cases h

theorem convE_np {src dst : TypeId} {x : Sc} {v : AV} {σ' : St} (h : (convE P src dst x σ).run = some (v, σ')) : v.panB = false := by
  unfold convE at h
  repeat' split at h
  all_goals first
    | (cases h; done)
    | (cases h; rfl)
    | (obtain ⟨_, h⟩ := guard_some h; cases h; rfl)
theorem makeSliceE_np {t : TypeId} {l c : Sc} {v : AV} {σ' : St} (h : (makeSliceE P t l c σ).run = some (v, σ')) : v.panB = false := by
  unfold makeSliceE at h
  split at h
  · obtain ⟨sz, _, h1⟩ := bind_some h
    obtain ⟨by_, _, h2⟩ := bind_some h1
    obtain ⟨z, _, h3⟩ := bind_some h2
    clear h h1 h2
    repeat' split at h3
    all_goals first
      | (cases h3; done)
      | (cases h3; rfl)
      | (obtain ⟨_, h4⟩ := guard_some h3; obtain ⟨_, h5⟩ := guard_some h4; obtain ⟨_, h6⟩ := guard_some h5; cases h6; rfl)
      | (obtain ⟨_, h4⟩ := guard_some h3; obtain ⟨_, h5⟩ := guard_some h4; obtain ⟨_, h6⟩ := guard_some h5; obtain ⟨_, h7⟩ := guard_some h6; cases h7; rfl)
  · cases h
theorem appendE_np {t : TypeId} {s x : Sc} {v : AV} {σ' : St} (h : (appendE P t s x σ).run = some (v, σ')) : v.panB = false := by
  unfold appendE at h
  split at h
  · obtain ⟨sz, _, h1⟩ := bind_some h
    obtain ⟨by_, _, h2⟩ := bind_some h1
    clear h h1
    split at h2
    · cases h2
    · split at h2
      · repeat' split at h2
        all_goals first
          | (cases h2; done)
          | (cases h2; rfl)
      · obtain ⟨ks, _, h3⟩ := bind_some h2
        clear h2
        repeat' split at h3
        all_goals first
          | (cases h3; done)
          | (obtain ⟨_, h4⟩ := guard_some h3; obtain ⟨_, h5⟩ := guard_some h4; obtain ⟨_, h6⟩ := guard_some h5; obtain ⟨_, h7⟩ := guard_some h6; obtain ⟨_, h8⟩ := guard_some h7; obtain ⟨_, h9⟩ := guard_some h8; cases h9; rfl)
          | (obtain ⟨_, h4⟩ := guard_some h3; obtain ⟨_, h5⟩ := guard_some h4; obtain ⟨_, h6⟩ := guard_some h5; obtain ⟨_, h7⟩ := guard_some h6; cases h7; rfl)
          | (obtain ⟨_, h4⟩ := guard_some h3; obtain ⟨_, h5⟩ := guard_some h4; obtain ⟨_, h6⟩ := guard_some h5; cases h6; rfl)
          | (obtain ⟨_, h4⟩ := guard_some h3; obtain ⟨_, h5⟩ := guard_some h4; cases h5; rfl)
  · cases h
theorem np_np (v : AV) : v.np.panB = false := by cases v <;> rfl
theorem lookGo_np {e : TypeId} {k : Sc} {ok : Bool} {es : List (Sc × AV)} {v : AV} (h : (lookGo P e k ok es).run = some v) : v.panB = false := by
  unfold lookGo at h
  obtain ⟨⟨r, b⟩, h1, h⟩ := bind_some h
  cases ok
  · cases h; exact np_np r
  · obtain ⟨p, _, h⟩ := bind_some h
    cases h; rfl
theorem lookupE_np {t : TypeId} {s k : Sc} {ok : Bool} {v : AV} (h : (lookupE P t s k ok σ).run = some v) : v.panB = false := by
  unfold lookupE at h
  repeat' split at h
  all_goals first
    | (cases h; done)
    | (cases h; rfl)
    | exact lookGo_np h

theorem index_sound {t : TypeId} {x : AV} {i : Sc} {vx vi : Value} {v : AV} {n : Nat} (hx : ARel ρ n x vx) (hi : SRel ρ n i vi) (h : (indexE P t x i).run = some v) :
    v.panB = false ∧ ∃ val, (Instr.index t vx vi).run P w = .ok val w ∧ ARel ρ n v val := by
  unfold indexE at h
  split at h
  · rename_i s hu
    have str : ∀ (l : List Int) (j : Nat), (∀ x ∈ l, 0 ≤ x ∧ x < 256) → vx = .string (bytesOf l) → (∃ kd, vi = .int kd j) → j < l.length → (Instr.index t vx vi).run P w = .ok (.int .u8 (l.getD j 0)) w ∧ IntKind.has .u8 (l.getD j 0) := by
      rintro l j hrng rfl ⟨kd, rfl⟩ hlt
      have hx := hrng l[j] (List.getElem_mem hlt)
      have e : l.getD j 0 = l[j] := by rw [List.getD_eq_getElem?_getD, List.getElem?_eq_getElem hlt]; rfl
      have hsz : j < (bytesOf l).size := by rw [bytesOf_size]; exact hlt
      have hget : (bytesOf l)[j]? = some (UInt8.ofNat l[j].toNat) := by
        rw [getElem?_pos (bytesOf l) j hsz]
        simp [bytesOf, ByteArray.getElem_eq_getElem_data]
      rw [e]
      refine ⟨?_, by simp only [IntKind.has, IntKind.min, IntKind.max, IntKind.signed, IntKind.bits, Bool.false_eq_true, if_false]; omega⟩
      simp only [Instr.index, Sem.run_bind, asInt_run, Result.andThen_ok, run_underlying hu, if_pos (show (0 : Int) ≤ (j : Int) by omega), Int.toNat_natCast, hget, Sem.run_pure]
      congr 2
      simp only [UInt8.toNat_ofNat']
      omega
    split at h
    · rename_i b
      obtain ⟨kd, y, rfl, h2⟩ := num_some h
      obtain ⟨g1, h3⟩ := guard_some h2
      obtain ⟨g2, h4⟩ := guard_some h3
      cases h4
      rw [le_den] at g1
      rw [lt_den] at g2
      have g1 : 0 ≤ y.den := g1
      have g2 : y.den < (b.size : Int) := g2
      have hns : (numsOf b).length = b.size := by simp [numsOf]
      have e : ((y.den.toNat : Nat) : Int) = y.den := by omega
      obtain ⟨q1, q2⟩ := str (numsOf b) y.den.toNat (numsOf_range b) (by rw [bytesOf_numsOf]; exact hx.1) ⟨kd, by rw [e]; exact hi.1⟩ (by omega)
      refine ⟨rfl, _, q1, ?_⟩
      cases y with
      | ex t =>
        have : X.den (.ex (.sel t (numsE (numsOf b)))) = (numsOf b).getD (X.den (.ex t)).toNat 0 := by
          show (numsE (numsOf b)).D.2.getD t.den.toNat 0 = _
          rw [numsE_dens]; rfl
        exact ⟨by rw [this], by rw [this]; exact q2⟩
      | _ => exact ⟨rfl, q2⟩
    · rename_i l
      obtain ⟨kd, y, rfl, h2⟩ := num_some h
      obtain ⟨g1, h3⟩ := guard_some h2
      obtain ⟨g2, h4⟩ := guard_some h3
      cases h4
      rw [le_den] at g1
      rw [lt_den] at g2
      have g1 : 0 ≤ y.den := g1
      have g2 : y.den < (l.length : Int) := g2
      have e : ((y.den.toNat : Nat) : Int) = y.den := by omega
      obtain ⟨q1, q2⟩ := str l y.den.toNat hx.2.2 hx.1 ⟨kd, by rw [e]; exact hi.1⟩ (by omega)
      exact ⟨rfl, _, q1, rfl, q2⟩
    · cases h
  · rename_i m e l hu
    obtain ⟨sz, h1, h2⟩ := bind_some h
    obtain ⟨g, h3, h4⟩ := bind_some h2
    clear h h2
    have hsz := get_some h1
    have hg := get_some h3
    split at h4
    · cases h4
    · rename_i hc
      simp only [not_or, not_and, Decidable.not_not, Nat.not_lt] at hc
      obtain ⟨hsz0, hle, hm0, hg1⟩ := hc
      obtain ⟨kd, y, rfl, h5⟩ := num_some h4
      obtain ⟨g1, h6⟩ := guard_some h5
      obtain ⟨g2, h7⟩ := guard_some h6
      clear h4 h5 h6
      rw [le_den] at g1
      rw [lt_den] at g2
      have g1 : 0 ≤ y.den := g1
      have g2 : y.den < (m : Int) := g2
      obtain ⟨cs, rfl, hrel⟩ := hx
      have hin : y.den.toNat * sz + sz ≤ l.length := by
        have := Nat.mul_le_mul_right sz (show y.den.toNat + 1 ≤ m by omega)
        rw [Nat.add_mul, Nat.one_mul] at this
        omega
      -- the part
      have key : ∀ c : List Sc, c.length = sz → (∀ (j : Nat) s v, c[j]? = some s → cs.toList[y.den.toNat * sz + j]? = some v → SRel ρ n s v) → ∃ val, (Instr.index t (.agg cs) vi).run P w = .ok val w ∧ ARel ρ n (asT g c) val := by
        intro c hcl hc
        have hcsz : cs.size = l.length := by rw [hrel.1]; simp
        have run : ∀ val, (part e cs (y.den.toNat * sz)).run P w = .ok val w → (Instr.index t (.agg cs) vi).run P w = .ok val w := by
          intro val hv
          rw [hi.1]
          simp only [Instr.index, Sem.run_bind, asInt_run, Result.andThen_ok, run_underlying hu, if_pos (show 0 ≤ y.den ∧ y.den < (m : Int) from ⟨g1, g2⟩), tsize_run hsz, hv]
        cases g with
        | true =>
          refine ⟨.agg (cs.extract (y.den.toNat * sz) (y.den.toNat * sz + sz)), run _ (by simp [part, tagg_run hg, tsize_run hsz]), _, rfl, by simp; omega, fun j s v a b => ?_⟩
          refine hc j s v a ?_
          simp only [Array.getElem?_toList, Array.getElem?_extract] at b
          split at b
          · simpa using b
          · cases b
        | false =>
          have hs1 := hg1 rfl
          have hlt : y.den.toNat * sz < cs.toList.length := by rw [← hrel.1]; omega
          have hcg : cs[y.den.toNat * sz]? = some cs.toList[y.den.toNat * sz] := by rw [← Array.getElem?_toList]; exact List.getElem?_eq_getElem hlt
          obtain ⟨s0, rfl⟩ : ∃ s0, c = [s0] := by
            match c, hcl with
            | [s0], _ => exact ⟨s0, rfl⟩
            | [], h => simp at h; omega
            | _ :: _ :: _, h => simp at h; omega
          refine ⟨cs.toList[y.den.toNat * sz], run _ ?_, hc 0 s0 _ rfl (List.getElem?_eq_getElem hlt)⟩
          simp only [part, Sem.run_bind, tagg_run hg, Result.andThen_ok, Bool.false_eq_true, if_false, hcg, Sem.run_pure]
      have np : ∀ c, (asT g c).panB = false := by intro c; unfold asT; split <;> rfl
      split at h7
      · rename_i y
        cases h7
        refine ⟨np _, key _ (by simp only [X.den] at hin; simp; omega) fun j s v a b => ?_⟩
        have hj : j < sz := by
          rcases Nat.lt_or_ge j sz with h' | h'
          · exact h'
          · rw [List.getElem?_take, if_neg (by omega)] at a; cases a
        rw [List.getElem?_take, if_pos hj, List.getElem?_drop] at a
        exact hrel.2 _ s v a b
      · obtain ⟨c, h8, h9⟩ := bind_some h7
        cases h9
        have ey : y.den = (y.den.toNat : Nat) := by omega
        have h8 := get_some h8
        obtain ⟨e1, e2⟩ := selAll_get sz 0 c h8
        have hlt : y.den.toNat < m := by omega
        refine ⟨np _, key _ e1 fun j s v a b => ?_⟩
        have hs := e2 j s a
        have hg := colOf_get (l := l) (s := 0 + j) (sz := sz) hlt
        refine selS_sound ey hs hg ?_
        have hj : j < sz := by rw [← e1]; exact (List.getElem?_eq_some_iff.1 a).1
        have hlt2 : y.den.toNat * sz + j < l.length := by omega
        rw [Nat.zero_add, List.getD_eq_getElem?_getD, List.getElem?_eq_getElem hlt2]
        exact hrel.2 _ _ v (List.getElem?_eq_getElem hlt2) b
  · cases h

theorem opE_sound {v : AV} {σ' : St} (hr : Rel ρ σ w) (hf : FRel ρ σ.length f a.tmps) (h : (opE P o f σ).run = some (v, σ')) : OpPost P o a ρ σ w v σ' := by
  have h0 := h
  unfold opE at h
  split at h
  case h_1 x hop => cases h; exact .pure hr (by simp only [execOp, hop]; rfl) (opd_rel hf x) (opd_np f x)
  case h_2 x hop => cases h; exact .pure hr (by simp only [execOp, hop]; rfl) (opd_rel hf x) (opd_np f x)
  case h_3 c x y hop =>
    have hc := opds_rel hf c
    split at h
    · rename_i t hs
      rw [hs] at hc
      rcases ite_some h with ⟨ht, h⟩ | ⟨ht, h⟩
      · cases h
        refine .pure hr (val := a.eval x) ?_ (opd_rel hf x) (opd_np f x)
        simp only [execOp, hop, Sem.run_bind]
        rw [show a.eval c = _ from hc, ht]
        rfl
      · cases h
        refine .pure hr (val := a.eval y) ?_ (opd_rel hf y) (opd_np f y)
        simp only [execOp, hop, Sem.run_bind]
        rw [show a.eval c = _ from hc, ht]
        rfl
    · cases h
  case h_4 e hop =>
    obtain ⟨l, h1, h⟩ := bind_some h
    split at h
    · rename_i hb
      cases h
      obtain ⟨ρ', w', q1, q2, q3, q4⟩ := allocB_sound (P := P) hr (get_some h1) hb
      exact .mk (by simp only [execOp, hop]; exact run_val q1) (.inl rfl) (by rw [St.len_new]; exact q2) q3 q4 rfl
    · cases h
      obtain ⟨ρ', w', q1, q2, q3, q4⟩ := alloc_sound (P := P) hr (get_some h1)
      exact .mk (by simp only [execOp, hop]; exact run_val q1) (.inl rfl) (by rw [St.len_new]; exact q2) q3 q4 rfl
  case h_5 e x hop =>
    obtain ⟨l, h1, h⟩ := bind_some h
    cases h
    obtain ⟨ρ', w', q1, q2, q3, q4⟩ := box_sound (P := P) (e := e) hr (opd_rel hf x) (get_some h1)
    exact .mk (by simp only [execOp, hop]; exact run_val q1) (.inl rfl) (by rw [St.len_new]; exact q2) q3 q4 rfl
  case h_6 t parts hop =>
    obtain ⟨rfl, val, q1, q2⟩ := build_sound (P := P) (w := w) hf hop h0
    refine .pure hr (by simp only [execOp, hop]; exact run_val q1) q2 ?_
    split at h
    · split at h
      · cases h
      · obtain ⟨l, _, h⟩ := bind_some h; cases h; rfl
    · obtain ⟨l, _, h⟩ := bind_some h; cases h; rfl
    · cases h
  case h_7 t len parts hop =>
    obtain ⟨ρ', w', val, q1, q2, q3, q4⟩ := buildSlice_sound (P := P) hr hf hop h0
    refine .mk (by simp only [execOp, hop]; exact run_val q1) (.inl rfl) q2 q3 q4 ?_
    split at h
    · split at h
      · split at h
        · cases h
        · obtain ⟨l, _, h⟩ := bind_some h; cases h; rfl
      · cases h
    · cases h
  case h_8 t x hop =>
    obtain ⟨v', h1, h⟩ := bind_some h
    cases h
    obtain ⟨val, q1, q2⟩ := loadE_sound (P := P) hr (opds_rel hf x) h1
    exact .pure hr (by simp only [execOp, hop]; exact run_val q1) q2 (loadE_np h1)
  case h_9 t x y hop =>
    obtain ⟨σ1, h1, h⟩ := bind_some h
    cases h
    obtain ⟨w', q1, q2, q3⟩ := storeE_sound (P := P) hr (opds_rel hf x) (opd_rel hf y) h1
    exact .mk (val := undef) (by simp only [execOp, hop]; exact run_unit q1) (.inr ⟨rfl, rfl⟩) ARel.any q2 q3 rfl
  case h_10 x hop =>
    have hx := opds_rel hf x
    split at h
    · rename_i id r z d hh hs
      rw [hs] at hx
      cases h
      refine .pure hr (val := a.eval x) ?_ hx rfl
      obtain ⟨_, _, _, _, _, e⟩ := hx
      simp only [execOp, hop]
      rw [e]
      rfl
    · cases h
  case h_11 op t x y u hop =>
    obtain ⟨s, h1, h⟩ := bind_some h
    cases h
    obtain ⟨val, q1, q2⟩ := binE_sound (P := P) (w := w) (ox := x) (oy := y) (opd_rel hf x) (opd_rel hf y) h1
    exact .pure hr (by simp only [execOp, hop]; exact run_val q1) q2 rfl
  case h_12 op t x hop =>
    obtain ⟨s, h1, h⟩ := bind_some h
    cases h
    obtain ⟨val, q1, q2⟩ := unE_sound (P := P) (w := w) (opds_rel hf x) h1
    exact .pure hr (by simp only [execOp, hop]; exact run_val q1) q2 rfl
  case h_13 src dst x hop =>
    obtain ⟨ρ', w', val, q1, q2, q3, q4⟩ := convE_sound (P := P) hr (opds_rel hf x) h
    exact .mk (by simp only [execOp, hop]; exact run_val q1) (.inl rfl) q2 q3 q4 (convE_np h)
  case h_14 t x hop =>
    split at h
    · rename_i hc
      obtain ⟨p, h1, h⟩ := bind_some h
      cases h
      refine .pure hr (by simp only [execOp, hop]; exact run_val (run_makeInterface w t (a.eval x) hc)) ?_ rfl
      exact ⟨_, rfl, part?_rel (opd_rel hf x) (get_some h1)⟩
    · cases h
  case h_15 x hop =>
    have hx := opd_rel hf x
    split at h
    · rename_i t p hs
      cases h
      rw [hs] at hx
      obtain ⟨y, hy, hp⟩ := hx
      refine ⟨ρ, w, .iface t y, ⟨y, rfl, hp⟩, hr, Ext.refl _ _ _, (fun h => by cases h), fun _ => ?_⟩
      simp only [execOp, hop]
      rw [hy]
      rfl
    · cases h
  case h_16 t hop =>
    cases h
    obtain ⟨ρ', w', val, q1, q2, q3, q4⟩ := makeMap_sound (P := P) (t := t) hr
    exact .mk (by simp only [execOp, hop]; exact run_val q1) (.inl rfl) (by rw [St.len_new]; exact q2) q3 q4 rfl
  case h_17 t l c hop =>
    obtain ⟨ρ', w', val, q1, q2, q3, q4⟩ := makeSliceE_sound (P := P) hr (opds_rel hf l) (opds_rel hf c) h
    exact .mk (by simp only [execOp, hop]; exact run_val q1) (.inl rfl) q2 q3 q4 (makeSliceE_np h)
  case h_18 t x lo hi hop =>
    obtain ⟨rfl, val, q1, q2⟩ := sliceOp_sound (P := P) (w := w) hr hf hop h0
    refine .pure hr (by simp only [execOp, hop]; exact run_val q1) q2 ?_
    have one : ∀ {x : Out Sc} {v : AV} {σ' : St}, (x.bind fun s => .ok (AV.one s, σ')).run = some (v, σ') → v.panB = false := by
      intro x v σ' h
      obtain ⟨s, _, h⟩ := bind_some h; cases h; rfl
    split at h
    · exact one h
    · exact one h
    · split at h
      · split at h
        · exact one h
        · cases h
      · split at h
        · exact one h
        · cases h
      · cases h
    · split at h
      · split at h
        · obtain ⟨_, _, _, _, _, _, _, _, _, _, h⟩ := boundsE_some (optE_rel hf lo) (optE_rel hf hi) h
          cases h; rfl
        · cases h
      · cases h
    · cases h
  case h_19 s x i hop =>
    have hx := opds_rel hf x
    split at h
    · rename_i fields id r z d hh hu hs
      rw [hs] at hx
      obtain ⟨hid, hlive, rn, hrow, hhi, hxe⟩ := hx
      obtain ⟨fd, h1, h⟩ := bind_some h
      obtain ⟨k, h2, h⟩ := bind_some h
      have hfd := get_some h1
      have hk := get_some h2
      split at h
      · cases h
      · rename_i hk0
        cases h
        refine .pure hr (val := .pointer (some ⟨(ρ id).block, (ρ id).base + offs rn z (d + fd.offset), none⟩)) ?_ ⟨hid, hlive, rn, hrow, hhi, rfl⟩ rfl
        simp only [execOp, hop]
        refine run_val ?_
        rw [hxe]
        simp only [Instr.fieldAt, Sem.run_bind, run_underlying hu, Result.andThen_ok, hfd, Instr.sureAddr, fieldPlace, tsize_run hk, if_neg hk0, Sem.run_pure, Addr.add_lit]
        rw [show (ρ id).base + offs rn z d + fd.offset = (ρ id).base + offs rn z (d + fd.offset) by unfold offs; omega]
    · cases h
  case h_20 s x i hop =>
    have hx := opd_rel hf x
    split at h
    · rename_i fields l hu hs
      rw [hs] at hx
      obtain ⟨cs, hxe, hrel⟩ := hx
      obtain ⟨fd, h1, h⟩ := bind_some h
      obtain ⟨v', h2, h⟩ := bind_some h
      cases h
      obtain ⟨val, q1, q2⟩ := part_sound (P := P) (w := w) (get_some h2) hrel
      refine .pure hr (val := val) ?_ q2 (partE_np (get_some h2))
      simp only [execOp, hop]
      refine run_val ?_
      rw [hxe]
      simp only [Instr.field, Sem.run_bind, run_underlying hu, Result.andThen_ok, get_some h1, asAgg, Sem.run_pure, q1]
    · cases h
  case h_21 t x i hop =>
    have hx := opds_rel hf x
    have hi := opds_rel hf i
    split at h
    · rename_i e nn id off len z hu hs
      rw [hs] at hx
      split at h
      · rename_i hz
        obtain ⟨kd, y, ey, h2⟩ := num_some h
        rw [ey] at hi
        obtain ⟨g1, h3⟩ := guard_some h2
        obtain ⟨g2, h4⟩ := guard_some h3
        cases h4
        rw [le_den] at g1
        rw [lt_den] at g2
        have g1 : 0 ≤ y.den := g1
        obtain ⟨ofn, ln, ho, hl, _, hsl⟩ := hx
        rcases hsl.2 with ⟨_, h0', _⟩ | ⟨A, c, hxe, hlive, hspot, hlc, hoc, hA⟩ | ⟨h0', _⟩
        · omega
        rotate_left
        · omega
        · have hA' := hA (by omega)
          refine .pure hr (val := .pointer (some (A.add (y.den.toNat * z)))) ?_ ⟨hsl.1, hlive, ofn + y.den.toNat, ?_, .inl rfl, ?_⟩ rfl
          · simp only [execOp, hop]
            refine run_val ?_
            rw [hxe, hi.1]
            simp only [Instr.indexAt, Sem.run_bind, asInt_run, Result.andThen_ok, run_underlying hu, Sem.run_pure]
            rw [if_pos ⟨g1, by omega⟩]
            simp only [Sem.run_bind, tsize_run hz, Result.andThen_ok, Sem.run_pure]
          · rw [plus_den, ho]; omega
          · rw [hA', Addr.add_lit]
            unfold offs
            rw [Nat.add_mul]
            simp only [Nat.add_zero, Nat.add_assoc]
      · cases h
    · rename_i m e id r z d hh hu hs
      rw [hs] at hx
      obtain ⟨sz, h1, h⟩ := bind_some h
      have hsz := get_some h1
      split at h
      · cases h
      · rename_i hm0
        obtain ⟨kd, y, ey, h2⟩ := num_some h
        rw [ey] at hi
        obtain ⟨g1, h3⟩ := guard_some h2
        obtain ⟨g2, h4⟩ := guard_some h3
        cases h4
        rw [le_den] at g1
        rw [lt_den] at g2
        have g1 : 0 ≤ y.den := g1
        have g2 : y.den < (m : Int) := g2
        obtain ⟨hid, hlive, rn, hrow, hhi, hxe⟩ := hx
        have hrow : r = rn := hrow
        subst hrow
        refine .pure hr (val := .pointer (some ⟨(ρ id).block, (ρ id).base + offs rn z d + y.den.toNat * sz, none⟩)) ?_ ⟨hid, hlive, y.den.toNat, by omega, .inr (by omega), ?_⟩ rfl
        · simp only [execOp, hop]
          refine run_val ?_
          rw [hxe, hi.1]
          simp only [Instr.indexAt, Sem.run_bind, asInt_run, Result.andThen_ok, run_underlying hu, Instr.sureAddr, Sem.run_pure]
          rw [if_pos ⟨g1, g2⟩]
          simp only [Sem.run_bind, tsize_run hsz, Result.andThen_ok, Sem.run_pure, Addr.add_lit]
        · rw [Int.toNat_natCast]
          congr 3
          unfold offs; omega
    · cases h
  case h_22 t x i hop =>
    obtain ⟨v', h1, h⟩ := bind_some h
    cases h
    obtain ⟨np, val, q1, q2⟩ := index_sound (P := P) (w := w) (opd_rel hf x) (opds_rel hf i) h1
    exact .pure hr (by simp only [execOp, hop]; exact run_val q1) q2 np
  case h_23 t x i ok hop =>
    obtain ⟨v', h1, h⟩ := bind_some h
    cases h
    obtain ⟨val, q1, q2⟩ := lookup_sound (P := P) hr (opds_rel hf x) (opds_rel hf i) h1
    exact .pure hr (by simp only [execOp, hop]; exact run_val q1) q2 (lookupE_np h1)
  case h_24 t m k x hop =>
    obtain ⟨σ1, h1, h⟩ := bind_some h
    cases h
    obtain ⟨w', q1, q2, q3⟩ := insert_sound (P := P) hr (opds_rel hf m) (opds_rel hf k) (opd_rel hf x) h1
    exact .mk (val := undef) (by simp only [execOp, hop]; exact run_unit q1) (.inr ⟨rfl, rfl⟩) ARel.any q2 q3 rfl
  case h_25 t m k x hop =>
    obtain ⟨σ1, h1, h⟩ := bind_some h
    cases h
    obtain ⟨w', q1, q2, q3⟩ := insert_sound (P := P) hr (opds_rel hf m) (opds_rel hf k) (opd_rel hf x) h1
    exact .mk (val := undef) (by simp only [execOp, hop]; exact run_unit q1) (.inr ⟨rfl, rfl⟩) ARel.any q2 q3 rfl
  case h_26 t i hop =>
    have hx := opd_rel hf t
    split at h
    · rename_i l hs
      rw [hs] at hx
      obtain ⟨vs, hxe, hlen, hrel⟩ := hx
      obtain ⟨p, h1, h⟩ := bind_some h
      cases h
      have hp := get_some h1
      have hlt : i < vs.size := by rw [← hlen]; exact (List.getElem?_eq_some_iff.1 hp).1
      refine .pure hr (val := vs[i]) ?_ ?_ part_np
      · simp only [execOp, hop]
        refine run_val ?_
        rw [hxe]
        simp [Instr.extract, Array.getElem?_eq_getElem hlt]
      · have := hrel i p vs[i] hp (Array.getElem?_eq_getElem hlt)
        cases p <;> exact this
    · cases h
  case h_27 args ats hop =>
    have harg : ∀ s, (args[0]?).map (opds f) = some s → ∃ x, args[0]? = some x ∧ SRel ρ σ.length s (a.eval x) := by
      intro s hs
      obtain ⟨x, hx, rfl⟩ := Option.map_eq_some_iff.1 hs
      exact ⟨x, hx, opds_rel hf x⟩
    have fin : ∀ {t : TypeId} {d : TypeDesc} {x : Operand} {val : Value}, ats[0]? = some t → P.underlying t = some d → args[0]? = some x → 
        (match d, a.eval x with
          | .string, .string s => val = goInt s.size
          | .slice _, .slice _ n _ => val = goInt n
          | .map _ _, .map (some r) => ∃ es c, w.heap[r]? = some (.map es c) ∧ val = goInt es.size
          | _, _ => False) → (execOp a.eval o).run P w = .ok (.value val) w := by
      intro t d x val ht hd hx hv
      have hm : (args.map a.eval)[0]? = some (a.eval x) := by rw [Array.getElem?_map, hx]; rfl
      simp only [execOp, hop, resolve, Sem.run_bind, Sem.run_pure, Result.andThen_ok, invoke, builtin, Builtin.len_, ht, hm, run_underlying hd]
      revert hv
      generalize a.eval x = y
      intro hv
      cases d <;> cases y <;> first
        | exact hv.elim
        | (simp only at hv; subst hv; rfl)
        | skip
      rename_i r
      cases r with
      | none => exact hv.elim
      | some r =>
        obtain ⟨es, c, h1, rfl⟩ := hv
        simp only [getObj_run h1, Sem.run_bind, Result.andThen_ok, Sem.run_pure]
    have i64 : ∀ {n : Nat} {x : X}, x.den = n → n ≤ big → SRel ρ σ.length (.int .i64 x) (goInt n) := by
      intro n x hx hn
      unfold big at hn
      refine wint hx ?_
      simp only [IntKind.has, IntKind.min, IntKind.max, IntKind.signed, IntKind.bits, if_true]
      omega
    split at h
    · rename_i s ht hs
      obtain ⟨t, ht1, ht2⟩ := Option.bind_eq_some_iff.1 ht
      obtain ⟨x, hx, hr1⟩ := harg _ hs
      cases h
      exact .pure hr (val := goInt s.size) (fin ht1 ht2 hx (by rw [hr1.1])) (i64 rfl hr1.2) rfl
    · rename_i s ht hs
      obtain ⟨t, ht1, ht2⟩ := Option.bind_eq_some_iff.1 ht
      obtain ⟨x, hx, hr1⟩ := harg _ hs
      cases h
      exact .pure hr (val := goInt s.length) (fin ht1 ht2 hx (by rw [hr1.1]; simp only [bytesOf_size])) (i64 rfl hr1.2.1) rfl
    · rename_i s ht hs
      obtain ⟨t, ht1, ht2⟩ := Option.bind_eq_some_iff.1 ht
      obtain ⟨x, hx, hr1⟩ := harg _ hs
      cases h
      exact .pure hr (val := goInt s.D.2.length) (fin ht1 ht2 hx (by rw [hr1.1]; simp only [bytesOf_size])) (i64 rfl hr1.2.1) rfl
    · rename_i e ht hs
      obtain ⟨t, ht1, ht2⟩ := Option.bind_eq_some_iff.1 ht
      obtain ⟨x, hx, hr1⟩ := harg _ hs
      cases h
      exact .pure hr (val := goInt (0 : Nat)) (fin ht1 ht2 hx (by rw [show a.eval x = _ from hr1])) (i64 rfl (Nat.zero_le _)) rfl
    · rename_i e nn id off len sz ht hs
      obtain ⟨t, ht1, ht2⟩ := Option.bind_eq_some_iff.1 ht
      obtain ⟨x, hx, hr1⟩ := harg _ hs
      cases h
      obtain ⟨ofn, ln, ho, hl, hb, hsl⟩ := hr1
      refine .pure hr (val := goInt ln) (fin ht1 ht2 hx ?_) (i64 hl hb) rfl
      rcases hsl.2 with ⟨_, h0', e'⟩ | ⟨A, c, e', _⟩ | ⟨h0', A, e', _⟩
      · rw [e', h0']
      rotate_left
      · rw [e', h0']
      · rw [e']
    · rename_i k e id ht hs
      obtain ⟨t, ht1, ht2⟩ := Option.bind_eq_some_iff.1 ht
      obtain ⟨x, hx, hr1⟩ := harg _ hs
      split at h
      · rename_i es hat
        split at h
        · rename_i hle
          cases h
          have ho := hr.obj id
          rw [hat] at ho
          obtain ⟨hlive, es', hperm, _, en, clock, hen, hlen, _⟩ := ho
          refine .pure hr (val := goInt en.size) (fin ht1 ht2 hx (by rw [hr1.2.2]; exact ⟨en, clock, hen, rfl⟩)) ?_ rfl
          rw [← hlen, hperm.length_eq]
          exact i64 rfl (by unfold maxStr at hle; unfold big; omega)
        · cases h
      · cases h
    · cases h
  case h_28 args ats hop =>
    split at h
    · rename_i t t' x y ht ht' hx hy
      have go : (∀ k, P.underlying t' ≠ some (.int k)) → (appendE P t (opds f x) (opds f y) σ).run = some (v, σ') → (∃ d, P.underlying t' = some d) → OpPost P o a ρ σ w v σ' := by
        rintro hne h ⟨d, hd⟩
        obtain ⟨ρ', w', val, q1, q2, q3, q4⟩ := appendE_sound (P := P) (w := w) (ats := ats) (args := args.map a.eval) (ty := o.type) (vsl := a.eval x) (vx := a.eval y) ht ht' (by rw [Array.getElem?_map, hx]; rfl) (by rw [Array.getElem?_map, hy]; rfl) hd
          (fun k e => hne k (by rw [hd, e])) hr (opds_rel hf x) (opds_rel hf y) h
        refine .mk ?_ (.inl rfl) q2 q3 q4 (appendE_np h)
        simp only [execOp, hop, resolve, Sem.run_bind, Sem.run_pure, Result.andThen_ok, invoke, builtin, q1]
      split at h
      · rename_i e hu
        exact go (fun k e => by rw [hu] at e; cases e) h ⟨_, hu⟩
      · rename_i hu
        exact go (fun k e => by rw [hu] at e; cases e) h ⟨_, hu⟩
      · cases h
    · cases h
  case h_29 args ats hop =>
    have two : ∀ {k1 k2 : IntKind} {n1 n2 : X}, args.toList.map (opds f) = [.int k1 n1, .int k2 n2] → k1 = k2 → ((execOp a.eval o).run P w = .ok (.value (.int k1 (if n2.den < n1.den then n2.den else n1.den))) w) ∧ k1.has n1.den ∧ k1.has n2.den := by
      intro k1 k2 n1 n2 hl hk
      subst hk
      obtain ⟨ox, oy, ho⟩ : ∃ ox oy, args.toList = [ox, oy] := by
        revert hl
        cases args.toList with
        | nil => intro h; cases h
        | cons p r =>
          cases r with
          | nil => intro h; simp at h
          | cons q r =>
            cases r with
            | nil => intro _; exact ⟨p, q, rfl⟩
            | cons _ _ => intro h; simp at h
      rw [ho] at hl
      simp only [List.map_cons, List.map_nil, List.cons.injEq, and_true] at hl
      obtain ⟨hl1, hl2⟩ := hl
      have v1 : SRel ρ σ.length (.int k1 n1) (a.eval ox) := by have := opds_rel hf ox; rw [hl1] at this; exact this
      have v2 : SRel ρ σ.length (.int k1 n2) (a.eval oy) := by have := opds_rel hf oy; rw [hl2] at this; exact this
      have hm : (args.map a.eval).toList = [.int k1 n1.den, .int k1 n2.den] := by rw [Array.toList_map, ho]; simp [v1.1, v2.1]
      refine ⟨?_, v1.2, v2.2⟩
      simp only [execOp, hop, resolve, Sem.run_bind, Sem.run_pure, Result.andThen_ok, invoke, builtin, Builtin.min_, hm, List.foldlM_cons, List.foldlM_nil, Builtin.min2]
    split at h
    · rename_i k1 n1 k2 n2 hl
      split at h
      · rename_i hk
        obtain ⟨hrun, q1, q2⟩ := two hl hk
        cases h
        refine .pure hr hrun ⟨rfl, ?_⟩ rfl
        show IntKind.has _ (if _ then _ else _)
        split <;> assumption
      · cases h
    · rename_i k1 n1 k2 n2 _ hl
      split at h
      · rename_i hk
        obtain ⟨hrun, q1, q2⟩ := two hl hk
        rcases ite_some h with ⟨hb, h⟩ | ⟨hb, h⟩
        · rw [mkLt_den, decide_eq_true_eq] at hb
          rw [if_pos hb] at hrun
          cases h
          exact .pure hr hrun ⟨rfl, by assumption⟩ rfl
        · rw [mkLt_den, decide_eq_false_iff_not] at hb
          rw [if_neg hb] at hrun
          cases h
          exact .pure hr hrun ⟨rfl, by assumption⟩ rfl
      · cases h
    · cases h
  case h_30 args ats hop =>
    have two : ∀ {k1 k2 : IntKind} {n1 n2 : X}, args.toList.map (opds f) = [.int k1 n1, .int k2 n2] → k1 = k2 → ((execOp a.eval o).run P w = .ok (.value (.int k1 (if n1.den < n2.den then n2.den else n1.den))) w) ∧ k1.has n1.den ∧ k1.has n2.den := by
      intro k1 k2 n1 n2 hl hk
      subst hk
      obtain ⟨ox, oy, ho⟩ : ∃ ox oy, args.toList = [ox, oy] := by
        revert hl
        cases args.toList with
        | nil => intro h; cases h
        | cons p r =>
          cases r with
          | nil => intro h; simp at h
          | cons q r =>
            cases r with
            | nil => intro _; exact ⟨p, q, rfl⟩
            | cons _ _ => intro h; simp at h
      rw [ho] at hl
      simp only [List.map_cons, List.map_nil, List.cons.injEq, and_true] at hl
      obtain ⟨hl1, hl2⟩ := hl
      have v1 : SRel ρ σ.length (.int k1 n1) (a.eval ox) := by have := opds_rel hf ox; rw [hl1] at this; exact this
      have v2 : SRel ρ σ.length (.int k1 n2) (a.eval oy) := by have := opds_rel hf oy; rw [hl2] at this; exact this
      have hm : (args.map a.eval).toList = [.int k1 n1.den, .int k1 n2.den] := by rw [Array.toList_map, ho]; simp [v1.1, v2.1]
      refine ⟨?_, v1.2, v2.2⟩
      simp only [execOp, hop, resolve, Sem.run_bind, Sem.run_pure, Result.andThen_ok, invoke, builtin, Builtin.max_, hm, List.foldlM_cons, List.foldlM_nil, Builtin.max2]
    split at h
    · rename_i k1 n1 k2 n2 hl
      split at h
      · rename_i hk
        obtain ⟨hrun, q1, q2⟩ := two hl hk
        cases h
        refine .pure hr hrun ⟨rfl, ?_⟩ rfl
        show IntKind.has _ (if _ then _ else _)
        split <;> assumption
      · cases h
    · rename_i k1 n1 k2 n2 _ hl
      split at h
      · rename_i hk
        obtain ⟨hrun, q1, q2⟩ := two hl hk
        rcases ite_some h with ⟨hb, h⟩ | ⟨hb, h⟩
        · rw [mkLt_den, decide_eq_true_eq] at hb
          rw [if_pos hb] at hrun
          cases h
          exact .pure hr hrun ⟨rfl, by assumption⟩ rfl
        · rw [mkLt_den, decide_eq_false_iff_not] at hb
          rw [if_neg hb] at hrun
          cases h
          exact .pure hr hrun ⟨rfl, by assumption⟩ rfl
      · cases h
    · cases h
  case h_31 t x hi mx hop =>
    have hx := opds_rel hf x
    have hh := opds_rel hf hi
    have hm := opds_rel hf mx
    have bnds : ∀ {len cap : Nat} {k1 k2 : IntKind}, a.eval hi = .int k1 0 → a.eval mx = .int k2 0 → (Instr.sliceBounds true len cap none (some (a.eval hi)) (some (a.eval mx))).run P w = .ok (0, 0, 0) w := by
      intro len cap k1 k2 e1 e2
      rw [e1, e2]
      simp [Instr.sliceBounds, Instr.sliceBound, asInt_run]
    split at h
    · rename_i k1 k2 e e1 e2 hu es
      split at h
      · rename_i hz
        obtain ⟨z, hz⟩ := Option.isSome_iff_exists.1 hz
        cases h
        rw [e1] at hh; rw [e2] at hm; rw [es] at hx
        refine .pure hr (val := .slice none 0 0) ?_ rfl rfl
        simp only [execOp, hop]
        refine run_val ?_
        rw [show a.eval x = _ from hx]
        simp only [Option.map_none, Option.map_some, Instr.sliceAt, Sem.run_bind, run_underlying hu, Result.andThen_ok, Instr.slice, bnds hh.1 hm.1, tsize_run hz, Sem.run_pure]
        rfl
      · cases h
    · rename_i k1 k2 e nn id off len z e1 e2 hu es
      split at h
      · rename_i hz
        cases h
        rw [e1] at hh; rw [e2] at hm; rw [es] at hx
        obtain ⟨oo, m, ho, hm', hbig, hid, hsl⟩ := hx
        obtain ⟨g1, g2⟩ := Rel.ghost (sz := z) (c := .vals []) hr rfl
        have key : ∀ (A : Option Addr) (l c : Nat), a.eval x = .slice A l c → (execOp a.eval o).run P w = .ok (.value (.slice (if 0 = 0 then A else A.map (·.add (0 * z))) 0 0)) w := by
          intro A l c hA
          simp only [execOp, hop]
          refine run_val ?_
          rw [hA]
          simp only [Option.map_none, Option.map_some, Instr.sliceAt, Sem.run_bind, run_underlying hu, Result.andThen_ok, Instr.slice, bnds hh.1 hm.1, tsize_run hz, Sem.run_pure]
        have out : ∀ (v : Value), (execOp a.eval o).run P w = .ok (.value v) w → SlRel (setLoc ρ σ.length ⟨false, 0, 0, 0⟩) (σ.length + 1) nn σ.length 0 0 z v → OpPost P o a ρ σ w (.one (.sl nn σ.length (.c 0) (.c 0) z)) (σ.new (.row true z (.vals []))) :=
          fun v h1 h2 => .mk h1 (.inl rfl) (by rw [St.len_new]; exact ⟨0, 0, rfl, rfl, Nat.zero_le _, h2⟩) g1 g2 rfl
        rcases hsl with ⟨e1, _, e3⟩ | ⟨A, c, e3, _, hspot, _⟩ | ⟨_, A, e3, hspot⟩
        · exact out _ (key _ _ _ e3) ⟨by omega, .inl ⟨e1, rfl, rfl⟩⟩
        · exact out _ (key _ _ _ e3) ⟨by omega, .inr (.inr ⟨rfl, A, rfl, hspot⟩)⟩
        · exact out _ (key _ _ _ e3) ⟨by omega, .inr (.inr ⟨rfl, A, rfl, hspot⟩)⟩
      · cases h
    · cases h
  case h_32 => cases h
end
end Go.SX
