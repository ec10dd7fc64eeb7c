/- Each operation that is no call: what the evaluator tells is what the model does. -/
import Derived.Test.YtfacghikjnjjmaaSx1
import Derived.Laws.Sem
import Derived.ChangeKeysEq
import Derived.ArgAppend
import Derived.Lib.AppendStr
import Derived.Laws.StructEq
namespace Go.SX
open Go
set_option linter.unusedSectionVars false
variable [Env]

def OpPost (P : Program) (o : Oper) (a : Act) (ρ : Nat → Loc) (σ : St) (w : World) (v : AV) (σ' : St) : Prop :=
  ∃ ρ' w' val, ARel ρ' σ'.length v val ∧ Rel ρ' σ' w' ∧ Ext ρ σ w ρ' σ' w' ∧
    (v.panB = false → ∃ nx, (execOp a.eval o).run P w = .ok nx w' ∧ (nx = .value val ∨ (nx = .skip ∧ val = undef))) ∧
    (v.panB = true → (execOp a.eval o).run P w = .halt (.panic val) w')

theorem OpPost.mk {P : Program} {o : Oper} {a : Act} {ρ ρ' : Nat → Loc} {σ σ' : St} {w w' : World} {v : AV} {nx : Next} {val : Value} (h1 : (execOp a.eval o).run P w = .ok nx w') (h2 : nx = .value val ∨ (nx = .skip ∧ val = undef))
    (h3 : ARel ρ' σ'.length v val) (h4 : Rel ρ' σ' w') (h5 : Ext ρ σ w ρ' σ' w') (hp : v.panB = false) : OpPost P o a ρ σ w v σ' :=
  ⟨ρ', w', val, h3, h4, h5, fun _ => ⟨nx, h1, h2⟩, fun h => by rw [hp] at h; cases h⟩
theorem OpPost.pure {P : Program} {o : Oper} {a : Act} {ρ : Nat → Loc} {σ : St} {w : World} {v : AV} {val : Value} (hr : Rel ρ σ w)
    (h : (execOp a.eval o).run P w = .ok (.value val) w) (ha : ARel ρ σ.length v val) (hp : v.panB = false) : OpPost P o a ρ σ w v σ :=
  .mk h (.inl rfl) ha hr (Ext.refl _ _ _) hp

section
variable {P : Program} {a : Act} {ρ : Nat → Loc} {n : Nat} {w : World}

/-! Numbers. -/
theorem wint {k : IntKind} {n : Int} {x : X} (h : x.den = n) (hh : k.has n) {m : Nat} : SRel ρ m (.int k x) (.int k n) := ⟨by rw [h], by rw [h]; exact hh⟩
theorem binI_sound {op : BinOp} {k : IntKind} {x y : X} {s : Sc} (t : TypeId) (hx : k.has x.den) (h : (binI op k x y).run = some s) :
    ∃ val, (binOp op t (.int k x.den) (.int k y.den)).run P w = .ok val w ∧ SRel ρ n s val := by
  cases op <;> simp only [binI] at h
  case add => cases h; exact ⟨_, by simp only [binOp, ne_eq, not_true_eq_false, if_false, Op.intArith]; rfl, wint (bin_den _ _ _ _) (semI_has (o := .add) hx)⟩
  case sub => cases h; exact ⟨_, by simp only [binOp, ne_eq, not_true_eq_false, if_false, Op.intArith]; rfl, wint (bin_den _ _ _ _) (semI_has (o := .sub) hx)⟩
  case mul => cases h; exact ⟨_, by simp only [binOp, ne_eq, not_true_eq_false, if_false, Op.intArith]; rfl, wint (bin_den _ _ _ _) (semI_has (o := .mul) hx)⟩
  case and => cases h; exact ⟨_, by simp only [binOp, ne_eq, not_true_eq_false, if_false, Op.intBits]; rfl, wint (bin_den _ _ _ _) (semI_has (o := .and) hx)⟩
  case or => cases h; exact ⟨_, by simp only [binOp, ne_eq, not_true_eq_false, if_false, Op.intBits]; rfl, wint (bin_den _ _ _ _) (semI_has (o := .or) hx)⟩
  case xor => cases h; exact ⟨_, by simp only [binOp, ne_eq, not_true_eq_false, if_false, Op.intBits]; rfl, wint (bin_den _ _ _ _) (semI_has (o := .xor) hx)⟩
  case andNot => cases h; exact ⟨_, by simp only [binOp, ne_eq, not_true_eq_false, if_false, Op.intBits]; rfl, wint (bin_den _ _ _ _) (semI_has (o := .andNot) hx)⟩
  case eql => cases h; exact ⟨_, by simp only [binOp, ne_eq, not_true_eq_false, if_false, Op.intCmp]; rfl, by show _ = Value.bool (B.den _); rw [mkEq_den]⟩
  case neq => cases h; exact ⟨_, by simp only [binOp, ne_eq, not_true_eq_false, if_false, Op.intCmp]; rfl, by show _ = Value.bool (B.den _); rw [mkNot_den, mkEq_den]; rfl⟩
  case lss => cases h; exact ⟨_, by simp only [binOp, ne_eq, not_true_eq_false, if_false, Op.intCmp]; rfl, by show _ = Value.bool (B.den _); rw [mkLt_den]⟩
  case leq => cases h; exact ⟨_, by simp only [binOp, ne_eq, not_true_eq_false, if_false, Op.intCmp]; rfl, by show _ = Value.bool (B.den _); rw [mkNot_den, mkLt_den, ← decide_not]; congr 1; exact decide_eq_decide.2 (by omega)⟩
  case gtr => cases h; exact ⟨_, by simp only [binOp, ne_eq, not_true_eq_false, if_false, Op.intCmp]; rfl, by show _ = Value.bool (B.den _); rw [mkLt_den]⟩
  case geq => cases h; exact ⟨_, by simp only [binOp, ne_eq, not_true_eq_false, if_false, Op.intCmp]; rfl, by show _ = Value.bool (B.den _); rw [mkNot_den, mkLt_den, ← decide_not]; congr 1; exact decide_eq_decide.2 (by omega)⟩
  case quo =>
    obtain ⟨g, h⟩ := guard_some h; cases h
    have g' : y.den ≠ 0 := by rw [mkNot_den, mkEq_den] at g; simpa [X.den] using g
    exact ⟨_, by simp only [binOp, ne_eq, not_true_eq_false, if_false, Op.intDiv, g']; rfl, wint (bin_den _ _ _ _) (semI_has (o := .quo) hx)⟩
  case rem =>
    obtain ⟨g, h⟩ := guard_some h; cases h
    have g' : y.den ≠ 0 := by rw [mkNot_den, mkEq_den] at g; simpa [X.den] using g
    exact ⟨_, by simp only [binOp, ne_eq, not_true_eq_false, if_false, Op.intDiv, g']; rfl, wint (bin_den _ _ _ _) (semI_has (o := .rem) hx)⟩
  all_goals (exact absurd h (by intro h; cases h))

theorem shiftI_sound {op : BinOp} {k k' : IntKind} {x y : X} {s : Sc} (t : TypeId) (hx : k.has x.den) (h : (shiftI op k x y).run = some s) :
    ∃ val, (binOp op t (.int k x.den) (.int k' y.den)).run P w = .ok val w ∧ SRel ρ n s val := by
  unfold shiftI at h
  split at h
  · rename_i hg
    split at h
    · obtain ⟨g, h⟩ := guard_some h
      rw [mkNot_den, mkLt_den] at g
      have g' : ¬ y.den < 0 := by
        intro hlt
        have e : decide (y.den < (X.c 0).den) = true := decide_eq_true hlt
        rw [e] at g; cases g
      cases h
      cases op <;> (try exact absurd hg (by decide))
      · exact ⟨_, by simp only [binOp, Op.shift, g', if_false]; rfl, wint (bin_den _ _ _ _) (semI_has (o := .shl) hx)⟩
      · exact ⟨_, by simp only [binOp, Op.shift, g', if_false]; rfl, wint (bin_den _ _ _ _) (semI_has (o := .shr) hx)⟩
    · obtain ⟨i, hi, h⟩ := enumR_some h
      have g' : ¬ y.den < 0 := by omega
      cases h
      have e : ∀ op, (X.bin op k x (.c (i : Int))).den = semI op k x.den y.den := fun op => by rw [bin_den, hi]; rfl
      cases op <;> (try exact absurd hg (by decide))
      · exact ⟨_, by simp only [binOp, Op.shift, g', if_false]; rfl, wint (e _) (semI_has (o := .shl) hx)⟩
      · exact ⟨_, by simp only [binOp, Op.shift, g', if_false]; rfl, wint (e _) (semI_has (o := .shr) hx)⟩
  · cases h

theorem bytesOf_data (l : List Int) : (bytesOf l).data.toList = l.map fun n => UInt8.ofNat n.toNat := by simp [bytesOf]
theorem bytesOf_numsOf (s : ByteArray) : bytesOf (numsOf s) = s := by
  apply ByteArray.ext
  apply Array.toList_inj.1
  rw [bytesOf_data, numsOf, List.map_map]
  conv => rhs; rw [← List.map_id s.data.toList]
  apply List.map_congr_left
  intro b _
  simp
theorem numsOf_range (s : ByteArray) : ∀ n ∈ numsOf s, 0 ≤ n ∧ n < 256 := by
  intro n hn
  obtain ⟨b, _, rfl⟩ := List.mem_map.1 hn
  have := b.toNat_lt
  omega
/-- strings as numbers -/
theorem bytes?_rel {s : Sc} {v : Value} {l : List Int} (h : SRel ρ n s v) (e : s.bytes? = some l) : v = .string (bytesOf l) ∧ l.length ≤ big ∧ ∀ x ∈ l, 0 ≤ x ∧ x < 256 := by
  cases s <;> simp only [Sc.bytes?, Option.some.injEq, reduceCtorEq] at e
  · subst e
    rw [bytesOf_numsOf]
    exact ⟨h.1, by have := h.2; simpa [numsOf] using this, numsOf_range _⟩
  · subst e; exact h
  · subst e; exact h
theorem bytesOf_size (l : List Int) : (bytesOf l).size = l.length := by simp [bytesOf, ByteArray.size]
theorem bytesOf_append (l m : List Int) : bytesOf (l ++ m) = bytesOf l ++ bytesOf m := by
  apply ByteArray.ext
  apply Array.toList_inj.1
  rw [bytesOf_data, ByteArray.data_append, Array.toList_append, bytesOf_data, bytesOf_data, List.map_append]
theorem ofNat_inj {a b : Int} (ha : 0 ≤ a ∧ a < 256) (hb : 0 ≤ b ∧ b < 256) (h : UInt8.ofNat a.toNat = UInt8.ofNat b.toNat) : a = b := by
  have := congrArg UInt8.toNat h
  simp only [UInt8.toNat_ofNat'] at this
  omega
theorem bytesOf_inj : ∀ {l m : List Int}, (∀ x ∈ l, 0 ≤ x ∧ x < 256) → (∀ x ∈ m, 0 ≤ x ∧ x < 256) → l.map (fun n => UInt8.ofNat n.toNat) = m.map (fun n => UInt8.ofNat n.toNat) → l = m
  | [], [], _, _, _ => rfl
  | [], _ :: _, _, _, h => by cases h
  | _ :: _, [], _, _, h => by cases h
  | x :: l, y :: m, hl, hm, h => by
    simp only [List.map_cons, List.cons.injEq] at h
    rw [ofNat_inj (hl x (by simp)) (hm y (by simp)) h.1, bytesOf_inj (fun x h => hl x (by simp [h])) (fun x h => hm x (by simp [h])) h.2]
theorem bytes_beq (a b : ByteArray) : (a == b) = (a.data.toList == b.data.toList) := by
  cases a with | mk x => cases b with | mk y =>
  show (x == y) = _
  rw [Bool.eq_iff_iff, beq_iff_eq, beq_iff_eq, Array.toList_inj]
theorem eq_bytes {l m : List Int} (hl : ∀ x ∈ l, 0 ≤ x ∧ x < 256) (hm : ∀ x ∈ m, 0 ≤ x ∧ x < 256) : (bytesOf l == bytesOf m) = (l == m) := by
  rw [bytes_beq, bytesOf_data, bytesOf_data, Bool.eq_iff_iff, beq_iff_eq, beq_iff_eq]
  exact ⟨fun h => bytesOf_inj hl hm h, fun h => by rw [h]⟩

theorem strE_bytes {s : Sc} {l : List Int} {e : E} (h : s.bytes? = some l) (he : s.strE? = some e) : e.D.2 = l := by
  cases s <;> first | (cases he; done) | skip
  · cases he; cases h
    rename_i b
    have : ∀ m : List Int, (m.foldr (fun n e => E.cn (.num n) e) E.nl).D.2 = m := by
      intro m
      induction m with
      | nil => rfl
      | cons a m ih => show a :: _ = _; rw [ih]
    exact this _
  · cases he; cases h; rfl
theorem sameS_den {a b : Sc} {x y : List Int} (ha : a.bytes? = some x) (hb : b.bytes? = some y) : (sameS a b x y).den = (x == y) := by
  unfold sameS
  split
  · rename_i d e hd he
    split
    · rename_i hbq
      have h1 := strE_bytes ha hd
      have h2 := strE_bytes hb he
      have h3 : x = y := by rw [← h1, ← h2, E.beq_eq hbq]
      rw [h3]; exact (beq_self_eq_true y).symm
    · have h1 := strE_bytes ha hd
      have h2 := strE_bytes hb he
      have lq : B.den (.ex (.lq d e)) = (x == y) := by
        show (d.D.2 == e.D.2) = _
        rw [h1, h2]
      split
      · rename_i s
        cases ha
        split
        · show (eqLs e (numsOf s)).den = _
          rw [eqLs_den]
          show (e.D.2 == numsOf s) = _
          rw [h2, Bool.eq_iff_iff, beq_iff_eq, beq_iff_eq]; exact eq_comm
        · exact lq
      · rename_i s _
        cases hb
        split
        · show (eqLs d (numsOf s)).den = _
          rw [eqLs_den]
          show (d.D.2 == numsOf s) = _
          rw [h1]
        · exact lq
      · exact lq
  · rfl
theorem binS_sound {op : BinOp} {a b s : Sc} {va vb : Value} (t : TypeId) (ha : SRel ρ n a va) (hb : SRel ρ n b vb) (h : (binS op a b).run = some s) :
    ∃ x y val, va = .string x ∧ vb = .string y ∧ (binOp op t (.string x) (.string y)).run P w = .ok val w ∧ SRel ρ n s val := by
  unfold binS at h
  have big1 : ((maxStr : Nat) : Int) ≤ IntKind.i64.max := by decide
  have big2 : ((big : Nat) : Int) ≤ IntKind.i64.max := by decide
  split at h
  · rename_i x y
    refine ⟨x, y, ?_⟩
    split at h
    · split at h
      · rename_i hs
        cases h
        refine ⟨.string (x ++ y), ha.1, hb.1, ?_, rfl, ?_⟩
        · simp only [binOp, Op.stringOp]
          rw [if_neg (by omega)]; rfl
        · rw [ByteArray.size_append]; unfold maxStr at hs; unfold big; omega
      · cases h
    · cases h; exact ⟨_, ha.1, hb.1, rfl, rfl⟩
    · cases h; exact ⟨_, ha.1, hb.1, rfl, rfl⟩
    · cases h
  · split at h
    · rename_i x y e1 e2
      obtain ⟨h1, l1, r1⟩ := bytes?_rel ha e1
      obtain ⟨h2, l2, r2⟩ := bytes?_rel hb e2
      refine ⟨bytesOf x, bytesOf y, ?_⟩
      split at h
      · split at h
        · rename_i d e hd he
          obtain ⟨g, h⟩ := guard_some h
          have d1 : d.dens = x := strE_bytes e1 hd
          have d2 : e.dens = y := strE_bytes e2 he
          have hs : x.length + y.length ≤ big := by
            rw [mkNot_den, mkLt_den, plus_den, Bool.not_eq_true', decide_eq_false_iff_not] at g
            have g : ¬ ((big : Int) < ((d.dens.length : Nat) : Int) + ((e.dens.length : Nat) : Int)) := g
            rw [d1, d2] at g
            omega
          cases h
          have hcc : (ccE d e).D.2 = x ++ y := by rw [← d1, ← d2]; exact ccE_dens d e
          refine ⟨.string (bytesOf x ++ bytesOf y), h1, h2, ?_, ?_⟩
          · simp only [binOp, Op.stringOp]
            rw [if_neg (by rw [bytesOf_size, bytesOf_size]; omega)]; rfl
          · refine ⟨by rw [hcc, bytesOf_append], by rw [hcc, List.length_append]; exact hs, fun z hz => ?_⟩
            rw [hcc] at hz
            rcases List.mem_append.1 hz with hz | hz
            · exact r1 z hz
            · exact r2 z hz
        · obtain ⟨g, h⟩ := guard_some h
          have hs : x.length + y.length ≤ big := of_decide_eq_true g
          cases h
          refine ⟨.string (bytesOf x ++ bytesOf y), h1, h2, ?_, ?_⟩
          · simp only [binOp, Op.stringOp]
            rw [if_neg (by rw [bytesOf_size, bytesOf_size]; omega)]; rfl
          · refine ⟨by rw [bytesOf_append], by rw [List.length_append]; exact hs, fun z hz => ?_⟩
            rcases List.mem_append.1 hz with hz | hz
            · exact r1 z hz
            · exact r2 z hz
      · cases h
        refine ⟨_, h1, h2, rfl, ?_⟩
        show Value.bool _ = Value.bool (B.den _)
        rw [sameS_den e1 e2, ← eq_bytes r1 r2]
        rw [bytes_beq, ByteArray.toList_eq, ByteArray.toList_eq]
      · cases h
        refine ⟨_, h1, h2, rfl, ?_⟩
        show Value.bool _ = Value.bool (B.den _)
        rw [mkNot_den, sameS_den e1 e2, ← eq_bytes r1 r2]
        rw [bytes_beq, ByteArray.toList_eq, ByteArray.toList_eq]
      · cases h
    · cases h

theorem unE_sound {op : UnOp} {s r : Sc} {v : Value} (hv : SRel ρ n s v) (h : (unE op s).run = some r) :
    ∃ val, (Op.unary op v).run P w = .ok val w ∧ SRel ρ n r val := by
  unfold unE at h
  split at h
  · rename_i k x
    rw [hv.1]
    cases h
    exact ⟨_, by simp only [Op.unary, Op.intArith]; rfl, wint (bin_den _ _ _ _) (semI_has (o := .sub) (has_zero k))⟩
  · rename_i k x
    rw [hv.1]
    cases h
    refine ⟨_, by simp only [Op.unary, Op.intBits]; rfl, wint (bin_den _ _ _ _) (wrap_has _ _)⟩
  · rename_i b
    rw [show v = _ from hv]
    cases h
    exact ⟨_, by simp only [Op.unary]; rfl, by show _ = Value.bool (B.den _); rw [mkNot_den]⟩
  · cases h

/-! '=='. -/
theorem tagg_run {t : TypeId} {g : Bool} (h : tagg P t = some g) : (isAgg t).run P w = .ok g w := by
  unfold tagg at h
  obtain ⟨d, hd, hg⟩ := Option.map_eq_some_iff.1 h
  simp only [isAgg, Sem.run_bind, run_underlying hd, Result.andThen_ok]
  cases d <;> (subst hg; rfl)
theorem tsize_run {t : TypeId} {k : Nat} (h : tsize P t = some k) : (sizeOf t).run P w = .ok k w := by
  unfold tsize at h
  obtain ⟨i, hi, rfl⟩ := Option.map_eq_some_iff.1 h
  simp [sizeOf, run_typeInfo w hi]

theorem LRel.sub {l : List Sc} {cs : Array Value} (h : LRel ρ n l cs.toList) (off k : Nat) : LRel ρ n ((l.drop off).take k) (cs.extract off (off + k)).toList := by
  refine ⟨by simp [h.1], fun i s v a b => ?_⟩
  have hi : i < k := by
    rcases Nat.lt_or_ge i k with h' | h'
    · exact h'
    · rw [List.getElem?_take, if_neg (by omega)] at a; cases a
  rw [List.getElem?_take, if_pos hi, List.getElem?_drop] at a
  simp only [Array.getElem?_toList, Array.getElem?_extract] at b
  split at b
  · exact h.2 _ s v a (by simpa using b)
  · cases b

theorem part_sound {t : TypeId} {l : List Sc} {off : Nat} {v : AV} {cs : Array Value} (h : partE P t l off = some v) (hl : LRel ρ n l cs.toList) :
    ∃ val, (part t cs off).run P w = .ok val w ∧ ARel ρ n v val := by
  unfold partE at h
  split at h
  · rename_i k hg hk
    split at h
    · cases h
      refine ⟨.agg (cs.extract off (off + k)), ?_, _, rfl, hl.sub off k⟩
      simp [part, tagg_run hg, tsize_run hk]
    · cases h
  · rename_i k hg hk
    obtain ⟨s, hs, rfl⟩ := Option.map_eq_some_iff.1 h
    have hlt : off < cs.toList.length := by rw [← hl.1]; exact (List.getElem?_eq_some_iff.1 hs).1
    have hc : cs[off]? = some cs.toList[off] := by rw [← Array.getElem?_toList]; exact List.getElem?_eq_getElem hlt
    refine ⟨cs.toList[off], ?_, ?_⟩
    · simp only [part, Sem.run_bind, tagg_run hg, Result.andThen_ok, Bool.false_eq_true, if_false, hc, Sem.run_pure]
    · exact hl.2 off s _ hs (List.getElem?_eq_getElem hlt)
  · cases h

theorem eqFs_sound {d : Nat} {rec : TypeId → AV → AV → Option B} {xs ys : List Sc} {cx cy : Array Value}
    (hrec : ∀ t x y b vx vy, rec t x y = some b → ARel ρ n x vx → ARel ρ n y vy → (Op.equalIn d t vx vy).run P w = .ok b.den w)
    (hx : LRel ρ n xs cx.toList) (hy : LRel ρ n ys cy.toList) : ∀ (fs : List Field) (b : B), eqFs P rec xs ys fs = some b → (Op.eqFields d cx cy fs).run P w = .ok b.den w
  | [], b, h => by cases h; rfl
  | f :: fs, b, h => by
    simp only [eqFs] at h
    by_cases hn : f.name = "_"
    · rw [if_pos hn] at h
      simp only [Op.eqFields, hn, ne_eq, not_true_eq_false, if_false]
      exact eqFs_sound hrec hx hy fs b h
    · rw [if_neg hn] at h
      split at h
      · rename_i a a' ha ha'
        split at h
        · rename_i b1 b2 h1 h2
          cases h
          obtain ⟨v, pv, rv⟩ := part_sound (w := w) ha hx
          obtain ⟨v', pv', rv'⟩ := part_sound (w := w) ha' hy
          have e := hrec _ _ _ _ _ _ h1 rv rv'
          have ih := eqFs_sound hrec hx hy fs b2 h2
          simp only [Op.eqFields, hn, ne_eq, not_false_eq_true, if_true, Sem.run_bind, pv, pv', e, Result.andThen_ok]
          rw [mkAnd_den]
          cases b1.den
          · simp
          · simpa using ih
        · cases h
      · cases h

def eqElems (d : Nat) (e : TypeId) (xs ys : Array Value) (sz : Nat) : Nat → Nat → Sem Bool
  | 0, _ => pure true
  | n + 1, i => do
      let a ← part e xs (i * sz)
      let b ← part e ys (i * sz)
      let r ← Op.equalIn d e a b
      if (!r) = true then pure false else eqElems d e xs ys sz n (i + 1)
theorem run_equalIn_array (w : World) (d : Nat) (t e : TypeId) (len sz : Nat) (xs ys : Array Value) (ht : P.underlying t = some (.array len e)) (hz : tsize P e = some sz) :
    (Op.equalIn (d + 1) t (.agg xs) (.agg ys)).run P w = (eqElems d e xs ys sz len 0).run P w := by
  simp only [Op.equalIn, Sem.run_bind, run_underlying ht, Result.andThen_ok, tsize_run hz]
  rw [Std.Legacy.Range.forIn_eq_forIn_range']
  have e1 : (Std.Legacy.Range.size [0:len]) = len := by simp [Std.Legacy.Range.size]
  rw [e1]
  clear ht e1
  have e2 : List.range' ([:len] : Std.Legacy.Range).start len ([:len] : Std.Legacy.Range).step = List.range' 0 len := rfl
  rw [e2]
  clear e2
  generalize 0 = i
  induction len generalizing w i with
  | zero => simp [eqElems]
  | succ n ih =>
    rw [List.range'_succ]
    simp only [List.forIn_cons, eqElems, Sem.run_bind, Sem.run_ite]
    generalize (part e xs (i * sz)).run P w = r1
    cases r1 with
    | ok a w1 =>
      simp only [Result.andThen_ok]
      generalize (part e ys (i * sz)).run P w1 = r2
      cases r2 with
      | ok b w2 =>
        simp only [Result.andThen_ok]
        generalize (Op.equalIn d e a b).run P w2 = r3
        cases r3 with
        | ok r w3 =>
          cases r
          · simp only [Result.andThen_ok, Bool.not_false, if_true, Sem.run_pure]
          · simp only [Result.andThen_ok, Bool.not_true, Bool.false_eq_true, if_false, Sem.run_pure]
            exact ih w3 (i + 1)
        | halt x w3 => simp [Result.andThen]
      | halt x w2 => simp [Result.andThen]
    | halt x w1 => simp [Result.andThen]

theorem eqEs_sound {d : Nat} {rec : TypeId → AV → AV → Option B} {xs ys : List Sc} {cx cy : Array Value} {e : TypeId} {sz : Nat}
    (hrec : ∀ t x y b vx vy, rec t x y = some b → ARel ρ n x vx → ARel ρ n y vy → (Op.equalIn d t vx vy).run P w = .ok b.den w)
    (hx : LRel ρ n xs cx.toList) (hy : LRel ρ n ys cy.toList) : ∀ (m i : Nat) (b : B), eqEs P rec e xs ys sz m (i * sz) = some b → (eqElems d e cx cy sz m i).run P w = .ok b.den w
  | 0, i, b, h => by cases h; rfl
  | m + 1, i, b, h => by
    simp only [eqEs] at h
    split at h
    · rename_i a a' ha ha'
      split at h
      · rename_i b1 b2 h1 h2
        cases h
        obtain ⟨v, pv, rv⟩ := part_sound (w := w) ha hx
        obtain ⟨v', pv', rv'⟩ := part_sound (w := w) ha' hy
        have e1 := hrec _ _ _ _ _ _ h1 rv rv'
        have ih := eqEs_sound hrec hx hy m (i + 1) b2 (by rw [Nat.add_mul, Nat.one_mul]; exact h2)
        simp only [eqElems, Sem.run_bind, pv, pv', e1, Result.andThen_ok]
        rw [mkAnd_den]
        cases b1.den
        · simp
        · simpa using ih
      · cases h
    · cases h

theorem eqT_sound : ∀ (d : Nat) (t : TypeId) (x y : AV) (b : B) (vx vy : Value), eqT P d t x y = some b → ARel ρ n x vx → ARel ρ n y vy →
    ∀ D, d ≤ D → (Op.equalIn D t vx vy).run P w = .ok b.den w
  | 0, t, x, y, b, vx, vy, h, _, _, D, _ => by cases h
  | d + 1, t, x, y, b, vx, vy, h, hx, hy, D, hD => by
    obtain ⟨D, rfl⟩ : ∃ m, D = m + 1 := ⟨D - 1, by omega⟩
    simp only [eqT] at h
    split at h
    · rename_i fields xs ys hu
      split at h
      · cases h
      · rename_i hp
        obtain ⟨cx, rfl, rx⟩ := hx
        obtain ⟨cy, rfl, ry⟩ := hy
        have hf : P.fieldsOf t = fields := by simp [Program.fieldsOf, hu]
        rw [run_equalIn_struct (w := w) D t cx cy (by rw [hf]; exact hu) (by simpa using hp), hf]
        exact eqFs_sound (fun t x y b vx vy h hx hy => eqT_sound d t x y b vx vy h hx hy D (by omega)) rx ry _ _ h
    · rename_i m e xs ys hu
      split at h
      · rename_i sz hsz
        split at h
        · cases h
        · obtain ⟨cx, rfl, rx⟩ := hx
          obtain ⟨cy, rfl, ry⟩ := hy
          rw [run_equalIn_array w D t e m sz cx cy hu hsz]
          exact eqEs_sound (fun t x y b vx vy h hx hy => eqT_sound d t x y b vx vy h hx hy D (by omega)) rx ry m 0 b (by rw [Nat.zero_mul]; exact h)
      · cases h
    · rename_i k k1 n1 k2 n2 hu
      split at h
      · rename_i hk
        cases h
        rw [hx.1, hy.1, mkEq_den]
        simp [Op.equalIn, run_underlying hu, hk]
      · cases h
    · rename_i b1 b2 hu
      cases h
      rw [show vx = _ from hx, show vy = _ from hy, mkIff_den]
      simp [Op.equalIn, run_underlying hu]
    · rename_i sa sb hu
      split at h
      · cases h
        rw [hx.1, hy.1]
        simp [Op.equalIn, run_underlying hu, B.den]
      · split at h
        · rename_i x' y' e1 e2
          cases h
          obtain ⟨h1, l1, r1⟩ := bytes?_rel hx e1
          obtain ⟨h2, l2, r2⟩ := bytes?_rel hy e2
          rw [h1, h2]
          simp only [Op.equalIn, Sem.run_bind, run_underlying hu, Result.andThen_ok, Sem.run_pure]
          rw [eq_bytes r1 r2]; rfl
        · cases h
    · rename_i hu
      cases h
      rw [show vx = _ from hx, show vy = _ from hy]
      simp [Op.equalIn, run_underlying hu, B.den]
    · rename_i hu
      cases h
      rw [show vx = _ from hx]
      obtain ⟨_, _, _, _, _, hy⟩ := hy
      rcases hy.2 with ⟨h0, _⟩ | ⟨A, c, e, _⟩ | ⟨_, A, e, _⟩
      · cases h0
      · rw [e]; simp [Op.equalIn, run_underlying hu, B.den]
      · rw [e]; simp [Op.equalIn, run_underlying hu, B.den]
    · rename_i hu
      cases h
      rw [show vy = _ from hy]
      obtain ⟨_, _, _, _, _, hx⟩ := hx
      rcases hx.2 with ⟨h0, _⟩ | ⟨A, c, e, _⟩ | ⟨_, A, e, _⟩
      · cases h0
      · rw [e]; simp [Op.equalIn, run_underlying hu, B.den]
      · rw [e]; simp [Op.equalIn, run_underlying hu, B.den]
    · rename_i hu
      cases h
      rw [show vx = _ from hx, show vy = _ from hy]
      simp [Op.equalIn, run_underlying hu, B.den]
    · rename_i hu
      cases h
      obtain ⟨_, _, _, _, _, hy⟩ := hy
      rw [show vx = _ from hx, hy]
      simp [Op.equalIn, run_underlying hu, B.den]
    · rename_i hu
      cases h
      obtain ⟨_, _, _, _, _, hx⟩ := hx
      rw [show vy = _ from hy, hx]
      simp [Op.equalIn, run_underlying hu, B.den]
    · cases h

theorem binOp_eql (t : TypeId) (x y : Value) (h1 : ∀ k a j b, ¬ (x = .int k a ∧ y = .int j b)) (h2 : ∀ k a, x ≠ .float k a) (h3 : ∀ k a b, x ≠ .complex k a b) (h4 : ∀ a b, ¬ (x = .string a ∧ y = .string b)) :
    binOp .eql t x y = (do pure (.bool (← Op.equal t x y))) := by
  cases x <;> cases y <;> first
    | rfl
    | exact absurd ⟨rfl, rfl⟩ (h1 _ _ _ _)
    | exact absurd rfl (h2 _ _)
    | exact absurd rfl (h3 _ _ _)
    | exact absurd ⟨rfl, rfl⟩ (h4 _ _)
theorem binOp_neq (t : TypeId) (x y : Value) (h1 : ∀ k a j b, ¬ (x = .int k a ∧ y = .int j b)) (h2 : ∀ k a, x ≠ .float k a) (h3 : ∀ k a b, x ≠ .complex k a b) (h4 : ∀ a b, ¬ (x = .string a ∧ y = .string b)) :
    binOp .neq t x y = (do pure (.bool (!(← Op.equal t x y)))) := by
  cases x <;> cases y <;> first
    | rfl
    | exact absurd ⟨rfl, rfl⟩ (h1 _ _ _ _)
    | exact absurd rfl (h2 _ _)
    | exact absurd rfl (h3 _ _ _)
    | exact absurd ⟨rfl, rfl⟩ (h4 _ _)

/-- no aggregate, no nil interface, no float -/
def plainV : Value → Bool
  | .agg _ | .nilIface | .float _ _ | .complex _ _ _ => false
  | _ => true
def Sc.eqOk : Sc → Bool
  | .any => false
  | .nili => false
  | .flt _ _ => false
  | _ => true
theorem plainV_of {s : Sc} {v : Value} (h : SRel ρ n s v) (h1 : s.eqOk = true) : plainV v = true := by
  cases s with
  | any => cases h1
  | nili => cases h1
  | flt k x => cases h1
  | int k x => rw [h.1]; rfl
  | str x => rw [h.1]; rfl
  | strf l => rw [h.1]; rfl
  | strt l => rw [h.1]; rfl
  | ptr id row sz fld hi => obtain ⟨_, _, r, _, _, e⟩ := h; rw [e]; rfl
  | sl nn id off len sz =>
    obtain ⟨_, _, _, _, _, h⟩ := h
    rcases h.2 with ⟨_, _, e⟩ | ⟨A, c, e, _⟩ | ⟨_, A, e, _⟩ <;> (rw [e]; rfl)
  | mp id => rw [h.2.2]; rfl
  | _ => rw [show v = _ from h]; rfl

theorem guard_plain {op : BinOp} {t : TypeId} {ox oy : Operand} {x y : Value} (h : plainV x = true) : (eqGuard op t ox oy x y).run P w = .ok () w := by
  cases op <;> first
    | rfl
    | (simp only [eqGuard]
       cases x <;> first | (cases h; done) | (cases y <;> rfl))

theorem eqT_plain {d : Nat} {t : TypeId} {a b : Sc} {r : B} (h : eqT P d t (.one a) (.one b) = some r) : a.eqOk = true ∧ b ≠ .any := by
  cases d with
  | zero => cases h
  | succ d =>
    cases hu : P.underlying t with
    | none => simp [eqT, hu] at h
    | some k =>
      refine ⟨?_, fun e => ?_⟩
      · cases a <;> first
          | rfl
          | (cases k <;> cases b <;> simp [eqT, hu, Sc.bytes?] at h)
      · subst e
        cases k <;> cases a <;> simp [eqT, hu, Sc.bytes?] at h

theorem int_of_rel {s : Sc} {v : Value} (h : SRel ρ n s v) (h1 : s ≠ .any) {k : IntKind} {x : Int} (e : v = .int k x) : ∃ y, s = .int k y := by
  subst e
  cases s with
  | any => exact absurd rfl h1
  | int k n => cases h.1; exact ⟨_, rfl⟩
  | str x => cases h.1
  | strf l => cases h.1
  | strt l => cases h.1
  | ptr id row sz fld hi => obtain ⟨_, _, r, _, _, e⟩ := h; cases e
  | sl nn id off len sz =>
    obtain ⟨_, _, _, _, _, h⟩ := h
    rcases h.2 with ⟨_, _, e⟩ | ⟨A, c, e, _⟩ | ⟨_, A, e, _⟩ <;> cases e
  | mp id => cases h.2.2
  | _ => cases h
theorem str_of_rel {s : Sc} {v : Value} (h : SRel ρ n s v) (h1 : s ≠ .any) {x : ByteArray} (e : v = .string x) : ∃ l, s.bytes? = some l := by
  subst e
  cases s with
  | any => exact absurd rfl h1
  | str y => exact ⟨_, rfl⟩
  | strf y => exact ⟨_, rfl⟩
  | strt y => exact ⟨_, rfl⟩
  | int k n => cases h.1
  | ptr id row sz fld hi => obtain ⟨_, _, r, _, _, e⟩ := h; cases e
  | sl nn id off len sz =>
    obtain ⟨_, _, _, _, _, h⟩ := h
    rcases h.2 with ⟨_, _, e⟩ | ⟨A, c, e, _⟩ | ⟨_, A, e, _⟩ <;> cases e
  | mp id => cases h.2.2
  | _ => cases h

theorem eqOne_sound {neg : Bool} {t : TypeId} {a b : Sc} {r : B} {vx vy : Value} {ox oy : Operand} (hx : SRel ρ n a vx) (hy : SRel ρ n b vy)
    (h : eqT P 20 t (.one a) (.one b) = some r) (hi : ∀ k1 n1 k2 n2, ¬ (a = .int k1 n1 ∧ b = .int k2 n2)) (hs : ∀ x y, ¬ (a.bytes? = some x ∧ b.bytes? = some y)) :
    ((do eqGuard (if neg then .neq else .eql) t ox oy vx vy; binOp (if neg then .neq else .eql) t vx vy) : Sem Value).run P w = .ok (.bool (if neg then !r.den else r.den)) w := by
  obtain ⟨p1, hb⟩ := eqT_plain h
  have hp := plainV_of hx p1
  have p2 : a ≠ .any := by intro e; rw [e] at p1; cases p1
  have he := eqT_sound (w := w) 20 t _ _ _ vx vy h hx hy 10000 (by omega)
  have c1 : ∀ k x j y, ¬ (vx = .int k x ∧ vy = .int j y) := by
    rintro k x j y ⟨e1, e2⟩
    obtain ⟨x', e1⟩ := int_of_rel hx p2 e1
    obtain ⟨y', e2⟩ := int_of_rel hy hb e2
    exact hi _ _ _ _ ⟨e1, e2⟩
  have c2 : ∀ k x, vx ≠ .float k x := by intro k x e; subst e; cases hp
  have c3 : ∀ k x y, vx ≠ .complex k x y := by intro k x y e; subst e; cases hp
  have c4 : ∀ x y, ¬ (vx = .string x ∧ vy = .string y) := by
    rintro x y ⟨e1, e2⟩
    obtain ⟨s1, e1⟩ := str_of_rel hx p2 e1
    obtain ⟨s2, e2⟩ := str_of_rel hy hb e2
    exact hs _ _ ⟨e1, e2⟩
  cases neg
  · simp only [Bool.false_eq_true, if_false, Sem.run_bind, guard_plain hp, Result.andThen_ok, binOp_eql t vx vy c1 c2 c3 c4, Op.equal, Op.maxDepth, he, Sem.run_pure]
  · simp only [if_true, Sem.run_bind, guard_plain hp, Result.andThen_ok, binOp_neq t vx vy c1 c2 c3 c4, Op.equal, Op.maxDepth, he, Sem.run_pure]

theorem eqAgg_sound {neg : Bool} {t : TypeId} {a b : List Sc} {r : B} {vx vy : Value} {ox oy : Operand} (hx : ARel ρ n (.agg a) vx) (hy : ARel ρ n (.agg b) vy)
    (h : eqT P 20 t (.agg a) (.agg b) = some r) (hg : P.eqGuardType P.depth t = false) :
    ((do eqGuard (if neg then .neq else .eql) t ox oy vx vy; binOp (if neg then .neq else .eql) t vx vy) : Sem Value).run P w = .ok (.bool (if neg then !r.den else r.den)) w := by
  have he := eqT_sound (w := w) 20 t _ _ _ vx vy h hx hy 10000 (by omega)
  obtain ⟨cx, rfl, _⟩ := hx
  obtain ⟨cy, rfl, _⟩ := hy
  have hgd : ∀ op, (eqGuard op t ox oy (.agg cx) (.agg cy)).run P w = .ok () w := by
    intro op
    cases op <;> first
      | rfl
      | simp [eqGuard, hg]
  cases neg
  · simp only [Bool.false_eq_true, if_false, Sem.run_bind, hgd, Result.andThen_ok, binOp, Op.equal, Op.maxDepth, he, Sem.run_pure]
  · simp only [if_true, Sem.run_bind, hgd, Result.andThen_ok, binOp, Op.equal, Op.maxDepth, he, Sem.run_pure]

theorem guard_int {op : BinOp} {t : TypeId} {ox oy : Operand} {k j : IntKind} {x y : Int} : (eqGuard op t ox oy (.int k x) (.int j y)).run P w = .ok () w := guard_plain rfl

theorem binE_sound {op : BinOp} {t : TypeId} {x y : AV} {s : Sc} {vx vy : Value} {ox oy : Operand} (hx : ARel ρ n x vx) (hy : ARel ρ n y vy) (h : (binE P op t x y).run = some s) :
    ∃ val, ((do eqGuard op t ox oy vx vy; binOp op t vx vy) : Sem Value).run P w = .ok val w ∧ SRel ρ n s val := by
  unfold binE at h
  split at h
  · rename_i k1 n1 k2 n2
    rw [hx.1, hy.1]
    split at h
    · obtain ⟨val, hv, hr⟩ := shiftI_sound (P := P) (w := w) (ρ := ρ) (n := n) (k' := k2) t hx.2 h
      exact ⟨val, by simp only [Sem.run_bind, guard_int, Result.andThen_ok, hv], hr⟩
    · split at h
      · rename_i hk
        subst hk
        obtain ⟨val, hv, hr⟩ := binI_sound (P := P) (w := w) (ρ := ρ) (n := n) t hx.2 h
        exact ⟨val, by simp only [Sem.run_bind, guard_int, Result.andThen_ok, hv], hr⟩
      · cases h
  · rename_i a b hi
    split at h
    · obtain ⟨x', y', val, rfl, rfl, hv, hr⟩ := binS_sound (P := P) (w := w) (ρ := ρ) (n := n) t hx hy h
      exact ⟨val, by simp only [Sem.run_bind, guard_plain (x := .string x') rfl, Result.andThen_ok, hv], hr⟩
    · rename_i hns
      have hi' : ∀ k1 n1 k2 n2, ¬ (a = .int k1 n1 ∧ b = .int k2 n2) := by
        rintro k1 n1 k2 n2 ⟨rfl, rfl⟩
        exact hi _ _ _ _ rfl rfl
      have hs : ∀ x y, ¬ (a.bytes? = some x ∧ b.bytes? = some y) := by
        rintro x y ⟨e1, e2⟩
        exact hns _ _ e1 e2
      split at h
      · obtain ⟨r, h1, h2⟩ := bind_some h
        cases h2
        exact ⟨_, eqOne_sound (neg := false) hx hy (get_some h1) hi' hs, rfl⟩
      · obtain ⟨r, h1, h2⟩ := bind_some h
        cases h2
        refine ⟨_, eqOne_sound (neg := true) hx hy (get_some h1) hi' hs, ?_⟩
        show Value.bool _ = Value.bool (B.den _)
        rw [mkNot_den]; rfl
      · cases h
  · split at h
    · cases h
    · rename_i hg
      split at h
      · obtain ⟨r, h1, h2⟩ := bind_some h
        cases h2
        exact ⟨_, eqAgg_sound (neg := false) hx hy (get_some h1) (by simpa using hg), rfl⟩
      · obtain ⟨r, h1, h2⟩ := bind_some h
        cases h2
        refine ⟨_, eqAgg_sound (neg := true) hx hy (get_some h1) (by simpa using hg), ?_⟩
        show Value.bool _ = Value.bool (B.den _)
        rw [mkNot_den]; rfl
      · cases h
  · cases h
end
end Go.SX
