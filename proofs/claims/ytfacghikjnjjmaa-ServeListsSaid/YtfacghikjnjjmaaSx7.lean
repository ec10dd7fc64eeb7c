/- Appends. -/
import Derived.Test.YtfacghikjnjjmaaSx6
namespace Go.SX
open Go Go.Lib
set_option linter.unusedSectionVars false
variable [Env]

section
variable {P : Program} {a : Act} {ρ : Nat → Loc} {σ : St} {w : World} {f : Fr} {o : Oper}

/-- what is appended: so many elements, these cells -/
structure Src (P : Program) (w : World) (size : Nat) (x : Value) (n : Nat) (vs : List Value) : Prop where
  len : vs.length = n * size
  lenOf : ∀ w', (Builtin.lenOf x).run P w' = .ok n w'
  cells : (Builtin.firstCells size n x).run P w = .ok vs.toArray w
  cellsD : (Builtin.firstCells size n x).run P w.drew = .ok vs.toArray w.drew

theorem Src.slice {size n k : Nat} {A : Addr} {vs : List Value} (hl : vs.length = n * size) (h : ∀ (j : Nat) v, vs[j]? = some v → w.cell? (A.add j) = some v) : Src P w size (.slice (some A) n k) n vs :=
  ⟨hl, fun _ => rfl, run_firstCells_some (P := P) w size n A n k vs hl h, run_firstCells_some (P := P) w.drew size n A n k vs hl (by simpa using h)⟩
theorem Src.nil {size : Nat} : Src P w size (.slice none 0 0) 0 [] :=
  ⟨by simp, fun _ => rfl, rfl, rfl⟩
theorem Src.str {s : ByteArray} : Src P w 1 (.string s) s.size (strCells s) :=
  ⟨by simp [strCells_length], fun _ => rfl, run_firstCells_string (P := P) w 1 s, run_firstCells_string (P := P) w.drew 1 s⟩

theorem append_room {ats : Array TypeId} {args : Array Value} {t t' ty e : TypeId} {d : TypeDesc} {size sLen sCap n : Nat} {base : Option Addr} {x : Value} {vs : List Value}
    (h0 : ats[0]? = some t) (h1 : ats[1]? = some t') (a0 : args[0]? = some (.slice base sLen sCap)) (a1 : args[1]? = some x) (hu : P.underlying t = some (.slice e)) (hu' : P.underlying t' = some d)
    (hd : ∀ k, d ≠ .int k) (hs : tsize P e = some size) (hsrc : Src P w size x n vs) (hroom : sLen + n ≤ sCap) {w' : World}
    (hst : (match base with | some A => storeCells (A.add (sLen * size)) vs | none => pure ()).run P w = .ok () w') :
    (Builtin.append_ ats ty args).run P w = .ok (.slice base (sLen + n) sCap) w' := by
  have hz : (match d with | .int _ => true | _ => false) = false := by cases d <;> first | rfl | exact absurd rfl (hd _)
  unfold Builtin.append_
  simp only [h0, a0, a1, h1, Sem.run_bind, run_underlying hu, Result.andThen_ok, tsize_run hs, run_underlying hu', Sem.run_pure, Bool.false_eq_true, if_false, hsrc.lenOf, hroom, if_true, Bool.not_false, hsrc.cells]
  cases base with
  | none =>
    simp only at hst
    cases hst
    rfl
  | some A =>
    simp only at hst
    simp only [hst, Result.andThen_ok, Sem.run_pure, Sem.run_bind]

theorem append_grow {ats : Array TypeId} {args : Array Value} {t t' ty e : TypeId} {d : TypeDesc} {i : TypeInfo} {z : Value} {sLen sCap n : Nat} {base : Option Addr} {x : Value} {vs olds : List Value}
    (h0 : ats[0]? = some t) (h1 : ats[1]? = some t') (a0 : args[0]? = some (.slice base sLen sCap)) (a1 : args[1]? = some x) (hu : P.underlying t = some (.slice e)) (hu' : P.underlying t' = some d)
    (hd : ∀ k, d ≠ .int k) (hi : P.info? e = some i) (hz0 : i.zero = some z) (hsrc : Src P w i.size x n vs) (hroom : sCap < sLen + n) (hpos : 0 < i.bytes)
    (hold : (Builtin.firstCells i.size sLen (.slice base sLen sCap)).run P w.drew = .ok olds.toArray w.drew) (hfit : (sLen + n) * i.bytes ≤ 140737488355328) :
    (Builtin.append_ ats ty args).run P w = .ok (.slice (some ⟨w.heap.size, 0, none⟩) (sLen + n) (grownCap w (sLen + n) sCap e))
        (w.drew.alloc (.cells (olds.toArray ++ vs.toArray ++ Builtin.zeroCells z.cells (grownCap w (sLen + n) sCap e - (sLen + n))) e)) := by
  have hz : (match d with | .int _ => true | _ => false) = false := by cases d <;> first | rfl | exact absurd rfl (hd _)
  have hs : tsize P e = some i.size := by simp [tsize, hi]
  have hn : ¬ (sLen + n ≤ sCap) := by omega
  have hfit' := growslice_fits (bytes := i.bytes) hroom hfit
  have h48 : ¬ (Builtin.nextslicecap (sLen + n) sCap * i.bytes > 2 ^ 48) := by omega
  have hb0 : ¬ (i.bytes = 0) := by omega
  unfold Builtin.append_
  simp only [h0, a0, a1, h1, Sem.run_bind, run_underlying hu, Result.andThen_ok, tsize_run hs, run_underlying hu', Sem.run_pure, Bool.false_eq_true, if_false, hsrc.lenOf, hn, run_typeInfo _ hi, false_or, hb0, and_false, h48, Bool.not_false, if_true,
    run_choose, Question.forced, run_askRoom]
  have hzv : (zeroValue e).run P w.drew = .ok z w.drew := by simp [zeroValue, run_typeInfo _ hi, hz0]
  change ((Sem.run P (Builtin.firstCells i.size sLen (Value.slice base sLen sCap)) w.drew).andThen _) = _
  rw [hold]
  simp only [Result.andThen_ok, hsrc.cellsD, hzv]
  rfl

/-- an object that says no more -/
structure Like (o1 o2 : AO) : Prop where
  obj : ∀ ρ n w l, ORel ρ n w l o1 → ORel ρ n w l o2
  own : o2.own = true → o1.own = true
  dead : o2 ≠ .dead → o1 ≠ .dead
  foot : ∀ w l b, foot w l o2 b → foot w l o1 b
theorem Like.refl (o : AO) : Like o o := ⟨fun _ _ _ _ h => h, id, id, fun _ _ _ h => h⟩
theorem Like.dead_ (o : AO) : Like o .dead := ⟨fun _ _ _ _ _ => True.intro, fun h => (by cases h), fun h => absurd rfl h, fun _ _ _ h => by rw [foot_row (fun _ _ e => by cases e)] at h; exact .inl h⟩
theorem like_used {σ1 σ2 : St} (h : ∀ i, Like (σ1.at i) (σ2.at i)) {i : Nat} (hu : used ρ σ2 i) : used ρ σ1 i := ⟨hu.1, (h i).dead hu.2⟩
theorem like_owned {σ1 σ2 : St} (h : ∀ i, Like (σ1.at i) (σ2.at i)) {i : Nat} (hu : owned ρ σ2 i) : owned ρ σ1 i := ⟨hu.1, (h i).own hu.2⟩
theorem Rel.like {σ1 σ2 : St} (hr : Rel ρ σ1 w) (hl : σ2.length = σ1.length) (h : ∀ i, Like (σ1.at i) (σ2.at i)) : Rel ρ σ2 w :=
  ⟨fun i => by rw [hl]; exact (h i).obj _ _ _ _ (hr.obj i), fun i j hij ho hu b hb1 hb2 => hr.sep i j hij (like_owned h ho) (like_used h hu) b ((h i).foot _ _ _ hb1) ((h j).foot _ _ _ hb2), fun i hu => hr.bnd i (like_used h hu)⟩
theorem Ext.like {ρ0 : Nat → Loc} {σ0 σ1 σ2 : St} {w0 : World} (hx : Ext ρ0 σ0 w0 ρ σ1 w) (hl : σ2.length = σ1.length) (h : ∀ i, Like (σ1.at i) (σ2.at i)) : Ext ρ0 σ0 w0 ρ σ2 w :=
  ⟨by rw [hl]; exact hx.len, hx.same, hx.os, hx.tape, hx.output, hx.size, hx.keep, fun i ho b hb => hx.own i (like_owned h ho) b ((h i).foot _ _ _ hb)⟩
theorem at_set_like {id : Nat} {o : AO} (h : Like (σ.at id) o) (i : Nat) : Like (σ.at i) (St.at (σ.set id o) i) := by
  rw [St.at_set]
  split
  · rename_i e; rw [e.1]; exact h
  · exact .refl _
theorem Rel.kill (h : Rel ρ σ w) (id : Nat) : Rel ρ (σ.set id .dead) w ∧ Ext ρ σ w ρ (σ.set id .dead) w :=
  ⟨h.like (by simp) (at_set_like (.dead_ _)), (Ext.refl ρ σ w).like (by simp) (at_set_like (.dead_ _))⟩

theorem LRel.append {n : Nat} {l l' : List Sc} {vs vs' : List Value} (h : LRel ρ n l vs) (h' : LRel ρ n l' vs') : LRel ρ n (l ++ l') (vs ++ vs') := by
  refine ⟨by simp [h.1, h'.1], fun i s v a b => ?_⟩
  rw [List.getElem?_append] at a b
  by_cases hi : i < l.length
  · rw [if_pos hi] at a
    rw [if_pos (by rw [← h.1]; exact hi)] at b
    exact h.2 i s v a b
  · rw [if_neg hi] at a
    rw [if_neg (by rw [← h.1]; exact hi)] at b
    rw [← h.1] at b
    exact h'.2 _ s v a b

theorem strNums_LRel {n : Nat} (b : ByteArray) : LRel ρ n ((numsOf b).map fun n => .int .u8 (.c n)) (strCells b) := by
  refine ⟨by simp [numsOf, strCells], fun i s v h1 h2 => ?_⟩
  simp only [numsOf, List.map_map, List.getElem?_map] at h1
  simp only [strCells, List.getElem?_map] at h2
  cases hb : b.data.toList[i]? with
  | none => rw [hb] at h1; cases h1
  | some x =>
    rw [hb] at h1 h2; cases h1; cases h2
    refine ⟨rfl, ?_⟩
    have := x.toNat_lt
    simp only [IntKind.has, IntKind.min, IntKind.max, IntKind.signed, IntKind.bits, X.den, Bool.false_eq_true, if_false]
    omega

theorem rowVals_length (ks : List Kd) (f : Nat → Nat → Int) (n : Nat) : (rowVals ks f n).length = n * ks.length := by simp [rowVals]
theorem rowVals_known (ks : List Kd) (f : Nat → Nat → Int) (n : Nat) : (rowVals ks f n).all Sc.known = true := by
  rw [List.all_eq_true]
  intro s hs
  obtain ⟨i, _, rfl⟩ := List.mem_map.1 hs
  generalize ks.getD _ _ = k
  cases k <;> rfl
theorem byteRows_LRel {n : Nat} (l : List Int) (hl : ∀ x ∈ l, 0 ≤ x ∧ x < 256) : LRel ρ n (rowVals [.int .u8] (fun r _ => l.getD r 0) l.length) (strCells (bytesOf l)) := by
  refine ⟨by simp [rowVals, strCells, bytesOf], fun i s v h1 h2 => ?_⟩
  have hi : i < l.length := by have := (List.getElem?_eq_some_iff.1 h1).1; simpa [rowVals] using this
  simp only [rowVals, List.length_cons, List.length_nil, Nat.zero_add, Nat.mul_one, List.getElem?_map, List.getElem?_range hi, Option.map_some, Option.some.injEq, Nat.div_one, Nat.mod_one] at h1
  simp only [strCells, bytesOf_data, List.map_map, List.getElem?_map, List.getElem?_eq_getElem hi, Option.map_some, Option.some.injEq, Function.comp] at h2
  subst h1; subst h2
  have hx := hl l[i] (List.getElem_mem hi)
  have e : l.getD i 0 = l[i] := by rw [List.getD_eq_getElem?_getD, List.getElem?_eq_getElem hi]; rfl
  show Value.int .u8 _ = Value.int .u8 (l.getD i 0) ∧ IntKind.has .u8 (l.getD i 0)
  rw [e]
  refine ⟨?_, ?_⟩
  · simp only [UInt8.toNat_ofNat']; congr 1; omega
  · simp only [IntKind.has, IntKind.min, IntKind.max, IntKind.signed, IntKind.bits, Bool.false_eq_true, if_false]; omega

theorem srcE_sound {sz n : Nat} {x : Sc} {vx : Value} {xc : List Sc} (hr : Rel ρ σ w) (hx : SRel ρ σ.length x vx) (h : srcE σ sz x = some (n, xc)) (hsz : sz ≠ 0) :
    ∃ vs, Src P w sz vx n vs ∧ LRel ρ σ.length xc vs ∧ xc.length = n * sz := by
  cases x with
  | str b =>
    simp only [srcE] at h
    split at h
    · rename_i h1
      subst h1
      rw [hx.1]
      cases h
      exact ⟨_, Src.str, strNums_LRel b, by simp [numsOf]⟩
    · cases h
  | nils =>
    cases h
    rw [show vx = _ from hx]
    exact ⟨[], Src.nil, ⟨rfl, fun i s v h => by simp at h⟩, by simp⟩
  | sl nn id off len z =>
    simp only [srcE] at h
    split at h
    · rename_i hz
      subst hz
      obtain ⟨c, hc, he⟩ := Option.map_eq_some_iff.1 h
      cases he
      rcases sliceCells_rel hr hx hc with ⟨e, _⟩ | ⟨nn', id', off', len', sz', e, hlen, _, hval⟩
      · cases e
      · cases e
        have hq : xc.length / z = len' := by rw [hlen]; exact Nat.mul_div_cancel _ (by omega)
        rw [hq]
        rcases hval with ⟨_, h0, hv⟩ | ⟨A, k, vs, hv, _, _, _, _, _, hl, hrel, hcell⟩ | ⟨h0, A, hv, _⟩
        rotate_left 2
        · subst h0; subst hv
          have : xc = [] := List.eq_nil_of_length_eq_zero (by rw [hlen]; simp)
          exact ⟨[], Src.slice (by simp) (fun j v hj => by simp at hj), by rw [this]; exact ⟨rfl, fun i s v h => by simp at h⟩, hlen⟩
        · subst h0; subst hv
          have : xc = [] := List.eq_nil_of_length_eq_zero (by rw [hlen]; simp)
          exact ⟨[], Src.nil, by rw [this]; exact ⟨rfl, fun i s v h => by simp at h⟩, hlen⟩
        · subst hv
          exact ⟨vs, Src.slice hl hcell, hrel, hlen⟩
    · cases h
  | _ => cases h

theorem srcF_sound {ks : List Kd} {n : X} {x : Sc} {vx : Value} {f : Nat → Nat → Int} {g : B} (hr : Rel ρ σ w) (hx : SRel ρ σ.length x vx) (h : srcF σ ks x = some (n, f, g)) (hg : g.den = true) :
    ∃ (m : Nat) (vs : List Value), n.den = m ∧ Src P w ks.length vx m vs ∧ LRel ρ σ.length (rowVals ks f m) vs := by
  have sem : semRows σ ks x = some (n, f, g) → ∃ (m : Nat) (vs : List Value), n.den = m ∧ Src P w ks.length vx m vs ∧ LRel ρ σ.length (rowVals ks f m) vs := by
    intro h
    obtain ⟨m, h1, h2, h3⟩ := semRows_rel hr hx h hg
    rcases h3 with ⟨rfl, rfl⟩ | ⟨A, k, vs, rfl, h4, h5, h6, h7⟩
    · exact ⟨0, [], h1, Src.nil, by simp [rowVals]; exact ⟨rfl, fun i s v h => by simp at h⟩⟩
    · exact ⟨m, vs, h1, Src.slice h5 h6, h7⟩
  have k1 : ∀ {ks : List Kd}, (kdsAre ks [.int .u8 (.c 0)] && decide (ks.length = 1)) = true → ks = [.int .u8] := by
    intro ks h
    simp only [Bool.and_eq_true, decide_eq_true_eq] at h
    match ks, h with
    | [k], h =>
      have h1 := h.1
      simp only [kdsAre, Bool.and_true] at h1
      have := kdIs_kd h1
      cases this; rfl
  cases x with
  | str b =>
    simp only [srcF] at h
    split at h
    · rename_i hk
      have hk := k1 hk
      subst hk
      cases h
      have e : b.size = (numsOf b).length := by simp [numsOf]
      rw [hx.1]
      refine ⟨b.size, _, rfl, Src.str, ?_⟩
      have := byteRows_LRel (ρ := ρ) (n := σ.length) (numsOf b) (numsOf_range b)
      rw [bytesOf_numsOf, ← e] at this
      exact this
    · cases h
  | strf l =>
    simp only [srcF] at h
    split at h
    · rename_i hk
      have hk := k1 hk
      subst hk
      cases h
      rw [hx.1]
      refine ⟨l.length, _, rfl, ?_, byteRows_LRel l hx.2.2⟩
      have := Src.str (P := P) (w := w) (s := bytesOf l)
      rw [bytesOf_size] at this
      exact this
    · cases h
  | nils => exact sem h
  | sl _ _ _ _ _ => exact sem h
  | _ => cases h

/-- rows that are known as rows by a function -/
theorem like_fn {own : Bool} {sz : Nat} {ks : List Kd} {f : Nat → Nat → Int} {n : Nat} : Like (.row own sz (.vals (rowVals ks f n))) (.row own sz (.fn n ks f)) := by
  refine ⟨fun ρ m w l h => ?_, id, (fun _ e => (by cases e)), fun w l b h => by rw [foot_row (fun _ _ e => by cases e)] at h ⊢; exact h⟩
  have hlen : (Cells.vals (rowVals ks f n)).len = (Cells.fn n ks f).len := rowVals_length ks f n
  refine ⟨fun hl => by rw [← hlen]; exact h.1 hl, fun hl => ⟨fun i s hi => (h.2 hl).1 i s ?_, fun ho => by rw [← hlen]; exact (h.2 hl).2 ho⟩⟩
  have hlt := Cells.at_lt hi
  simp only [Cells.len] at hlt
  simp only [Cells.at] at hi ⊢
  split at hi
  · simp only [rowVals, List.getElem?_map, List.getElem?_range hlt, Option.map_some]
    exact hi
  · cases hi
theorem rowVals_app (ks : List Kd) (f g : Nat → Nat → Int) (m n : Nat) : rowVals ks (appF f m g) (m + n) = rowVals ks f m ++ rowVals ks g n := by
  apply List.ext_getElem?
  intro i
  rw [List.getElem?_append, rowVals_length]
  by_cases hk : ks.length = 0
  · simp [rowVals, hk]
  have hkp : 0 < ks.length := by omega
  by_cases h1 : i < m * ks.length
  · rw [if_pos h1]
    have h2 : i < (m + n) * ks.length := by rw [Nat.add_mul]; omega
    simp only [rowVals, List.getElem?_map, List.getElem?_range h1, List.getElem?_range h2, Option.map_some]
    unfold appF
    rw [if_pos ((Nat.div_lt_iff_lt_mul hkp).2 h1)]
  · rw [if_neg h1]
    by_cases h2 : i - m * ks.length < n * ks.length
    · have h3 : i < (m + n) * ks.length := by rw [Nat.add_mul]; omega
      simp only [rowVals, List.getElem?_map, List.getElem?_range h2, List.getElem?_range h3, Option.map_some]
      unfold appF
      have e : i = ks.length * m + (i - m * ks.length) := by have := Nat.mul_comm ks.length m; omega
      have d1 : i / ks.length = m + (i - m * ks.length) / ks.length := by conv => lhs; rw [e, Nat.mul_add_div hkp]
      have d2 : i % ks.length = (i - m * ks.length) % ks.length := by conv => lhs; rw [e, Nat.mul_add_mod]
      rw [d1, d2, if_neg (Nat.not_lt.2 (Nat.le_add_right _ _)), Nat.add_sub_cancel_left]
    · have := Nat.add_mul m n ks.length
      rw [List.getElem?_eq_none (by rw [rowVals_length]; omega), List.getElem?_eq_none (by rw [rowVals_length]; omega)]

theorem size_zeroCells' (z : Array Value) (n : Nat) : (Builtin.zeroCells z n).size = n * z.size := by simp [Builtin.zeroCells]

/-- a new row that an append made -/
theorem grown_row {sz n : Nat} {c : List Sc} {vs : List Value} {e : TypeId} {z : Value} {w' : World} (cap : Nat) (hr : Rel ρ σ w) (hrel : LRel ρ σ.length c vs) (hlen : c.length = n * sz) (hcap : n ≤ cap) (hz : z.cells.size = sz)
    (hw : w' = w.drew.alloc (.cells (vs.toArray ++ Builtin.zeroCells z.cells (cap - n)) e)) :
    Rel (setLoc ρ σ.length ⟨true, w.heap.size, 0, cap⟩) (σ.new (.row true sz (.vals c))) w' ∧ Ext ρ σ w (setLoc ρ σ.length ⟨true, w.heap.size, 0, cap⟩) (σ.new (.row true sz (.vals c))) w' := by
  have hvl : vs.length = n * sz := by rw [← hrel.1, hlen]
  refine fresh_row (l := c) (cs := vs.toArray ++ Builtin.zeroCells z.cells (cap - n)) (e := e) (fr := (0, 0)) sz cap hr ?_ (by rw [hw]; rfl) (by rw [hw]; rfl) (by rw [hw]; rfl) (by rw [hw]; rfl) (fun i _ => by omega) ?_ ?_
  · have : (vs.toArray ++ Builtin.zeroCells z.cells (cap - n)).toList.take c.length = vs := by
      rw [Array.toList_append, List.take_append_of_le_length (by simp; omega)]
      rw [List.take_of_length_le (by simp; omega)]
    rw [this]; exact hrel
  · rw [hlen]; exact Nat.mul_le_mul_right _ hcap
  · rw [Array.size_append, size_zeroCells', hz, List.size_toArray, hvl, ← Nat.add_mul]
    exact Nat.mul_le_mul_right _ (by omega)

/-- an object that is nothing, and no memory -/
theorem Rel.ghost {sz : Nat} {c : Cells} (h : Rel ρ σ w) (hc : c.len = 0) :
    Rel (setLoc ρ σ.length ⟨false, 0, 0, 0⟩) (σ.new (.row true sz c)) w ∧ Ext ρ σ w (setLoc ρ σ.length ⟨false, 0, 0, 0⟩) (σ.new (.row true sz c)) w := by
  have hno : ¬ used (setLoc ρ σ.length ⟨false, 0, 0, 0⟩) (σ.new (.row true sz c)) σ.length := fun hu => by
    have := hu.1
    rw [setLoc_at] at this
    cases this
  constructor
  · refine h.upd (setLoc_same _ _ _) (by rw [St.len_new]; omega) σ.length ?_ (fun _ _ _ _ _ _ => rfl) ?_ (fun hu => absurd hu hno) (Nat.le_refl _) (fun hu => absurd hu hno)
    · intro i hi; left; rw [St.at_new, if_neg hi]
    · rw [setLoc_at, St.at_new, if_pos rfl]
      exact ⟨fun _ => hc, fun hl => by cases hl⟩
  · refine ⟨by rw [St.len_new]; omega, setLoc_same _ _ _, rfl, rfl, rfl, Nat.le_refl _, fun _ _ _ => rfl, fun i hi b hb => ?_⟩
    by_cases e : i = σ.length
    · subst e; exact absurd hi.used hno
    · left
      have e2 : setLoc ρ σ.length ⟨false, 0, 0, 0⟩ i = ρ i := by unfold setLoc; rw [if_neg e]
      have e3 : (σ.new (.row true sz c)).at i = σ.at i := by rw [St.at_new, if_neg e]
      exact ⟨i, ⟨by rw [← e2]; exact hi.1, by rw [← e3]; exact hi.2⟩, by rw [e2, e3] at hb; exact hb⟩

/-- an object takes over a part of another one's block, which is forgotten -/
theorem Rel.adopt {id sz n0 cap : Nat} {c0 : Cells} {c : List Sc} {vs : List Value} {off len : Nat} (h : Rel ρ σ w) (hat : σ.at id = .row true sz c0) (hl : (ρ id).live = true)
    (hcap : off + cap ≤ (ρ id).cap) (hroom : (len + n0) ≤ cap) (hvs : vs.length = n0 * sz) (hlen : c.length = (len + n0) * sz)
    (hold : ∃ us, us.length = len * sz ∧ LRel ρ σ.length c (us ++ vs) ∧ ∀ (j : Nat) v, us[j]? = some v → w.cell? ⟨(ρ id).block, (ρ id).base + off * sz + j, none⟩ = some v) :
    Rel (setLoc ρ σ.length ⟨true, (ρ id).block, (ρ id).base + off * sz, cap⟩) (St.new (σ.set id .dead) (.row true sz (.vals c))) (w.setCells (ρ id).block ((ρ id).base + off * sz + len * sz) vs) ∧
    Ext ρ σ w (setLoc ρ σ.length ⟨true, (ρ id).block, (ρ id).base + off * sz, cap⟩) (St.new (σ.set id .dead) (.row true sz (.vals c))) (w.setCells (ρ id).block ((ρ id).base + off * sz + len * sz) vs) := by
  have hid : id < σ.length := by
    rcases Nat.lt_or_ge id σ.length with h' | h'
    · exact h'
    · rw [St.at_ge h'] at hat; cases hat
  have hown : owned ρ σ id := ⟨hl, by rw [hat]; rfl⟩
  have hobj := h.obj id
  rw [hat] at hobj
  obtain ⟨hcr, hm⟩ := hobj.2 hl
  obtain ⟨cs, e, fr, h1, h2, h3, h4⟩ := hm rfl
  obtain ⟨cs', g1, g2, g3, g4⟩ := row_setCells (ρ id).block vs ((ρ id).base + off * sz + len * sz) w cs e fr h1
  obtain ⟨r1, r2, r3, r4⟩ := setCells_rest (ρ id).block vs ((ρ id).base + off * sz + len * sz) w
  have hlen' : (St.new (σ.set id .dead) (.row true sz (.vals c))).length = σ.length + 1 := by rw [St.len_new]; simp
  have hatn : ∀ i, St.at (St.new (σ.set id .dead) (.row true sz (.vals c))) i = if i = σ.length then .row true sz (.vals c) else if i = id then .dead else σ.at i := by
    intro i
    rw [St.at_new, List.length_set, St.at_set]
    by_cases e1 : i = σ.length
    · rw [if_pos e1, if_pos e1]
    · rw [if_neg e1, if_neg e1]
      by_cases e2 : i = id
      · rw [if_pos ⟨e2, hid⟩, if_pos e2]
      · rw [if_neg (fun h => e2 h.1), if_neg e2]
  have hmul : off * sz + cap * sz ≤ (ρ id).cap * sz := by rw [← Nat.add_mul]; exact Nat.mul_le_mul_right _ hcap
  have hmul2 : (len + n0) * sz ≤ cap * sz := Nat.mul_le_mul_right _ hroom
  have hmul3 : (len + n0) * sz = len * sz + n0 * sz := Nat.add_mul _ _ _
  have hob : ORel (setLoc ρ σ.length ⟨true, (ρ id).block, (ρ id).base + off * sz, cap⟩) (σ.length + 1) (w.setCells (ρ id).block ((ρ id).base + off * sz + len * sz) vs)
      ⟨true, (ρ id).block, (ρ id).base + off * sz, cap⟩ (.row true sz (.vals c)) := by
    refine ⟨fun hf => (by cases hf), fun _ => ⟨?_, fun _ => ⟨cs', e, fr, g1, by rw [g2]; exact h2, by show c.length ≤ cap * sz; rw [hlen]; exact hmul2, by rw [g2]; show (ρ id).base + off * sz + cap * sz ≤ cs.size; omega⟩⟩⟩
    obtain ⟨us, hul, hrel, hus⟩ := hold
    refine CRel.row (vs := us ++ vs) g1 ?_ (hrel.mono (setLoc_same _ _ _) (Nat.le_succ _))
    intro i v hv
    rw [List.getElem?_append] at hv
    by_cases hi : i < us.length
    · rw [if_pos hi] at hv
      have := hus i v hv
      rw [g3 ((ρ id).base + off * sz + i) (Or.inl (by omega))]
      simpa [World.cell?, h1] using this
    · rw [if_neg hi] at hv
      have hlt : i - us.length < vs.length := (List.getElem?_eq_some_iff.1 hv).1
      have := g4 (i - us.length) v hv (by omega)
      rw [show (ρ id).base + off * sz + len * sz + (i - us.length) = (ρ id).base + off * sz + i by omega] at this
      exact this
  have hne : ∀ i, i ≠ id → used ρ σ i → ∀ b, foot w (ρ i) (σ.at i) b → (w.setCells (ρ id).block ((ρ id).base + off * sz + len * sz) vs).heap[b]? = w.heap[b]? := by
    intro i hi hu b hb
    exact heap_setCells _ _ _ _ _ (fun e => h.sep id i (Ne.symm hi) hown hu (ρ id).block (foot_block _ _ _) (e ▸ hb))
  have hfr : ∀ w l b, foot w l (.row true sz (.vals c)) b ↔ b = l.block := fun w l b => foot_row (fun _ _ e => by cases e)
  constructor
  · refine h.upd (setLoc_same _ _ _) (by rw [hlen']; omega) σ.length ?_ ?_ ?_ ?_ (by omega) ?_
    · intro i hi
      rw [hatn, if_neg hi]
      split
      · exact .inr rfl
      · exact .inl rfl
    · intro i hi hu he
      have hne' : i ≠ id := by
        intro e; subst e
        rw [hatn, if_neg hi, if_pos rfl] at he
        exact hu.2 he.symm
      exact hne i hne' hu
    · rw [hlen', setLoc_at, hatn, if_pos rfl]; exact hob
    · intro _; rw [setLoc_at]; have := h.bnd id hown.used; show (ρ id).block < _; omega
    · intro _ j hj hu he b hb
      have hne' : j ≠ id := by
        intro e; subst e
        rw [hatn, if_neg hj, if_pos rfl] at he
        exact hu.2 he.symm
      rw [setLoc_at, hatn, if_pos rfl, hfr] at hb
      subst hb
      exact h.sep id j hne'.symm hown hu _ (foot_block _ _ _)
  · refine ⟨by rw [hlen']; omega, setLoc_same _ _ _, r1, r2, r3, by omega, fun b hb hno => heap_setCells _ _ _ _ _ (fun e => hno id hown (e ▸ foot_block _ _ _)), fun i hi b hb => ?_⟩
    left
    by_cases e1 : i = σ.length
    · subst e1
      rw [setLoc_at, hatn, if_pos rfl, hfr] at hb
      subst hb
      exact ⟨id, hown, foot_block _ _ _⟩
    · have e2 : setLoc ρ σ.length ⟨true, (ρ id).block, (ρ id).base + off * sz, cap⟩ i = ρ i := by unfold setLoc; rw [if_neg e1]
      have h2 := hi.2
      rw [hatn, if_neg e1] at h2 hb
      rw [e2] at hb
      by_cases e3 : i = id
      · rw [if_pos e3] at h2; cases h2
      · rw [if_neg e3] at h2 hb
        have ho : owned ρ σ i := ⟨by rw [← e2]; exact hi.1, h2⟩
        exact ⟨i, ho, (foot_keep (hne i e3 ho.used _ (foot_block _ _ _))).1 hb⟩

theorem type_facts {e : TypeId} {sz by_ : Nat} (hs : tsize P e = some sz) (hb : tbytes P e = some by_) (hz : ((tzero P e).bind (·.cells?)).map List.length = some sz) :
    ∃ i z, P.info? e = some i ∧ i.size = sz ∧ i.bytes = by_ ∧ i.zero = some z ∧ z.cells.size = sz := by
  obtain ⟨i, hi, rfl⟩ := Option.map_eq_some_iff.1 hs
  obtain ⟨i', hi', rfl⟩ := Option.map_eq_some_iff.1 hb
  rw [hi] at hi'
  cases hi'
  obtain ⟨zl, hzl, hlen⟩ := Option.map_eq_some_iff.1 hz
  obtain ⟨za, hza, hcl⟩ := Option.bind_eq_some_iff.1 hzl
  obtain ⟨v, hv, rfl⟩ := Option.map_eq_some_iff.1 hza
  obtain ⟨i', hi', hz'⟩ := Option.bind_eq_some_iff.1 hv
  rw [hi] at hi'
  cases hi'
  have := cells?_rel (AV.ofConst_rel (fun _ => ⟨true, 0, 0, 0⟩) 0 v) hcl
  exact ⟨i, v, hi, rfl, rfl, hz', by rw [← hlen, this.1]; simp⟩

/-- onto nothing -/
theorem append_nil_sound {ats : Array TypeId} {args : Array Value} {t t' ty e : TypeId} {d : TypeDesc} {i : TypeInfo} {z vx : Value} {n : Nat} {nn : Bool} {xc : List Sc} {vs : List Value}
    (h0 : ats[0]? = some t) (h1 : ats[1]? = some t') (a0 : args[0]? = some (.slice none 0 0)) (a1 : args[1]? = some vx) (hu : P.underlying t = some (.slice e)) (hu' : P.underlying t' = some d)
    (hd : ∀ k, d ≠ .int k) (hi : P.info? e = some i) (hz0 : i.zero = some z) (hzs : z.cells.size = i.size) (hpos : 0 < i.bytes) (hsrc : Src P w i.size vx n vs) (hrel : LRel ρ σ.length xc vs) (hxl : xc.length = n * i.size)
    (hfit : n * i.bytes ≤ roomB) (hnn : nn = true → 0 < n) (hr : Rel ρ σ w) :
    ∃ ρ' w' val, (Builtin.append_ ats ty args).run P w = .ok val w' ∧ SlRel ρ' (σ.length + 1) nn σ.length 0 n i.size val ∧ Rel ρ' (σ.new (.row true i.size (.vals xc))) w' ∧ Ext ρ σ w ρ' (σ.new (.row true i.size (.vals xc))) w' := by
  have hs : tsize P e = some i.size := by simp [tsize, hi]
  rcases Nat.eq_zero_or_pos n with hn | hn
  · subst hn
    have hrun := append_room (P := P) (w := w) (w' := w) (ty := ty) h0 h1 a0 a1 hu hu' hd hs hsrc (Nat.le_refl 0) (by rfl)
    obtain ⟨g1, g2⟩ := Rel.ghost (sz := i.size) (c := .vals xc) hr (by show xc.length = 0; rw [hxl]; simp)
    refine ⟨_, w, _, hrun, ⟨by omega, .inl ⟨?_, rfl, rfl⟩⟩, g1, g2⟩
    cases nn
    · rfl
    · exact absurd (hnn rfl) (by omega)
  · have hfit' : (0 + n) * i.bytes ≤ 140737488355328 := by unfold roomB at hfit; rw [Nat.zero_add]; omega
    have hrun := append_grow (P := P) (w := w) (ty := ty) (olds := []) h0 h1 a0 a1 hu hu' hd hi hz0 hsrc (by omega) hpos (run_firstCells_none (P := P) w.drew i.size 0 0 0) hfit'
    obtain ⟨g1, g2⟩ := grown_row (e := e) (grownCap w (0 + n) 0 e) hr hrel hxl (by have := grownCap_ge w (0 + n) 0 e; omega) hzs rfl
    refine ⟨_, _, _, hrun, ?_, by simpa using g1, by simpa using g2⟩
    have hge := grownCap_ge w (0 + n) 0 e
    refine ⟨by omega, .inr <| .inl ⟨⟨w.heap.size, 0, none⟩, grownCap w (0 + n) 0 e, by rw [Nat.zero_add], by rw [setLoc_at], rfl, by omega, by rw [setLoc_at]; simp, fun _ => by rw [setLoc_at]; simp⟩⟩

/-- onto a slice of one's own -/
theorem append_core {ats : Array TypeId} {args : Array Value} {t t' ty e : TypeId} {d : TypeDesc} {i : TypeInfo} {z vx vsl : Value} {n m o id : Nat} {nn ps : Bool} {sc xc : List Sc} {vs : List Value} {c0 : Cells}
    (h0 : ats[0]? = some t) (h1 : ats[1]? = some t') (a0 : args[0]? = some vsl) (a1 : args[1]? = some vx) (hu : P.underlying t = some (.slice e)) (hu' : P.underlying t' = some d)
    (hd : ∀ k, d ≠ .int k) (hi : P.info? e = some i) (hz0 : i.zero = some z) (hzs : z.cells.size = i.size) (hpos : 0 < i.bytes) (hsrc : Src P w i.size vx n vs) (hrel : LRel ρ σ.length xc vs) (hxl : xc.length = n * i.size)
    (hkn' : xc.all Sc.known = true) (hfit : (m + n) * i.bytes ≤ roomB) (hnn : ps = true → 0 < n) (hr : Rel ρ σ w)
    (hat : σ.at id = .row true i.size c0) (hs : SlRel ρ σ.length nn id o m i.size vsl) (hscl : sc.length = m * i.size)
    (hold : ∀ A k, vsl = .slice (some A) m k → ∃ us, us.length = m * i.size ∧ LRel ρ σ.length sc us ∧ ∀ (j : Nat) v, us[j]? = some v → w.cell? (A.add j) = some v) :
    ∃ ρ' w' val, (Builtin.append_ ats ty args).run P w = .ok val w' ∧ SlRel ρ' (σ.length + 1) (nn || ps) σ.length 0 (m + n) i.size val ∧ Rel ρ' (St.new (σ.set id .dead) (.row true i.size (.vals (sc ++ xc)))) w' ∧ Ext ρ σ w ρ' (St.new (σ.set id .dead) (.row true i.size (.vals (sc ++ xc)))) w' := by
  have hsz : tsize P e = some i.size := by simp [tsize, hi]
  obtain ⟨hk1, hk2⟩ := hr.kill id
  have hkl : (σ.set id .dead).length = σ.length := by simp
  have hcl : (sc ++ xc).length = (m + n) * i.size := by rw [List.length_append, hscl, hxl, Nat.add_mul]
  rcases hs.2 with ⟨hnn0, hl0, hv⟩ | ⟨A, k, hv, hlive, hspot, hlk, hoff, hA⟩ | ⟨hl0, A, hv, hspot⟩
  rotate_left 2
  · -- it has no room at all
    subst hl0; subst hv
    have hsn : sc = [] := List.eq_nil_of_length_eq_zero (by rw [hscl]; simp)
    subst hsn
    by_cases hn : n = 0
    · subst hn
      have hvs : vs = [] := List.eq_nil_of_length_eq_zero (by rw [hsrc.len]; simp)
      subst hvs
      have hrun := append_room (P := P) (w := w) (w' := w) (ty := ty) (base := some A) h0 h1 a0 a1 hu hu' hd hsz hsrc (Nat.le_refl 0) (by rfl)
      obtain ⟨g1, g2⟩ := Rel.ghost (sz := i.size) (c := .vals ([] ++ xc)) hk1 (by show ([] ++ xc).length = 0; rw [hcl]; simp)
      refine ⟨_, w, _, hrun, ⟨by omega, .inr (.inr ⟨rfl, A, rfl, hspot⟩)⟩, g1, hk2.trans g2⟩
    · have hfit' : (0 + n) * i.bytes ≤ 140737488355328 := by unfold roomB at hfit; omega
      have hold'' : (Builtin.firstCells i.size 0 (.slice (some A) 0 0)).run P w.drew = .ok #[] w.drew := by
        have := run_firstCells_some (P := P) w.drew i.size 0 A 0 0 [] (by simp) (by simp)
        simpa using this
      have hrun := append_grow (P := P) (w := w) (ty := ty) (olds := []) h0 h1 a0 a1 hu hu' hd hi hz0 hsrc (by omega) (by omega) hold'' hfit'
      have hge := grownCap_ge w (0 + n) 0 e
      obtain ⟨g1, g2⟩ := grown_row (c := [] ++ xc) (vs := vs) (n := 0 + n) (e := e) (grownCap w (0 + n) 0 e) hk1 (by rw [hkl]; exact hrel) hcl hge hzs rfl
      rw [hkl] at g1 g2
      refine ⟨_, _, _, hrun, ?_, by simpa using g1, hk2.trans (by simpa using g2)⟩
      refine ⟨by omega, .inr <| .inl ⟨⟨w.heap.size, 0, none⟩, _, rfl, by rw [setLoc_at], rfl, hge, by rw [setLoc_at]; simp, fun _ => by rw [setLoc_at]; simp⟩⟩
  · -- it was nil
    subst hl0; subst hv; subst hnn0
    have hsn : sc = [] := List.eq_nil_of_length_eq_zero (by rw [hscl]; simp)
    subst hsn
    rw [List.nil_append, Nat.zero_add] at hcl
    obtain ⟨ρ', w', val, q1, q2, q3, q4⟩ := append_nil_sound (σ := σ.set id .dead) (xc := xc) (ty := ty) (nn := false || ps) h0 h1 a0 a1 hu hu' hd hi hz0 hzs (by omega) hsrc
      (by rw [hkl]; exact hrel) hcl (by rw [Nat.zero_add] at hfit; exact hfit) (fun hh => hnn (by simpa using hh)) hk1
    rw [hkl] at q2
    exact ⟨ρ', w', val, q1, by rw [Nat.zero_add]; exact q2, q3, hk2.trans q4⟩
  · subst hv
    obtain ⟨us, hul, hus, hcell⟩ := hold A k rfl
    have hc1 := hus.append hrel
    by_cases hroom : m + n ≤ k
    · -- there is room
      obtain ⟨g1, g2⟩ := hr.adopt (n0 := n) (len := m) (off := o) (vs := vs) (cap := k) (c := sc ++ xc) hat hlive hoff hroom hsrc.len hcl
        ⟨us, hul, hc1, fun j v hj => by
          have hk0 : 0 < k := by
            have hlt : j < m * i.size := by rw [← hul]; exact (List.getElem?_eq_some_iff.1 hj).1
            rcases Nat.eq_zero_or_pos m with h' | h'
            · subst h'; simp at hlt
            · omega
          have := hcell j v hj
          rw [hA hk0, Addr.add_lit] at this
          exact this⟩
      have hm : Mine w (ρ id) i.size c0.len := by
        have ho := hr.obj id
        rw [hat] at ho
        exact (ho.2 hlive).2 rfl
      have hst : (storeCells (A.add (m * i.size)) vs).run P w = .ok () (w.setCells (ρ id).block ((ρ id).base + o * i.size + m * i.size) vs) := by
        by_cases hk0 : 0 < k
        · rw [hA hk0, Addr.add_lit]
          have hin : ∀ j, j < vs.length → o * i.size + m * i.size + j < (ρ id).cap * i.size := by
            intro j hj
            have e1 : (o + k) * i.size = o * i.size + k * i.size := Nat.add_mul _ _ _
            have e2 : (m + n) * i.size ≤ k * i.size := Nat.mul_le_mul_right _ hroom
            have e3 : (m + n) * i.size = m * i.size + n * i.size := Nat.add_mul _ _ _
            have e4 := hsrc.len
            have e5 : (o + k) * i.size ≤ (ρ id).cap * i.size := Nat.mul_le_mul_right _ hoff
            rw [e1] at e5
            omega
          have := run_storeCells_cells (P := P) (ρ id).block ((ρ id).base + o * i.size + m * i.size) vs 0 w
            (fun j hj => by rw [Nat.add_zero, show (ρ id).base + o * i.size + m * i.size + j = (ρ id).base + (o * i.size + m * i.size + j) by omega]; exact (hm.cells (hin j hj)).1)
            (fun j hj => by rw [Nat.add_zero, show (ρ id).base + o * i.size + m * i.size + j = (ρ id).base + (o * i.size + m * i.size + j) by omega]; exact (hm.cells (hin j hj)).2)
            (known_all hrel hkn')
          simpa using this
        · have : vs = [] := by
            have := hsrc.len
            have h0 : n = 0 := by omega
            rw [h0, Nat.zero_mul] at this
            exact List.eq_nil_of_length_eq_zero this
          subst this
          rfl
      have hrun := append_room (P := P) (w := w) (ty := ty) (base := some A) h0 h1 a0 a1 hu hu' hd hsz hsrc hroom hst
      refine ⟨_, _, _, hrun, ?_, g1, g2⟩
      refine ⟨by omega, .inr <| .inl ⟨A, k, rfl, by rw [setLoc_at], hspot, hroom, by rw [setLoc_at]; simp, fun hk0 => by rw [setLoc_at, hA hk0]; simp⟩⟩
    · -- it grows
      have hroom' : k < m + n := by omega
      have hfit' : (m + n) * i.bytes ≤ 140737488355328 := by unfold roomB at hfit; omega
      have hold' := run_firstCells_some (P := P) w.drew i.size m A m k us hul (by simpa using hcell)
      have hold'' : (Builtin.firstCells i.size m (.slice (some A) m k)).run P w.drew = .ok us.toArray w.drew := hold'
      have hrun := append_grow (P := P) (w := w) (ty := ty) (olds := us) h0 h1 a0 a1 hu hu' hd hi hz0 hsrc hroom' (by omega) hold'' hfit'
      have hge := grownCap_ge w (m + n) k e
      obtain ⟨g1, g2⟩ := grown_row (c := sc ++ xc) (vs := us ++ vs) (n := m + n) (e := e) (grownCap w (m + n) k e) hk1 (by rw [hkl]; exact hc1) hcl hge hzs rfl
      rw [hkl] at g1 g2
      refine ⟨_, _, _, hrun, ?_, by simpa using g1, hk2.trans (by simpa using g2)⟩
      refine ⟨by omega, .inr <| .inl ⟨⟨w.heap.size, 0, none⟩, _, rfl, by rw [setLoc_at], rfl, hge, by rw [setLoc_at]; simp, fun _ => by rw [setLoc_at]; simp⟩⟩

theorem cellsE_dens {k : Kd} : ∀ {c : List Sc} {e r : E}, cellsE k c r = some e → e.dens = c.map Sc.vI ++ r.dens ∧ ∀ s ∈ c, s.kd? = some k
  | [], e, r, h => by cases h; exact ⟨rfl, fun s hs => by cases hs⟩
  | s :: c, e, r, h => by
    cases s <;> first | (cases h; done) | skip
    rename_i k' x
    simp only [cellsE] at h
    split at h
    · rename_i hk
      split at h
      · rename_i a l h1 h2
        cases h
        obtain ⟨q1, q2⟩ := cellsE_dens h2
        refine ⟨?_, fun s hs => ?_⟩
        · show a.den :: l.dens = _
          rw [q1, X.e?_den h1]; rfl
        · rcases List.mem_cons.1 hs with rfl | hs
          · rw [Kd.beq_eq hk]; rfl
          · exact q2 s hs
      · cases h
    · cases h
theorem numsE_dens : ∀ l : List Int, (numsE l).D.2 = l
  | [] => rfl
  | n :: l => by simp only [numsE, E.D, numsE_dens l]
theorem isZ_den {x : X} (h : isZ x = true) : x.den = 0 := by
  unfold isZ at h
  split at h
  · rfl
  · cases h
theorem tmSub_dens {e t : E} {off len : X} {o m : Nat} (h : tmSub e off len = some t) (ho : off.den = o) (hm : len.den = m) : t.dens = (e.dens.drop o).take m := by
  unfold tmSub at h
  split at h
  · rename_i x y hx hy
    split at h
    · rename_i t' ht'
      cases h
      have := subE_dens ht' (by rw [E.lin_den, X.e?_den hx, ho]; exact Int.natCast_nonneg _) (by rw [E.lin_den, X.e?_den hy, hm]; exact Int.natCast_nonneg _)
      rw [E.lin_den, E.lin_den, X.e?_den hx, X.e?_den hy, ho, hm, Int.toNat_natCast, Int.toNat_natCast] at this
      exact this
    split at h
    · rename_i hc
      rw [Bool.and_eq_true] at hc
      cases h
      have h1 := isZ_den hc.1
      have h2 := E.beq_eq hc.2
      have h3 : len.den = ((e.dens.length : Nat) : Int) := by rw [← X.e?_den hy, h2]; rfl
      have : o = 0 := by omega
      subst this
      have : m = e.dens.length := by omega
      rw [this, List.drop_zero, List.take_length]
    · cases h
      show (e.D.2.drop x.den.toNat).take y.den.toNat = _
      rw [X.e?_den hx, X.e?_den hy, ho, hm]; rfl
  · cases h
theorem listF_sub {l : List Int} {o m : Nat} (h : o + m ≤ l.length) : listF (fun r _ => l.getD (o + r) 0) m = (l.drop o).take m := by
  unfold listF
  refine List.ext_getElem (by simp; omega) fun i h1 h2 => ?_
  simp at h1
  simp [List.getD_eq_getElem?_getD, List.getElem?_eq_getElem (show o + i < l.length by omega)]
theorem tm_ok {k : Kd} {x : Sc} {vx : Value} {t : E} {n : X} {f : Nat → Nat → Int} {g : B} (hx : SRel ρ σ.length x vx) (h : tmOf σ k x = some t) (h2 : srcF σ [k] x = some (n, f, g)) (hg : g.den = true) : t.dens = listF f n.den.toNat := by
  cases x <;> first | (cases h; done) | skip
  · rename_i b
    simp only [tmOf] at h
    split at h
    · cases h
      simp only [srcF] at h2
      split at h2
      · cases h2
        show (numsE (numsOf b)).D.2 = _
        rw [numsE_dens]
        unfold listF
        have hl : (numsOf b).length = b.size := by simp [numsOf]
        refine List.ext_getElem (by simp [hl, X.den]) fun i h1 h2 => ?_
        simp [List.getD_eq_getElem?_getD, List.getElem?_eq_getElem h1]
      · cases h2
    · cases h
  · cases h
    simp only [srcF, semRows] at h2
    cases h2
    rfl
  · rename_i nn id off len sz
    obtain ⟨o, m, ho, hm, _⟩ := hx
    simp only [tmOf] at h
    simp only [srcF, semRows, List.length_singleton] at h2
    split at h
    · rename_i hsz
      rw [if_pos hsz] at h2
      subst hsz
      split at h
      · rename_i ow z k' e hat
        rw [hat] at h2
        simp only at h2
        split at h2
        · split at h
          · cases h2
            rw [le_den, plus_den, ho, hm] at hg
            have hg : (o : Int) + (m : Int) ≤ ((e.D.2.length : Nat) : Int) := hg
            rw [tmSub_dens h ho hm, hm, ho]
            exact (listF_sub (l := e.D.2) (by omega)).symm
          · cases h
        · cases h2
      · rename_i ow z l hat
        rw [hat] at h2
        simp only at h2
        split at h2
        · cases h2
          rw [le_den, plus_den] at hg
          have hg : off.den + n.den ≤ ((l.length / 1 : Nat) : Int) := hg
          rw [Nat.div_one, ho, hm] at hg
          have cells : ∀ {c : List Sc} {e : E}, cellsE k c .nl = some e → e.dens = c.map Sc.vI := fun hc => by
            have := (cellsE_dens hc).1
            rwa [show E.dens .nl = [] from rfl, List.append_nil] at this
          have hrow : ∀ r, rowsF 1 l r 0 = (l.map Sc.vI).getD r 0 := by
            intro r
            simp only [rowsF, Nat.mul_one, Nat.add_zero, List.getD_eq_getElem?_getD, List.getElem?_map]
            cases l[r]? <;> rfl
          have key : listF (fun r c => rowsF 1 l (off.den.toNat + r) c) n.den.toNat = ((l.map Sc.vI).drop o).take m := by
            rw [ho, hm]
            rw [← listF_sub (l := l.map Sc.vI) (by rw [List.length_map]; omega)]
            unfold listF
            exact List.map_congr_left fun r _ => hrow _
          rw [key]
          split at h
          · rename_i o' n'
            have e1 : o'.toNat = o := by have : o' = (o : Int) := ho; omega
            have e2 : n'.toNat = m := by have : n' = (m : Int) := hm; omega
            rw [cells h, List.map_take, List.map_drop, e1, e2]
          · obtain ⟨e, h3, h4⟩ := Option.bind_eq_some_iff.1 h
            rw [tmSub_dens h4 ho hm, cells h3]
        · cases h2
      · cases h
    · cases h
theorem listF_app (f g : Nat → Nat → Int) (m n : Nat) : listF (appF f m g) (m + n) = listF f m ++ listF g n := by
  unfold listF
  refine List.ext_getElem (by simp) fun i h1 h2 => ?_
  simp only [List.getElem_map, List.getElem_range, List.getElem_append, List.length_map, List.length_range, appF]
  split <;> rfl
theorem like_list {own : Bool} {k : Kd} {e : E} {n : Nat} {f : Nat → Nat → Int} (h : e.dens = listF f n) : Like (.row own 1 (.fn n [k] f)) (.row own 1 (.ex k e)) := by
  refine ⟨fun ρ m w l h' => ?_, id, (fun _ e => (by cases e)), fun w l b h => by rw [foot_row (fun _ _ e => by cases e)] at h ⊢; exact h⟩
  have hel : e.dens.length = n := by rw [h]; simp [listF]
  have hlen : (Cells.fn n [k] f).len = (Cells.ex k e).len := by show n * 1 = e.dens.length; omega
  refine ⟨fun hl => by rw [← hlen]; exact h'.1 hl, fun hl => ⟨fun i s hi => (h'.2 hl).1 i s ?_, fun ho => by rw [← hlen]; exact (h'.2 hl).2 ho⟩⟩
  simp only [Cells.at] at hi ⊢
  split at hi
  · rename_i hlt
    cases hi
    have e1 : i % 1 = 0 := by omega
    have e2 : i / 1 = i := by omega
    have hlt : i < e.dens.length := hlt
    simp only [List.length_singleton, e1, e2, List.getD_cons_zero]
    rw [if_pos ⟨by omega, by omega⟩]
    congr 2
    show f i 0 = e.dens.getD i 0
    rw [h, List.getD_eq_getElem?_getD]
    have : i < n := by omega
    simp [listF, this]
  · cases hi
/-- rows one behind another -/
def flatF (w : Nat) (f : Nat → Nat → Int) (n : Nat) : List Int := (List.range (n * w)).map fun i => f (i / w) (i % w)
theorem flatF_one (f : Nat → Nat → Int) (n : Nat) : flatF 1 f n = listF f n := by
  unfold flatF listF
  rw [Nat.mul_one]
  exact List.map_congr_left fun i _ => by rw [Nat.div_one, Nat.mod_one]
theorem flatF_app {w : Nat} (hw : 0 < w) (f g : Nat → Nat → Int) (m n : Nat) : flatF w (appF f m g) (m + n) = flatF w f m ++ flatF w g n := by
  unfold flatF
  refine List.ext_getElem (by simp [Nat.add_mul]) fun i h1 h2 => ?_
  simp only [List.getElem_map, List.getElem_range, List.getElem_append, List.length_map, List.length_range, appF]
  by_cases h : i < m * w
  · have : i / w < m := (Nat.div_lt_iff_lt_mul hw).2 h
    rw [dif_pos h, if_pos this]
  · have : ¬ i / w < m := fun hh => h ((Nat.div_lt_iff_lt_mul hw).1 hh)
    rw [dif_neg h, if_neg this]
    obtain ⟨q, rfl⟩ : ∃ q, i = q + m * w := ⟨i - m * w, by omega⟩
    rw [Nat.add_sub_cancel, Nat.add_mul_div_right _ _ hw, Nat.add_mul_mod_self_right, Nat.add_sub_cancel]
theorem like_flat {own : Bool} {ks : List Kd} {e : E} {n : Nat} {f : Nat → Nat → Int} {sz : Nat} (hk : 0 < ks.length) (h : e.dens = flatF ks.length f n) : Like (.row own sz (.fn n ks f)) (.row own sz (.tb ks e)) := by
  refine ⟨fun ρ m w l h' => ?_, id, (fun _ e => (by cases e)), fun w l b h => by rw [foot_row (fun _ _ e => by cases e)] at h ⊢; exact h⟩
  have hel : e.dens.length = n * ks.length := by rw [h]; simp [flatF]
  have hlen : (Cells.fn n ks f).len = (Cells.tb ks e).len := by show n * ks.length = e.dens.length; omega
  refine ⟨fun hl => by rw [← hlen]; exact h'.1 hl, fun hl => ⟨fun i s hi => (h'.2 hl).1 i s ?_, fun ho => by rw [← hlen]; exact (h'.2 hl).2 ho⟩⟩
  simp only [Cells.at] at hi ⊢
  split at hi
  · rename_i hlt
    cases hi
    have hlt : i < n * ks.length := by have hlt : i < e.dens.length := hlt; omega
    rw [if_pos ⟨hk, (Nat.div_lt_iff_lt_mul hk).2 hlt⟩]
    congr 2
    show _ = e.dens.getD i 0
    rw [h, List.getD_eq_getElem?_getD]
    simp [flatF, hlt]
  · cases hi
theorem like_fnRow {own : Bool} {sz : Nat} {ks : List Kd} {n : Nat} {f : Nat → Nat → Int} {t : Option E} (hsz : ks.length = sz) (h : ∀ e, 0 < ks.length → t = some e → e.dens = flatF ks.length f n) : Like (.row own sz (.fn n ks f)) (.row own sz (fnRow ks n f t)) := by
  unfold fnRow
  split
  · rename_i k e
    have : sz = 1 := by simpa using hsz.symm
    subst this
    exact like_list ((h e (by simp) rfl).trans (flatF_one f n))
  · rename_i k k' ks e
    exact like_flat (by simp) (h e (by simp) rfl)
  · exact .refl _
theorem isZ_zero {x : X} (h : isZ x = true) : x.den = 0 := by
  cases x with
  | c n =>
    unfold isZ at h
    split at h
    · rename_i e; cases e; rfl
    · cases h
  | ex e => cases h
  | sem n => cases h
theorem boolT_den {b : B} {e : E} (h : kcellsE.boolT b = some e) : e.den = bI b.den := by
  unfold kcellsE.boolT at h
  split at h
  · cases h; rfl
  · rename_i e' n
    split at h
    · rename_i hn
      have h := Option.some.inj h
      subst h
      obtain ⟨rfl, h1, h2⟩ := hn
      have := e'.rng
      show e'.den = bI (e'.den == (1 : Int))
      by_cases he : e'.den = 1
      · rw [he]; rfl
      · have : e'.den = 0 := by unfold inR at this; omega
        rw [this]; rfl
    · cases h
  · cases h
theorem kcellsE_den {ks : List Kd} {w : Nat} : ∀ {l : List Sc} {i : Nat} {e : E}, kcellsE ks w l i = some e → e.dens = l.map Sc.vI
  | [], _, e, h => by cases h; rfl
  | s :: r, i, e, h => by
    cases s <;> first | (cases h; done) | skip
    · simp only [kcellsE] at h
      split at h
      · split at h
        · rename_i a l ha hl
          cases h
          show a.den :: l.dens = _
          rw [kcellsE_den hl, X.e?_den ha]; rfl
        · cases h
      · cases h
    · simp only [kcellsE] at h
      split at h
      · split at h
        · rename_i a l ha hl
          cases h
          show a.den :: l.dens = _
          rw [kcellsE_den hl, boolT_den ha]; rfl
        · cases h
      · cases h
theorem tb_ok {ks : List Kd} {x : Sc} {vx : Value} {t : E} {g1 : B} {n : X} {f : Nat → Nat → Int} {g : B} (hk : 0 < ks.length) (hx : SRel ρ σ.length x vx) (h : tbOf σ ks x = some (t, g1)) (hg1 : g1.den = true) (h2 : srcF σ ks x = some (n, f, g)) (hg : g.den = true) : t.dens = flatF ks.length f n.den.toNat := by
  cases x <;> first | (cases h; done) | skip
  · cases h
    simp only [srcF, semRows] at h2
    cases h2
    show [] = flatF _ _ 0
    unfold flatF
    rw [Nat.zero_mul]; rfl
  · rename_i nn id off len sz
    obtain ⟨o, m, ho, hm, _⟩ := hx
    simp only [tbOf] at h
    simp only [srcF, semRows] at h2
    split at h
    · rename_i hsz
      rw [if_pos hsz] at h2
      split at h
      · rename_i ow z ks' e hat
        rw [hat] at h2
        simp only at h2
        split at h
        · rename_i hc
          rw [Bool.and_eq_true] at hc
          rw [if_pos hc.1] at h2
          cases h2
          obtain ⟨y, hy, h⟩ := Option.map_eq_some_iff.1 h
          cases h
          have hg1 : ((t.D.2.length : Nat) : Int) = (mulE ks.length y).den := beq_iff_eq.1 hg1
          have ho0 := isZ_zero hc.2
          rw [mulE_den, X.e?_den hy, hm] at hg1
          have hl : t.dens.length = m * ks.length := by rw [Nat.mul_comm]; exact_mod_cast hg1
          rw [hm, Int.toNat_natCast]
          unfold flatF
          refine List.ext_getElem (by simp [hl]) fun i h1 h2 => ?_
          simp only [List.getElem_map, List.getElem_range]
          rw [ho0]
          show t.dens[i] = t.dens.getD ((0 + i / ks.length) * ks.length + i % ks.length) 0
          rw [Nat.zero_add, Nat.div_add_mod', List.getD_eq_getElem?_getD, List.getElem?_eq_getElem h1]; rfl
        · cases h
      · rename_i ow z l hat
        rw [hat] at h2
        simp only at h2
        split at h2
        · rename_i hkr
          cases h2
          split at h
          · rename_i o' n'
            obtain ⟨e, he, h⟩ := Option.map_eq_some_iff.1 h
            cases h
            have e1 : o'.toNat = o := by have : o' = (o : Int) := ho; omega
            have e2 : n'.toNat = m := by have : n' = (m : Int) := hm; omega
            rw [le_den, plus_den] at hg
            have hg : o' + n' ≤ ((l.length / sz : Nat) : Int) := hg
            have hg : o + m ≤ l.length / sz := by have : o' = (o : Int) := ho; have : n' = (m : Int) := hm; omega
            subst hsz
            have hle : (o + m) * ks.length ≤ l.length := Nat.le_trans (Nat.mul_le_mul_right _ hg) (Nat.div_mul_le_self _ _)
            rw [kcellsE_den he, hm, Int.toNat_natCast, e1, e2]
            unfold flatF
            rw [Nat.add_mul] at hle
            refine List.ext_getElem (by simp; omega) fun i h1 h2 => ?_
            simp only [List.length_map, List.length_range] at h2
            simp only [List.getElem_map, List.getElem_range, List.getElem_take, List.getElem_drop]
            show _ = ((l.getD ((o'.toNat + i / ks.length) * ks.length + i % ks.length) .any)).vI
            rw [e1, Nat.add_mul, Nat.add_assoc, Nat.div_add_mod', List.getD_eq_getElem?_getD, List.getElem?_eq_getElem (by omega)]; rfl
          · cases h
        · cases h2
      · cases h
    · cases h
theorem tm1_ok {ks : List Kd} {x : Sc} {vx : Value} {t : E} {g1 : B} {n : X} {f : Nat → Nat → Int} {g : B} (hk : 0 < ks.length) (hx : SRel ρ σ.length x vx) (h : tmOf1 σ ks x = some (t, g1)) (hg1 : g1.den = true) (h2 : srcF σ ks x = some (n, f, g)) (hg : g.den = true) : t.dens = flatF ks.length f n.den.toNat := by
  unfold tmOf1 at h
  split at h
  · obtain ⟨e, he, h⟩ := Option.map_eq_some_iff.1 h
    cases h
    rw [List.length_singleton, flatF_one]
    exact tm_ok hx he h2 hg
  · exact tb_ok hk hx h hg1 h2 hg
theorem Like.trans {a b c : AO} (h : Like a b) (k : Like b c) : Like a c :=
  ⟨fun ρ n w l x => k.obj _ _ _ _ (h.obj _ _ _ _ x), fun x => h.own (k.own x), fun x => h.dead (k.dead x), fun w l b x => h.foot _ _ _ (k.foot _ _ _ x)⟩
theorem roomG_ok {n : X} {by_ : Nat} (h : (roomG n by_).den = true) : n.den * (by_ : Int) ≤ (roomB : Int) := by
  unfold roomG at h
  rw [le_den] at h
  have h : n.den ≤ ((roomB / by_ : Nat) : Int) := h
  have h1 := Int.mul_le_mul_of_nonneg_right h (show (0 : Int) ≤ (by_ : Int) by omega)
  have h2 : roomB / by_ * by_ ≤ roomB := Nat.div_mul_le_self _ _
  have h3 : ((roomB / by_ : Nat) : Int) * (by_ : Int) = ((roomB / by_ * by_ : Nat) : Int) := by push_cast; rfl
  omega
theorem room_big {m b : Nat} (hb : 0 < b) (h : m * b ≤ roomB) : m ≤ big := by
  have : m ≤ m * b := Nat.le_mul_of_pos_right _ hb
  unfold roomB at h; unfold big; omega
theorem kindsL_length : ∀ {l : List Sc} {ks : List Kd}, kindsL l = some ks → ks.length = l.length
  | [], ks, h => by cases h; rfl
  | s :: r, ks, h => by
    simp only [kindsL] at h
    split at h
    · rename_i k l h1 h2
      cases h
      simp [kindsL_length h2]
    · cases h
theorem new_like {o1 o2 : AO} {σ1 : St} (h : Like o1 o2) (i : Nat) : Like ((σ1.new o1).at i) ((σ1.new o2).at i) := by
  rw [St.at_new, St.at_new]
  split
  · exact h
  · exact .refl _
theorem posX_pos {n : X} {m : Nat} (hn : n.den = m) (h : posX n = true) : 0 < m := by
  cases n with
  | c k =>
    have h : 0 < k := of_decide_eq_true h
    have hn : k = m := hn
    omega
  | sem k => cases h
  | ex e => cases h

theorem nameA_dens {t : Option E} {e' : E} (hg : (nameA t).2.den = true) (h : (nameA t).1 = some e') : ∃ e, t = some e ∧ e'.dens = e.dens := by
  unfold nameA at hg h
  split at h
  · cases h
    refine ⟨_, rfl, ?_⟩
    exact dq0 (beq_iff_eq.1 hg)
  · exact ⟨e', h, rfl⟩

theorem appendE_sound {ats : Array TypeId} {args : Array Value} {t t' ty : TypeId} {d : TypeDesc} {s x : Sc} {vsl vx : Value} {v : AV} {σ' : St}
    (h0 : ats[0]? = some t) (h1 : ats[1]? = some t') (a0 : args[0]? = some vsl) (a1 : args[1]? = some vx) (hu' : P.underlying t' = some d) (hd : ∀ k, d ≠ .int k)
    (hr : Rel ρ σ w) (hs : SRel ρ σ.length s vsl) (hx : SRel ρ σ.length x vx) (h : (appendE P t s x σ).run = some (v, σ')) :
    ∃ ρ' w' val, (Builtin.append_ ats ty args).run P w = .ok val w' ∧ ARel ρ' σ'.length v val ∧ Rel ρ' σ' w' ∧ Ext ρ σ w ρ' σ' w' := by
  unfold appendE at h
  split at h
  · rename_i e hu
    obtain ⟨sz, e1, h⟩ := bind_some h
    obtain ⟨by_, e2, h⟩ := bind_some h
    have hsz := get_some e1
    have hby := get_some e2
    split at h
    · cases h
    · rename_i hty
      simp only [ne_eq, Bool.or_eq_true, decide_eq_true_eq, not_or, Decidable.not_not] at hty
      obtain ⟨⟨hsz0, hby0⟩, hzz⟩ := hty
      obtain ⟨i, z, hi, hi1, hi2, hz0, hzs⟩ := type_facts hsz hby hzz
      subst hi1; subst hi2
      split at h
      · rename_i c0 n xc hsc hsrcE
        split at h
        · cases h
        · rename_i hkn
          simp only [Bool.or_eq_true, Bool.not_eq_true', decide_eq_true_eq, not_or, Bool.not_eq_false, Decidable.not_not] at hkn
          obtain ⟨hkn', hxl'⟩ := hkn
          obtain ⟨vs, hsrc, hrel, hxl⟩ := srcE_sound (P := P) hr hx hsrcE hsz0
          cases s with
          | nils =>
            simp only at h
            split at h
            · rename_i hfit
              cases h
              rw [show vsl = _ from hs] at a0
              obtain ⟨ρ', w', val, q1, q2, q3, q4⟩ := append_nil_sound (ty := ty) (nn := decide (0 < n)) h0 h1 a0 a1 hu hu' hd hi hz0 hzs (Nat.pos_of_ne_zero hby0) hsrc hrel hxl hfit
                (fun hh => by simpa using hh) hr
              exact ⟨ρ', w', val, q1, by rw [St.len_new]; exact ⟨0, n, rfl, rfl, room_big (Nat.pos_of_ne_zero hby0) hfit, q2⟩, q3, q4⟩
            · cases h
          | sl nn id off len z' =>
            simp only at h
            split at h
            · rename_i hzz'
              subst hzz'
              split at h
              · rename_i z'' c1 sc hat hsc'
                split at h
                · cases h
                · rename_i hz''
                  have hz'' : z'' = i.size := by simpa using hz''
                  subst hz''
                  split at h
                  · rename_i hfit
                    cases h
                    obtain ⟨o, m, ho, hm, hbig, hsl⟩ := hs
                    rcases sliceCells_rel (x := vsl) hr (show SRel ρ σ.length (.sl nn id off len i.size) vsl from ⟨o, m, ho, hm, hbig, hsl⟩) hsc' with ⟨e, _⟩ | ⟨nn', id', off', len', sz', e, hscl, _, hval⟩
                    · cases e
                    · cases e
                      have ho : (off' : Int) = o := ho
                      have hm : (len' : Int) = m := hm
                      have ho : off' = o := by omega
                      have hm : len' = m := by omega
                      subst ho; subst hm
                      have hfit : (len' + n) * i.bytes ≤ roomB := hfit
                      obtain ⟨ρ', w', val, q1, q2, q3, q4⟩ := append_core (ty := ty) (ps := decide (0 < n)) h0 h1 a0 a1 hu hu' hd hi hz0 hzs (Nat.pos_of_ne_zero hby0) hsrc hrel hxl hkn' hfit (fun hh => by simpa using hh) hr hat hsl hscl
                        (fun A k hv => by
                          rcases hval with ⟨_, _, hv'⟩ | ⟨A', k', us, hv', _, _, _, _, _, hul, hus, hcell⟩ | ⟨h0, A', hv', _⟩
                          · rw [hv] at hv'; cases hv'
                          rotate_left
                          · rw [hv] at hv'; cases hv'
                            have : sc = [] := List.eq_nil_of_length_eq_zero (by rw [hscl]; simp)
                            exact ⟨[], by simp, by rw [this]; exact ⟨rfl, fun i s v h => by simp at h⟩, fun j v hj => by simp at hj⟩
                          · rw [hv] at hv'; cases hv'
                            exact ⟨us, hul, hus, hcell⟩)
                      refine ⟨ρ', w', val, q1, ?_, q3, q4⟩
                      rw [St.len_new, List.length_set]
                      exact ⟨0, len' + n, rfl, by simp [X.den], room_big (Nat.pos_of_ne_zero hby0) hfit, q2⟩
                  · cases h
              · cases h
            · cases h
          | _ => cases h
      · obtain ⟨ks, e3, hB⟩ := bind_some h
        clear h
        have hks := get_some e3
        split at hB
        · cases hB
        · rename_i hksl
          have hksl : ks.length = i.size := by simpa using hksl
          split at hB
          · cases hB
          · rename_i n xf gx hsrcF
            cases s with
            | nils =>
              simp only at hB
              obtain ⟨gx', hC⟩ := guard_some hB
              obtain ⟨gr, hD⟩ := guard_some hC
              obtain ⟨gt, hD⟩ := guard_some hD
              cases hD
              obtain ⟨m, vs, hnm, hsrc, hrel⟩ := srcF_sound (P := P) hr hx hsrcF gx'
              rw [hksl] at hsrc
              have gr : n.den * (i.bytes : Int) ≤ (roomB : Int) := roomG_ok gr
              rw [hnm] at gr
              have hfit : m * i.bytes ≤ roomB := by exact_mod_cast gr
              rw [show vsl = _ from hs] at a0
              obtain ⟨ρ', w', val, q1, q2, q3, q4⟩ := append_nil_sound (ty := ty) (nn := posX n) h0 h1 a0 a1 hu hu' hd hi hz0 hzs (Nat.pos_of_ne_zero hby0) hsrc hrel (by rw [rowVals_length, hksl]) hfit (posX_pos hnm) hr
              refine ⟨ρ', w', val, q1, ?_, ?_, ?_⟩
              · rw [St.len_new]; exact ⟨0, m, rfl, hnm, room_big (Nat.pos_of_ne_zero hby0) hfit, q2⟩
              · have lk : Like (.row true i.size (.vals (rowVals ks xf m))) (.row true i.size (fnRow ks n.den.toNat xf ((tmOf1 σ ks x).map (·.1)))) := by
                  rw [hnm, Int.toNat_natCast]
                  refine like_fn.trans (like_fnRow hksl fun e hm e2 => ?_)
                  obtain ⟨⟨e', g'⟩, e3, e4⟩ := Option.map_eq_some_iff.1 e2
                  have e4 : e' = e := e4
                  subst e4
                  have := tm1_ok hm hx e3 (by rw [e3] at gt; exact gt) hsrcF gx'
                  rwa [hnm, Int.toNat_natCast] at this
                exact q3.like (by rw [St.len_new, St.len_new]) (new_like lk)
              · have lk : Like (.row true i.size (.vals (rowVals ks xf m))) (.row true i.size (fnRow ks n.den.toNat xf ((tmOf1 σ ks x).map (·.1)))) := by
                  rw [hnm, Int.toNat_natCast]
                  refine like_fn.trans (like_fnRow hksl fun e hm e2 => ?_)
                  obtain ⟨⟨e', g'⟩, e3, e4⟩ := Option.map_eq_some_iff.1 e2
                  have e4 : e' = e := e4
                  subst e4
                  have := tm1_ok hm hx e3 (by rw [e3] at gt; exact gt) hsrcF gx'
                  rwa [hnm, Int.toNat_natCast] at this
                exact q4.like (by rw [St.len_new, St.len_new]) (new_like lk)
            | sl nn id off len z' =>
              simp only at hB
              split at hB
              · rename_i z'' c1 ns sf gs hat hsem
                split at hB
                · cases hB
                · rename_i hzc
                  simp only [ne_eq, not_or, Decidable.not_not] at hzc
                  obtain ⟨e4, e5⟩ := hzc
                  subst e4; subst e5
                  obtain ⟨gs', hC⟩ := guard_some hB
                  obtain ⟨gx', hD⟩ := guard_some hC
                  obtain ⟨gr, hE⟩ := guard_some hD
                  obtain ⟨gt1, hE⟩ := guard_some hE
                  obtain ⟨gt2, hE⟩ := guard_some hE
                  obtain ⟨gn, hE⟩ := guard_some hE
                  cases hE
                  obtain ⟨m, vs, hnm, hsrc, hrel⟩ := srcF_sound (P := P) hr hx hsrcF gx'
                  rw [hksl] at hsrc
                  obtain ⟨ml, hl1, hl2, hl3⟩ := semRows_rel hr hs hsem gs'
                  have hns : ns = len := by
                    simp only [semRows] at hsem
                    split at hsem
                    · split at hsem
                      · split at hsem
                        · cases hsem; rfl
                        · cases hsem
                      · split at hsem
                        · cases hsem; rfl
                        · cases hsem
                      · split at hsem
                        · cases hsem; rfl
                        · cases hsem
                      · split at hsem
                        · cases hsem; rfl
                        · cases hsem
                      · cases hsem
                    · cases hsem
                  subst hns
                  have hs0 := hs
                  obtain ⟨o, m', ho, hm', hbig, hsl⟩ := hs
                  have hmm : m' = ml := by omega
                  subst hmm
                  have gr : (ns.den + n.den) * (i.bytes : Int) ≤ (roomB : Int) := by have := roomG_ok gr; rwa [plus_den] at this
                  rw [hnm, hm'] at gr
                  have hfit : (m' + m) * i.bytes ≤ roomB := by exact_mod_cast gr
                  have e6 : (ns.den + n.den).toNat = m' + m := by rw [hm', hnm]; exact Int.toNat_natCast (m' + m)
                  have e7 : ns.den.toNat = m' := by rw [hm']; exact Int.toNat_natCast m'
                  have e8 : (ns.plus n).den = ((m' + m : Nat) : Int) := by rw [plus_den, hm', hnm]; rfl
                  obtain ⟨ρ', w', val, q1, q2, q3, q4⟩ := append_core (ty := ty) (ps := posX n) (sc := rowVals ks sf m') (xc := rowVals ks xf m) h0 h1 a0 a1 hu hu' hd hi hz0 hzs (Nat.pos_of_ne_zero hby0) hsrc hrel (by rw [rowVals_length, hksl]) (rowVals_known _ _ _) hfit (posX_pos hnm) hr hat hsl
                    (by rw [rowVals_length, hksl])
                    (fun A k hv => by
                      rcases hl3 with ⟨_, hv'⟩ | ⟨A', k', us, hv', _, hul, hcell, hus⟩
                      · rw [hv] at hv'; cases hv'
                      · rw [hv] at hv'; cases hv'
                        exact ⟨us, by rw [hul, hksl], hus, hcell⟩)
                  rw [← rowVals_app] at q3 q4
                  have lk : Like (.row true i.size (.vals (rowVals ks (appF sf m' xf) (m' + m)))) (.row true i.size (fnRow ks (ns.den + n.den).toNat (appF sf ns.den.toNat xf) (nameA (tmApp (tmOf1 σ ks (.sl nn id off ns i.size)) (tmOf1 σ ks x))).1)) := by
                    rw [e6, e7]
                    refine like_fn.trans (like_fnRow hksl fun e' hm e2' => ?_)
                    obtain ⟨e, e2, ee⟩ := nameA_dens gn e2'
                    rw [ee]
                    clear ee e2'
                    unfold tmApp at e2
                    split at e2
                    · rename_i ta ga tb gb ha hb
                      cases e2
                      have h1 := tm1_ok hm hs0 ha (by rw [ha] at gt1; exact gt1) hsem gs'
                      have h2 := tm1_ok hm hx hb (by rw [hb] at gt2; exact gt2) hsrcF gx'
                      rw [e7] at h1
                      rw [hnm, Int.toNat_natCast] at h2
                      rw [ccE_dens, h1, h2, flatF_app hm]
                    · cases e2
                  refine ⟨ρ', w', val, q1, ?_, ?_, ?_⟩
                  · rw [St.len_new, List.length_set]
                    exact ⟨0, m' + m, rfl, e8, room_big (Nat.pos_of_ne_zero hby0) hfit, q2⟩
                  · exact q3.like (by rw [St.len_new, St.len_new]) (new_like lk)
                  · exact q4.like (by rw [St.len_new, St.len_new]) (new_like lk)
              · cases hB
            | _ => cases hB
  · cases h
end
end Go.SX
