/- Operations that read and write memory. -/
import Derived.Test.YtfacghikjnjjmaaSx3
namespace Go.SX
open Go
set_option linter.unusedSectionVars false
variable [Env]

section
variable {P : Program} {a : Act} {ρ : Nat → Loc} {σ : St} {w : World} {f : Fr} {o : Oper}

/-- cells from a place on, in a row -/
theorem cells_at {ρ : Nat → Loc} {n : Nat} {c : Cells} {b base off k : Nat} {l : List Sc} (hc : CRel ρ n w b base c) (hl : l.length = k)
    (hat : ∀ (j : Nat) s, l[j]? = some s → ∃ s', c.at (off + j) = some s' ∧ ∀ v, SRel ρ n s' v → SRel ρ n s v) :
    ∃ vs, vs.length = k ∧ LRel ρ n l vs ∧ ∀ (j : Nat) v, vs[j]? = some v → w.cell? ⟨b, base + off + j, none⟩ = some v := by
  have hg : ∀ j, j < k → ∃ v, w.cell? ⟨b, base + off + j, none⟩ = some v ∧ ∀ s, l[j]? = some s → SRel ρ n s v := by
    intro j hj
    have hlt : j < l.length := by omega
    obtain ⟨s', hs', himp⟩ := hat j _ (List.getElem?_eq_getElem hlt)
    obtain ⟨v, hv, hr⟩ := hc (off + j) s' hs'
    refine ⟨v, by rw [Nat.add_assoc]; exact hv, fun s hs => ?_⟩
    rw [List.getElem?_eq_getElem hlt] at hs
    cases hs
    exact himp v hr
  refine ⟨(List.range k).map fun j => (w.cell? ⟨b, base + off + j, none⟩).getD undef, by simp, ⟨by simp; omega, fun i s v h1 h2 => ?_⟩, fun j v hj => ?_⟩
  · have hi : i < k := by rw [← hl]; exact (List.getElem?_eq_some_iff.1 h1).1
    obtain ⟨v', hv', hr⟩ := hg i hi
    simp only [List.getElem?_map, List.getElem?_range hi, Option.map_some, Option.some.injEq] at h2
    rw [hv'] at h2
    subst h2
    exact hr s h1
  · have hi : j < k := by
      rcases Nat.lt_or_ge j k with h' | h'
      · exact h'
      · rw [List.getElem?_eq_none (by simp; omega)] at hj; cases hj
    obtain ⟨v', hv', hr⟩ := hg j hi
    simp only [List.getElem?_map, List.getElem?_range hi, Option.map_some, Option.some.injEq] at hj
    rw [hv'] at hj ⊢
    subst hj
    rfl

theorem kdIs_kd {k : Kd} {s : Sc} (h : kdIs k s = true) : s.kd? = some k := by
  unfold kdIs at h
  split at h
  · rename_i k' e; rw [e, Kd.beq_eq h]
  · cases h
theorem kd_sc {ρ : Nat → Loc} {n : Nat} {k : Kd} {s : Sc} {v : Value} (h : s.kd? = some k) (hs : SRel ρ n s v) : SRel ρ n (k.sc s.vI) v := by
  cases s <;> simp only [Sc.kd?, Option.some.injEq, reduceCtorEq] at h <;> subst h
  · exact hs
  · exact hs.trans (by simp only [Sc.vI, B.den, iB_bI])

theorem strsL_get : ∀ (col : List Sc) (ll : List (List Int)), strsL col = some ll → ll.length = col.length ∧ ∀ (i : Nat) s, col[i]? = some s → ∃ x, ll[i]? = some x ∧ s.bytes? = some x
  | [], ll, h => by cases h; exact ⟨rfl, fun i s h => by simp at h⟩
  | s :: r, ll, h => by
    simp only [strsL] at h
    split at h
    · rename_i x l h1 h2
      cases h
      obtain ⟨e1, e2⟩ := strsL_get r l h2
      refine ⟨by simp [e1], fun i t ht => ?_⟩
      cases i with
      | zero => cases ht; exact ⟨x, rfl, h1⟩
      | succ i => exact e2 i t (by simpa using ht)
    · cases h

theorem termsL_get : ∀ (col : List Sc) (e : E), termsL col = some e → e.D.2 = col.map Sc.vI
  | [], e, h => by cases h; rfl
  | s :: r, e, h => by
    cases s <;> first | (cases h; done) | skip
    rename_i k x
    simp only [termsL] at h
    split at h
    · rename_i a l h1 h2
      cases h
      have := termsL_get r l h2
      simp only [E.D, List.map_cons, Sc.vI, this]
      rw [← X.e?_den h1]; rfl
    · cases h
theorem selS_sound {ρ : Nat → Loc} {n : Nat} {r : Nat} {x : X} (hx : x.den = r) {col : List Sc} {s s0 : Sc} {v : Value} (h : selS x col = some s) (h0 : col[r]? = some s0) (hs : SRel ρ n s0 v) : SRel ρ n s v := by
  unfold selS at h
  split at h
  · cases h
  · rename_i t rest
    split at h
    · rename_i k hk
      split at h
      · rename_i hall
        have h1 := kdIs_kd (List.all_eq_true.1 hall s0 (List.mem_of_getElem? h0))
        have e : ((t :: rest).map Sc.vI).getD x.den.toNat 0 = s0.vI := by
          rw [hx, Int.toNat_natCast, List.getD_eq_getElem?_getD, List.getElem?_map, h0]; rfl
        have hkd := kd_sc h1 hs
        split at h
        · rename_i k' re le e1 e2
          cases h
          obtain ⟨q1, q2⟩ : v = .int k' s0.vI ∧ k'.has s0.vI := hkd
          have e3 : X.den (.ex (.sel re le)) = s0.vI := by
            show (le.D.2.getD re.den.toNat 0) = _
            rw [termsL_get _ _ e2, X.e?_den e1, e]
          exact ⟨by rw [q1, e3], by rw [e3]; exact q2⟩
        · cases h
          rw [e]
          exact hkd
      · cases h
    · cases h

theorem colOf_get {l : List Sc} {s sz h r : Nat} (hr : r < h) : (colOf l s sz h)[r]? = some (l.getD (r * sz + s) .any) := by
  simp [colOf, hr]
theorem selAll_get {l : List Sc} {r : X} {sz h : Nat} : ∀ (k s : Nat) (m : List Sc), selAll l r sz h k s = some m → m.length = k ∧ ∀ (j : Nat) t, m[j]? = some t → selS r (colOf l (s + j) sz h) = some t
  | 0, s, m, h => by cases h; exact ⟨rfl, fun j t h => by simp at h⟩
  | k + 1, s, m, h => by
    simp only [selAll] at h
    split at h
    · rename_i a m' h1 h2
      cases h
      obtain ⟨e1, e2⟩ := selAll_get k (s + 1) m' h2
      refine ⟨by simp [e1], fun j t ht => ?_⟩
      cases j with
      | zero => cases ht; exact h1
      | succ j =>
        have := e2 j t (by simpa using ht)
        rw [show s + (j + 1) = s + 1 + j by omega]; exact this
    · cases h

theorem rowsIn_le {len sz fld k r : Nat} (h : r < rowsIn len sz fld k) : offs r sz fld + k ≤ len := by
  unfold rowsIn at h
  split at h
  · rename_i hc
    simp only [Bool.and_eq_true, decide_eq_true_eq] at hc
    have h1 : r ≤ (len - (fld + k)) / sz := by omega
    have h2 := (Nat.le_div_iff_mul_le hc.2).1 h1
    unfold offs
    omega
  · omega
theorem hiOf_some {α : Type} {hi h0 r : Nat} {x : X} (hx : x.den = r) {k : Nat → Out α} {a : α} (hh : hi = 0 ∨ r < hi) (h : (hiOf hi h0 x k).run = some a) : ∃ h, r < h ∧ h ≤ h0 ∧ (k h).run = some a := by
  unfold hiOf at h
  split at h
  · obtain ⟨g, h⟩ := guard_some h
    rw [mkLt_den] at g
    have g : x.den < (h0 : Int) := of_decide_eq_true g
    exact ⟨h0, by omega, Nat.le_refl _, h⟩
  · rename_i hne
    split at h
    · rename_i hle
      exact ⟨hi, by omega, hle, h⟩
    · cases h

theorem fn_at {n : Nat} {ks : List Kd} {f : Nat → Nat → Int} {r c : Nat} (hc : c < ks.length) : (Cells.fn n ks f).at (r * ks.length + c) = if r < n then some ((ks.getD c .bool).sc (f r c)) else none := by
  have h1 : (r * ks.length + c) / ks.length = r := by
    rw [Nat.mul_comm, Nat.mul_add_div (by omega), Nat.div_eq_of_lt hc, Nat.add_zero]
  have h2 : (r * ks.length + c) % ks.length = c := by
    rw [Nat.mul_comm, Nat.mul_add_mod, Nat.mod_eq_of_lt hc]
  simp only [Cells.at, h1, h2]
  by_cases hr : r < n
  · rw [if_pos ⟨by omega, hr⟩, if_pos hr]
  · rw [if_neg (fun h => hr h.2), if_neg hr]

theorem exCell_rel {ρ : Nat → Loc} {n r : Nat} {kd : Kd} {e : E} {row : X} {v : Value} (hr : row.den = r) (h : SRel ρ n (kd.sc (e.D.2.getD r 0)) v) : SRel ρ n (exCell kd e row) v := by
  unfold exCell
  split
  · rename_i i x hx
    have : X.den (xOf (selAt x e)) = e.D.2.getD r 0 := by
      rw [xOf_den, selAt_den (by rw [X.e?_den hx, hr]; exact Int.natCast_nonneg r), X.e?_den hx, hr, Int.toNat_natCast]
    obtain ⟨q1, q2⟩ : v = .int i (e.D.2.getD r 0) ∧ i.has (e.D.2.getD r 0) := h
    exact ⟨by rw [this]; exact q1, by rw [this]; exact q2⟩
  · rename_i x hx
    have : B.den (.ex (.eq (selAt x e) (.num 1))) = iB (e.D.2.getD r 0) := by
      show ((selAt x e).den == (1 : Int)) = _
      rw [selAt_den (by rw [X.e?_den hx, hr]; exact Int.natCast_nonneg r), X.e?_den hx, hr, Int.toNat_natCast]; rfl
    have h : v = .bool (iB (e.D.2.getD r 0)) := h
    show v = .bool _
    rw [this]; exact h
  · rw [hr, Int.toNat_natCast]; exact h
theorem leB_den (x y : X) : (B.le x y).den = true ↔ x.den ≤ y.den := by
  unfold B.le
  rw [mkNot_den, mkLt_den]
  simp
theorem mulE_den : ∀ (n : Nat) (a : E), (mulE n a).den = (n : Int) * a.den
  | 0, a => by rw [Int.natCast_zero, Int.zero_mul]; rfl
  | 1, a => by rw [show ((1 : Nat) : Int) = 1 from rfl, Int.one_mul]; rfl
  | n + 2, a => by
    show (mulE (n + 1) a).den + a.den = _
    rw [mulE_den (n + 1) a, show ((n + 2 : Nat) : Int) = ((n + 1 : Nat) : Int) + 1 by omega, Int.add_mul, Int.one_mul]
theorem mulX_den (n : Nat) (x : X) : (mulX n x).den = (n : Int) * x.den := by
  unfold mulX
  split
  · rfl
  · split
    · rename_i a ha
      show (mulE n a).den = _
      rw [mulE_den, X.e?_den ha]
    · rfl
theorem tbCell_rel {ρ : Nat → Loc} {n i : Nat} {kd : Kd} {e : E} {p : X} {v : Value} (hr : p.den = i) (h : SRel ρ n (kd.sc (e.D.2.getD i 0)) v) : SRel ρ n (tbCell kd e p) v := by
  unfold tbCell
  split
  · rename_i k x hx
    obtain ⟨q1, q2⟩ : v = .int k (e.D.2.getD i 0) ∧ k.has (e.D.2.getD i 0) := h
    have : X.den (xOf (E.mkWr k (selAt x e))) = e.D.2.getD i 0 := by
      rw [xOf_den, E.mkWr_den, selAt_den (by rw [X.e?_den hx, hr]; exact Int.natCast_nonneg i), X.e?_den hx, hr, Int.toNat_natCast, wrap_of_has q2]
    exact ⟨by rw [this]; exact q1, by rw [this]; exact q2⟩
  · rename_i x hx
    have : B.den (.ex (.eq (selAt x e) (.num 1))) = iB (e.D.2.getD i 0) := by
      show ((selAt x e).den == (1 : Int)) = _
      rw [selAt_den (by rw [X.e?_den hx, hr]; exact Int.natCast_nonneg i), X.e?_den hx, hr, Int.toNat_natCast]; rfl
    have h : v = .bool (iB (e.D.2.getD i 0)) := h
    show v = .bool _
    rw [this]; exact h
  · rw [hr, Int.toNat_natCast]; exact h
theorem goesK_get {k : IntKind} : ∀ {l : List Sc} {n : Int} {i : Nat} {s : Sc}, goesK k n l = true → l[i]? = some s → s = .int k (.c (n + i))
  | [], _, _, _, _, h => by simp at h
  | s0 :: r, n, i, s, h, hs => by
    cases s0 <;> first | (cases h; done) | skip
    rename_i k' x
    cases x <;> first | (cases h; done) | skip
    rename_i m
    simp only [goesK, Bool.and_eq_true, decide_eq_true_eq, beq_iff_eq] at h
    obtain ⟨⟨rfl, rfl⟩, h⟩ := h
    cases i with
    | zero => cases hs; simp
    | succ i =>
      have := goesK_get (i := i) h (by simpa using hs)
      rw [this]
      congr 2
      push_cast
      omega
theorem progL_some {l c : List Sc} {sz fld k : Nat} {row : X} (h : progL l sz fld k row = some c) : sz = 1 ∧ fld = 0 ∧ k = 1 ∧ ∃ kd n, c = [.int kd (row.plus (.c n))] ∧ ∀ (i : Nat) s, l[i]? = some s → s = .int kd (.c (n + i)) := by
  unfold progL at h
  split at h
  · rename_i kd n r
    split at h
    · rename_i g
      cases h
      obtain ⟨rfl, rfl, rfl, g⟩ := g
      refine ⟨rfl, rfl, rfl, kd, n, rfl, fun i s hs => ?_⟩
      cases i with
      | zero => cases hs; simp
      | succ i =>
        have := goesK_get (i := i) g (by simpa using hs)
        rw [this]
        congr 2
        push_cast
        omega
    · cases h
  · cases h
theorem read_sound {ρ : Nat → Loc} {n : Nat} {c : Cells} {row : X} {r sz fld hi k : Nat} {l : List Sc} {b base : Nat} (h : (c.read row sz fld hi k).run = some l) (hr : row.den = r) (hh : hi = 0 ∨ r < hi) (hc : CRel ρ n w b base c) :
    ∃ vs, vs.length = k ∧ LRel ρ n l vs ∧ ∀ (j : Nat) v, vs[j]? = some v → w.cell? ⟨b, base + offs r sz fld + j, none⟩ = some v := by
  cases c with
  | vals l0 =>
    simp only [Cells.read] at h
    split at h
    · rename_i m
      have hm : m = r := hr
      subst hm
      simp only [Int.toNat_natCast] at h
      split at h
      · rename_i hle
        cases h
        refine cells_at hc (by simp; omega) fun j s hj => ?_
        have hi : j < k := by
          rcases Nat.lt_or_ge j k with h' | h'
          · exact h'
          · rw [List.getElem?_take, if_neg (by omega)] at hj; cases hj
        rw [List.getElem?_take, if_pos hi, List.getElem?_drop] at hj
        exact ⟨s, hj, fun v h => h⟩
      · cases h
    · obtain ⟨h', h1, h2, h3⟩ := hiOf_some hr hh h
      split at h3
      · rename_i c hsel
        cases h3
        unfold selRow at hsel
        split at hsel
        · rename_i c hp
          cases hsel
          obtain ⟨rfl, rfl, rfl, kd, n, rfl, hget⟩ := progL_some hp
          refine cells_at hc rfl fun j s hj => ?_
          cases j with
          | succ j => simp at hj
          | zero =>
            cases hj
            have hle := rowsIn_le (show r < rowsIn l0.length 1 0 1 by omega)
            have hlt : r < l0.length := by unfold offs at hle; omega
            refine ⟨l0[r], by rw [show offs r 1 0 + 0 = r by unfold offs; omega]; exact List.getElem?_eq_getElem hlt, fun v hv => ?_⟩
            rw [hget r _ (List.getElem?_eq_getElem hlt)] at hv
            obtain ⟨q1, q2⟩ : v = .int kd (n + r) ∧ kd.has (n + r) := hv
            have e : (row.plus (.c n)).den = n + r := by rw [plus_den, hr]; show (r : Int) + n = _; omega
            exact ⟨by rw [e]; exact q1, by rw [e]; exact q2⟩
        have h3 : selAll l0 row sz h' k fld = some l := by
          split at hsel
          · cases hsel
          · exact hsel
        obtain ⟨e1, e2⟩ := selAll_get k fld l h3
        refine cells_at hc e1 fun j s hj => ?_
        have hj2 := e2 j s hj
        have hjk : j < k := by rw [← e1]; exact (List.getElem?_eq_some_iff.1 hj).1
        have hle := rowsIn_le (show r < rowsIn l0.length sz fld k by omega)
        have hlt : offs r sz fld + j < l0.length := by omega
        have hg := colOf_get (l := l0) (s := fld + j) (sz := sz) h1
        refine ⟨l0[offs r sz fld + j], List.getElem?_eq_getElem hlt, fun v hv => selS_sound hr hj2 hg ?_⟩
        have : l0.getD (r * sz + (fld + j)) .any = l0[offs r sz fld + j] := by
          rw [List.getD_eq_getElem?_getD, show r * sz + (fld + j) = offs r sz fld + j by unfold offs; omega, List.getElem?_eq_getElem hlt]; rfl
        rw [this]; exact hv
      · obtain ⟨i, e1, h4⟩ := enumR_some h3
        have e1 : i = r := by omega
        subst e1
        split at h4
        · rename_i hle
          cases h4
          refine cells_at hc (by simp; omega) fun j s hj => ?_
          have hi : j < k := by
            rcases Nat.lt_or_ge j k with h' | h'
            · exact h'
            · rw [List.getElem?_take, if_neg (by omega)] at hj; cases hj
          rw [List.getElem?_take, if_pos hi, List.getElem?_drop] at hj
          exact ⟨s, hj, fun v h => h⟩
        · cases h4
  | fn m ks f =>
    simp only [Cells.read] at h
    split at h
    · rename_i hk
      obtain ⟨h1, h2⟩ := hk
      obtain ⟨g, h⟩ := guard_some h
      rw [mkLt_den] at g
      have g : row.den < (m : Int) := of_decide_eq_true g
      cases h
      rw [hr] at g
      subst h1
      refine cells_at hc (by simp) fun j s hj => ?_
      have hjk : j < k := by have := (List.getElem?_eq_some_iff.1 hj).1; simpa using this
      simp only [List.getElem?_map, List.getElem?_range hjk, Option.map_some, Option.some.injEq, hr, Int.toNat_natCast] at hj
      refine ⟨s, ?_, fun v h => h⟩
      rw [show offs r ks.length fld + j = r * ks.length + (fld + j) by unfold offs; omega, fn_at (by omega), if_pos (by omega), hj]
    · cases h
  | ex kd e =>
    simp only [Cells.read] at h
    split at h
    · rename_i hk
      obtain ⟨rfl, rfl, rfl⟩ := hk
      obtain ⟨g, h⟩ := guard_some h
      rw [mkLt_den] at g
      have g : row.den < ((e.D.2.length : Nat) : Int) := of_decide_eq_true g
      cases h
      rw [hr] at g
      have hlt : r < e.D.2.length := by omega
      refine cells_at hc rfl fun j s hj => ?_
      cases j with
      | succ j => simp at hj
      | zero =>
        cases hj
        refine ⟨kd.sc (e.D.2.getD r 0), ?_, fun v hv => exCell_rel hr hv⟩
        rw [show offs r 1 0 + 0 = r by unfold offs; omega]
        exact if_pos hlt
    · cases h
  | tb ks e =>
    simp only [Cells.read] at h
    split at h
    · rename_i hk
      obtain ⟨h1, h2⟩ := hk
      obtain ⟨g, h⟩ := guard_some h
      rw [leB_den, mulX_den, plus_den, hr] at g
      have g : (sz : Int) * ((r : Int) + 1) ≤ ((e.D.2.length : Nat) : Int) := g
      cases h
      subst h1
      have g : ks.length * (r + 1) ≤ e.D.2.length := by exact_mod_cast g
      rw [Nat.mul_add, Nat.mul_one] at g
      refine cells_at hc (by simp) fun j s hj => ?_
      have hjk : j < k := by have := (List.getElem?_eq_some_iff.1 hj).1; simpa using this
      simp only [List.getElem?_map, List.getElem?_range hjk, Option.map_some, Option.some.injEq] at hj
      subst hj
      have e1 : offs r ks.length fld + j = ks.length * r + (fld + j) := by unfold offs; rw [Nat.mul_comm]; omega
      have e2 : (ks.length * r + (fld + j)) % ks.length = fld + j := by rw [Nat.mul_add_mod, Nat.mod_eq_of_lt (by omega)]
      refine ⟨(ks.getD (fld + j) .bool).sc (e.D.2.getD (ks.length * r + (fld + j)) 0), ?_, fun v h => tbCell_rel (i := ks.length * r + (fld + j)) ?_ h⟩
      · rw [e1]
        show (if _ then some ((ks.getD ((ks.length * r + (fld + j)) % ks.length) .bool).sc _) else none) = _
        rw [e2, if_pos (by omega)]
      · rw [plus_den, mulX_den, hr]
        show (ks.length : Int) * (r : Int) + ((fld + j : Nat) : Int) = _
        push_cast; omega
    · cases h

theorem loadE_sound {t : TypeId} {s : Sc} {v : AV} {x : Value} (hr : Rel ρ σ w) (hs : SRel ρ σ.length s x) (h : (loadE P t s σ).run = some v) :
    ∃ val, (Instr.loadAt t x).run P w = .ok val w ∧ ARel ρ σ.length v val := by
  unfold loadE at h
  split at h
  · rename_i id row sz fld hi
    obtain ⟨hid, hlive, r, hrow, hhi, rfl⟩ := hs
    split at h
    · rename_i ow z c hat
      have ho := hr.obj id
      rw [hat] at ho
      obtain ⟨g, h1, h⟩ := bind_some h
      obtain ⟨k, h2, h⟩ := bind_some h
      have hg := get_some h1
      have hk := get_some h2
      have hc := (ho.2 hlive).1
      cases g
      · simp only [Bool.false_eq_true, if_false] at h
        obtain ⟨l, h3, h⟩ := bind_some h
        cases h
        obtain ⟨vs, hl, hrel, hcell⟩ := read_sound h3 hrow hhi hc
        obtain ⟨v0, rfl⟩ : ∃ v0, vs = [v0] := by
          match vs, hl with
          | [v0], _ => exact ⟨v0, rfl⟩
        obtain ⟨s0, rfl⟩ : ∃ s0, l = [s0] := by
          match l, hrel.1 with
          | [s0], _ => exact ⟨s0, rfl⟩
        refine ⟨v0, ?_, hrel.2 0 s0 v0 rfl rfl⟩
        have hc0 := hcell 0 v0 rfl
        simp only [Nat.add_zero] at hc0
        simp [Instr.loadAt, Instr.sureAddr, loadVar, tagg_run hg, hc0]
      · simp only [if_true] at h
        obtain ⟨l, h3, h⟩ := bind_some h
        cases h
        obtain ⟨vs, hl, hrel, hcell⟩ := read_sound h3 hrow hhi hc
        refine ⟨.agg vs.toArray, ?_, _, rfl, by simpa using hrel⟩
        subst hl
        have := run_loadCells_list (P := P) w ⟨(ρ id).block, (ρ id).base + offs r sz fld, none⟩ vs (fun j v hj => by rw [Addr.add_lit]; exact hcell j v hj)
        simp [Instr.loadAt, Instr.sureAddr, loadVar, tagg_run hg, tsize_run hk, this]
    · cases h
  · cases h

theorem known_one {ρ : Nat → Loc} {n : Nat} {s : Sc} {v : Value} (h : SRel ρ n s v) (hk : s.known = true) : v.oneCell' = true := by
  cases s with
  | any => cases hk
  | int k x => rw [h.1]; rfl
  | str x => rw [h.1]; rfl
  | strf l => rw [h.1]; rfl
  | strt l => rw [h.1]; rfl
  | ptr id row sz fld hi => obtain ⟨_, _, r, _, _, e⟩ := h; rw [e]; rfl
  | sl nn id off len sz =>
    obtain ⟨_, _, _, _, _, h⟩ := h
    rcases h.2 with ⟨_, _, e⟩ | ⟨A, c, e, _⟩ | ⟨_, A, e, _⟩ <;> (rw [e]; rfl)
  | mp id => rw [h.2.2]; rfl
  | _ => rw [show v = _ from h]; rfl
theorem known_all {ρ : Nat → Loc} {n : Nat} {l : List Sc} {vs : List Value} (h : LRel ρ n l vs) (hk : l.all Sc.known = true) : ∀ v ∈ vs, v.oneCell' = true := by
  intro v hv
  obtain ⟨i, hi, rfl⟩ := List.getElem_of_mem hv
  have hlt : i < l.length := by rw [h.1]; exact hi
  exact known_one (h.2 i _ _ (List.getElem?_eq_getElem hlt) (List.getElem?_eq_getElem hi)) (List.all_eq_true.1 hk _ (List.getElem_mem hlt))

theorem setL_length : ∀ (vs : List Sc) (l : List Sc) (i : Nat), (setL l i vs).length = l.length
  | [], _, _ => rfl
  | v :: r, l, i => by rw [setL, setL_length r]; simp
theorem setL_get : ∀ (vs : List Sc) (l : List Sc) (o i : Nat) (s : Sc), o + vs.length ≤ l.length → (setL l o vs)[i]? = some s → (∃ j, i = o + j ∧ vs[j]? = some s) ∨ ((i < o ∨ o + vs.length ≤ i) ∧ l[i]? = some s)
  | [], l, o, i, s, _, h => by
    right
    refine ⟨by simp; omega, h⟩
  | v :: r, l, o, i, s, hle, h => by
    simp only [setL] at h
    simp only [List.length_cons] at hle
    rcases setL_get r (l.set o v) (o + 1) i s (by simp; omega) h with ⟨j, rfl, hj⟩ | ⟨hno, hl⟩
    · exact .inl ⟨j + 1, by omega, by simpa using hj⟩
    · rw [List.getElem?_set] at hl
      by_cases e : o = i
      · subst e
        rw [if_pos rfl, if_pos (by omega)] at hl
        cases hl
        exact .inl ⟨0, by omega, rfl⟩
      · rw [if_neg e] at hl
        exact .inr ⟨by simp; omega, hl⟩

theorem updL_get {r : X} {sz fld h : Nat} {vs : List Sc} : ∀ (l : List Sc) (k : Nat) (m : List Sc), updL r sz fld h vs l k = some m → m.length = l.length ∧ ∀ (i : Nat) t, m[i]? = some t → ∃ s, l[i]? = some s ∧ updC r sz fld h vs s (k + i) = some t
  | [], k, m, h => by cases h; exact ⟨rfl, fun i t h => by simp at h⟩
  | s :: l, k, m, h => by
    simp only [updL] at h
    split at h
    · rename_i a m' h1 h2
      cases h
      obtain ⟨e1, e2⟩ := updL_get l (k + 1) m' h2
      refine ⟨by simp [e1], fun i t ht => ?_⟩
      cases i with
      | zero => cases ht; exact ⟨s, rfl, h1⟩
      | succ i =>
        obtain ⟨s', q1, q2⟩ := e2 i t (by simpa using ht)
        exact ⟨s', by simpa using q1, by rw [show k + (i + 1) = k + 1 + i by omega]; exact q2⟩
    · cases h

theorem kdsAre_get : ∀ (ks : List Kd) (vs : List Sc), kdsAre ks vs = true → vs.length ≤ ks.length ∧ ∀ (j : Nat) s, vs[j]? = some s → s.kd? = some (ks.getD j .bool)
  | _, [], _ => ⟨Nat.zero_le _, fun j s h => by simp at h⟩
  | [], _ :: _, h => by cases h
  | k :: ks, s :: r, h => by
    simp only [kdsAre, Bool.and_eq_true] at h
    obtain ⟨e1, e2⟩ := kdsAre_get ks r h.2
    refine ⟨by simp [e1], fun j t ht => ?_⟩
    cases j with
    | zero => cases ht; exact kdIs_kd h.1
    | succ j => exact e2 j t (by simpa using ht)

/-- a write -/
theorem write_sound {ρ : Nat → Loc} {c c' : Cells} {row : X} {r sz fld hi : Nat} {l : List Sc} {vs : List Value} {n : Nat} (h : (c.write row sz fld hi l).run = some c') (hr : row.den = r) (hh : hi = 0 ∨ r < hi) (hl : LRel ρ n l vs) :
    c'.len = c.len ∧ offs r sz fld + vs.length ≤ c.len ∧ ∀ i s, c'.at i = some s → (∃ j v, i = offs r sz fld + j ∧ vs[j]? = some v ∧ SRel ρ n s v) ∨ ((i < offs r sz fld ∨ offs r sz fld + vs.length ≤ i) ∧ ∃ s', c.at i = some s' ∧ ∀ v, SRel ρ n s' v → SRel ρ n s v) := by
  have hlen := hl.1
  cases c with
  | vals l0 =>
    simp only [Cells.write] at h
    split at h
    · rename_i m
      have hm : m = r := hr
      subst hm
      simp only [Int.toNat_natCast] at h
      split at h
      · rename_i hle
        cases h
        refine ⟨by simp [Cells.len, setL_length], by rw [← hl.1]; exact hle, fun i s hi => ?_⟩
        rcases setL_get l l0 _ i s hle hi with ⟨j, rfl, hj⟩ | ⟨hno, ho⟩
        · have hlt : j < vs.length := by rw [← hl.1]; exact (List.getElem?_eq_some_iff.1 hj).1
          exact .inl ⟨j, _, rfl, List.getElem?_eq_getElem hlt, hl.2 j s _ hj (List.getElem?_eq_getElem hlt)⟩
        · exact .inr ⟨by rw [← hl.1]; exact hno, s, ho, fun v h => h⟩
      · cases h
    · split at h
      · rename_i hsz
        obtain ⟨h', h1, h2, h3⟩ := hiOf_some hr hh h
        obtain ⟨l', h4, h5⟩ := bind_some h3
        cases h5
        obtain ⟨e1, e2⟩ := updL_get l0 0 l' (get_some h4)
        have hle := rowsIn_le (show r < rowsIn l0.length sz fld l.length by omega)
        refine ⟨e1, by rw [← hl.1]; exact hle, fun i s hi => ?_⟩
        obtain ⟨s', q1, q2⟩ := e2 i s hi
        rw [Nat.zero_add] at q2
        unfold updC at q2
        split at q2
        · rename_i hc
          obtain ⟨c1, c2, c3⟩ := hc
          split at q2
          · rename_i k v hk hv
            split at q2
            · rename_i hkv
              cases q2
              have hkv := kdIs_kd hkv
              have hdm := Nat.div_add_mod (i - fld) sz
              by_cases hrow : r = (i - fld) / sz
              · left
                have hlt : (i - fld) % sz < vs.length := by omega
                refine ⟨(i - fld) % sz, vs[(i - fld) % sz], ?_, List.getElem?_eq_getElem hlt, ?_⟩
                · unfold offs; rw [hrow, Nat.mul_comm]; omega
                · have : (row.den == (((i - fld) / sz : Nat) : Int)) = true := by rw [beq_iff_eq]; omega
                  rw [this]
                  exact kd_sc hkv (hl.2 _ _ _ hv (List.getElem?_eq_getElem hlt))
              · right
                refine ⟨?_, s', q1, fun v' hv' => ?_⟩
                · have hsz0 : 0 < sz := by
                    rcases Nat.eq_zero_or_pos sz with h0 | h0
                    · subst h0; simp at c2; omega
                    · exact h0
                  unfold offs
                  rcases Nat.lt_or_gt_of_ne hrow with hlt | hgt
                  · right
                    have := Nat.mul_le_mul_left sz (show r + 1 ≤ (i - fld) / sz by omega)
                    rw [Nat.mul_add, Nat.mul_one] at this
                    rw [Nat.mul_comm r sz]
                    omega
                  · left
                    have := Nat.mul_le_mul_left sz (show (i - fld) / sz + 1 ≤ r by omega)
                    rw [Nat.mul_add, Nat.mul_one] at this
                    have := Nat.mod_lt (i - fld) hsz0
                    rw [Nat.mul_comm r sz]
                    omega
                · have : (row.den == (((i - fld) / sz : Nat) : Int)) = false := by rw [beq_eq_false_iff_ne]; omega
                  rw [this]
                  exact kd_sc hk hv'
            · cases q2
          · cases q2
        · rename_i hc
          cases q2
          right
          refine ⟨?_, s, q1, fun v h => h⟩
          rcases Nat.lt_or_ge i (offs r sz fld) with hlt | hge
          · exact .inl hlt
          · right
            apply Nat.le_of_not_lt
            intro hin
            apply hc
            unfold offs at hge hin
            have hsz0 : 0 < sz := by
              rcases Nat.eq_zero_or_pos sz with h0 | h0
              · subst h0; omega
              · exact h0
            have e3 : i - fld = sz * r + (i - fld - r * sz) := by rw [Nat.mul_comm sz r]; omega
            have hsm : i - fld - r * sz < sz := by omega
            have d1 : (i - fld) / sz = r := by rw [e3, Nat.mul_add_div hsz0, Nat.div_eq_of_lt hsm, Nat.add_zero]
            have d2 : (i - fld) % sz = i - fld - r * sz := by conv => lhs; rw [e3, Nat.mul_add_mod, Nat.mod_eq_of_lt hsm]
            exact ⟨by omega, by rw [d2]; omega, by rw [d1]; exact h1⟩
      · cases h
  | fn m ks f =>
    simp only [Cells.write] at h
    split at h
    · rename_i hk
      obtain ⟨h1, h2, h3⟩ := hk
      obtain ⟨g, h⟩ := guard_some h
      rw [mkLt_den] at g
      have g : row.den < (m : Int) := of_decide_eq_true g
      cases h
      rw [hr] at g
      subst h1
      obtain ⟨k1, k2⟩ := kdsAre_get _ _ h3
      refine ⟨rfl, ?_, fun i s hi => ?_⟩
      · simp only [Cells.len]; unfold offs
        have := Nat.mul_le_mul_right ks.length (show r + 1 ≤ m by omega)
        rw [Nat.add_mul, Nat.one_mul] at this
        omega
      · have hkpos : 0 < ks.length := by
          simp only [Cells.at] at hi
          split at hi
          · rename_i hh; exact hh.1
          · cases hi
        have hdm := Nat.div_add_mod i ks.length
        have hmod := Nat.mod_lt i hkpos
        have ei : i = (i / ks.length) * ks.length + i % ks.length := by rw [Nat.mul_comm]; omega
        have hb := hi
        rw [ei, fn_at hmod] at hi
        split at hi
        · rename_i hlt
          cases hi
          unfold updF
          rw [hr, Int.toNat_natCast, List.length_map]
          by_cases hin : i / ks.length = r ∧ fld ≤ i % ks.length ∧ i % ks.length < fld + l.length
          · left
            obtain ⟨i1, i2, i3⟩ := hin
            have hlt2 : i % ks.length - fld < l.length := by omega
            have hlt3 : i % ks.length - fld < vs.length := by omega
            refine ⟨i % ks.length - fld, vs[i % ks.length - fld], by unfold offs; rw [← i1, Nat.mul_comm]; omega, List.getElem?_eq_getElem hlt3, ?_⟩
            rw [if_pos ⟨i1, i2, i3⟩]
            have hs := hl.2 _ _ _ (List.getElem?_eq_getElem hlt2) (List.getElem?_eq_getElem hlt3)
            have hk := k2 _ _ (List.getElem?_eq_getElem hlt2)
            rw [List.getD_eq_getElem?_getD, List.getElem?_drop, show fld + (i % ks.length - fld) = i % ks.length by omega, ← List.getD_eq_getElem?_getD] at hk
            have := kd_sc hk hs
            have e5 : (l.map Sc.vI).getD (i % ks.length - fld) 0 = (l[i % ks.length - fld]).vI := by
              rw [List.getD_eq_getElem?_getD, List.getElem?_map, List.getElem?_eq_getElem hlt2]; rfl
            rw [e5]
            exact this
          · right
            rw [if_neg hin]
            refine ⟨?_, _, ?_, fun v h => h⟩
            · unfold offs
              by_cases hrr : i / ks.length = r
              · rw [hrr, Nat.mul_comm] at hdm
                omega
              · rcases Nat.lt_or_gt_of_ne hrr with hx | hx
                · left
                  have := Nat.mul_le_mul_left ks.length (show i / ks.length + 1 ≤ r by omega)
                  rw [Nat.mul_add, Nat.mul_one] at this
                  rw [Nat.mul_comm r]
                  omega
                · right
                  have := Nat.mul_le_mul_left ks.length (show r + 1 ≤ i / ks.length by omega)
                  rw [Nat.mul_add, Nat.mul_one] at this
                  rw [Nat.mul_comm r]
                  omega
            · rw [ei, fn_at hmod, if_pos hlt, ← ei]
        · cases hi
    · cases h
  | ex kd e =>
    simp only [Cells.write] at h
    split at h
    · rename_i k x r' hre
      split at h
      · rename_i a hxe
        split at h
        · rename_i hc
          obtain ⟨rfl, rfl, hk⟩ := hc
          obtain ⟨g, h⟩ := guard_some h
          obtain ⟨g2, h⟩ := guard_some h
          cases h
          rw [mkLt_den] at g
          have g : row.den < ((e.dens.length : Nat) : Int) := of_decide_eq_true g
          have hrd : r'.den = (r : Int) := by rw [X.e?_den hre]; exact hr
          have hset : (nmS r' a e).dens = e.dens.set r a.den := by
            rw [nmS_dens (beq_iff_eq.1 g2)]
            exact setE_dens (a := a) hrd (e := e)
          have hl1 : vs.length = 1 := by rw [← hl.1]; rfl
          have ho : offs r 1 0 = r := by unfold offs; omega
          have hcl : Cells.len (.ex kd (nmS r' a e)) = Cells.len (.ex kd e) := by
            show (nmS r' a e).dens.length = e.dens.length
            rw [hset]; simp
          refine ⟨hcl, by rw [ho, hl1]; show r + 1 ≤ e.dens.length; omega, fun i s hi => ?_⟩
          simp only [Cells.at] at hi
          split at hi
          · rename_i hlt
            cases hi
            have hlt : i < (nmS r' a e).dens.length := hlt
            have hlt2 : i < e.dens.length := by rw [hset] at hlt; simpa using hlt
            have hget : (nmS r' a e).D.2.getD i 0 = if r = i then a.den else e.D.2.getD i 0 := by
              show (nmS r' a e).dens.getD i 0 = if r = i then a.den else e.dens.getD i 0
              rw [hset]
              simp only [List.getD_eq_getElem?_getD, List.getElem?_set]
              by_cases hri : r = i
              · subst hri; simp [hlt2]
              · simp [hri]
            rw [hget, ho]
            by_cases hri : r = i
            · left
              subst hri
              obtain ⟨v, hv⟩ : ∃ v, vs = [v] := by
                match vs, hl1 with
                | [v], _ => exact ⟨v, rfl⟩
              subst hv
              refine ⟨0, v, rfl, rfl, ?_⟩
              rw [if_pos rfl, X.e?_den hxe]
              have := hl.2 0 _ _ rfl rfl
              cases Kd.beq_eq hk
              exact this
            · right
              rw [if_neg hri]
              exact ⟨by omega, _, if_pos hlt2, fun v h => h⟩
          · cases hi
        · cases h
      · cases h
    · cases h
  | tb ks e => cases h

theorem storeE_sound {t : TypeId} {s : Sc} {v : AV} {x y : Value} {σ' : St} (hr : Rel ρ σ w) (hs : SRel ρ σ.length s x) (hv : ARel ρ σ.length v y) (h : (storeE P t s v σ).run = some σ') :
    ∃ w', (Instr.storeAt t x y).run P w = .ok () w' ∧ Rel ρ σ' w' ∧ Ext ρ σ w ρ σ' w' := by
  unfold storeE at h
  split at h
  · rename_i id row sz fld hi
    obtain ⟨hid, hlive, r, hrow, hhi, rfl⟩ := hs
    split at h
    · rename_i z c hat
      obtain ⟨k, h1, h⟩ := bind_some h
      obtain ⟨l, h2, h⟩ := bind_some h
      have hk := get_some h1
      have hl := cells?_rel hv (get_some h2)
      split at h
      · rename_i hcond
        simp only [Bool.and_eq_true, decide_eq_true_eq] at hcond
        obtain ⟨hlen, hkn⟩ := hcond
        obtain ⟨c', h3, h⟩ := bind_some h
        cases h
        obtain ⟨e1, e2, e3⟩ := write_sound h3 hrow hhi hl
        have ho := hr.obj id
        rw [hat] at ho
        have hm := (ho.2 hlive).2 rfl
        have hcap : c.len ≤ (ρ id).cap * z := by obtain ⟨_, _, _, _, _, h, _⟩ := hm; exact h
        have hw := hr.write (offs r sz fld) (vs := y.cells.toList) (c' := c') hat hlive (by omega) (by omega) e3
        refine ⟨_, ?_, hw.1, hw.2⟩
        have hst := run_storeCells_cells (P := P) (ρ id).block ((ρ id).base + offs r sz fld) y.cells.toList 0 w
          (fun j hj => by rw [Nat.add_zero, Nat.add_assoc]; exact (hm.cells (by omega)).1)
          (fun j hj => by rw [Nat.add_zero, Nat.add_assoc]; exact (hm.cells (by omega)).2) (known_all hl hkn)
        simp only [Nat.add_zero] at hst
        have hsz : y.cells.size = k := by rw [← hlen, hl.1]; simp
        simp [Instr.storeAt, Instr.sureAddr, storeVar, tsize_run hk, hsz, hst]
      · cases h
    · cases h
  · cases h
end
end Go.SX
