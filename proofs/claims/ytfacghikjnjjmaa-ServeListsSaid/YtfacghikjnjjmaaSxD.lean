/- What a function that only computes makes of values: told of values alone, shown by one run of the evaluator, used as a contract. -/
import Derived.Test.YtfacghikjnjjmaaSxC
namespace Go.SX
open Go Go.Lib
set_option linter.unusedSectionVars false
variable [Env]

/-! Values. -/
def ListV (w : World) (ks : List Kd) (n : Nat) (f : Nat → Nat → Int) (x : Value) : Prop :=
  n ≤ big ∧ ((n = 0 ∧ x = .slice none 0 0) ∨ (∃ (l : Loc) (A : Addr), l.live = true ∧ l.block < w.heap.size ∧ x = .slice (some A) n l.cap ∧ A.spot = none ∧ n ≤ l.cap ∧ (0 < l.cap → A = ⟨l.block, l.base, none⟩) ∧
    ∀ i, i < n * ks.length → ∃ v, w.cell? ⟨l.block, l.base + i, none⟩ = some v ∧ KRel (ks.getD (i % ks.length) .bool) (f (i / ks.length) (i % ks.length)) v) ∨
    (n = 0 ∧ ∃ A, x = .slice (some A) 0 0 ∧ A.spot = none))
def CellV (w : World) : CT → CV → Value → Prop
  | .sc (.int k), cv, x => ∃ n, cv = .n n ∧ x = .int k n ∧ k.has n
  | .sc .bool, cv, x => ∃ b, cv = .b b ∧ x = .bool b
  | .str, cv, x => ∃ l, cv = .l l ∧ x = .string (bytesOf l) ∧ l.length ≤ big ∧ ∀ x ∈ l, 0 ≤ x ∧ x < 256
  | .lst ks, cv, x => ∃ n f, cv = listCV ks f n ∧ ListV w ks n f x
def AllV (w : World) : List CT → List CV → List Value → Prop
  | [], [], [] => True
  | t :: ts, c :: cs, v :: vs => CellV w t c v ∧ AllV w ts cs vs
  | _, _, _ => False
def ValsOk : List PT → List Value → Prop
  | [], [] => True
  | .inl _ :: p, _ :: vs => ValsOk p vs
  | .inr ts :: p, v :: vs => (∃ cs, v = .agg cs ∧ cs.size = ts.length) ∧ ValsOk p vs
  | _, _ => False

theorem cell_in {ρ : Nat → Loc} {σ : St} {w : World} {t : CT} {s : Sc} {cv : CV} {g : B} {x : Value} (hr : Rel ρ σ w) (hs : SRel ρ σ.length s x) (h : cellIn σ t s = some (cv, g)) (hg : g.den = true) : CellV w t cv x := by
  unfold cellIn at h
  split at h
  · rename_i k k' y
    split at h
    · rename_i e; subst e
      cases h
      exact ⟨_, rfl, hs.1, hs.2⟩
    · cases h
  · cases h; exact ⟨_, rfl, hs⟩
  · obtain ⟨l, h1, h2⟩ := Option.map_eq_some_iff.1 h
    cases h2
    obtain ⟨q1, q2, q3⟩ := bytes?_rel hs h1
    exact ⟨l, rfl, q1, q2, q3⟩
  · rename_i ks
    obtain ⟨⟨n, f, g'⟩, h1, h2⟩ := Option.map_eq_some_iff.1 h
    cases h2
    obtain ⟨m, e1, e2, e3⟩ := semRows_rel hr hs h1 hg
    refine ⟨n.den.toNat, f, rfl, ?_⟩
    rw [e1]
    refine ⟨by simpa using e2, ?_⟩
    rcases e3 with ⟨rfl, e3⟩ | ⟨A, k, vs, rfl, e4, e5, e6, e7⟩
    · exact .inl ⟨rfl, e3⟩
    · cases s with
      | sl nn id off len sz =>
        obtain ⟨o, m', ho, hm, hbig, hid, hsl⟩ := hs
        rcases hsl with ⟨_, _, e⟩ | ⟨A', c, e, hlive, hspot, hle, hcap, hA⟩ | ⟨hz, A', e, hspot⟩
        · cases e
        rotate_left
        · cases e
          exact .inr (.inr ⟨rfl, A, rfl, hspot⟩)
        · right; left
          cases e
          have hnd : σ.at id ≠ .dead := by
            intro e
            simp only [semRows] at h1
            split at h1
            · rw [e] at h1; cases h1
            · cases h1
          refine ⟨⟨true, (ρ id).block, (ρ id).base + o * sz, k⟩, A, rfl, hr.bnd id ⟨hlive, hnd⟩, by simp, hspot, by simpa using e4, hA, fun i hi => ?_⟩
          have hi' : i < m * ks.length := by simpa using hi
          have hrl : (rowVals ks f m).length = m * ks.length := by simp [rowVals]
          have hv : i < vs.length := by omega
          refine ⟨vs[i], ?_, ?_⟩
          · have := e6 i vs[i] (List.getElem?_eq_getElem hv)
            have hk : 0 < k := by
              rcases Nat.eq_zero_or_pos k with h0 | h0
              · have : m = 0 := by omega
                subst this; omega
              · exact h0
            rw [hA hk, Addr.add_lit] at this
            exact this
          · have := e7.2 i ((ks.getD (i % ks.length) .bool).sc (f (i / ks.length) (i % ks.length))) vs[i] (by simp [rowVals, hi']) (List.getElem?_eq_getElem hv)
            exact Kd.sc_rel.1 this
      | nils => cases hs
      | _ => simp [semRows] at h1
  · cases h
theorem cells_in {ρ : Nat → Loc} {σ : St} {w : World} (hr : Rel ρ σ w) : ∀ (ts : List CT) (c : List Sc) (vs : List Value) (cvs : List CV) (g : B), LRel ρ σ.length c vs → cellsIn σ ts c = some (cvs, g) → g.den = true → AllV w ts cvs vs
  | [], c, vs, cvs, g, hl, h, hg => by
    cases c with
    | nil =>
      cases h
      cases vs with
      | nil => exact True.intro
      | cons _ _ => exact absurd hl.1 (by simp)
    | cons _ _ => cases h
  | t :: ts, c, vs, cvs, g, hl, h, hg => by
    cases c with
    | nil => cases h
    | cons s c =>
      obtain ⟨v, r, rfl, h1, h2⟩ := hl.inv
      simp only [cellsIn] at h
      split at h
      · rename_i cv g1 cvs' g2 e1 e2
        cases h
        rw [mkAnd_den, Bool.and_eq_true] at hg
        exact ⟨cell_in hr h1 e1 hg.1, cells_in hr ts c r _ _ h2 e2 hg.2⟩
      · cases h
theorem valsOk_of {ρ : Nat → Loc} {n : Nat} : ∀ (p : List PT) (a : List AV) (vs : List Value) (c : List Sc), a.length = vs.length → (∀ (i : Nat) x v, a[i]? = some x → vs[i]? = some v → ARel ρ n x v) → flatA p a = some c → ValsOk p vs
  | [], a, vs, c, hl, h, hf => by
    cases a with
    | nil =>
      cases vs with
      | nil => exact True.intro
      | cons _ _ => cases hl
    | cons _ _ => cases hf
  | .inl t :: p, a, vs, c, hl, h, hf => by
    cases a with
    | nil => cases hf
    | cons x a =>
      cases x <;> first | (cases hf; done) | skip
      obtain ⟨v, vs, rfl⟩ : ∃ v r, vs = v :: r := by cases vs with | nil => cases hl | cons v r => exact ⟨v, r, rfl⟩
      simp only [flatA] at hf
      obtain ⟨c', h1, _⟩ := Option.map_eq_some_iff.1 hf
      exact valsOk_of p a vs c' (by simpa using hl) (fun i x v a b => h (i + 1) x v (by simpa using a) (by simpa using b)) h1
  | .inr ts :: p, a, vs, c, hl, h, hf => by
    cases a with
    | nil => cases hf
    | cons x a =>
      cases x <;> first | (cases hf; done) | skip
      rename_i l
      obtain ⟨v, vs, rfl⟩ : ∃ v r, vs = v :: r := by cases vs with | nil => cases hl | cons v r => exact ⟨v, r, rfl⟩
      simp only [flatA] at hf
      split at hf
      · rename_i hlen
        obtain ⟨c', h1, _⟩ := Option.map_eq_some_iff.1 hf
        obtain ⟨cs, rfl, hr⟩ := h 0 _ _ rfl rfl
        refine ⟨⟨cs, rfl, ?_⟩, valsOk_of p a vs c' (by simpa using hl) (fun i x v a b => h (i + 1) x v (by simpa using a) (by simpa using b)) h1⟩
        have := hr.1
        rw [hlen] at this
        simpa using this.symm
      · cases hf
theorem split_ok {ρ : Nat → Loc} {n : Nat} : ∀ (p : List PT) (vs : List Value) (c : List Sc), ValsOk p vs → LRel ρ n c (flatV p vs) →
    (splitA p c).length = vs.length ∧ ∀ (i : Nat) x v, (splitA p c)[i]? = some x → vs[i]? = some v → ARel ρ n x v
  | [], vs, c, hv, hc => by
    cases vs with
    | nil => exact ⟨rfl, fun i x v h => by simp [splitA] at h⟩
    | cons _ _ => cases hv
  | .inl t :: p, vs, c, hv, hc => by
    cases vs with
    | nil => cases hv
    | cons v vs =>
      cases c with
      | nil => exact absurd hc.1 (by simp [flatV])
      | cons s c =>
        obtain ⟨v', r, e, q1, q2⟩ := hc.inv
        cases e
        obtain ⟨e1, e2⟩ := split_ok p vs c hv q2
        refine ⟨by simp [splitA, e1], fun i x v a b => ?_⟩
        cases i with
        | zero => cases a; cases b; exact q1
        | succ i => exact e2 i x v (by simpa [splitA] using a) (by simpa using b)
  | .inr ts :: p, vs, c, hv, hc => by
    cases vs with
    | nil => cases hv
    | cons v vs =>
      obtain ⟨⟨cs, rfl, hsz⟩, hv⟩ := hv
      have hcl : cs.toList.length = ts.length := by simpa using hsz
      have hcc' : (Value.agg cs).cells.toList.length = ts.length := hcl
      simp only [flatV] at hc
      have hd : LRel ρ n (c.take ts.length) cs.toList := by
        refine ⟨?_, fun i s v a b => ?_⟩
        · have := hc.1
          rw [List.length_append] at this
          rw [List.length_take]
          omega
        · have hi : i < ts.length := by rw [← hcl]; exact (List.getElem?_eq_some_iff.1 b).1
          rw [List.getElem?_take, if_pos hi] at a
          refine hc.2 i s v a ?_
          rw [List.getElem?_append_left (by show i < cs.toList.length; omega)]; exact b
      have ht : LRel ρ n (c.drop ts.length) (flatV p vs) := by
        refine ⟨?_, fun i s v a b => ?_⟩
        · have := hc.1
          rw [List.length_append] at this
          rw [List.length_drop]
          omega
        · rw [List.getElem?_drop] at a
          refine hc.2 _ s v a ?_
          rw [List.getElem?_append_right (by omega), hcc', Nat.add_sub_cancel_left]; exact b
      obtain ⟨e1, e2⟩ := split_ok p vs _ hv ht
      refine ⟨by simp [splitA, e1], fun i x v a b => ?_⟩
      cases i with
      | zero => cases a; cases b; exact ⟨cs, rfl, hd⟩
      | succ i => exact e2 i x v (by simpa [splitA] using a) (by simpa using b)

/-! Shapes of arguments: known parts, others. -/
inductive Rp where
  | n (x : X)
  | b (x : B)
  | s (xs : List Int)
  | l (c : List Sc)
  | f (v : CV)
  /-- a list's term -/
  | tm (e : E)
  /-- so many rows, one behind another as a list's term -/
  | tb (n e : E)
def Rp.cv (t : CT) : Rp → CV
  | .n x => .n x.den
  | .b x => .b x.den
  | .s xs => .l xs
  | .f v => v
  | .tm e => .l e.dens
  | .tb q e => match t with
    | .lst ks => listCV ks (fun r c => e.D.2.getD (r * ks.length + c) 0) q.den.toNat
    | _ => .l []
  | .l c => match t with
    | .lst ks => listCV ks (rowsF ks.length c) (c.length / ks.length)
    | _ => .l []
def Rp.cell (t : CT) (r : Rp) (j : Nat) : Sc :=
  match t, r with
  | .sc (.int k), .n x => .int k x
  | .sc .bool, .b x => .bool x
  | .str, .s xs => .strf xs
  | .lst ks, .l c => .sl false j (.c 0) (.c ((c.length / ks.length : Nat) : Int)) ks.length
  | .lst ks, .f v => .sl false j (.c 0) (.sem (v.len : Int)) ks.length
  | .lst ks, .tm e => .sl false j (.c 0) (.ex (.ln e)) ks.length
  | .lst ks, .tb q _ => .sl false j (.c 0) (.ex q) ks.length
  | _, _ => .any
def Rp.obj (t : CT) (r : Rp) : List AO :=
  match t, r with
  | .lst ks, .l c => [.row false ks.length (.vals c)]
  | .lst ks, .f v => [objOf false ks v]
  | .lst [k], .tm e => [.row false 1 (.ex k e)]
  | .lst ks, .tb _ e => [.row false ks.length (.tb ks e)]
  | _, _ => []
def Rp.ok (t : CT) (r : Rp) : Bool :=
  match t, r with
  | .sc (.int _), .n _ => true
  | .sc .bool, .b _ => true
  | .str, .s _ => true
  | .lst ks, .l c => decide (0 < ks.length) && decide (c.length = (c.length / ks.length) * ks.length) && kdRows ks c (c.length / ks.length) 0
  | .lst _, .f _ => true
  | .lst [_], .tm _ => true
  | .lst (_ :: _ :: r), .tb q e => decide (0 ≤ q.den) && decide (e.D.2.length = q.den.toNat * (r.length + 2))
  | _, _ => false
def rpCVs : List CT → List Rp → List CV
  | t :: ts, r :: rs => r.cv t :: rpCVs ts rs
  | _, _ => []
def rpCells : List CT → List Rp → Nat → List Sc
  | t :: ts, r :: rs, j => r.cell t j :: rpCells ts rs (nextJ t j)
  | _, _, _ => []
def rpObjs : List CT → List Rp → St
  | t :: ts, r :: rs => r.obj t ++ rpObjs ts rs
  | _, _ => []
def rpsOk : List CT → List Rp → Bool
  | [], [] => true
  | t :: ts, r :: rs => r.ok t && rpsOk ts rs
  | _, _ => false

theorem listCV_len (ks : List Kd) (f : Nat → Nat → Int) (n : Nat) : (listCV ks f n).len = n := by
  unfold listCV
  split <;> simp [CV.len, listF, rowsL]
theorem listCV_fn {ks : List Kd} {f : Nat → Nat → Int} {n r c : Nat} (hr : r < n) (hc : c < ks.length) : (listCV ks f n).fn r c = f r c := by
  unfold listCV
  split
  · have : c = 0 := by simpa using hc
    subst this
    simp [CV.fn, listF, hr]
  · simp [CV.fn, rowsL, hr, hc]
theorem krel_of_kd {ρ : Nat → Loc} {n : Nat} {k : Kd} {s : Sc} {v : Value} (h : s.kd? = some k) (hs : KRel k s.vI v) : SRel ρ n s v := by
  cases s <;> simp only [Sc.kd?, Option.some.injEq, reduceCtorEq] at h <;> subst h
  · exact hs
  · exact hs.trans (by simp only [Sc.vI, iB_bI])
/-- the row of a list -/
theorem list_row {w : World} {ks : List Kd} {n : Nat} {f : Nat → Nat → Int} {x : Value} (h : ListV w ks n f x) (c : Cells) (hc : c.len = n * ks.length)
    (hat : ∀ i s, c.at i = some s → i < n * ks.length ∧ ∀ ρ m v, KRel (ks.getD (i % ks.length) .bool) (f (i / ks.length) (i % ks.length)) v → SRel ρ m s v) :
    ∃ L : Loc, (∀ (ρ : Nat → Loc) (m j : Nat) (len : X), j < m → ρ j = L → len.den = n → SRel ρ m (.sl false j (.c 0) len ks.length) x) ∧ (∀ ρ m, ORel ρ m w L (.row false ks.length c)) ∧ (L.live = true → L.block < w.heap.size) := by
  obtain ⟨h1, h2⟩ := h
  rcases h2 with ⟨rfl, rfl⟩ | ⟨l, A, hlive, hblk, rfl, hspot, hle, hA, hcell⟩ | ⟨rfl, A, rfl, hspot⟩
  rotate_left 2
  · refine ⟨⟨false, 0, 0, 0⟩, fun ρ m j len hj hρ hlen => ⟨0, 0, rfl, hlen, by omega, hj, .inr (.inr ⟨rfl, A, rfl, hspot⟩)⟩, fun ρ m => ⟨fun _ => by rw [hc, Nat.zero_mul], fun h => by cases h⟩, fun h => by cases h⟩
  · refine ⟨⟨false, 0, 0, 0⟩, fun ρ m j len hj hρ hlen => ⟨0, 0, rfl, hlen, by omega, hj, .inl ⟨rfl, rfl, rfl⟩⟩, fun ρ m => ⟨fun _ => by rw [hc, Nat.zero_mul], fun h => by cases h⟩, fun h => by cases h⟩
  · refine ⟨l, fun ρ m j len hj hρ hlen => ⟨0, n, rfl, hlen, h1, hj, .inr <| .inl ⟨A, l.cap, rfl, by rw [hρ]; exact hlive, hspot, hle, by rw [hρ, Nat.zero_add]; exact Nat.le_refl _, fun h => by rw [hρ, Nat.zero_mul, Nat.add_zero]; exact hA h⟩⟩,
      fun ρ m => ⟨fun h => (by rw [hlive] at h; cases h), fun _ => ⟨fun i s hs => ?_, fun h => by cases h⟩⟩, fun _ => hblk⟩
    obtain ⟨q1, q2⟩ := hat i s hs
    obtain ⟨v, v1, v2⟩ := hcell i q1
    exact ⟨v, v1, q2 _ _ _ v2⟩

theorem rp_one {w : World} {t : CT} {r : Rp} {x : Value} (hv : CellV w t (r.cv t) x) (hok : r.ok t = true) :
    (t.isL = false ∧ r.obj t = [] ∧ ∀ ρ m j, SRel ρ m (r.cell t j) x) ∨
    (t.isL = true ∧ ∃ (L : Loc) (o : AO), r.obj t = [o] ∧ o.own = false ∧ (∀ M pg, o ≠ .pmem M pg) ∧ (∀ (ρ : Nat → Loc) (m j : Nat), j < m → ρ j = L → SRel ρ m (r.cell t j) x) ∧ (∀ ρ m, ORel ρ m w L o) ∧ (L.live = true → L.block < w.heap.size)) := by
  cases t with
  | sc k =>
    cases k with
    | int k =>
      cases r <;> first | (cases hok; done) | skip
      obtain ⟨n, e, rfl, hh⟩ := hv
      cases e
      exact .inl ⟨rfl, rfl, fun ρ m j => ⟨rfl, hh⟩⟩
    | bool =>
      cases r <;> first | (cases hok; done) | skip
      obtain ⟨n, e, rfl⟩ := hv
      cases e
      exact .inl ⟨rfl, rfl, fun ρ m j => rfl⟩
  | str =>
    cases r <;> first | (cases hok; done) | skip
    obtain ⟨n, e, rfl, h1, h2⟩ := hv
    cases e
    exact .inl ⟨rfl, rfl, fun ρ m j => ⟨rfl, h1, h2⟩⟩
  | lst ks =>
    cases r with
    | n _ => cases hok
    | b _ => cases hok
    | s _ => cases hok
    | l c =>
      right
      refine ⟨rfl, ?_⟩
      simp only [Rp.ok, Bool.and_eq_true, decide_eq_true_eq] at hok
      obtain ⟨⟨hk, hlen⟩, hkr⟩ := hok
      obtain ⟨n, f, e, hl⟩ := hv
      have hn : n = c.length / ks.length := by
        have := congrArg CV.len e
        simp only [Rp.cv, listCV_len] at this
        exact this.symm
      subst hn
      obtain ⟨L, q1, q2, q3⟩ := list_row hl (.vals c) hlen fun i s hs => by
        have hi : i < c.length := (List.getElem?_eq_some_iff.1 hs).1
        have hi' : i < c.length / ks.length * ks.length := by omega
        have hr : i / ks.length < c.length / ks.length := (Nat.div_lt_iff_lt_mul hk).2 hi'
        have hc : i % ks.length < ks.length := Nat.mod_lt _ hk
        refine ⟨hi', fun ρ m v hkv => ?_⟩
        have hfe : f (i / ks.length) (i % ks.length) = s.vI := by
          have := congrArg (fun cv => CV.fn cv (i / ks.length) (i % ks.length)) e
          simp only [Rp.cv, listCV_fn hr hc] at this
          rw [← this]
          unfold rowsF
          rw [show i / ks.length * ks.length + i % ks.length = i by rw [Nat.mul_comm]; exact Nat.div_add_mod i ks.length]
          rw [List.getD_eq_getElem?_getD, show c[i]? = some s from hs]; rfl
        rw [hfe] at hkv
        have hkd := kdRows_get _ _ hkr _ hr
        rw [Nat.zero_add] at hkd
        have := (kdsAre_get _ _ hkd).2 (i % ks.length) s (by
          rw [List.getElem?_take, if_pos hc, List.getElem?_drop, show i / ks.length * ks.length + i % ks.length = i by rw [Nat.mul_comm]; exact Nat.div_add_mod i ks.length]
          exact hs)
        exact krel_of_kd this hkv
      exact ⟨L, .row false ks.length (.vals c), rfl, rfl, fun _ _ e => (by cases e), fun ρ m j hj hρ => q1 ρ m j (.c ((c.length / ks.length : Nat) : Int)) hj hρ rfl, q2, q3⟩
    | f cv =>
      right
      refine ⟨rfl, ?_⟩
      obtain ⟨n, f, e, hl⟩ := hv
      have e : cv = listCV ks f n := e
      subst e
      obtain ⟨L, q1, q2, q3⟩ := list_row hl (.fn (listCV ks f n).len ks (listCV ks f n).fn) (by rw [listCV_len]; rfl) fun i s hs => by
        have hlt := Cells.at_lt hs
        simp only [Cells.len, listCV_len] at hlt
        simp only [Cells.at] at hs
        split at hs
        · rename_i hh
          cases hs
          refine ⟨hlt, fun ρ m v hkv => ?_⟩
          rw [listCV_fn (by rw [← listCV_len ks f n]; exact hh.2) (Nat.mod_lt _ hh.1)]
          exact Kd.sc_rel.2 hkv
        · cases hs
      exact ⟨L, _, rfl, rfl, fun _ _ e => (by cases e), fun ρ m j hj hρ => q1 ρ m j _ hj hρ (by rw [show X.den (.sem ((listCV ks f n).len : Int)) = ((listCV ks f n).len : Int) from rfl, listCV_len]), q2, q3⟩
    | tm e =>
      right
      refine ⟨rfl, ?_⟩
      match ks, hok with
      | [k], _ =>
        obtain ⟨n, f, e0, hl⟩ := hv
        have hE : e.dens = listF f n := CV.l.inj (show CV.l e.dens = CV.l (listF f n) from e0)
        have hn : e.dens.length = n := by rw [hE]; simp [listF]
        obtain ⟨L, q1, q2, q3⟩ := list_row hl (.ex k e) (by show e.dens.length = _; simp [hn]) fun i s hs => by
          simp only [Cells.at] at hs
          split at hs
          · rename_i hi
            cases hs
            have hi : i < e.dens.length := hi
            refine ⟨by simp; omega, fun ρ m v hkv => ?_⟩
            have e1 : i % 1 = 0 := by omega
            have e2 : i / 1 = i := by omega
            simp only [List.length_singleton, e1, e2, List.getD_cons_zero] at hkv
            have : e.D.2.getD i 0 = f i 0 := by
              show e.dens.getD i 0 = _
              rw [hE, List.getD_eq_getElem?_getD, listF, List.getElem?_map, List.getElem?_range (by omega)]; rfl
            rw [this]
            exact Kd.sc_rel.2 hkv
          · cases hs
        exact ⟨L, _, rfl, rfl, fun _ _ e => (by cases e), fun ρ m j hj hρ => q1 ρ m j (.ex (.ln e)) hj hρ (by show ((e.dens.length : Nat) : Int) = _; rw [hn]), q2, q3⟩
    | tb ne e =>
      right
      refine ⟨rfl, ?_⟩
      obtain ⟨hn0, hlen⟩ : 0 ≤ ne.den ∧ e.D.2.length = ne.den.toNat * ks.length := by
        match ks, hok with
        | _ :: _ :: r, hok =>
          simp only [Rp.ok, Bool.and_eq_true, decide_eq_true_eq] at hok
          exact hok
      obtain ⟨n, f, e0, hl⟩ := hv
      have e0 : listCV ks (fun r c => e.D.2.getD (r * ks.length + c) 0) ne.den.toNat = listCV ks f n := e0
      have hN : ne.den.toNat = n := by have := congrArg CV.len e0; rwa [listCV_len, listCV_len] at this
      have hF : ∀ r c, r < n → c < ks.length → e.D.2.getD (r * ks.length + c) 0 = f r c := fun r c hr hc => by
        have : CV.fn (listCV ks (fun r c => e.D.2.getD (r * ks.length + c) 0) ne.den.toNat) r c = CV.fn (listCV ks f n) r c := by rw [e0]
        rw [listCV_fn (by omega) hc, listCV_fn hr hc] at this
        exact this
      rw [hN] at hlen
      obtain ⟨L, q1, q2, q3⟩ := list_row hl (.tb ks e) hlen fun i s hs => by
        simp only [Cells.at] at hs
        split at hs
        · rename_i hi
          cases hs
          have hi : i < n * ks.length := by rw [← hlen]; exact hi
          refine ⟨hi, fun ρ m v hkv => ?_⟩
          have hw : 0 < ks.length := by
            rcases Nat.eq_zero_or_pos ks.length with h0 | h0
            · rw [h0, Nat.mul_zero] at hi; omega
            · exact h0
          have := hF (i / ks.length) (i % ks.length) ((Nat.div_lt_iff_lt_mul hw).2 hi) (Nat.mod_lt _ hw)
          rw [Nat.div_add_mod'] at this
          rw [this]
          exact Kd.sc_rel.2 hkv
        · cases hs
      exact ⟨L, _, rfl, rfl, fun _ _ e => (by cases e), fun ρ m j hj hρ => q1 ρ m j (.ex ne) hj hρ (by show ne.den = _; omega), q2, q3⟩
theorem rp_rel {w : World} : ∀ (ts : List CT) (rps : List Rp) (vs : List Value) (j : Nat), AllV w ts (rpCVs ts rps) vs → rpsOk ts rps = true →
    ∃ Ls : List Loc, Ls.length = (rpObjs ts rps).length ∧ (∀ (ρ : Nat → Loc) (m : Nat), j + Ls.length ≤ m → (∀ i, i < Ls.length → ρ (j + i) = Ls.getD i ⟨false, 0, 0, 0⟩) → LRel ρ m (rpCells ts rps j) vs) ∧
      ∀ (i : Nat) L o, Ls[i]? = some L → (rpObjs ts rps)[i]? = some o → o.own = false ∧ (∀ ρ m, ORel ρ m w L o) ∧ (L.live = true → L.block < w.heap.size)
  | [], [], vs, j, hv, _ => by
    cases vs with
    | nil => exact ⟨[], rfl, fun _ _ _ _ => .nil, fun i L o h => by simp at h⟩
    | cons _ _ => cases hv
  | [], _ :: _, _, _, _, h => by cases h
  | _ :: _, [], _, _, _, h => by cases h
  | t :: ts, r :: rps, vs, j, hv, hok => by
    cases vs with
    | nil => cases hv
    | cons v vs =>
      simp only [rpsOk, Bool.and_eq_true] at hok
      obtain ⟨hv1, hv2⟩ := hv
      rcases rp_one hv1 hok.1 with ⟨h1, h2, h3⟩ | ⟨h1, L, o, h2, h3, h4, h5, h6, h7⟩
      · obtain ⟨Ls, q1, q2, q3⟩ := rp_rel ts rps vs j hv2 hok.2
        refine ⟨Ls, by rw [rpObjs, h2]; exact q1, fun ρ m hm hρ => ?_, by rw [rpObjs, h2]; exact q3⟩
        rw [rpCells, nextJ, h1]
        exact .cons (h3 ρ m j) (q2 ρ m hm hρ)
      · obtain ⟨Ls, q1, q2, q3⟩ := rp_rel ts rps vs (j + 1) hv2 hok.2
        refine ⟨L :: Ls, by rw [rpObjs, h2]; simp [q1], fun ρ m hm hρ => ?_, fun i L' o' a b => ?_⟩
        · rw [rpCells, nextJ, h1]
          simp only [if_true]
          rw [List.length_cons] at hm hρ
          refine .cons (h5 ρ m j (by omega) (by have := hρ 0 (by omega); simpa using this)) (q2 ρ m (by omega) fun i hi => ?_)
          have := hρ (i + 1) (by omega)
          rw [show j + 1 + i = j + (i + 1) by omega, this]
          simp
        · rw [rpObjs, h2] at b
          cases i with
          | zero => cases a; cases b; exact ⟨h3, h6, h7⟩
          | succ i => exact q3 i L' o' (by simpa using a) (by simpa using b)
/-- a placement of the shapes -/
theorem rp_place {w : World} {ts : List CT} {rps : List Rp} {vs : List Value} (hv : AllV w ts (rpCVs ts rps) vs) (hok : rpsOk ts rps = true) :
    ∃ ρ : Nat → Loc, Rel ρ (rpObjs ts rps) w ∧ LRel ρ (rpObjs ts rps).length (rpCells ts rps 0) vs ∧ ∀ i, ¬ owned ρ (rpObjs ts rps) i := by
  obtain ⟨Ls, q1, q2, q3⟩ := rp_rel ts rps vs 0 hv hok
  have hget : ∀ i, i < (rpObjs ts rps).length → ∃ L o, Ls[i]? = some L ∧ (rpObjs ts rps)[i]? = some o ∧ (rpObjs ts rps).at i = o ∧ Ls.getD i ⟨false, 0, 0, 0⟩ = L := by
    intro i hi
    have h1 : i < Ls.length := by omega
    refine ⟨Ls[i], (rpObjs ts rps)[i], List.getElem?_eq_getElem h1, List.getElem?_eq_getElem hi, ?_, ?_⟩
    · rw [at_eq, List.getElem?_eq_getElem hi]; rfl
    · simp [h1]
  have hno : ∀ i, ¬ owned (fun i => Ls.getD i ⟨false, 0, 0, 0⟩) (rpObjs ts rps) i := by
    intro i hi
    obtain ⟨L, o, a, b, c, d⟩ := hget i hi.used.lt
    have := hi.2
    rw [c, (q3 i L o a b).1] at this
    cases this
  refine ⟨fun i => Ls.getD i ⟨false, 0, 0, 0⟩, ⟨fun i => ?_, fun i j _ h1 => (hno i h1).elim, fun i h1 => ?_⟩, q2 _ _ (by omega) (fun i hi => by rw [Nat.zero_add]), hno⟩
  · rcases Nat.lt_or_ge i (rpObjs ts rps).length with hi | hi
    · obtain ⟨L, o, a, b, c, d⟩ := hget i hi
      rw [c]
      simp only [d]
      exact (q3 i L o a b).2.1 _ _
    · rw [at_ge hi]; exact True.intro
  · obtain ⟨L, o, a, b, c, d⟩ := hget i h1.lt
    have h2 := h1.1
    simp only [d] at h2 ⊢
    exact (q3 i L o a b).2.2 h2

/-! Results: no lists. -/
def resVals (rts : List PT) (v : Value) : List Value :=
  match rts with
  | [_] => [v]
  | _ => match v with
    | .tuple l => l.toList
    | _ => []
def ResV (w : World) (rts : List PT) (res : List CV) (v : Value) : Prop :=
  (rts.length ≠ 1 → ∃ l, v = .tuple l) ∧ ValsOk rts (resVals rts v) ∧ AllV w (flatT rts) res (flatV rts (resVals rts v))
def resFlat (rts : List PT) (v : AV) : Option (List Sc) :=
  match rts with
  | [p] => flatA [p] [v]
  | ps => match v with
    | .tup l => flatA ps (l.map AV.ofPart)
    | _ => none
def resDen (rts : List PT) (x : AV × St) : Option (List CV) :=
  match resFlat rts x.1 with
  | some c => match cellsIn x.2 (flatT rts) c with
    | some (cvs, g) => bif g.den then some cvs else none
    | none => none
  | none => none
def Calm (w w' : World) : Prop := w'.os = w.os ∧ w'.tape = w.tape ∧ w'.output = w.output ∧ w.heap.size ≤ w'.heap.size ∧ ∀ b, b < w.heap.size → w'.heap[b]? = w.heap[b]?
/-- a function makes these of those -/
def PureSem (P : Program) (g : FuncId) (pts rts : List PT) (cvs res : List CV) : Prop :=
  ∀ (w : World) (vals : Array Value), ValsOk pts vals.toList → AllV w (flatT pts) cvs (flatV pts vals.toList) →
    Calls P g vals w fun e w' => ∃ val, e = .returned val ∧ ResV w' rts res val ∧ Calm w w'

theorem arel_ofPart {ρ : Nat → Loc} {n : Nat} {p : Part} {v : Value} (h : PRel ρ n p v) : ARel ρ n (AV.ofPart p) v := by cases p <;> exact h
theorem resFlat_np {rts : List PT} {v : AV} {c : List Sc} (h : resFlat rts v = some c) : v.panB = false := by
  unfold resFlat at h
  split at h
  · rename_i p
    cases v <;> first | rfl | (cases p <;> cases h)
  · split at h
    · rfl
    · cases h
theorem flat_rel2 {ρ : Nat → Loc} {n : Nat} {rts : List PT} {v : AV} {val : Value} {c : List Sc} (h : resFlat rts v = some c) (hv : ARel ρ n v val) :
    (rts.length ≠ 1 → ∃ l, val = .tuple l) ∧ ValsOk rts (resVals rts val) ∧ LRel ρ n c (flatV rts (resVals rts val)) := by
  unfold resFlat at h
  split at h
  · rename_i p
    have e : resVals [p] val = [val] := rfl
    rw [e]
    have hr : ∀ (i : Nat) x y, [v][i]? = some x → [val][i]? = some y → ARel ρ n x y := by
      intro i x y a b
      cases i with
      | zero => cases a; cases b; exact hv
      | succ i => simp at a
    exact ⟨fun h => (h rfl).elim, valsOk_of [p] [v] [val] c rfl hr h, flat_rel [p] [v] [val] c rfl hr h⟩
  · rename_i hne
    split at h
    · rename_i l
      obtain ⟨vs, rfl, h1, h2⟩ := hv
      have e : resVals rts (.tuple vs) = vs.toList := by
        unfold resVals
        split
        · rename_i p; exact (hne p rfl).elim
        · rfl
      rw [e]
      have hr : ∀ (i : Nat) x y, (l.map AV.ofPart)[i]? = some x → vs.toList[i]? = some y → ARel ρ n x y := by
        intro i x y a b
        rw [List.getElem?_map] at a
        obtain ⟨p, hp, rfl⟩ := Option.map_eq_some_iff.1 a
        exact arel_ofPart (h2 i p y hp (by simpa using b))
      exact ⟨fun _ => ⟨vs, rfl⟩, valsOk_of rts _ _ c (by simp [h1]) hr h, flat_rel rts _ _ c (by simp [h1]) hr h⟩
    · cases h

theorem Rel.calm {ρ : Nat → Loc} {σ : St} {w w' : World} (hr : Rel ρ σ w) (h : Calm w w') : Rel ρ σ w' ∧ Ext ρ σ w ρ σ w' := by
  obtain ⟨h1, h2, h3, h4, h5⟩ := h
  have fk : ∀ i, used ρ σ i → ∀ b, foot w' (ρ i) (σ.at i) b → foot w (ρ i) (σ.at i) b := fun i hu b hb => (foot_keep (h5 _ (hr.bnd i hu))).1 hb
  refine ⟨⟨fun i => (hr.obj i).mono (fun _ _ => rfl) (Nat.le_refl _) fun hl hd b hb => h5 b (hr.fbnd ⟨hl, hd⟩ hb), fun i j hij a1 a2 b b1 b2 => hr.sep i j hij a1 a2 b (fk i a1.used b b1) (fk j a2 b b2), fun i hu => Nat.lt_of_lt_of_le (hr.bnd i hu) h4⟩,
    ⟨Nat.le_refl _, fun _ _ => rfl, h1, h2, h3, h4, fun b hb _ => h5 b hb, fun i hi b hb => .inl ⟨i, hi, fk i hi.used b hb⟩⟩⟩

abbrev Con := List AV → St → Out (AV × St)
def scT : CT → Bool
  | .lst _ => false
  | _ => true
/-- as a contract -/
def pCon (pts rts : List PT) (pre : List CV → B) (F : List CV → List Rp) : Con := fun args σ =>
  match (flatA pts args).bind (cellsIn σ (flatT pts)) with
  | none => .fail "contract"
  | some (cvs, g) => .guard g (.guard (pre cvs) (.ok (resAV rts (rpCells (flatT rts) (F cvs) 0), σ)))
theorem rp_out {w : World} {ρ : Nat → Loc} {n : Nat} : ∀ (ts : List CT) (rps : List Rp) (vs : List Value) (j : Nat), ts.all scT = true → rpsOk ts rps = true → AllV w ts (rpCVs ts rps) vs → LRel ρ n (rpCells ts rps j) vs
  | [], [], [], _, _, _, _ => .nil
  | [], [], _ :: _, _, _, _, h => by cases h
  | [], _ :: _, _, _, _, h, _ => by cases h
  | _ :: _, [], _, _, _, h, _ => by cases h
  | _ :: _, _ :: _, [], _, _, _, h => by cases h
  | t :: ts, r :: rs, v :: vs, j, hs, hok, h => by
    simp only [List.all_cons, Bool.and_eq_true] at hs
    simp only [rpsOk, Bool.and_eq_true] at hok
    refine .cons ?_ (rp_out ts rs vs _ hs.2 hok.2 h.2)
    rcases rp_one h.1 hok.1 with ⟨_, _, h3⟩ | ⟨h1, _⟩
    · exact h3 ρ n j
    · cases t with
      | lst ks => cases hs.1
      | _ => cases h1
theorem resAV_rel {ρ : Nat → Loc} {n : Nat} {rts : List PT} {c : List Sc} {val : Value} (h1 : rts.length ≠ 1 → ∃ l, val = .tuple l) (h2 : ValsOk rts (resVals rts val)) (h3 : LRel ρ n c (flatV rts (resVals rts val))) :
    ARel ρ n (resAV rts c) val ∧ (resAV rts c).panB = false := by
  obtain ⟨e1, e2⟩ := split_ok rts _ c h2 h3
  have hpart : ∀ x, x ∈ splitA rts c → ∃ p, x.part? = some p ∧ x.panB = false := by
    have : ∀ (rts : List PT) (c : List Sc) x, x ∈ splitA rts c → ∃ p, x.part? = some p ∧ x.panB = false := by
      intro rts
      induction rts with
      | nil => intro c x hx; cases hx
      | cons p r ih =>
        intro c x hx
        cases p with
        | inl t =>
          rcases List.mem_cons.1 hx with rfl | hx
          · exact ⟨_, rfl, rfl⟩
          · exact ih _ x hx
        | inr t =>
          rcases List.mem_cons.1 hx with rfl | hx
          · exact ⟨_, rfl, rfl⟩
          · exact ih _ x hx
    exact this rts c
  have hsl : ∀ (rts : List PT) (c : List Sc), (splitA rts c).length = rts.length := by
    intro rts
    induction rts with
    | nil => intro c; rfl
    | cons p r ih => intro c; cases p <;> simp [splitA, ih]
  unfold resAV
  split
  · rename_i a ha
    have hl := hsl rts c
    rw [ha] at hl
    obtain ⟨p, rfl⟩ : ∃ p, rts = [p] := by
      cases rts with
      | nil => cases hl
      | cons p r => cases r with
        | nil => exact ⟨p, rfl⟩
        | cons _ _ => simp at hl
    refine ⟨e2 0 a val (by rw [ha]; rfl) rfl, ?_⟩
    obtain ⟨q, _, hq⟩ := hpart a (by rw [ha]; simp)
    exact hq
  · rename_i hne
    refine ⟨?_, rfl⟩
    have hlen : rts.length ≠ 1 := by
      intro h
      have := hsl rts c
      rw [h] at this
      cases hx : splitA rts c with
      | nil => rw [hx] at this; cases this
      | cons a r => cases r with
        | nil => exact hne a hx
        | cons _ _ => rw [hx] at this; simp at this
    obtain ⟨l, rfl⟩ := h1 hlen
    have e : resVals rts (.tuple l) = l.toList := by
      unfold resVals
      split
      · rename_i p; exact (hlen rfl).elim
      · rfl
    rw [e] at e1 e2
    refine ⟨l, rfl, ?_, ?_⟩
    · rw [filterMap_len _ hpart, e1]; simp
    · intro i p x a b
      obtain ⟨y, hy, hp⟩ := filterMap_get _ hpart i p a
      have := e2 i y x hy (by simpa using b)
      exact part?_rel this hp
where
  filterMap_len : ∀ (l : List AV), (∀ x, x ∈ l → ∃ p, x.part? = some p ∧ x.panB = false) → (l.filterMap AV.part?).length = l.length
  | [], _ => rfl
  | a :: l, h => by
    obtain ⟨p, hp, _⟩ := h a (by simp)
    rw [List.filterMap_cons, hp]
    simp [filterMap_len l fun x hx => h x (by simp [hx])]
  filterMap_get : ∀ (l : List AV), (∀ x, x ∈ l → ∃ p, x.part? = some p ∧ x.panB = false) → ∀ (i : Nat) p, (l.filterMap AV.part?)[i]? = some p → ∃ y, l[i]? = some y ∧ y.part? = some p
  | [], _, i, p, h => by simp at h
  | a :: l, h, i, p, hi => by
    obtain ⟨q, hq, _⟩ := h a (by simp)
    rw [List.filterMap_cons, hq] at hi
    cases i with
    | zero => cases hi; exact ⟨a, rfl, hq⟩
    | succ i => exact filterMap_get l (fun x hx => h x (by simp [hx])) i p (by simpa using hi)
theorem pCon_sound {P : Program} {g : FuncId} {pts rts : List PT} {pre : List CV → B} {F : List CV → List Rp} (hf : ∃ fn, P.funcs[g]? = some fn ∧ fn.body.isSome = true) (hr : (flatT rts).all scT = true)
    (h : ∀ cvs, (pre cvs).den = true → (∃ w vs, AllV w (flatT pts) cvs vs) → rpsOk (flatT rts) (F cvs) = true ∧ PureSem P g pts rts cvs (rpCVs (flatT rts) (F cvs))) : ∀ args σ v σ', (pCon pts rts pre F args σ).run = some (v, σ') → Den P g args σ v σ' := by
  intro args σ v σ' hrun
  unfold pCon at hrun
  split at hrun
  · cases hrun
  · rename_i cvs g' hin
    obtain ⟨c, hc1, hc2⟩ := Option.bind_eq_some_iff.1 hin
    obtain ⟨hg, hrun⟩ := guard_some hrun
    obtain ⟨hpre, hrun⟩ := guard_some hrun
    cases hrun
    refine ⟨hf, fun ρ w vals hrel _ hv => ?_⟩
    have hv2 : ∀ (i : Nat) x y, args[i]? = some x → vals.toList[i]? = some y → ARel ρ σ.length x y := fun i x y a b => hv.2 i x y a (by simpa using b)
    have hlen : args.length = vals.toList.length := by simpa using hv.1
    have hvo := valsOk_of pts args vals.toList c hlen hv2 hc1
    have hlr := flat_rel pts args vals.toList c hlen hv2 hc1
    have hall := cells_in hrel _ _ _ _ _ hlr hc2 hg
    obtain ⟨hok, hsem⟩ := h cvs hpre ⟨w, _, hall⟩
    refine (hsem w vals hvo hall).mono fun e w' he => ?_
    obtain ⟨val, rfl, ⟨r1, r2, r3⟩, hcalm⟩ := he
    obtain ⟨k1, k2⟩ := hrel.calm hcalm
    obtain ⟨k3, k4⟩ := resAV_rel r1 r2 (rp_out (ρ := ρ) (n := σ.length) _ _ _ 0 hr hok r3)
    exact ⟨val, ρ, by unfold EndIs; rw [k4]; rfl, k3, k1, k2⟩

/-! For a row. -/
theorem Calm.below {w w' : World} (h : Calm w w') : Go.RowKit.Below w.heap.size w w' := ⟨h.1, h.2.1, h.2.2.1, h.2.2.2.1, h.2.2.2.2⟩

end Go.SX
