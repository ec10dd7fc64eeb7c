/- Slices, strings, maps, appends. -/
import Derived.Test.YtfacghikjnjjmaaSx5
namespace Go.SX
open Go
set_option linter.unusedSectionVars false
variable [Env]

section
variable {P : Program} {a : Act} {ρ : Nat → Loc} {σ : St} {w : World} {f : Fr} {o : Oper}

theorem asInt_run {k : IntKind} {i : Int} : (asIntOf (.int k i)).run P w = .ok (k, i) w := rfl

theorem sliceBound_run {x : Value} {y i : Nat} {k : IntKind} {c : BoundsCode} (hx : x = .int k (i : Int)) (h : i ≤ y) : (Instr.sliceBound x y c).run P w = .ok i w := by
  subst hx
  simp only [Instr.sliceBound, Sem.run_bind, asInt_run, Result.andThen_ok]
  rw [if_pos (by omega)]
  simp

/-- a bound, as the model has it -/
def BndIs (d n : Int) : Option Value → Prop
  | none => n = d
  | some v => ∃ k, v = .int k n
theorem boundE_some {α : Type} {n : Nat} {d : X} {s : Option Sc} {v : Option Value} {k : X → Out α} {r : α}
    (hs : match s, v with | none, none => True | some s, some v => SRel ρ n s v | _, _ => False) (h : (boundE d s k).run = some r) : ∃ m, BndIs d.den m.den v ∧ (k m).run = some r := by
  cases s with
  | none =>
    cases v with
    | none => exact ⟨d, rfl, h⟩
    | some v => exact hs.elim
  | some s =>
    cases v with
    | none => exact hs.elim
    | some v =>
      obtain ⟨kd, x, e, h2⟩ := num_some h
      subst e
      exact ⟨x, ⟨kd, hs.1⟩, h2⟩
theorem le_den (x y : X) : (B.le x y).den = true ↔ x.den ≤ y.den := by
  unfold B.le
  rw [mkNot_den, mkLt_den, Bool.not_eq_true', decide_eq_false_iff_not]
  omega
theorem lt_den (x y : X) : (B.mkLt x y).den = true ↔ x.den < y.den := by
  rw [mkLt_den, decide_eq_true_eq]

theorem bounds_run {len cap l h' : Nat} {vlo vhi : Option Value} {isSl : Bool} (hlo : BndIs 0 l vlo) (hhi : BndIs len h' vhi) (hl : l ≤ h') (hh : h' ≤ len) (hcap : len ≤ cap) :
    (Instr.sliceBounds isSl len cap vlo vhi none).run P w = .ok (l, h', cap) w := by
  cases vhi with
  | none =>
    have e1 : h' = len := by have : (h' : Int) = len := hhi; omega
    subst e1
    cases vlo with
    | none =>
      have e2 : l = 0 := by have : (l : Int) = 0 := hlo; omega
      subst e2
      simp [Instr.sliceBounds]
    | some v =>
      obtain ⟨k, e2⟩ := hlo
      simp [Instr.sliceBounds, sliceBound_run e2 hl]
  | some u =>
    obtain ⟨k', e1⟩ := hhi
    have hx := sliceBound_run (P := P) (w := w) (c := if isSl = true then .sliceAcap else .sliceAlen) e1 (show h' ≤ cap by omega)
    cases vlo with
    | none =>
      have e2 : l = 0 := by have : (l : Int) = 0 := hlo; omega
      subst e2
      simp [Instr.sliceBounds, hx]
    | some v =>
      obtain ⟨k, e2⟩ := hlo
      simp [Instr.sliceBounds, hx, sliceBound_run e2 hl]

/-- the bounds of a slice expression -/
theorem boundsE_some {α : Type} {n : Nat} {len : X} {lo hi : Option Sc} {vlo vhi : Option Value} {k : X → X → Out α} {r : α}
    (hlo : match lo, vlo with | none, none => True | some s, some v => SRel ρ n s v | _, _ => False)
    (hhi : match hi, vhi with | none, none => True | some s, some v => SRel ρ n s v | _, _ => False)
    (h : (boundsE len lo hi k).run = some r) : ∃ (l h' : X) (ln hn : Nat), l.den = ln ∧ h'.den = hn ∧ ln ≤ hn ∧ (hn : Int) ≤ len.den ∧ BndIs 0 ln vlo ∧ BndIs len.den hn vhi ∧ (k l h').run = some r := by
  unfold boundsE at h
  obtain ⟨hh, b1, h⟩ := boundE_some hhi h
  obtain ⟨ll, b2, h⟩ := boundE_some hlo h
  obtain ⟨g1, h⟩ := guard_some h
  obtain ⟨g2, h⟩ := guard_some h
  obtain ⟨g3, h⟩ := guard_some h
  rw [le_den] at g1 g2 g3
  have g1 : 0 ≤ ll.den := g1
  have e1 : ((ll.den.toNat : Nat) : Int) = ll.den := by omega
  have e2 : ((hh.den.toNat : Nat) : Int) = hh.den := by omega
  exact ⟨ll, hh, ll.den.toNat, hh.den.toNat, e1.symm, e2.symm, by omega, by omega, by rw [e1]; exact b2, by rw [e2]; exact b1, h⟩

/-- of a slice that is read cell by cell, its cells -/
theorem sliceCells_rel {s : Sc} {x : Value} {c : List Sc} (hr : Rel ρ σ w) (hs : SRel ρ σ.length s x) (h : sliceCells σ s = some c) :
    (s = .nils ∧ x = .slice none 0 0 ∧ c = []) ∨
    (∃ nn id off len sz, s = .sl nn id (.c (off : Nat)) (.c (len : Nat)) sz ∧ c.length = len * sz ∧ len ≤ big ∧
      ((nn = false ∧ len = 0 ∧ x = .slice none 0 0) ∨
       (∃ A k vs, x = .slice (some A) len k ∧ A.spot = none ∧ len ≤ k ∧ (ρ id).live = true ∧ off + k ≤ (ρ id).cap ∧ (0 < k → A = ⟨(ρ id).block, (ρ id).base + off * sz, none⟩) ∧ vs.length = len * sz ∧ LRel ρ σ.length c vs ∧
         (∀ (j : Nat) v, vs[j]? = some v → w.cell? (A.add j) = some v)) ∨
       (len = 0 ∧ ∃ A, x = .slice (some A) 0 0 ∧ A.spot = none))) := by
  cases s with
  | nils => cases h; exact .inl ⟨rfl, hs, rfl⟩
  | sl nn id off len sz =>
    obtain ⟨o, m, ho, hm, hbig, hsl⟩ := hs
    cases off with
    | sem _ => cases h
    | ex _ => cases h
    | c off =>
      cases len with
      | sem _ => cases h
      | ex _ => cases h
      | c len =>
        have ho : off = o := ho
        have hm : len = m := hm
        subst ho; subst hm
        simp only [sliceCells, Int.toNat_natCast] at h
        refine .inr ⟨nn, id, o, m, sz, rfl, ?_⟩
        have hob := hr.obj id
        split at h
        · rename_i own z l hat
          split at h
          · rename_i hc
            cases h
            have hlen : ((l.drop (o * sz)).take (m * sz)).length = m * sz := by simp; omega
            refine ⟨hlen, hbig, ?_⟩
            rcases hsl.2 with ⟨e1, e2, e3⟩ | ⟨A, k, e1, hlive, hspot, e2, e3, e4⟩ | hz
            · exact .inl ⟨e1, e2, e3⟩
            rotate_left
            · exact .inr (.inr hz)
            · right; left
              rw [hat] at hob
              obtain ⟨vs, v1, v2, v3⟩ := cells_at (off := o * sz) (hob.2 hlive).1 hlen fun j s hj => by
                have hlt : j < m * sz := by
                  rcases Nat.lt_or_ge j (m * sz) with h' | h'
                  · exact h'
                  · rw [List.getElem?_take, if_neg (by omega)] at hj; cases hj
                rw [List.getElem?_take, if_pos hlt, List.getElem?_drop] at hj
                exact ⟨s, hj, fun v h => h⟩
              refine ⟨A, k, vs, e1, hspot, e2, hlive, e3, e4, v1, v2, fun j v hj => ?_⟩
              have hi : j < m * sz := by rw [← v1]; exact (List.getElem?_eq_some_iff.1 hj).1
              have hk : 0 < k := by
                rcases Nat.eq_zero_or_pos k with h0 | h0
                · have : m = 0 := by omega
                  subst this; omega
                · exact h0
              rw [e4 hk, Addr.add_lit]
              exact v3 j v hj
          · cases h
        · cases h
  | _ => cases h

/-- cells r, 0 .. of rows by a function -/
def rowVals (ks : List Kd) (f : Nat → Nat → Int) (n : Nat) : List Sc := (List.range (n * ks.length)).map fun i => (ks.getD (i % ks.length) .bool).sc (f (i / ks.length) (i % ks.length))
theorem kdRows_get {ks : List Kd} {l : List Sc} : ∀ (n i : Nat), kdRows ks l n i = true → ∀ r, r < n → kdsAre ks ((l.drop (i + r * ks.length)).take ks.length) = true
  | 0, i, _, r, hr => by omega
  | n + 1, i, h, r, hr => by
    simp only [kdRows, Bool.and_eq_true] at h
    cases r with
    | zero => simpa using h.1
    | succ r =>
      have := kdRows_get n (i + ks.length) h.2 r (by omega)
      rw [show i + (r + 1) * ks.length = i + ks.length + r * ks.length by rw [Nat.add_mul, Nat.one_mul]; omega]
      exact this

/-- a slice, as rows by a function -/
theorem semRows_rel {ks : List Kd} {s : Sc} {x : Value} {n : X} {f : Nat → Nat → Int} {g : B} (hr : Rel ρ σ w) (hs : SRel ρ σ.length s x) (h : semRows σ ks s = some (n, f, g)) (hg : g.den = true) :
    ∃ m : Nat, n.den = m ∧ m ≤ big ∧ ((m = 0 ∧ x = .slice none 0 0) ∨
      ∃ A k vs, x = .slice (some A) m k ∧ m ≤ k ∧ vs.length = m * ks.length ∧ (∀ (j : Nat) v, vs[j]? = some v → w.cell? (A.add j) = some v) ∧ LRel ρ σ.length (rowVals ks f m) vs) := by
  cases s with
  | nils => cases h; exact ⟨0, rfl, Nat.zero_le _, .inl ⟨rfl, hs⟩⟩
  | sl nn id off len sz =>
    obtain ⟨o, m, ho, hm, hbig, hsl⟩ := hs
    simp only [semRows] at h
    split at h
    · rename_i hsz
      subst hsz
      have hob := hr.obj id
      have main : ∀ {own : Bool} {z : Nat} {c : Cells}, σ.at id = .row own z c → n = len → (∀ r c', r < m → c' < ks.length → ∃ s', c.at ((o + r) * ks.length + c') = some s' ∧ ∀ v, SRel ρ σ.length s' v → SRel ρ σ.length ((ks.getD c' .bool).sc (f r c')) v) →
          ∃ m : Nat, n.den = m ∧ m ≤ big ∧ ((m = 0 ∧ x = .slice none 0 0) ∨ ∃ A k vs, x = .slice (some A) m k ∧ m ≤ k ∧ vs.length = m * ks.length ∧ (∀ (j : Nat) v, vs[j]? = some v → w.cell? (A.add j) = some v) ∧ LRel ρ σ.length (rowVals ks f m) vs) := by
        intro own z c hat hn hcell
        subst hn
        refine ⟨m, hm, hbig, ?_⟩
        rcases hsl.2 with ⟨e1, e2, e3⟩ | ⟨A, k, e1, hlive, hspot, e2, e3, e4⟩ | ⟨hz, A, e1, e2⟩
        · exact .inl ⟨e2, e3⟩
        rotate_left
        · subst hz
          refine .inr ⟨A, 0, [], e1, Nat.le_refl _, by simp, fun j v hj => by simp at hj, ?_⟩
          simp only [rowVals, Nat.zero_mul, List.range_zero, List.map_nil]
          exact ⟨rfl, fun i s v h => by simp at h⟩
        · right
          rw [hat] at hob
          have hrl : (rowVals ks f m).length = m * ks.length := by simp [rowVals]
          obtain ⟨vs, v1, v2, v3⟩ := cells_at (off := o * ks.length) (hob.2 hlive).1 hrl fun j s hj => by
            have hlt : j < m * ks.length := by rw [← hrl]; exact (List.getElem?_eq_some_iff.1 hj).1
            have hkp : 0 < ks.length := by
              rcases Nat.eq_zero_or_pos ks.length with h0 | h0
              · rw [h0, Nat.mul_zero] at hlt; omega
              · exact h0
            simp only [rowVals, List.getElem?_map, List.getElem?_range hlt, Option.map_some, Option.some.injEq] at hj
            subst hj
            obtain ⟨s', q1, q2⟩ := hcell (j / ks.length) (j % ks.length) ((Nat.div_lt_iff_lt_mul hkp).2 hlt) (Nat.mod_lt _ hkp)
            refine ⟨s', ?_, q2⟩
            rw [← q1]
            congr 1
            have := Nat.div_add_mod j ks.length
            rw [Nat.add_mul, Nat.mul_comm (j / ks.length)]
            omega
          refine ⟨A, k, vs, e1, e2, v1, fun j v hj => ?_, v2⟩
          have hi : j < m * ks.length := by rw [← v1]; exact (List.getElem?_eq_some_iff.1 hj).1
          have hk : 0 < k := by
            rcases Nat.eq_zero_or_pos k with h0 | h0
            · have : m = 0 := by omega
              subst this; omega
            · exact h0
          rw [e4 hk, Addr.add_lit]
          exact v3 j v hj
      split at h
      · rename_i own z l hat
        split at h
        · rename_i hkr
          cases h
          rw [le_den, plus_den] at hg
          have hg : off.den + n.den ≤ ((l.length / ks.length : Nat) : Int) := hg
          refine main hat rfl fun r c' hr' hc' => ?_
          have hkp : 0 < ks.length := by omega
          have hrow : o + r < l.length / ks.length := by omega
          have hlt : (o + r) * ks.length + c' < l.length := by
            have h1 := Nat.mul_le_mul_right ks.length (show o + r + 1 ≤ l.length / ks.length by omega)
            have h2 := Nat.div_mul_le_self l.length ks.length
            rw [Nat.add_mul, Nat.one_mul] at h1
            omega
          refine ⟨l[(o + r) * ks.length + c'], List.getElem?_eq_getElem hlt, fun v hv => ?_⟩
          have hkd := kdRows_get _ _ hkr (o + r) hrow
          obtain ⟨_, hk2⟩ := kdsAre_get _ _ hkd
          have hget : ((l.drop (0 + (o + r) * ks.length)).take ks.length)[c']? = some l[(o + r) * ks.length + c'] := by
            rw [List.getElem?_take, if_pos hc', List.getElem?_drop, Nat.zero_add, List.getElem?_eq_getElem hlt]
          have hkk := hk2 c' _ hget
          have e : rowsF ks.length l (off.den.toNat + r) c' = (l[(o + r) * ks.length + c']).vI := by
            unfold rowsF
            rw [ho, Int.toNat_natCast, List.getD_eq_getElem?_getD, List.getElem?_eq_getElem hlt]; rfl
          show SRel ρ _ ((ks.getD c' .bool).sc (rowsF ks.length l (off.den.toNat + r) c')) v
          rw [e]
          exact kd_sc hkk hv
        · cases h
      · rename_i own z nf ks' f' hat
        split at h
        · rename_i hke
          cases h
          have hke := kdsEq_eq hke
          subst hke
          have hg : off.den + n.den ≤ (nf : Int) := of_decide_eq_true hg
          refine main hat rfl fun r c' hr' hc' => ⟨_, by rw [fn_at hc', if_pos (by omega)], fun v hv => ?_⟩
          show SRel ρ _ ((ks.getD c' .bool).sc (f' (off.den.toNat + r) c')) v
          rw [ho, Int.toNat_natCast]; exact hv
        · cases h
      · rename_i own z kd e hat
        split at h
        · rename_i hke
          cases h
          have hke := kdsEq_eq hke
          subst hke
          rw [le_den, plus_den] at hg
          have hg : off.den + n.den ≤ ((e.D.2.length : Nat) : Int) := hg
          refine main hat rfl fun r c' hr' hc' => ⟨kd.sc (e.D.2.getD (o + r) 0), ?_, fun v hv => ?_⟩
          · have : c' = 0 := by simp at hc'; exact hc'
            subst this
            simp only [List.length_singleton, Nat.mul_one, Nat.add_zero, Cells.at]
            rw [if_pos (by omega)]
          · have : c' = 0 := by simp at hc'; exact hc'
            subst this
            show SRel ρ _ (kd.sc (e.D.2.getD (off.den.toNat + r) 0)) v
            rw [ho, Int.toNat_natCast]; exact hv
        · cases h
      · rename_i own z ks' e hat
        split at h
        · rename_i hke
          cases h
          have hke := kdsEq_eq hke
          subst hke
          rw [le_den, mulX_den, plus_den, ho, hm] at hg
          have hg : (ks.length : Int) * ((o : Int) + (m : Int)) ≤ ((e.D.2.length : Nat) : Int) := hg
          have hg : ks.length * (o + m) ≤ e.D.2.length := by exact_mod_cast hg
          refine main hat rfl fun r c' hr' hc' => ⟨(ks.getD c' .bool).sc (e.D.2.getD ((o + r) * ks.length + c') 0), ?_, fun v hv => ?_⟩
          · have h1 := Nat.mul_le_mul_left ks.length (show o + r + 1 ≤ o + m by omega)
            rw [Nat.mul_add, Nat.mul_one] at h1
            have e2 : ((o + r) * ks.length + c') % ks.length = c' := by rw [Nat.mul_comm, Nat.mul_add_mod, Nat.mod_eq_of_lt hc']
            show (if _ then some ((ks.getD (((o + r) * ks.length + c') % ks.length) .bool).sc _) else none) = _
            rw [e2, if_pos (by rw [Nat.mul_comm]; omega)]
          · show SRel ρ _ ((ks.getD c' .bool).sc (e.D.2.getD ((off.den.toNat + r) * ks.length + c') 0)) v
            rw [ho, Int.toNat_natCast]; exact hv
        · cases h
      · cases h
    · cases h
  | _ => cases h

theorem optE_rel {n : Nat} {f : Fr} (hf : FRel ρ n f a.tmps) (x : Option Operand) : match optE f x, x.map a.eval with | none, none => True | some s, some v => SRel ρ n s v | _, _ => False := by
  cases x with
  | none => exact True.intro
  | some x => exact opds_rel hf x

theorem add_spot {A : Addr} (h : A.spot = none) (k : Nat) : (A.add k).spot = none := by
  unfold Addr.add
  split
  · exact h
  · rfl

theorem sliceAt_run {t e : TypeId} {z len cap l h' : Nat} {A : Option Addr} {vlo vhi : Option Value} (hu : P.underlying t = some (.slice e)) (hz : tsize P e = some z)
    (hb : (Instr.sliceBounds true len cap vlo vhi none).run P w = .ok (l, h', cap) w) :
    (Instr.sliceAt t (.slice A len cap) vlo vhi none).run P w = .ok (.slice (if cap = l then A else A.map (·.add (l * z))) (h' - l) (cap - l)) w := by
  unfold Instr.sliceAt
  rw [Sem.run_bind, run_underlying hu, Result.andThen_ok]
  show (Instr.slice t (.slice A len cap) vlo vhi none).run P w = _
  unfold Instr.slice
  rw [Sem.run_bind, run_underlying hu, Result.andThen_ok]
  simp only [Sem.run_bind, hb, Result.andThen_ok, tsize_run hz, Sem.run_pure]

theorem sliceStr_run {t : TypeId} {l h' : Nat} {s : ByteArray} {vlo vhi : Option Value} (hu : P.underlying t = some .string)
    (hb : (Instr.sliceBounds false s.size s.size vlo vhi none).run P w = .ok (l, h', s.size) w) : (Instr.sliceAt t (.string s) vlo vhi none).run P w = .ok (.string (s.extract l h')) w := by
  simp only [Instr.sliceAt, Sem.run_bind, run_underlying hu, Result.andThen_ok, Instr.slice, hb, Sem.run_pure, Option.isSome_none, Bool.false_eq_true, if_false]

theorem bytesOf_extract (l : List Int) (a b : Nat) : (bytesOf l).extract a b = bytesOf ((l.take b).drop a) := by
  apply ByteArray.ext
  apply Array.toList_inj.1
  rw [bytesOf_data, ByteArray.data_extract]
  simp only [bytesOf, Array.toList_extract, List.extract_eq_take_drop, List.map_drop, List.map_take]
  rw [List.drop_take]

theorem sl_sub {n : Nat} {nn : Bool} {id off len sz : Nat} {x : Value} (h : SlRel ρ n nn id off len sz x) :
    ∃ A cap, x = .slice A len cap ∧ len ≤ cap ∧ ∀ l h', l ≤ h' → h' ≤ len → SlRel ρ n nn id (off + l) (h' - l) sz (.slice (if cap = l then A else A.map (·.add (l * sz))) (h' - l) (cap - l)) := by
  obtain ⟨hid, ⟨e1, e2, e3⟩ | ⟨A, c, e1, hlive, hspot, e2, e3, e4⟩ | ⟨hz, A, e1, hspot⟩⟩ := h
  · subst e2; subst e3; subst e1
    refine ⟨none, 0, rfl, Nat.le_refl _, fun l h' h1 h2 => ?_⟩
    have : h' = 0 := by omega
    subst this
    have : l = 0 := by omega
    subst this
    exact ⟨hid, .inl ⟨rfl, rfl, rfl⟩⟩
  · subst e1
    refine ⟨some A, c, rfl, e2, fun l h' h1 h2 => ⟨hid, .inr (.inl ⟨if c = l then A else A.add (l * sz), c - l, ?_, hlive, ?_, by omega, by omega, fun hk => ?_⟩)⟩⟩
    · split <;> rfl
    · split
      · exact hspot
      · exact add_spot hspot (l * sz)
    · rw [if_neg (by omega), e4 (by omega), Addr.add_lit, Nat.add_assoc, ← Nat.add_mul]
  · subst hz; subst e1
    refine ⟨some A, 0, rfl, Nat.le_refl _, fun l h' h1 h2 => ?_⟩
    have : h' = 0 := by omega
    subst this
    have : l = 0 := by omega
    subst this
    exact ⟨hid, .inr (.inr ⟨rfl, A, rfl, hspot⟩)⟩

theorem posR_pos {x : X} (h : posR x = true) : 0 < x.den := by
  cases x with
  | c n => exact of_decide_eq_true h
  | sem n => cases h
  | ex e =>
    have h : 0 < e.lin.R.1 := of_decide_eq_true h
    have := e.lin.R_in
    rw [E.lin_den] at this
    show 0 < e.den
    omega
theorem SlRel.up {n : Nat} {nn p : Bool} {id off len sz l h : Nat} {a v : Value} (h0 : SlRel ρ n nn id off len sz a) (hs : SlRel ρ n nn id (off + l) (h - l) sz v) (hl : l ≤ h) (hh : h ≤ len) (hp : p = true → 0 < l)
    (hv : ∀ A : Option Addr, a = .slice none 0 0 ∨ (∃ A len c, a = .slice (some A) len c ∧ ∃ B l c, v = .slice (some B) l c)) : SlRel ρ n (nn || p) id (off + l) (h - l) sz v := by
  cases p with
  | false => rw [Bool.or_false]; exact hs
  | true =>
    have hp := hp rfl
    refine ⟨hs.1, ?_⟩
    rcases h0.2 with ⟨_, h1, _⟩ | h1 | ⟨h1, _⟩
    · omega
    rotate_left
    · omega
    rcases hs.2 with ⟨_, _, h2⟩ | h2
    · exfalso
      obtain ⟨A, c, h3, _⟩ := h1
      rcases hv none with h4 | ⟨_, _, _, _, B, l, c, h4⟩
      · rw [h3] at h4; cases h4
      · rw [h2] at h4; cases h4
    · exact .inr h2

theorem numsE_D : ∀ l : List Int, (numsE l).D.2 = l
  | [] => rfl
  | n :: l => by simp only [numsE, E.D, numsE_D l]
theorem oneT_den {l h : X} {a : E} (hh : oneT l h = some a) : a.den = l.den ∧ h.den = l.den + 1 := by
  unfold oneT at hh
  split at hh
  · rename_i x y hx hy
    split at hh
    · rename_i hc
      cases hh
      rw [Bool.and_eq_true, beq_iff_eq] at hc
      have h1 : (Lin.sub y.lin a.lin).den = y.den - a.den := by
        unfold Lin.sub
        rw [Lin.add_den, E.lin_den, E.lin_den]; omega
      have h2 : (Lin.sub y.lin a.lin).den = 1 := by
        have : (Lin.sub y.lin a.lin).t = [] := by simpa using hc.1
        rw [Lin.den, this, hc.2]; rfl
      rw [← X.e?_den hx, ← X.e?_den hy]
      exact ⟨rfl, by omega⟩
    · cases hh
  · cases hh
theorem sliceE_sound {n : Nat} {lo hi : Option Sc} {vlo vhi : Option Value} {s r : Sc} {x : Value} {t : TypeId}
    (hx : SRel ρ n s x) (ht : (P.underlying t = some .string ∧ s.bytes?.isSome = true) ∨ (∃ e z, P.underlying t = some (.slice e) ∧ tsize P e = some z ∧ (s = .nils ∨ ∃ nn id off len, s = .sl nn id off len z)))
    (hlo : match lo, vlo with | none, none => True | some s, some v => SRel ρ n s v | _, _ => False)
    (hhi : match hi, vhi with | none, none => True | some s, some v => SRel ρ n s v | _, _ => False)
    (h : (sliceE s lo hi).run = some r) : ∃ val, (Instr.sliceAt t x vlo vhi none).run P w = .ok val w ∧ SRel ρ n r val := by
  rcases ht with ⟨hu, hb⟩ | ⟨e, z, hu, hz, hs⟩
  · have strs : ∀ (l : List Int) (a b : Nat), l.length ≤ big → (∀ x ∈ l, 0 ≤ x ∧ x < 256) → x = .string (bytesOf l) → a ≤ b → b ≤ l.length → BndIs 0 a vlo → BndIs l.length b vhi →
        ∃ val, (Instr.sliceAt t x vlo vhi none).run P w = .ok val w ∧ SRel ρ n (.strf ((l.take b).drop a)) val := by
      intro l a b hbig hrng hxe h1 h2 b1 b2
      subst hxe
      have hsz : (bytesOf l).size = l.length := bytesOf_size l
      refine ⟨_, sliceStr_run hu (bounds_run b1 (by rw [hsz]; exact b2) h1 (by omega) (Nat.le_refl _)), ?_, ?_, fun y hy => hrng y (List.mem_of_mem_take (List.mem_of_mem_drop hy))⟩
      · rw [bytesOf_extract]
      · simp; omega
    cases s <;> simp only [Sc.bytes?, Option.isSome_none, Bool.false_eq_true] at hb
    · rename_i s
      simp only [sliceE] at h
      obtain ⟨l, h', ln, hn, e1, e2, h1, h2, b1, b2, h⟩ := boundsE_some hlo hhi h
      have h2 : (hn : Int) ≤ (s.size : Int) := h2
      have hns : (numsOf s).length = s.size := by simp [numsOf]
      have key := strs (numsOf s) ln hn (by rw [hns]; exact hx.2) (numsOf_range s) (by rw [bytesOf_numsOf]; exact hx.1) h1 (by omega) b1 (by rw [hns]; exact b2)
      split at h
      · rename_i lc hc
        cases h
        have e1 : lc = ln := e1
        have e2 : hc = hn := e2
        subst e1; subst e2
        simp only [Int.toNat_natCast]
        refine ⟨_, by rw [hx.1]; exact sliceStr_run hu (bounds_run b1 b2 h1 (by omega) (Nat.le_refl _)), rfl, ?_⟩
        rw [ByteArray.size_extract]
        have := hx.2
        omega
      · split at h
        · rename_i a ha
          cases h
          obtain ⟨val, q1, q2, _, q3⟩ := key
          have hd : ((numsOf s).take hn).drop ln = (E.cn (selE a (numsE (numsOf s))) .nl).D.2 := by
            obtain ⟨d1, d2⟩ := oneT_den ha
            rw [e1] at d1
            rw [e1, e2] at d2
            have : hn = ln + 1 := by omega
            subst this
            have hlt : ln < (numsOf s).length := by rw [hns]; omega
            have e3 : (selE a (numsE (numsOf s))).den = (numsOf s)[ln] := by
              rw [selE_den, numsE_D, d1, Int.toNat_natCast, List.getD_eq_getElem?_getD, List.getElem?_eq_getElem hlt]; rfl
            show _ = [(selE a (numsE (numsOf s))).den]
            rw [e3]
            refine List.ext_getElem (by simp; omega) fun i h1 h2 => ?_
            simp at h2
            subst h2
            simp
          exact ⟨val, q1, by rw [← hd]; exact q2, by show _ ≤ big; exact (by decide : 1 ≤ big), by rw [← hd]; exact q3⟩
        · cases h
          rw [e1, e2, Int.toNat_natCast, Int.toNat_natCast]
          exact key
    · rename_i s
      simp only [sliceE] at h
      obtain ⟨l, h', ln, hn, e1, e2, h1, h2, b1, b2, h⟩ := boundsE_some hlo hhi h
      have h2 : (hn : Int) ≤ (s.length : Int) := h2
      cases h
      rw [e1, e2, Int.toNat_natCast, Int.toNat_natCast]
      exact strs s ln hn hx.2.1 hx.2.2 hx.1 h1 (by omega) b1 b2
    · cases h
  · rcases hs with rfl | ⟨nn, id, off, len, rfl⟩
    · simp only [sliceE] at h
      obtain ⟨l, h', ln, hn, e1, e2, h1, h2, b1, b2, h⟩ := boundsE_some hlo hhi h
      cases h
      rw [show x = _ from hx]
      have h2 : (hn : Int) ≤ 0 := h2
      have : hn = 0 := by omega
      subst this
      have : ln = 0 := by omega
      subst this
      exact ⟨_, by rw [sliceAt_run hu hz (bounds_run b1 b2 h1 (Nat.le_refl _) (Nat.le_refl _))]; rfl, rfl⟩
    · simp only [sliceE] at h
      obtain ⟨l, h', ln, hn, e1, e2, h1, h2, b1, b2, h⟩ := boundsE_some hlo hhi h
      cases h
      obtain ⟨o, m, ho, hm, hbig, hsl⟩ := hx
      obtain ⟨A, cap, rfl, hc, hsub⟩ := sl_sub hsl
      rw [hm] at h2 b2
      refine ⟨_, sliceAt_run hu hz (bounds_run b1 b2 h1 (by omega) hc), o + ln, hn - ln, ?_, ?_, by omega, ?_⟩
      · rw [plus_den, ho, e1]; omega
      · rw [minus_den, e1, e2]; omega
      · refine SlRel.up hsl (hsub ln hn h1 (by omega)) h1 (by omega) (fun hp => ?_) fun _ => ?_
        · have := posR_pos hp; omega
        · cases A with
          | none =>
            left
            rcases hsl.2 with ⟨_, _, e⟩ | ⟨_, _, e, _⟩ | ⟨_, _, e, _⟩
            · exact e
            · cases e
            · cases e
          | some A => right; refine ⟨A, m, cap, rfl, ?_⟩; split <;> exact ⟨_, _, _, rfl⟩

theorem sliceArr_run {t e : TypeId} {n z l h' : Nat} {A : Addr} {x : Value} {vlo vhi : Option Value} (hu : P.underlying t = some (.array n e)) (hz : tsize P e = some z) (hx : x = .pointer (some A))
    (hb : (Instr.sliceBounds false n n vlo vhi none).run P w = .ok (l, h', n) w) :
    (Instr.sliceAt t x vlo vhi none).run P w = .ok (.slice (some (if n = l then A else A.add (l * z))) (h' - l) (n - l)) w := by
  subst hx
  unfold Instr.sliceAt
  rw [Sem.run_bind, run_underlying hu, Result.andThen_ok]
  simp only [Instr.sureAddr, Sem.run_bind, Sem.run_pure, Result.andThen_ok, hb, tsize_run hz]

theorem sliceOp_sound {f : Fr} {t : TypeId} {x : Operand} {lo hi : Option Operand} {v : AV} {σ' : St} (hrel : Rel ρ σ w) (hf : FRel ρ σ.length f a.tmps) (hop : o.op = .slice t x lo hi none) (h : (opE P o f σ).run = some (v, σ')) :
    σ' = σ ∧ ∃ val, (Instr.sliceAt t (a.eval x) (lo.map a.eval) (hi.map a.eval) none).run P w = .ok val w ∧ ARel ρ σ.length v val := by
  unfold opE at h
  rw [hop] at h
  simp only at h
  have hx := opds_rel hf x
  have fin : ∀ {s : Sc} {v : AV} {σ' : St}, opds f x = s → ((P.underlying t = some .string ∧ s.bytes?.isSome = true) ∨ (∃ e z, P.underlying t = some (.slice e) ∧ tsize P e = some z ∧ (s = .nils ∨ ∃ nn id off len, s = .sl nn id off len z))) →
      ((sliceE s (optE f lo) (optE f hi)).bind fun s => .ok (.one s, σ)).run = some (v, σ') → σ' = σ ∧ ∃ val, (Instr.sliceAt t (a.eval x) (lo.map a.eval) (hi.map a.eval) none).run P w = .ok val w ∧ ARel ρ σ.length v val := by
    intro s v σ' hs ht h
    obtain ⟨r, h1, h⟩ := bind_some h
    cases h
    rw [hs] at hx
    obtain ⟨val, hv, hr⟩ := sliceE_sound (P := P) (w := w) hx ht (optE_rel hf lo) (optE_rel hf hi) h1
    exact ⟨rfl, val, hv, hr⟩
  split at h
  · rename_i s hu hs
    exact fin hs (.inl ⟨hu, rfl⟩) h
  · rename_i s hu hs
    exact fin hs (.inl ⟨hu, rfl⟩) h
  · rename_i e hu
    split at h
    · rename_i hs
      split at h
      · rename_i hz
        obtain ⟨z, hz⟩ := Option.isSome_iff_exists.1 hz
        exact fin rfl (.inr ⟨e, z, hu, hz, .inl hs⟩) h
      · cases h
    · rename_i nn id off len z hs
      split at h
      · rename_i hz
        exact fin rfl (.inr ⟨e, z, hu, hz, .inr ⟨_, _, _, _, hs⟩⟩) h
      · cases h
    · cases h
  · rename_i n e id r z d hbd hu hs
    split at h
    · rename_i l hat
      split at h
      · rename_i hc
        obtain ⟨rfl, hz, hle, hbn⟩ := hc
        obtain ⟨a', b', ln, hn, e1, e2, h1, h2, b1, b2, h⟩ := boundsE_some (optE_rel hf lo) (optE_rel hf hi) h
        cases h
        rw [hs] at hx
        obtain ⟨hid, hlive, r', hr', _, hv⟩ := hx
        have hr' : r = (r' : Int) := hr'
        subst hr'
        rw [Int.toNat_natCast] at hle ⊢
        have hob := hrel.obj id
        rw [hat] at hob
        obtain ⟨_, _, _, _, _, hcap, _⟩ := (hob.2 hlive).2 rfl
        have hcap : l.length ≤ (ρ id).cap * 1 := hcap
        have h2 : (hn : Int) ≤ (n : Int) := h2
        have hnn : hn ≤ n := by omega
        refine ⟨rfl, _, sliceArr_run hu hz hv (bounds_run b1 b2 h1 hnn (Nat.le_refl _)), offs r' 1 d + ln, hn - ln, ?_, ?_, by unfold big; omega, hid, .inr (.inl ⟨if n = ln then ⟨(ρ id).block, (ρ id).base + offs r' 1 d, none⟩ else Addr.add ⟨(ρ id).block, (ρ id).base + offs r' 1 d, none⟩ (ln * 1), n - ln, ?_, hlive, ?_, by omega, by omega, fun hk => ?_⟩)⟩
        · rw [plus_den, e1]; show ((offs r' 1 d : Nat) : Int) + _ = _; omega
        · rw [minus_den, e1, e2]; omega
        · rfl
        · split
          · rfl
          · exact add_spot rfl _
        · rw [if_neg (by omega), Addr.add_lit, Nat.add_assoc, Nat.add_mul, Nat.mul_one (offs r' 1 d)]
      · cases h
    · cases h
  · cases h
end
end Go.SX
