/- The evaluator's relations: abstract values and memory over the model's world. -/
import Derived.Test.YtndcomioiakepaaSx0
namespace Go.SX
open Go

structure Loc where
  live : Bool
  block : Nat
  base : Nat
  cap : Nat

def SlRel (ρ : Nat → Loc) (n : Nat) (nn : Bool) (id off len sz : Nat) (v : Value) : Prop :=
  id < n ∧
    ((nn = false ∧ len = 0 ∧ v = .slice none 0 0) ∨
     (∃ A c, v = .slice (some A) len c ∧ (ρ id).live = true ∧ A.spot = none ∧ len ≤ c ∧ off + c = (ρ id).cap ∧ (0 < c → A = ⟨(ρ id).block, (ρ id).base + off * sz, none⟩)))

def SRel (ρ : Nat → Loc) (n : Nat) : Sc → Value → Prop
  | .any, _ => True
  | .int k x, v => v = .int k x.den ∧ k.has x.den
  | .bool b, v => v = .bool b.den
  | .str s, v => v = .string s ∧ s.size ≤ big
  | .strf l, v => v = .string (bytesOf l) ∧ l.length ≤ big ∧ ∀ x ∈ l, 0 ≤ x ∧ x < 256
  | .flt k x, v => v = .float k x
  | .nilp, v => v = .pointer none
  | .ptr id row sz fld hi, v => id < n ∧ (ρ id).live = true ∧ ∃ r : Nat, row.den = r ∧ (hi = 0 ∨ r < hi) ∧ v = .pointer (some ⟨(ρ id).block, (ρ id).base + offs r sz fld, none⟩)
  | .nils, v => v = .slice none 0 0
  | .sl nn id off len sz, v => ∃ o l : Nat, off.den = o ∧ len.den = l ∧ l ≤ big ∧ SlRel ρ n nn id o l sz v
  | .nilm, v => v = .map none
  | .mp id, v => id < n ∧ (ρ id).live = true ∧ v = .map (some (ρ id).block)
  | .fn f, v => v = .func (.func f) #[] #[]
  | .nilf, v => v = .nilFunc
  | .nili, v => v = .nilIface

def LRel (ρ : Nat → Loc) (n : Nat) (l : List Sc) (vs : List Value) : Prop :=
  l.length = vs.length ∧ ∀ (i : Nat) s v, l[i]? = some s → vs[i]? = some v → SRel ρ n s v

def PRel (ρ : Nat → Loc) (n : Nat) : Part → Value → Prop
  | .inl s, v => SRel ρ n s v
  | .inr l, v => ∃ cs, v = .agg cs ∧ LRel ρ n l cs.toList

def ARel (ρ : Nat → Loc) (n : Nat) : AV → Value → Prop
  | .one s, v => SRel ρ n s v
  | .agg l, v => ∃ cs, v = .agg cs ∧ LRel ρ n l cs.toList
  | .tup l, v => ∃ vs, v = .tuple vs ∧ l.length = vs.size ∧ ∀ (i : Nat) p x, l[i]? = some p → vs[i]? = some x → PRel ρ n p x
  | .ifc t p, v => ∃ x, v = .iface t x ∧ PRel ρ n p x
  | .pan t p, v => ∃ x, v = .iface t x ∧ PRel ρ n p x

/-- two placements alike below n -/
def Same (n : Nat) (ρ ρ' : Nat → Loc) : Prop := ∀ i, i < n → ρ' i = ρ i

theorem SlRel.mono {ρ ρ' : Nat → Loc} {n n' : Nat} {nn : Bool} {id off len sz : Nat} {v : Value} (h : SlRel ρ n nn id off len sz v) (hs : Same n ρ ρ') (hn : n ≤ n') : SlRel ρ' n' nn id off len sz v :=
  ⟨Nat.lt_of_lt_of_le h.1 hn, by rw [hs id h.1]; exact h.2⟩
theorem SRel.mono {ρ ρ' : Nat → Loc} {n n' : Nat} {s : Sc} {v : Value} (h : SRel ρ n s v) (hs : Same n ρ ρ') (hn : n ≤ n') : SRel ρ' n' s v := by
  cases s with
  | ptr id row sz fld => exact ⟨Nat.lt_of_lt_of_le h.1 hn, by rw [hs id h.1]; exact h.2⟩
  | sl nn id off len sz =>
    obtain ⟨o, l, h1, h2, h3, h4⟩ := h
    exact ⟨o, l, h1, h2, h3, SlRel.mono h4 hs hn⟩
  | mp id => exact ⟨Nat.lt_of_lt_of_le h.1 hn, by rw [hs id h.1]; exact h.2⟩
  | _ => exact h

theorem LRel.mono {ρ ρ' : Nat → Loc} {n n' : Nat} {l : List Sc} {vs : List Value} (h : LRel ρ n l vs) (hs : Same n ρ ρ') (hn : n ≤ n') : LRel ρ' n' l vs :=
  ⟨h.1, fun i s v a b => (h.2 i s v a b).mono hs hn⟩

theorem PRel.mono {ρ ρ' : Nat → Loc} {n n' : Nat} {p : Sum Sc (List Sc)} {v : Value} (h : PRel ρ n p v) (hs : Same n ρ ρ') (hn : n ≤ n') : PRel ρ' n' p v := by
  cases p with
  | inl s => exact SRel.mono h hs hn
  | inr l => obtain ⟨cs, e, r⟩ := h; exact ⟨cs, e, r.mono hs hn⟩

theorem ARel.mono {ρ ρ' : Nat → Loc} {n n' : Nat} {a : AV} {v : Value} (h : ARel ρ n a v) (hs : Same n ρ ρ') (hn : n ≤ n') : ARel ρ' n' a v := by
  cases a with
  | one s => exact SRel.mono (v := v) h hs hn
  | agg l => obtain ⟨cs, e, r⟩ := h; exact ⟨cs, e, r.mono hs hn⟩
  | tup l => obtain ⟨vs, e, el, r⟩ := h; exact ⟨vs, e, el, fun i p x a b => (r i p x a b).mono hs hn⟩
  | ifc t p => obtain ⟨x, e, r⟩ := h; exact ⟨x, e, r.mono hs hn⟩
  | pan t p => obtain ⟨x, e, r⟩ := h; exact ⟨x, e, r.mono hs hn⟩

theorem ARel.any {ρ : Nat → Loc} {n : Nat} {v : Value} : ARel ρ n (.one .any) v := by show SRel ρ n .any v; exact True.intro

/-! Frames. -/
def FRel (ρ : Nat → Loc) (n : Nat) (f : Fr) (tmps : Array Value) : Prop :=
  tmps.size = f.n ∧ ∀ t, ARel ρ n (f.get t) (tmps.getD t undef)

theorem FRel.mono {ρ ρ' : Nat → Loc} {n n' : Nat} {f : Fr} {ts : Array Value} (h : FRel ρ n f ts) (hs : Same n ρ ρ') (hn : n ≤ n') : FRel ρ' n' f ts :=
  ⟨h.1, fun t => (h.2 t).mono hs hn⟩

theorem F.getN_setN : ∀ (d : Nat) (f : F) (i j : Nat) (x : AV), (f.setN d i x).getN d j = f.getN d j ∨ (j = i ∧ (f.setN d i x).getN d j = x)
  | 0, f, i, j, x => by left; rfl
  | d + 1, .nil, i, j, x => by left; rfl
  | d + 1, .node l v r, i, j, x => by
    simp only [F.setN]
    by_cases hi : i = 0
    · rw [if_pos hi]
      simp only [F.getN]
      by_cases hj : j = 0
      · rw [if_pos hj, if_pos hj]; right; exact ⟨by omega, rfl⟩
      · rw [if_neg hj, if_neg hj]; left; rfl
    · rw [if_neg hi]
      by_cases ho : i % 2 = 1
      · rw [if_pos ho]
        simp only [F.getN]
        by_cases hj : j = 0
        · rw [if_pos hj, if_pos hj]; left; rfl
        · rw [if_neg hj, if_neg hj]
          by_cases hp : j % 2 = 1
          · rw [if_pos hp, if_pos hp]
            rcases F.getN_setN d l (i / 2) (j / 2) x with h | ⟨h1, h2⟩
            · left; exact h
            · right; exact ⟨by omega, h2⟩
          · rw [if_neg hp, if_neg hp]; left; rfl
      · rw [if_neg ho]
        simp only [F.getN]
        by_cases hj : j = 0
        · rw [if_pos hj, if_pos hj]; left; rfl
        · rw [if_neg hj, if_neg hj]
          by_cases hp : j % 2 = 1
          · rw [if_pos hp, if_pos hp]; left; rfl
          · rw [if_neg hp, if_neg hp]
            rcases F.getN_setN d r (i / 2 - 1) (j / 2 - 1) x with h | ⟨h1, h2⟩
            · left; exact h
            · right; exact ⟨by omega, h2⟩

theorem Fr.get_set (f : Fr) (i j : Nat) (x : AV) : (f.set i x).get j = f.get j ∨ (j = i ∧ i < f.n ∧ (f.set i x).get j = x) := by
  unfold Fr.set
  by_cases hi : i < f.n
  · rw [if_pos hi]
    unfold Fr.get
    by_cases hj : j < f.n
    · simp only [hj, if_true]
      rcases F.getN_setN 12 f.t i j x with h | ⟨h1, h2⟩
      · left; exact h
      · right; exact ⟨h1, hi, h2⟩
    · simp only [hj, if_false]; left; trivial
  · rw [if_neg hi]; left; rfl
theorem Fr.set_n (f : Fr) (i : Nat) (x : AV) : (f.set i x).n = f.n := by unfold Fr.set; split <;> rfl

theorem getD_set (ts : Array Value) (i j : Nat) (v d : Value) : (ts.setIfInBounds i v).getD j d = if i = j ∧ i < ts.size then v else ts.getD j d := by
  simp only [Array.getD_eq_getD_getElem?, Array.getElem?_setIfInBounds]
  by_cases h : i = j
  · subst h
    by_cases hi : i < ts.size
    · simp [hi]
    · simp [hi]
  · simp [h]

theorem FRel.set {ρ : Nat → Loc} {n : Nat} {f : Fr} {ts : Array Value} (h : FRel ρ n f ts) {t : Nat} {a : AV} {v : Value} (ha : ARel ρ n a v) : FRel ρ n (f.set t a) (ts.setIfInBounds t v) := by
  refine ⟨by rw [Array.size_setIfInBounds, Fr.set_n]; exact h.1, fun j => ?_⟩
  rw [getD_set]
  rcases Fr.get_set f t j a with e | ⟨e1, e2, e3⟩
  · by_cases hh : t = j ∧ t < ts.size
    · obtain ⟨rfl, h2⟩ := hh
      rw [if_pos ⟨rfl, h2⟩]
      -- the slot keeps what it had only where it is out of the tree: then it is 'any' or the same
      by_cases hx : (f.set t a).get t = a
      · rw [hx]; exact ha
      · have : f.get t = .one .any := by
          unfold Fr.set at e hx
          have ht : t < f.n := h.1 ▸ h2
          rw [if_pos ht] at e hx
          unfold Fr.get at e hx ⊢
          simp only [ht, if_true] at e hx ⊢
          exact F.out 12 f.t t a hx
        rw [e, this]; exact ARel.any
    · rw [if_neg hh, e]; exact h.2 j
  · subst e1
    rw [e3]
    rw [if_pos ⟨rfl, by rw [h.1]; exact e2⟩]
    exact ha
where F.out : ∀ (d : Nat) (f : F) (i : Nat) (x : AV), (f.setN d i x).getN d i ≠ x → f.getN d i = .one .any
  | 0, f, i, x, _ => rfl
  | d + 1, .nil, i, x, _ => rfl
  | d + 1, .node l v r, i, x, hne => by
    simp only [F.setN] at hne
    by_cases hi : i = 0
    · rw [if_pos hi] at hne; simp [F.getN, hi] at hne
    · rw [if_neg hi] at hne
      by_cases ho : i % 2 = 1
      · rw [if_pos ho] at hne
        simp only [F.getN, hi, ho, if_true, if_false] at hne ⊢
        exact F.out d l (i / 2) x hne
      · rw [if_neg ho] at hne
        simp only [F.getN, hi, ho, if_false] at hne ⊢
        exact F.out d r (i / 2 - 1) x hne

/-! Memory. -/
def Cells.at : Cells → Nat → Option Sc
  | .vals l, i => l[i]?
  | .fn n ks f, i => if 0 < ks.length ∧ i / ks.length < n then some ((ks.getD (i % ks.length) .bool).sc (f (i / ks.length) (i % ks.length))) else none
def Cells.len : Cells → Nat
  | .vals l => l.length
  | .fn n ks _ => n * ks.length
theorem Cells.at_lt {c : Cells} {i : Nat} {s : Sc} (h : c.at i = some s) : i < c.len := by
  cases c with
  | vals l => exact (List.getElem?_eq_some_iff.1 h).1
  | fn n ks f =>
    simp only [Cells.at] at h
    split at h
    · rename_i hh
      exact (Nat.div_lt_iff_lt_mul hh.1).1 hh.2
    · cases h
theorem Cells.at_some {c : Cells} {i : Nat} (h : i < c.len) : ∃ s, c.at i = some s := by
  cases c with
  | vals l => exact ⟨_, List.getElem?_eq_getElem h⟩
  | fn n ks f =>
    have hk : 0 < ks.length := by
      rcases Nat.eq_zero_or_pos ks.length with h0 | h0
      · simp only [Cells.len, h0, Nat.mul_zero] at h; omega
      · exact h0
    exact ⟨_, if_pos ⟨hk, (Nat.div_lt_iff_lt_mul hk).2 h⟩⟩

def CRel (ρ : Nat → Loc) (n : Nat) (w : World) (b base : Nat) (c : Cells) : Prop :=
  ∀ i s, c.at i = some s → ∃ v, w.cell? ⟨b, base + i, none⟩ = some v ∧ SRel ρ n s v

/-- a row of the code's own -/
def Mine (w : World) (l : Loc) (sz len : Nat) : Prop :=
  ∃ cells elem fr, w.heap[l.block]? = some (.cells cells elem fr) ∧ (∀ i, i < cells.size → ¬ (fr.1 ≤ i ∧ i < fr.2)) ∧ len ≤ l.cap * sz ∧ l.base + l.cap * sz ≤ cells.size

/-- a scalar of a kind as a value -/
def KRel : Kd → Int → Value → Prop
  | .int k, n, v => v = .int k n ∧ k.has n
  | .bool, n, v => v = .bool (iB n)
theorem Kd.sc_rel {ρ : Nat → Loc} {m : Nat} {k : Kd} {n : Int} {v : Value} : SRel ρ m (k.sc n) v ↔ KRel k n v := by cases k <;> exact Iff.rfl

/-- entries of a map of scalars -/
structure MRel (kk : IntKind) (vk : Kd) (h : Int → Option Int) (es : Array MapEntry) : Prop where
  ent : ∀ (i : Nat) e, es[i]? = some e → ∃ a x, e.key = .int kk a ∧ kk.has a ∧ h a = some x ∧ KRel vk x e.val
  has : ∀ a x, kk.has a → h a = some x → ∃ (i : Nat) (e : MapEntry), es[i]? = some e ∧ e.key = .int kk a
  one : ∀ (i j : Nat) e e', es[i]? = some e → es[j]? = some e' → e.key = e'.key → i = j

/-- the pages of a memory: each in a block of its own -/
structure GRel (w : World) (blk : Nat) (M : Int → Int) (pg : Int → Bool) (es : Array MapEntry) : Prop where
  ent : ∀ (i : Nat) e, es[i]? = some e → ∃ a b, e.key = .int .u32 a ∧ (0 ≤ a ∧ a < 4294967296 ∧ a % 4096 = 0) ∧ pg a = true ∧ e.val = .pointer (some ⟨b, 0, none⟩) ∧ b ≠ blk ∧ b < w.heap.size ∧
    ∃ cs t fr, w.heap[b]? = some (.cells cs t fr) ∧ cs.size = 4096 ∧ (∀ i, i < cs.size → ¬ (fr.1 ≤ i ∧ i < fr.2)) ∧ ∀ j : Nat, j < 4096 → cs[j]? = some (.int .u8 (M (a + j)))
  has : ∀ a, pg a = true → ∃ (i : Nat) (e : MapEntry), es[i]? = some e ∧ e.key = .int .u32 a
  one : ∀ (i j : Nat) e e', es[i]? = some e → es[j]? = some e' → e.key = e'.key ∨ e.val = e'.val → i = j
  zero : ∀ a, 0 ≤ a → a < 4294967296 → pg (a - a % 4096) = false → M a = 0
  byte : ∀ a, 0 ≤ M a ∧ M a < 256

/-- keys that differ -/
def KApart (es : List (Sc × AV)) : Prop := es.Pairwise fun a b => keyEq a.1 b.1 = some false
def ORel (ρ : Nat → Loc) (n : Nat) (w : World) (l : Loc) : AO → Prop
  | .dead => True
  | .row own sz c => (l.live = false → c.len = 0) ∧ (l.live = true → CRel ρ n w l.block l.base c ∧ (own = true → Mine w l sz c.len))
  | .mapo es => l.live = true ∧ ∃ es' : List (Sc × AV), es'.Perm es ∧ KApart es ∧ ∃ entries clock, w.heap[l.block]? = some (.map entries clock) ∧ es'.length = entries.size ∧
      ∀ (i : Nat) k v (e : MapEntry), es'[i]? = some (k, v) → entries[i]? = some e → SRel ρ n k e.key ∧ ARel ρ n v e.val
  | .maps kk vk h => l.live = true ∧ ∃ entries clock, w.heap[l.block]? = some (.map entries clock) ∧ MRel kk vk h entries
  | .pmem M pg => l.live = true ∧ ∃ entries clock, w.heap[l.block]? = some (.map entries clock) ∧ GRel w l.block M pg entries

/-- the blocks of an object -/
def foot (w : World) (l : Loc) (o : AO) (b : Nat) : Prop :=
  b = l.block ∨ ∃ M pg, o = .pmem M pg ∧ ∃ es c, w.heap[l.block]? = some (.map es c) ∧ ∃ (i : Nat) (e : MapEntry), es[i]? = some e ∧ e.val = .pointer (some ⟨b, 0, none⟩)

/-- 'own' says: nothing else leads there -/
def AO.own : AO → Bool
  | .row own _ _ => own
  | .mapo _ => true
  | .maps _ _ _ => true
  | .pmem _ _ => true
  | .dead => false
def owned (ρ : Nat → Loc) (σ : St) (i : Nat) : Prop := (ρ i).live = true ∧ (σ.at i).own = true
def used (ρ : Nat → Loc) (σ : St) (i : Nat) : Prop := (ρ i).live = true ∧ σ.at i ≠ .dead

structure Rel (ρ : Nat → Loc) (σ : St) (w : World) : Prop where
  obj : ∀ i, ORel ρ σ.length w (ρ i) (σ.at i)
  sep : ∀ i j, i ≠ j → owned ρ σ i → used ρ σ j → ∀ b, foot w (ρ i) (σ.at i) b → ¬ foot w (ρ j) (σ.at j) b
  bnd : ∀ i, used ρ σ i → (ρ i).block < w.heap.size

theorem foot_block (w : World) (l : Loc) (o : AO) : foot w l o l.block := .inl rfl
theorem owned.used {ρ : Nat → Loc} {σ : St} {i : Nat} (h : owned ρ σ i) : used ρ σ i := by
  refine ⟨h.1, fun e => ?_⟩
  have := h.2
  rw [e] at this; cases this

theorem used.lt {ρ : Nat → Loc} {σ : St} {i : Nat} (h : used ρ σ i) : i < σ.length := by
  rcases Nat.lt_or_ge i σ.length with h' | h'
  · exact h'
  · exact absurd (by unfold St.at; rw [List.getD_eq_getElem?_getD, List.getElem?_eq_none h']; rfl) h.2

theorem foot_bnd {ρ : Nat → Loc} {n : Nat} {w : World} {l : Loc} {o : AO} (h : ORel ρ n w l o) (hb : l.block < w.heap.size) {b : Nat} (hf : foot w l o b) : b < w.heap.size := by
  rcases hf with rfl | ⟨M, pg, rfl, es, c, h1, i, e, h2, h3⟩
  · exact hb
  · obtain ⟨_, es', c', h4, h5⟩ := h
    rw [h1] at h4; cases h4
    obtain ⟨a, b', _, _, _, h6, _, h7, _⟩ := h5.ent i e h2
    rw [h3] at h6; cases h6
    exact h7
theorem Rel.fbnd {ρ : Nat → Loc} {σ : St} {w : World} (h : Rel ρ σ w) {i b : Nat} (hu : used ρ σ i) (hf : foot w (ρ i) (σ.at i) b) : b < w.heap.size := foot_bnd (h.obj i) (h.bnd i hu) hf
/-- blocks that stay are the same object's -/
theorem foot_keep {w w' : World} {l : Loc} {o : AO} (h : w'.heap[l.block]? = w.heap[l.block]?) {b : Nat} : foot w' l o b ↔ foot w l o b := by
  unfold foot
  rw [h]
theorem foot_row {w : World} {l : Loc} {o : AO} {b : Nat} (ho : ∀ M pg, o ≠ .pmem M pg) : foot w l o b ↔ b = l.block :=
  ⟨fun h => by rcases h with h | ⟨M, pg, e, _⟩; exact h; exact absurd e (ho M pg), fun h => .inl h⟩

/-- what a step does to the world -/
structure Ext (ρ : Nat → Loc) (σ : St) (w : World) (ρ' : Nat → Loc) (σ' : St) (w' : World) : Prop where
  len : σ.length ≤ σ'.length
  same : Same σ.length ρ ρ'
  os : w'.os = w.os
  tape : w'.tape = w.tape
  output : w'.output = w.output
  size : w.heap.size ≤ w'.heap.size
  keep : ∀ b, b < w.heap.size → (∀ i, owned ρ σ i → ¬ foot w (ρ i) (σ.at i) b) → w'.heap[b]? = w.heap[b]?
  own : ∀ i, owned ρ' σ' i → ∀ b, foot w' (ρ' i) (σ'.at i) b → (∃ j, owned ρ σ j ∧ foot w (ρ j) (σ.at j) b) ∨ w.heap.size ≤ b

theorem Ext.refl (ρ : Nat → Loc) (σ : St) (w : World) : Ext ρ σ w ρ σ w :=
  ⟨Nat.le_refl _, fun _ _ => rfl, rfl, rfl, rfl, Nat.le_refl _, fun _ _ _ => rfl, fun i h _ hf => .inl ⟨i, h, hf⟩⟩

theorem Ext.trans {ρ ρ1 ρ2 : Nat → Loc} {σ σ1 σ2 : St} {w w1 w2 : World} (h : Ext ρ σ w ρ1 σ1 w1) (k : Ext ρ1 σ1 w1 ρ2 σ2 w2) : Ext ρ σ w ρ2 σ2 w2 where
  len := Nat.le_trans h.len k.len
  same i hi := (k.same i (Nat.lt_of_lt_of_le hi h.len)).trans (h.same i hi)
  os := k.os.trans h.os
  tape := k.tape.trans h.tape
  output := k.output.trans h.output
  size := Nat.le_trans h.size k.size
  keep b hb hn := by
    rw [k.keep b (Nat.lt_of_lt_of_le hb h.size), h.keep b hb hn]
    intro i hi hf
    rcases h.own i hi b hf with ⟨j, hj, ej⟩ | hge
    · exact hn j hj ej
    · omega
  own i hi b hf := by
    rcases k.own i hi b hf with ⟨j, hj, ej⟩ | hge
    · exact h.own j hj b ej
    · right; have := h.size; omega

/-! Operands. -/
theorem fitB_has {k : IntKind} {n : Int} (h : fitB k n = true) : k.has n := by
  simp only [fitB, Bool.and_eq_true, decide_eq_true_eq] at h
  exact h
theorem Sc.ofConst_rel (ρ : Nat → Loc) (n : Nat) (v : Value) : SRel ρ n (Sc.ofConst v) v := by
  unfold Sc.ofConst
  split <;> first
    | rfl
    | exact True.intro
    | skip
  · split
    · rename_i h; exact ⟨rfl, fitB_has h⟩
    · exact True.intro
  · split
    · rename_i h; exact ⟨rfl, by unfold maxStr at h; unfold big; omega⟩
    · exact True.intro
theorem LRel.ofConst (ρ : Nat → Loc) (n : Nat) (l : List Value) : LRel ρ n (l.map Sc.ofConst) l := by
  refine ⟨by simp, fun i s v hs hv => ?_⟩
  rw [List.getElem?_map, hv] at hs
  cases hs
  exact Sc.ofConst_rel ρ n v
theorem AV.ofConst_rel (ρ : Nat → Loc) (n : Nat) (v : Value) : ARel ρ n (AV.ofConst v) v := by
  unfold AV.ofConst
  split
  · exact ⟨_, rfl, LRel.ofConst ρ n _⟩
  · show SRel ρ n (Sc.ofConst _) _; exact Sc.ofConst_rel ρ n _

theorem ARel.np {ρ : Nat → Loc} {n : Nat} {a : AV} {v : Value} (h : ARel ρ n a v) : ARel ρ n a.np v := by
  cases a <;> first | exact h | exact ARel.any
theorem opd_np (f : Fr) (x : Operand) : (opd f x).panB = false := by
  cases x with
  | tmp t => simp only [opd]; cases f.get t <;> rfl
  | const v => simp only [opd, AV.ofConst]; split <;> rfl
  | global g => rfl
  | func g => rfl
theorem opd_rel {ρ : Nat → Loc} {n : Nat} {f : Fr} {a : Act} (h : FRel ρ n f a.tmps) (x : Operand) : ARel ρ n (opd f x) (a.eval x) := by
  cases x with
  | tmp t => exact (h.2 t).np
  | const v => exact AV.ofConst_rel ρ n v
  | global g => exact ARel.any
  | func g => show SRel ρ n (.fn g) _; rfl

theorem opds_rel {ρ : Nat → Loc} {n : Nat} {f : Fr} {a : Act} (h : FRel ρ n f a.tmps) (x : Operand) : SRel ρ n (opds f x) (a.eval x) := by
  have := opd_rel h x
  unfold opds
  revert this
  cases opd f x with
  | one s => exact id
  | agg l => intro _; trivial
  | tup l => intro _; trivial
  | ifc t p => intro _; trivial
  | pan t p => intro _; trivial

theorem int?_rel {ρ : Nat → Loc} {n : Nat} {s : Sc} {v : Value} (h : SRel ρ n s v) {k : IntKind} {x : X} (e : s.int? = some (k, x)) : v = .int k x.den ∧ k.has x.den := by
  cases s <;> simp only [Sc.int?, Option.some.injEq, Prod.mk.injEq, reduceCtorEq] at e <;> (obtain ⟨rfl, rfl⟩ := e; exact h)
theorem bool?_rel {ρ : Nat → Loc} {n : Nat} {s : Sc} {v : Value} (h : SRel ρ n s v) {b : B} (e : s.bool? = some b) : v = .bool b.den := by
  cases s <;> simp only [Sc.bool?, Option.some.injEq, reduceCtorEq] at e <;> (subst e; exact h)

theorem cells?_rel {ρ : Nat → Loc} {n : Nat} {a : AV} {v : Value} (h : ARel ρ n a v) {l : List Sc} (e : a.cells? = some l) : LRel ρ n l v.cells.toList := by
  cases a with
  | one s =>
    have hv : ∀ (x : Value), v = x → (∀ cs, x ≠ .agg cs) → s ≠ .any → l = [s] → SRel ρ n s v → LRel ρ n l v.cells.toList := by
      intro x hx hn _ hl hr
      subst hx
      have : v.cells = #[v] := by cases v <;> first | rfl | exact absurd rfl (hn _)
      rw [this, hl]
      refine ⟨rfl, fun i s' v' a b => ?_⟩
      cases i with
      | zero => simp at a b; subst a; subst b; exact hr
      | succ i => simp at a
    cases s with
    | any => cases e
    | int k x => exact hv _ h.1 (by intro _ h; cases h) (by intro h; cases h) (by cases e; rfl) h
    | str x => exact hv _ h.1 (by intro _ h; cases h) (by intro h; cases h) (by cases e; rfl) h
    | ptr id row sz fld hi =>
      have h0 := h
      obtain ⟨_, _, r, _, _, hx⟩ := h
      exact hv _ hx (by intro _ h; cases h) (by intro h; cases h) (by cases e; rfl) h0
    | sl nn id off len sz =>
      have h0 := h
      obtain ⟨o, l', _, _, _, hs⟩ := h
      rcases hs.2 with ⟨_, _, hx⟩ | ⟨A, c, hx, _⟩
      · exact hv _ hx (by intro _ h; cases h) (by intro h; cases h) (by cases e; rfl) h0
      · exact hv _ hx (by intro _ h; cases h) (by intro h; cases h) (by cases e; rfl) h0
    | strf l => exact hv _ h.1 (by intro _ h; cases h) (by intro h; cases h) (by cases e; rfl) h
    | mp id => exact hv _ h.2.2 (by intro _ h; cases h) (by intro h; cases h) (by cases e; rfl) h
    | _ => exact hv _ h (by intro _ h; cases h) (by intro h; cases h) (by cases e; rfl) h
  | agg l' =>
    cases e
    obtain ⟨cs, rfl, r⟩ := h
    exact r
  | _ => cases e

/-! Out -/
theorem Out.run_bind {α β : Type} : ∀ (o : Out α) (k : α → Out β), (o.bind k).run = o.run.bind fun a => (k a).run
  | .fail _, k => rfl
  | .ok a, k => rfl
  | .grd g o, k => by
    simp only [Out.bind, Out.run]
    cases g.den
    · rfl
    · exact Out.run_bind o k
  | .br b t e, k => by
    simp only [Out.bind, Out.run]
    cases b.den
    · exact Out.run_bind e k
    · exact Out.run_bind t k
theorem bind_some {α β : Type} {o : Out α} {k : α → Out β} {b : β} (h : (o.bind k).run = some b) : ∃ a, o.run = some a ∧ (k a).run = some b := by
  rw [Out.run_bind] at h
  exact Option.bind_eq_some_iff.1 h
theorem get_some {α : Type} {o : Option α} {a : α} (h : (Out.get o).run = some a) : o = some a := by
  cases o with
  | none => cases h
  | some x => exact h
theorem ok_some {α : Type} {x a : α} (h : (Out.ok x).run = some a) : x = a := Option.some.inj h
theorem guard_run {α : Type} (g : B) (o : Out α) : (Out.guard g o).run = bif g.den then o.run else none := by
  unfold Out.guard
  split <;> rfl
theorem guard_some {α : Type} {g : B} {o : Out α} {a : α} (h : (Out.guard g o).run = some a) : g.den = true ∧ o.run = some a := by
  rw [guard_run] at h
  cases hg : g.den
  · rw [hg] at h; cases h
  · rw [hg] at h; exact ⟨rfl, h⟩
theorem ite_run {α : Type} (b : B) (t e : Out α) : (Out.ite b t e).run = bif b.den then t.run else e.run := by
  unfold Out.ite
  split <;> rfl
theorem ite_some {α : Type} {b : B} {t e : Out α} {a : α} (h : (Out.ite b t e).run = some a) : (b.den = true ∧ t.run = some a) ∨ (b.den = false ∧ e.run = some a) := by
  rw [ite_run] at h
  cases hb : b.den
  · rw [hb] at h; exact .inr ⟨rfl, h⟩
  · rw [hb] at h; exact .inl ⟨rfl, h⟩
/-- a number's term is what it is -/
theorem num_some {α : Type} {s : Sc} {k : X → Out α} {a : α} (h : (Out.numX s k).run = some a) : ∃ kd x, s = .int kd x ∧ (k x).run = some a := by
  unfold Out.numX at h
  split at h
  · exact ⟨_, _, rfl, h⟩
  · cases h
end Go.SX
