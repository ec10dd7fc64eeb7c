/- Contracts of functions that only compute: numbers, bools, strings, slices that are read go in; the same come out, slices in new memory. -/
import Derived.Test.YtfacghikjnjjmaaSx17
namespace Go.SX
open Go Go.Lib
set_option linter.unusedSectionVars false
variable [Env]
/-- no variable is an object here -/
theorem noG {ρ : Nat → Loc} {n : Nat} : GlOk ρ n := .empty rfl

inductive CT where
  | sc (k : Kd)
  | str
  | lst (ks : List Kd)
inductive CV where
  | n (x : Int)
  | b (x : Bool)
  | l (xs : List Int)
  | r (xs : List (List Int))
  deriving Inhabited
abbrev PT := Sum CT (List CT)

def rowsL (m : Nat) (f : Nat → Nat → Int) (n : Nat) : List (List Int) := (List.range n).map fun r => (List.range m).map (f r)
def listCV (ks : List Kd) (f : Nat → Nat → Int) (n : Nat) : CV :=
  match ks with
  | [_] => .l (listF f n)
  | ks => .r (rowsL ks.length f n)
def CV.len : CV → Nat
  | .l xs => xs.length
  | .r xs => xs.length
  | _ => 0
def CV.fn : CV → Nat → Nat → Int
  | .l xs => fun i _ => xs.getD i 0
  | .r xs => fun i c => (xs.getD i []).getD c 0
  | _ => fun _ _ => 0

/-! In. -/
def cellIn (σ : St) (t : CT) (s : Sc) : Option (CV × B) :=
  match t, s with
  | .sc (.int k), .int k' x => if k = k' then some (.n x.den, .c true) else none
  | .sc .bool, .bool b => some (.b b.den, .c true)
  | .str, s => s.bytes?.map fun xs => (CV.l xs, B.c true)
  | .lst ks, s => (semRows σ ks s).map fun (n, f, g) => (listCV ks f n.den.toNat, g)
  | _, _ => none
def cellsIn (σ : St) : List CT → List Sc → Option (List CV × B)
  | [], [] => some ([], .c true)
  | t :: ts, s :: r =>
    match cellIn σ t s, cellsIn σ ts r with
    | some (v, g), some (vs, gs) => some (v :: vs, B.mkAnd g gs)
    | _, _ => none
  | _, _ => none
def flatA : List PT → List AV → Option (List Sc)
  | [], [] => some []
  | .inl _ :: p, .one s :: a => (flatA p a).map fun c => s :: c
  | .inr ts :: p, .agg l :: a => if l.length = ts.length then (flatA p a).map fun c => l ++ c else none
  | _, _ => none
def flatT : List PT → List CT
  | [] => []
  | .inl t :: p => t :: flatT p
  | .inr l :: p => l ++ flatT p
/-! Out. -/
def CT.isL : CT → Bool
  | .lst _ => true
  | _ => false
def cellOut (t : CT) (v : CV) (j : Nat) : Sc :=
  match t, v with
  | .sc (.int k), .n x => .int k (.sem x)
  | .sc .bool, .b x => .bool (.sem x)
  | .str, .l xs => .strf xs
  | .lst ks, v => .sl false j (.c 0) (.sem (v.len : Int)) ks.length
  | _, _ => .any
def nextJ (t : CT) (j : Nat) : Nat := if t.isL then j + 1 else j
def cellsOut : List CT → List CV → Nat → List Sc
  | t :: ts, v :: vs, j => cellOut t v j :: cellsOut ts vs (nextJ t j)
  | _, _, _ => []
def objOf (own : Bool) (ks : List Kd) (v : CV) : AO := .row own ks.length (.fn v.len ks v.fn)
def objsOut (own : Bool) : List CT → List CV → St
  | .lst ks :: ts, v :: vs => objOf own ks v :: objsOut own ts vs
  | _ :: ts, _ :: vs => objsOut own ts vs
  | _, _ => []
def splitA : List PT → List Sc → List AV
  | [], _ => []
  | .inl _ :: p, c => .one (c.headD .any) :: splitA p c.tail
  | .inr ts :: p, c => .agg (c.take ts.length) :: splitA p (c.drop ts.length)
def resAV (rts : List PT) (c : List Sc) : AV :=
  match splitA rts c with
  | [a] => a
  | as => .tup (as.filterMap AV.part?)

theorem val_some {α β : Type} {k : α → Option β} {b : β} : ∀ {o : Out α}, o.val k = some b → ∃ a, o.run = some a ∧ k a = some b
  | .fail _, h => by cases h
  | .ok a, h => ⟨a, rfl, h⟩
  | .grd g o, h => by
    simp only [Out.val] at h
    simp only [Out.run]
    cases hg : g.den
    · rw [hg] at h; cases h
    · rw [hg] at h; exact val_some (o := o) h
  | .br b t e, h => by
    simp only [Out.val] at h
    simp only [Out.run]
    cases hb : b.den
    · rw [hb] at h; exact val_some (o := e ()) h
    · rw [hb] at h; exact val_some (o := t ()) h

/-! Cells one by one. -/
/-- the values of a call's arguments, cell by cell -/
def flatV : List PT → List Value → List Value
  | .inl _ :: p, v :: vs => v :: flatV p vs
  | .inr _ :: p, v :: vs => v.cells.toList ++ flatV p vs
  | _, _ => []
def AllRel (ρ : Nat → Loc) (n : Nat) (l : List Sc) (vs : List Value) : Prop := LRel ρ n l vs

theorem LRel.nil {ρ : Nat → Loc} {n : Nat} : LRel ρ n [] [] := ⟨rfl, fun i s v h => by simp at h⟩
theorem LRel.cons {ρ : Nat → Loc} {n : Nat} {s : Sc} {v : Value} {l : List Sc} {vs : List Value} (h : SRel ρ n s v) (hl : LRel ρ n l vs) : LRel ρ n (s :: l) (v :: vs) := by
  refine ⟨by simp [hl.1], fun i s' v' a b => ?_⟩
  cases i with
  | zero => cases a; cases b; exact h
  | succ i => exact hl.2 i s' v' (by simpa using a) (by simpa using b)
theorem LRel.inv {ρ : Nat → Loc} {n : Nat} {s : Sc} {l : List Sc} {vs : List Value} (h : LRel ρ n (s :: l) vs) : ∃ v r, vs = v :: r ∧ SRel ρ n s v ∧ LRel ρ n l r := by
  cases vs with
  | nil => exact absurd h.1 (by simp)
  | cons v r => exact ⟨v, r, rfl, h.2 0 s v rfl rfl, by simpa using h.1, fun i s v a b => h.2 (i + 1) s v (by simpa using a) (by simpa using b)⟩

theorem flat_rel {ρ : Nat → Loc} {n : Nat} : ∀ (p : List PT) (a : List AV) (vs : List Value) (c : List Sc), a.length = vs.length → (∀ (i : Nat) x v, a[i]? = some x → vs[i]? = some v → ARel ρ n x v) → flatA p a = some c → LRel ρ n c (flatV p vs)
  | [], a, vs, c, hl, h, hf => by
    cases a with
    | nil => cases hf; exact .nil
    | cons _ _ => cases hf
  | .inl t :: p, a, vs, c, hl, h, hf => by
    cases a with
    | nil => cases hf
    | cons x a =>
      cases x <;> first | (cases hf; done) | skip
      rename_i s
      obtain ⟨v, vs, rfl⟩ : ∃ v r, vs = v :: r := by cases vs with | nil => cases hl | cons v r => exact ⟨v, r, rfl⟩
      simp only [flatA] at hf
      obtain ⟨c', h1, rfl⟩ := Option.map_eq_some_iff.1 hf
      exact .cons (h 0 _ _ rfl rfl) (flat_rel p a vs c' (by simpa using hl) (fun i x v a b => h (i + 1) x v (by simpa using a) (by simpa using b)) h1)
  | .inr ts :: p, a, vs, c, hl, h, hf => by
    cases a with
    | nil => cases hf
    | cons x a =>
      cases x <;> first | (cases hf; done) | skip
      rename_i l
      obtain ⟨v, vs, rfl⟩ : ∃ v r, vs = v :: r := by cases vs with | nil => cases hl | cons v r => exact ⟨v, r, rfl⟩
      simp only [flatA] at hf
      split at hf
      · obtain ⟨c', h1, rfl⟩ := Option.map_eq_some_iff.1 hf
        obtain ⟨cs, rfl, hr⟩ := h 0 _ _ rfl rfl
        exact LRel.append hr (flat_rel p a vs c' (by simpa using hl) (fun i x v a b => h (i + 1) x v (by simpa using a) (by simpa using b)) h1)
      · cases hf
theorem flatA_len : ∀ (p : List PT) (a : List AV) (c : List Sc), flatA p a = some c → c.length = (flatT p).length
  | [], a, c, h => by
    cases a with
    | nil => cases h; rfl
    | cons _ _ => cases h
  | .inl t :: p, a, c, h => by
    cases a with
    | nil => cases h
    | cons x a =>
      cases x <;> first | (cases h; done) | skip
      simp only [flatA] at h
      obtain ⟨c', h1, rfl⟩ := Option.map_eq_some_iff.1 h
      simp [flatT, flatA_len p a c' h1]
  | .inr ts :: p, a, c, h => by
    cases a with
    | nil => cases h
    | cons x a =>
      cases x <;> first | (cases h; done) | skip
      simp only [flatA] at h
      split at h
      · rename_i hl
        obtain ⟨c', h1, rfl⟩ := Option.map_eq_some_iff.1 h
        simp [flatT, flatA_len p a c' h1, hl]
      · cases h

/-- other cells for the same values -/
theorem split_rel {ρ ρ' : Nat → Loc} {n n' : Nat} : ∀ (p : List PT) (a : List AV) (vs : List Value) (c c' : List Sc), a.length = vs.length → (∀ (i : Nat) x v, a[i]? = some x → vs[i]? = some v → ARel ρ n x v) → flatA p a = some c →
    LRel ρ' n' c' (flatV p vs) → (splitA p c').length = vs.length ∧ ∀ (i : Nat) x v, (splitA p c')[i]? = some x → vs[i]? = some v → ARel ρ' n' x v
  | [], a, vs, c, c', hl, h, hf, hc => by
    cases a with
    | nil =>
      cases vs with
      | nil => exact ⟨rfl, fun i x v h => by simp [splitA] at h⟩
      | cons _ _ => cases hl
    | cons _ _ => cases hf
  | .inl t :: p, a, vs, c, c', hl, h, hf, hc => by
    cases a with
    | nil => cases hf
    | cons x a =>
      cases x <;> first | (cases hf; done) | skip
      rename_i s
      obtain ⟨v, vs, rfl⟩ : ∃ v r, vs = v :: r := by cases vs with | nil => cases hl | cons v r => exact ⟨v, r, rfl⟩
      simp only [flatA] at hf
      obtain ⟨c1, h1, rfl⟩ := Option.map_eq_some_iff.1 hf
      simp only [flatV] at hc
      cases c' with
      | nil => exact absurd hc.1 (by simp)
      | cons s' c' =>
        obtain ⟨v', r, e, q1, q2⟩ := hc.inv
        cases e
        obtain ⟨e1, e2⟩ := split_rel p a vs c1 c' (by simpa using hl) (fun i x v a b => h (i + 1) x v (by simpa using a) (by simpa using b)) h1 q2
        refine ⟨by simp [splitA, e1], fun i x v a b => ?_⟩
        cases i with
        | zero => cases a; cases b; exact q1
        | succ i => exact e2 i x v (by simpa [splitA] using a) (by simpa using b)
  | .inr ts :: p, a, vs, c, c', hl, h, hf, hc => by
    cases a with
    | nil => cases hf
    | cons x a =>
      cases x <;> first | (cases hf; done) | skip
      rename_i l
      obtain ⟨v, vs, rfl⟩ : ∃ v r, vs = v :: r := by cases vs with | nil => cases hl | cons v r => exact ⟨v, r, rfl⟩
      simp only [flatA] at hf
      split at hf
      · rename_i hlen
        obtain ⟨c1, h1, rfl⟩ := Option.map_eq_some_iff.1 hf
        obtain ⟨cs, rfl, hr⟩ := h 0 _ _ rfl rfl
        simp only [flatV] at hc
        have hcl : cs.toList.length = ts.length := by rw [← hr.1, hlen]
        have hd : LRel ρ' n' (c'.take ts.length) cs.toList := by
          refine ⟨?_, fun i s v a b => ?_⟩
          · have := hc.1
            rw [List.length_append] at this
            rw [List.length_take]
            have hcc : cs.toList.length = ts.length := hcl
            have hcc' : (Value.agg cs).cells.toList.length = ts.length := hcl
            omega
          · have hi : i < ts.length := by rw [← hcl]; exact (List.getElem?_eq_some_iff.1 b).1
            rw [List.getElem?_take, if_pos hi] at a
            refine hc.2 i s v a ?_
            rw [List.getElem?_append_left (by show i < cs.toList.length; omega)]; exact b
        have ht : LRel ρ' n' (c'.drop ts.length) (flatV p vs) := by
          refine ⟨?_, fun i s v a b => ?_⟩
          · have := hc.1
            rw [List.length_append] at this
            rw [List.length_drop]
            have hcc' : (Value.agg cs).cells.toList.length = ts.length := hcl
            omega
          · rw [List.getElem?_drop] at a
            refine hc.2 _ s v a ?_
            have hcc' : (Value.agg cs).cells.toList.length = ts.length := hcl
            rw [List.getElem?_append_right (by omega), hcc', Nat.add_sub_cancel_left]; exact b
        obtain ⟨e1, e2⟩ := split_rel p a vs c1 _ (by simpa using hl) (fun i x v a b => h (i + 1) x v (by simpa using a) (by simpa using b)) h1 ht
        refine ⟨by simp [splitA, e1], fun i x v a b => ?_⟩
        cases i with
        | zero => cases a; cases b; exact ⟨cs, rfl, hd⟩
        | succ i => exact e2 i x v (by simpa [splitA] using a) (by simpa using b)
      · cases hf
end Go.SX
