/- From a law told of plain values to its row: arguments in, arguments as they were. -/
import Derived.Test.YtfacghikjnjjmaaSxD
import Derived.ProofKit
import Derived.ChangeCalls
import Derived.Carry
import Derived.Deep.Slices
import Derived.SizedLaws
namespace Go.SX
open Go Go.Lib Go.ChangeShapes Go.WideShapes Go.ChangeAt Go.RowKit

def scOk (P : Program) (t : TypeId) : CT → Bool
  | .sc (.int k) => match P.underlying t with
    | some (.int k') => decide (k = k')
    | _ => false
  | .sc .bool => match P.underlying t with
    | some .bool => true
    | _ => false
  | _ => false
def scsOk (P : Program) : List TypeId → List CT → Bool
  | [], [] => true
  | t :: ts, c :: cs => scOk P t c && scsOk P ts cs
  | _, _ => false
def kdOk (P : Program) (t : TypeId) : Kd → Bool
  | .int k => match P.underlying t with
    | some (.int k') => decide (k = k')
    | _ => false
  | .bool => false
/-- fields one behind another, numbers all -/
def rowOk (P : Program) : List Field → List Kd → Nat → Bool
  | [], [], _ => true
  | f :: fs, k :: ks, i => decide (f.offset = i) && (decide (P.cellsOf f.type = 1) && (kdOk P f.type k && rowOk P fs ks (i + 1)))
  | _, _, _ => false
/-- numbers, truths, lists of numbers -/
def cellOk (P : Program) (t : TypeId) : CT → Bool
  | .lst [.int k] => match P.underlying t with
    | some (.slice e) => (match P.underlying e with
      | some (.int k') => decide (k = k')
      | _ => false) && decide (P.cellsOf e = 1)
    | _ => false
  | c => scOk P t c
def fldsOk (P : Program) : List Field → List CT → Nat → Bool
  | [], [], _ => true
  | f :: fs, c :: cs, i => decide (f.offset = i) && (decide (P.cellsOf f.type = 1) && (cellOk P f.type c && fldsOk P fs cs (i + 1)))
  | _, _, _ => false
def ptOk (P : Program) (t : TypeId) : PT → Bool
  | .inl (.lst (k1 :: k2 :: ks)) => match P.underlying t with
    | some (.slice e) => decide (P.cellsOf e = (k1 :: k2 :: ks).length) && (match P.underlying e with
      | some (.struct fs) => rowOk P fs.toList (k1 :: k2 :: ks) 0
      | _ => false)
    | _ => false
  | .inl (.lst [.bool]) => match P.underlying t with
    | some (.slice e) => (match P.underlying e with
      | some .bool => true
      | _ => false) && decide (P.cellsOf e = 1)
    | _ => false
  | .inl (.lst [.int k]) => match P.underlying t with
    | some (.slice e) => (match P.underlying e with
      | some (.int k') => decide (k = k')
      | _ => false) && decide (P.cellsOf e = 1)
    | _ => false
  | .inl c => scOk P t c
  | .inr cs => match P.underlying t with
    | some (.struct fs) => decide (P.cellsOf t = cs.length) && (match P.cellTypes P.depth t with
      | some ts => scsOk P ts cs || (decide (ts = fs.toList.map (·.type)) && fldsOk P fs.toList cs 0)
      | none => false)
    | _ => false
def ptsOk (P : Program) : List TypeId → List PT → Bool
  | [], [] => true
  | t :: ts, p :: ps => ptOk P t p && (P.readableRec t && (decide (t < P.types.size) && ptsOk P ts ps))
  | _, _ => false

theorem sc_in {P : Program} {w W : World} {r : Reach} {base : Nat} {t : TypeId} {c : CT} {v : Value} (h : scOk P t c = true) (hv : Cell.okWide P w r base t v) : ∃ cv, CellV W c cv v := by
  unfold scOk at h
  split at h
  · rename_i k
    split at h
    · rename_i k' hu
      have : k = k' := of_decide_eq_true h
      subst this
      simp only [Cell.okWide, hu] at hv
      unfold Cell.ok at hv
      simp only [hu] at hv
      cases v <;> try exact hv.elim
      rename_i k2 n
      obtain ⟨rfl, h2⟩ := hv
      exact ⟨.n n, n, rfl, rfl, h2⟩
    · cases h
  · split at h
    · rename_i hu
      simp only [Cell.okWide, hu] at hv
      unfold Cell.ok at hv
      simp only [hu] at hv
      cases v <;> try exact hv.elim
      rename_i b
      exact ⟨.b b, b, rfl, rfl⟩
    · cases h
  · cases h
theorem sc_all {P : Program} {w W : World} {r : Reach} {base : Nat} : ∀ {ts : List TypeId} {cs : List CT} {vs : List Value}, scsOk P ts cs = true → vs.length = cs.length → (∀ (i : Nat) t v, ts[i]? = some t → vs[i]? = some v → Cell.okWide P w r base t v) → ∃ cvs, AllV W cs cvs vs
  | ts, [], [], h, _, _ => ⟨[], True.intro⟩
  | ts, [], _ :: _, _, h, _ => by cases h
  | ts, _ :: _, [], _, h, _ => by cases h
  | [], _ :: _, _ :: _, h, _, _ => by cases h
  | t :: ts, c :: cs, v :: vs, h, hl, hv => by
    simp only [scsOk, Bool.and_eq_true] at h
    obtain ⟨cv, h1⟩ := sc_in (W := W) h.1 (hv 0 t v rfl rfl)
    obtain ⟨cvs, h2⟩ := sc_all (W := W) h.2 (by simpa using hl) fun i t v a b => hv (i + 1) t v (by simpa using a) (by simpa using b)
    exact ⟨cv :: cvs, h1, h2⟩
theorem scsOk_len {P : Program} : ∀ {ts : List TypeId} {cs : List CT}, scsOk P ts cs = true → ts.length = cs.length
  | [], [], _ => rfl
  | [], _ :: _, h => by cases h
  | _ :: _, [], h => by cases h
  | _ :: ts, _ :: cs, h => by
    simp only [scsOk, Bool.and_eq_true] at h
    simp [scsOk_len h.2]

section
variable {H : Type} {enc : TypeId × Value → H} {P : Program}
theorem wf_has' {k : IntKind} {n : Int} (h : (Lit.int k n).wf = true) : k.has n := by
  simpa [Lit.wf, IntKind.has] using h
theorem list_in {W : World} {r : Reach} {b0 : Nat} {t e : TypeId} {k : IntKind} {v : Value} {d : DataW H} {ps : List MemPlace} (ht : P.underlying t = some (.slice e)) (he : P.underlying e = some (.int k)) (hc : P.cellsOf e = 1)
    (hval : Value.okWide P W r b0 t v) (hd : DataW.Trod enc P W 0 (fun _ => true) true t v d ps) : ∃ cv, CellV W (.lst [.int k]) cv v := by
  obtain ⟨a, len, cap, rfl⟩ := okWide_slice ht hval
  obtain ⟨fuel, hf⟩ := hd
  rcases open_ints ht he hc hf with ⟨h1, _⟩ | ⟨a', len', cap', zs, h1, _, hle, hmax, hzl, _, hcell, hw⟩
  · have h1 : Value.slice a len cap = .slice none 0 0 := by
      have : [Value.slice a len cap] = [Value.slice none 0 0] := h1
      exact List.head_eq_of_cons_eq this
    rw [h1]
    exact ⟨listCV [.int k] (fun _ _ => 0) 0, 0, fun _ _ => 0, rfl, Nat.zero_le _, .inl ⟨rfl, rfl⟩⟩
  · have h1 : Value.slice a len cap = .slice (some a') len' cap' := by
      have : [Value.slice a len cap] = [Value.slice (some a') len' cap'] := h1
      exact List.head_eq_of_cons_eq this
    cases h1
    have hhas : W.has P r b0 a' e cap := by
      simp only [Value.okWide, ht, Cell.okWide] at hval
      unfold Cell.ok at hval
      simp only [ht] at hval
      exact hval.2.2
    obtain ⟨_, hspot, row, cells, hshape, _⟩ := hhas
    have hblk : a'.block < W.heap.size := by
      rcases Nat.lt_or_ge a'.block W.heap.size with h | h
      · exact h
      · simp [World.shape?, Array.getElem?_eq_none h] at hshape
    simp only [if_true] at hzl
    refine ⟨listCV [.int k] (fun i _ => zs.getD i 0) len, len, _, rfl, Nat.le_trans hle (by simpa [maxLen, big] using hmax), .inr <| .inl ⟨⟨true, a'.block, a'.off, cap⟩, a', rfl, hblk, rfl, hspot, hle, fun _ => ?_, fun i hi => ?_⟩⟩
    · cases a'; simp only at hspot; subst hspot; rfl
    · have hi' : i < len := by simpa using hi
      have e1 : i % 1 = 0 := by omega
      have e2 : i / 1 = i := by omega
      refine ⟨.int k (zs.getD i 0), ?_, ?_⟩
      · have := hcell i (by omega)
        cases a'; simp only at hspot; subst hspot
        rw [Addr.add_lit] at this
        exact this
      · simp only [List.length_singleton, e1, e2, List.getD_cons_zero]
        refine ⟨rfl, wf_has' (hw _ ?_)⟩
        rw [List.getD_eq_getElem?_getD, List.getElem?_eq_getElem (by omega)]
        exact List.getElem_mem ..
theorem rowOk_get : ∀ {fs : List Field} {ks : List Kd} {i : Nat}, rowOk P fs ks i = true → fs.length = ks.length ∧ ∀ (c : Nat) k, ks[c]? = some k → ∃ f, fs[c]? = some f ∧ f.offset = i + c ∧ P.cellsOf f.type = 1 ∧ kdOk P f.type k = true
  | [], [], _, _ => ⟨rfl, fun c k h => by simp at h⟩
  | [], _ :: _, _, h => by cases h
  | _ :: _, [], _, h => by cases h
  | f :: fs, k :: ks, i, h => by
    simp only [rowOk, Bool.and_eq_true, decide_eq_true_eq] at h
    obtain ⟨h1, h2, h3, h4⟩ := h
    obtain ⟨q1, q2⟩ := rowOk_get h4
    refine ⟨by simp [q1], fun c k' hk => ?_⟩
    cases c with
    | zero =>
      have : k = k' := by simpa using hk
      subst this
      exact ⟨f, rfl, by omega, h2, h3⟩
    | succ c =>
      obtain ⟨f', r1, r2, r3, r4⟩ := q2 c k' (by simpa using hk)
      exact ⟨f', by simpa using r1, by omega, r3, r4⟩
theorem take_one {α : Type} {l : List α} {c : Nat} {a : α} (h : (l.drop c).take 1 = [a]) : l[c]? = some a := by
  have h1 : ((l.drop c).take 1)[0]? = some a := by rw [h]; rfl
  rw [List.getElem?_take] at h1
  simpa using h1
theorem table_in {W : World} {r : Reach} {b0 : Nat} {t e : TypeId} {fs : Array Field} {ks : List Kd} {v : Value} {d : DataW H} {ps : List MemPlace} (ht : P.underlying t = some (.slice e)) (he : P.underlying e = some (.struct fs)) (hc : P.cellsOf e = ks.length) (hpos : 0 < ks.length) (hrow : rowOk P fs.toList ks 0 = true)
    (hval : Value.okWide P W r b0 t v) (hd : DataW.Trod enc P W 0 (fun _ => true) true t v d ps) : ∃ cv, CellV W (.lst ks) cv v := by
  obtain ⟨a, len, cap, rfl⟩ := okWide_slice ht hval
  obtain ⟨fuel, hf⟩ := hd
  rcases Deep.open_slice ht hf with ⟨h1, _⟩ | ⟨a', len', cap', m, n, D, Pl, h1, _, hle, hmax, hm, _, hx⟩
  · have h1 : Value.slice a len cap = .slice none 0 0 := by
      have : [Value.slice a len cap] = [Value.slice none 0 0] := h1
      exact List.head_eq_of_cons_eq this
    rw [h1]
    exact ⟨listCV ks (fun _ _ => 0) 0, 0, fun _ _ => 0, rfl, Nat.zero_le _, .inl ⟨rfl, rfl⟩⟩
  · have h1 : Value.slice a len cap = .slice (some a') len' cap' := by
      have : [Value.slice a len cap] = [Value.slice (some a') len' cap'] := h1
      exact List.head_eq_of_cons_eq this
    cases h1
    have hhas : W.has P r b0 a' e cap := by
      simp only [Value.okWide, ht, Cell.okWide] at hval
      unfold Cell.ok at hval
      simp only [ht] at hval
      exact hval.2.2
    obtain ⟨_, hspot, row, cells, hshape, _⟩ := hhas
    have hblk : a'.block < W.heap.size := by
      rcases Nat.lt_or_ge a'.block W.heap.size with h | h
      · exact h
      · simp [World.shape?, Array.getElem?_eq_none h] at hshape
    simp only [if_true] at hm
    obtain ⟨ab, ao, asp⟩ := a'
    simp only at hspot
    subst hspot
    obtain ⟨q1, q2⟩ := rowOk_get hrow
    have cellAt : ∀ i, i < len * ks.length → ∃ k z, ks.getD (i % ks.length) .bool = .int k ∧ W.cell? ⟨ab, ao + i, none⟩ = some (.int k z) ∧ k.has z := by
      intro i hi
      have hcl : i % ks.length < ks.length := Nat.mod_lt _ hpos
      have hr : i / ks.length < len := Nat.div_lt_of_lt_mul (by rw [Nat.mul_comm]; exact hi)
      obtain ⟨cs', c1, c2⟩ := hx (i / ks.length) (by omega)
      obtain ⟨_, _, c3⟩ := World.cells?_some c1
      obtain ⟨xs, k', _, _, _, c4, c5⟩ := DataW.trod_struct he c2
      have hk0 : ks[i % ks.length]? = some (ks[i % ks.length]'hcl) := List.getElem?_eq_getElem hcl
      obtain ⟨f, f1, f2, f3, f4⟩ := q2 _ _ hk0
      generalize hkk : ks[i % ks.length]'hcl = kk at hk0 f4
      cases kk with
      | bool => cases f4
      | int k =>
        unfold kdOk at f4
        simp only at f4
        split at f4
        · rename_i k2 hu
          have : k = k2 := of_decide_eq_true f4
          subst this
          have hfs : fs[i % ks.length]? = some f := by rw [← Array.getElem?_toList]; exact f1
          have h5 := c5 _ f hfs
          have hlx : i % ks.length < xs.length := by
            rw [c4]
            exact (Array.getElem?_eq_some_iff.1 hfs).1
          rw [List.getElem?_eq_getElem hlx] at h5
          obtain ⟨z, z1, _, z3⟩ := DataW.trod_int hu h5
          rw [f2, f3, Nat.zero_add] at z1
          have h6 := take_one z1
          have h7 := c3 (i % ks.length) (by rw [hc]; exact hcl)
          rw [h6, Addr.add_lit, Addr.add_lit, hc] at h7
          have h8 : ao + i / ks.length * ks.length + i % ks.length = ao + i := by
            have := Nat.div_add_mod i ks.length
            rw [Nat.mul_comm] at this
            omega
          rw [h8] at h7
          exact ⟨k, z, by rw [List.getD_eq_getElem?_getD, hk0]; rfl, h7, wf_has' z3⟩
        · cases f4
    refine ⟨listCV ks (fun r c => match W.cell? ⟨ab, ao + (r * ks.length + c), none⟩ with | some (.int _ z) => z | _ => 0) len, len, _, rfl, Nat.le_trans hle (by simpa [maxLen, big] using hmax), .inr <| .inl ⟨⟨true, ab, ao, cap⟩, ⟨ab, ao, none⟩, rfl, hblk, rfl, rfl, hle, fun _ => rfl, fun i hi => ?_⟩⟩
    obtain ⟨k, z, z1, z2, z3⟩ := cellAt i hi
    refine ⟨.int k z, z2, ?_⟩
    have h8 : i / ks.length * ks.length + i % ks.length = i := by
      have := Nat.div_add_mod i ks.length
      rw [Nat.mul_comm] at this
      omega
    rw [z1]
    simp only [h8, z2]
    exact ⟨rfl, z3⟩
theorem bools_in {W : World} {r : Reach} {b0 : Nat} {t e : TypeId} {v : Value} {d : DataW H} {ps : List MemPlace} (ht : P.underlying t = some (.slice e)) (he : P.underlying e = some .bool) (hc : P.cellsOf e = 1)
    (hval : Value.okWide P W r b0 t v) (hd : DataW.Trod enc P W 0 (fun _ => true) true t v d ps) : ∃ xs, CellV W (.lst [.bool]) (.l xs) v ∧ ∀ x ∈ xs, 0 ≤ x ∧ x ≤ 1 := by
  obtain ⟨a, len, cap, rfl⟩ := okWide_slice ht hval
  obtain ⟨fuel, hf⟩ := hd
  rcases Deep.open_slice ht hf with ⟨h1, _⟩ | ⟨a', len', cap', m, n, D, Pl, h1, _, hle, hmax, hm, _, hx⟩
  · have h1 : Value.slice a len cap = .slice none 0 0 := by
      have : [Value.slice a len cap] = [Value.slice none 0 0] := h1
      exact List.head_eq_of_cons_eq this
    rw [h1]
    exact ⟨[], ⟨0, fun _ _ => 0, rfl, Nat.zero_le _, .inl ⟨rfl, rfl⟩⟩, fun x hx => by cases hx⟩
  · have h1 : Value.slice a len cap = .slice (some a') len' cap' := by
      have : [Value.slice a len cap] = [Value.slice (some a') len' cap'] := h1
      exact List.head_eq_of_cons_eq this
    cases h1
    have hhas : W.has P r b0 a' e cap := by
      simp only [Value.okWide, ht, Cell.okWide] at hval
      unfold Cell.ok at hval
      simp only [ht] at hval
      exact hval.2.2
    obtain ⟨_, hspot, row, cells, hshape, _⟩ := hhas
    have hblk : a'.block < W.heap.size := by
      rcases Nat.lt_or_ge a'.block W.heap.size with h | h
      · exact h
      · simp [World.shape?, Array.getElem?_eq_none h] at hshape
    simp only [if_true] at hm
    obtain ⟨ab, ao, asp⟩ := a'
    simp only at hspot
    subst hspot
    have cellAt : ∀ i, i < len → ∃ b, W.cell? ⟨ab, ao + i, none⟩ = some (.bool b) := by
      intro i hi
      obtain ⟨cs', c1, c2⟩ := hx i (by omega)
      obtain ⟨_, _, c3⟩ := World.cells?_some c1
      obtain ⟨b, rfl, _⟩ := DataW.trod_bool he c2
      have h7 := c3 0 (by rw [hc]; exact Nat.one_pos)
      rw [Addr.add_lit, Addr.add_lit, hc, Nat.mul_one, Nat.add_zero] at h7
      exact ⟨b, h7⟩
    refine ⟨listF (fun r _ => match W.cell? ⟨ab, ao + r, none⟩ with | some (.bool b) => bI b | _ => 0) len, ⟨len, _, rfl, Nat.le_trans hle (by simpa [maxLen, big] using hmax), .inr <| .inl ⟨⟨true, ab, ao, cap⟩, ⟨ab, ao, none⟩, rfl, hblk, rfl, rfl, hle, fun _ => rfl, fun i hi => ?_⟩⟩, fun x hx => ?_⟩
    · have hi' : i < len := by simpa using hi
      have e1 : i % 1 = 0 := by omega
      have e2 : i / 1 = i := by omega
      obtain ⟨b, hb⟩ := cellAt i hi'
      refine ⟨.bool b, hb, ?_⟩
      simp only [List.length_singleton, e1, e2, List.getD_cons_zero, hb]
      show Value.bool b = .bool (iB (bI b))
      rw [iB_bI]
    · obtain ⟨i, hi, rfl⟩ := List.mem_map.1 hx
      obtain ⟨b, hb⟩ := cellAt i (by simpa using hi)
      simp only [hb]
      cases b <;> decide
/-- lists of truths as noughts and ones -/
def normV (ts : List CT) (cvs : List CV) : Prop := ∀ (i : Nat) xs, ts[i]? = some (.lst [.bool]) → cvs[i]? = some (.l xs) → ∀ x ∈ xs, (0 : Int) ≤ x ∧ x ≤ 1
theorem normV.cons {t : CT} {ts : List CT} {c : CV} {cvs : List CV} (h : normV ts cvs) (h0 : ∀ xs, t = .lst [.bool] → c = .l xs → ∀ x ∈ xs, (0 : Int) ≤ x ∧ x ≤ 1) : normV (t :: ts) (c :: cvs) := fun i xs h1 h2 => by
  cases i with
  | zero => exact h0 xs (by simpa using h1) (by simpa using h2)
  | succ i => exact h i xs (by simpa using h1) (by simpa using h2)
theorem normV.tail {t : CT} {ts : List CT} {c : CV} {cvs : List CV} (h : normV (t :: ts) (c :: cvs)) : normV ts cvs := fun i xs h1 h2 => h (i + 1) xs (by simpa using h1) (by simpa using h2)
theorem normV.app {ts us : List CT} {c d : List CV} (hl : ts.length = c.length) (h0 : ∀ t ∈ ts, t ≠ .lst [.bool]) (h : normV us d) : normV (ts ++ us) (c ++ d) := fun i xs h1 h2 => by
  by_cases hi : i < ts.length
  · rw [List.getElem?_append_left hi] at h1
    exact absurd rfl (h0 _ (List.mem_of_getElem? h1))
  · rw [List.getElem?_append_right (by omega)] at h1
    rw [List.getElem?_append_right (by omega), ← hl] at h2
    exact h _ xs h1 h2
theorem scsOk_nb {P : Program} : ∀ {ts : List TypeId} {cs : List CT}, scsOk P ts cs = true → ∀ t ∈ cs, t ≠ .lst [.bool]
  | [], [], _, _, h => by cases h
  | [], _ :: _, h, _, _ => by cases h
  | _ :: _, [], h, _, _ => by cases h
  | t :: ts, c :: cs, h, x, hx => by
    simp only [scsOk, Bool.and_eq_true] at h
    rcases List.mem_cons.1 hx with rfl | hx
    · intro e; subst e; cases h.1
    · exact scsOk_nb h.2 x hx
theorem fldsOk_nb {P : Program} : ∀ {fs : List Field} {cs : List CT} {i : Nat}, fldsOk P fs cs i = true → ∀ t ∈ cs, t ≠ .lst [.bool]
  | [], [], _, _, _, h => by cases h
  | [], _ :: _, _, h, _, _ => by cases h
  | _ :: _, [], _, h, _, _ => by cases h
  | f :: fs, c :: cs, i, h, x, hx => by
    simp only [fldsOk, Bool.and_eq_true] at h
    rcases List.mem_cons.1 hx with rfl | hx
    · intro e; subst e; cases h.2.2.1
    · exact fldsOk_nb h.2.2.2 x hx
theorem AllV_len' {w : World} : ∀ {ts : List CT} {c : List CV} {v : List Value}, AllV w ts c v → ts.length = c.length
  | [], [], [], _ => rfl
  | [], _ :: _, _, h => by cases h
  | [], [], _ :: _, h => by cases h
  | _ :: _, [], v, h => by cases v <;> cases h
  | _ :: _, _ :: _, [], h => by cases h
  | _ :: ts, _ :: c, _ :: v, h => by simp [AllV_len' h.2]
theorem cell_in_of {W : World} {b0 : Nat} {t : TypeId} {c : CT} {v : Value} {fuel : Nat} {x : DataW H × List MemPlace} (h : cellOk P t c = true) (hv : Cell.okWide P W .any b0 t v) (hd : DataW.trod enc P W 0 (fun _ => true) true fuel t [v] = some x) : ∃ cv, CellV W c cv v := by
  unfold cellOk at h
  split at h
  · rename_i k
    split at h
    · rename_i e ht
      rw [Bool.and_eq_true, decide_eq_true_eq] at h
      obtain ⟨h, hc⟩ := h
      split at h
      · rename_i k' he
        have : k = k' := of_decide_eq_true h
        subst this
        have hval : Value.okWide P W .any b0 t v := by
          unfold Value.okWide
          rw [ht]
          exact hv
        obtain ⟨a, len, cap, rfl⟩ := okWide_slice ht hval
        obtain ⟨d, ps⟩ := x
        exact list_in (d := d) (ps := ps) ht he hc hval ⟨fuel, hd⟩
      · cases h
    · cases h
  · exact sc_in h hv
theorem flds_in {W : World} {b0 k : Nat} : ∀ {fs : List Field} {cs : List CT} {i : Nat} {vs : List Value}, fldsOk P fs cs i = true → vs.length = cs.length → (∀ (j : Nat) f v, fs[j]? = some f → vs[j]? = some v → Cell.okWide P W .any b0 f.type v ∧ ∃ x, DataW.trod enc P W 0 (fun _ => true) true k f.type [v] = some x) → ∃ cvs, AllV W cs cvs vs
  | [], [], _, [], _, _, _ => ⟨[], True.intro⟩
  | [], [], _, _ :: _, _, h, _ => by cases h
  | [], _ :: _, _, _, h, _, _ => by cases h
  | _ :: _, [], _, _, h, _, _ => by cases h
  | _ :: _, _ :: _, _, [], _, h, _ => by cases h
  | f :: fs, c :: cs, i, v :: vs, h, hl, hv => by
    simp only [fldsOk, Bool.and_eq_true] at h
    obtain ⟨_, _, h3, h4⟩ := h
    obtain ⟨g1, x, g2⟩ := hv 0 f v rfl rfl
    obtain ⟨cv, h1⟩ := cell_in_of (W := W) h3 g1 g2
    obtain ⟨cvs, h2⟩ := flds_in (k := k) h4 (by simpa using hl) fun j f v a b => hv (j + 1) f v (by simpa using a) (by simpa using b)
    exact ⟨cv :: cvs, h1, h2⟩
theorem fldsOk_get : ∀ {fs : List Field} {cs : List CT} {i : Nat}, fldsOk P fs cs i = true → fs.length = cs.length ∧ ∀ (c : Nat) f, fs[c]? = some f → f.offset = i + c ∧ P.cellsOf f.type = 1
  | [], [], _, _ => ⟨rfl, fun c k h => by simp at h⟩
  | [], _ :: _, _, h => by cases h
  | _ :: _, [], _, h => by cases h
  | f :: fs, k :: ks, i, h => by
    simp only [fldsOk, Bool.and_eq_true, decide_eq_true_eq] at h
    obtain ⟨h1, h2, _, h4⟩ := h
    obtain ⟨q1, q2⟩ := fldsOk_get h4
    refine ⟨by simp [q1], fun c f' hk => ?_⟩
    cases c with
    | zero =>
      have : f = f' := by simpa using hk
      subst this
      exact ⟨by omega, h2⟩
    | succ c =>
      obtain ⟨r2, r3⟩ := q2 c f' (by simpa using hk)
      exact ⟨by omega, r3⟩
theorem vals_in {W : World} {base : Nat} : ∀ {ts : List TypeId} {pts : List PT} {vs : List Value} {ds : List (DataW H)} {ps : List MemPlace}, ptsOk P ts pts = true → (∀ (j : Nat) t v, ts[j]? = some t → vs[j]? = some v → Value.okWide P W .any base t v) →
    DataW.TrodAll enc P W 0 (fun _ => true) true ts vs ds ps → ∃ cvs, ValsOk pts vs ∧ AllV W (flatT pts) cvs (flatV pts vs) ∧ normV (flatT pts) cvs
  | [], pts, vs, ds, ps, h, _, hA => by
    cases pts with
    | cons _ _ => cases h
    | nil =>
      obtain ⟨rfl, _, _⟩ := trodAll_nil hA
      exact ⟨[], True.intro, True.intro, fun i xs h _ => by simp [flatT] at h⟩
  | t :: ts, pts, vs, ds, ps, h, hv, hA => by
    cases pts with
    | nil => cases h
    | cons p pts =>
      simp only [ptsOk, Bool.and_eq_true] at h
      obtain ⟨hp, _, _, hr⟩ := h
      obtain ⟨v, vs, d, ds, q, q', rfl, rfl, rfl, h1, h2⟩ := trodAll_cons hA
      have hval := hv 0 t v rfl rfl
      obtain ⟨cvs, k1, k2, k3⟩ := vals_in hr (fun j t v a b => hv (j + 1) t v (by simpa using a) (by simpa using b)) h2
      unfold ptOk at hp
      split at hp
      · rename_i c1 c2 cs
        split at hp
        · rename_i e ht
          rw [Bool.and_eq_true, decide_eq_true_eq] at hp
          obtain ⟨hc, hp⟩ := hp
          split at hp
          · rename_i fs he
            obtain ⟨cv, hcv⟩ := table_in ht he hc (by simp) hp hval h1
            exact ⟨cv :: cvs, k1, ⟨hcv, k2⟩, k3.cons fun xs e => by cases e⟩
          · cases hp
        · cases hp
      · split at hp
        · rename_i e ht
          rw [Bool.and_eq_true, decide_eq_true_eq] at hp
          obtain ⟨hp, hc⟩ := hp
          split at hp
          · rename_i he
            obtain ⟨xs, hcv, hb⟩ := bools_in ht he hc hval h1
            exact ⟨.l xs :: cvs, k1, ⟨hcv, k2⟩, k3.cons fun ys _ e2 => by cases e2; exact hb⟩
          · cases hp
        · cases hp
      · rename_i k
        split at hp
        · rename_i e ht
          rw [Bool.and_eq_true, decide_eq_true_eq] at hp
          obtain ⟨hp, hc⟩ := hp
          split at hp
          · rename_i k' he
            have : k = k' := of_decide_eq_true hp
            subst this
            obtain ⟨cv, hcv⟩ := list_in ht he hc hval h1
            exact ⟨cv :: cvs, k1, ⟨hcv, k2⟩, k3.cons fun xs e => by cases e⟩
          · cases hp
        · cases hp
      · rename_i c _
        have hcell : Cell.okWide P W .any base t v := by
          unfold Value.okWide at hval
          split at hval
          · rename_i fs hu
            exfalso
            unfold scOk at hp
            split at hp <;> first | (simp [hu] at hp; done) | cases hp
          · rename_i n e hu
            exfalso
            unfold scOk at hp
            split at hp <;> first | (simp [hu] at hp; done) | cases hp
          · exact hval
        obtain ⟨cv, hcv⟩ := sc_in (W := W) hp hcell
        exact ⟨cv :: cvs, k1, ⟨hcv, k2⟩, k3.cons fun xs e => by subst e; cases hp⟩
      · rename_i cs
        split at hp
        · rename_i fs hu
          rw [Bool.and_eq_true, decide_eq_true_eq] at hp
          obtain ⟨hsz, hp⟩ := hp
          split at hp
          · rename_i us hus
            simp only [Value.okWide, hu] at hval
            obtain ⟨xs, rfl, hn, us', hus', ⟨n, hmul⟩, hcells⟩ := hval
            rw [hus] at hus'
            cases hus'
            have hnb : ∀ t ∈ cs, t ≠ .lst [.bool] := by
              rw [Bool.or_eq_true] at hp
              rcases hp with hp | hp
              · exact scsOk_nb hp
              · rw [Bool.and_eq_true] at hp
                exact fldsOk_nb hp.2
            have hall : ∃ c2, AllV W cs c2 xs.toList := by
              rw [Bool.or_eq_true] at hp
              rcases hp with hp | hp
              · have hl := scsOk_len hp
                exact sc_all (W := W) (vs := xs.toList) hp (by rw [Array.length_toList, hn, hsz]) fun i u x a b => by
                  obtain ⟨u', h3, h4⟩ := hcells i x (by rw [← Array.getElem?_toList]; exact b)
                  have hi : i < us.length := (List.getElem?_eq_some_iff.1 a).1
                  rw [Nat.mod_eq_of_lt hi, a] at h3
                  cases h3
                  exact h4
              · rw [Bool.and_eq_true, decide_eq_true_eq] at hp
                obtain ⟨hts, hp⟩ := hp
                obtain ⟨fuel, hf⟩ := h1
                obtain ⟨ys, k', _, _, _, c4, c5⟩ := DataW.trod_struct hu hf
                obtain ⟨g1, g2⟩ := fldsOk_get hp
                refine flds_in (enc := enc) (b0 := base) (k := k') hp (by rw [Array.length_toList, hn, hsz]) fun j f x a b => ?_
                obtain ⟨o1, o2⟩ := g2 j f a
                have hj : j < fs.toList.length := (List.getElem?_eq_some_iff.1 a).1
                have hju : us[j]? = some f.type := by rw [hts, List.getElem?_map, a]; rfl
                have hjl : j < us.length := (List.getElem?_eq_some_iff.1 hju).1
                refine ⟨?_, ?_⟩
                · obtain ⟨u', h3, h4⟩ := hcells j x (by rw [← Array.getElem?_toList]; exact b)
                  rw [Nat.mod_eq_of_lt hjl, hju] at h3
                  cases h3
                  exact h4
                · have h5 := c5 j f (by rw [← Array.getElem?_toList]; exact a)
                  have h6 : (((Value.agg xs).cells.toList.drop f.offset).take (P.cellsOf f.type)) = [x] := by
                    rw [o1, o2, Nat.zero_add]
                    show (xs.toList.drop j).take 1 = [x]
                    have hjx : j < xs.toList.length := (List.getElem?_eq_some_iff.1 b).1
                    rw [List.drop_eq_getElem_cons hjx]
                    have := (List.getElem?_eq_some_iff.1 b).2
                    simp [this]
                  rw [h6] at h5
                  have hjy : j < ys.length := by rw [c4]; simpa using hj
                  exact ⟨ys[j], by rw [h5, List.getElem?_eq_getElem hjy]⟩
            obtain ⟨c2, hc2⟩ := hall
            refine ⟨c2 ++ cvs, ⟨⟨xs, rfl, by rw [hn, hsz]⟩, k1⟩, ?_, normV.app (AllV_len' hc2) hnb k3⟩
            have app : ∀ {a : List CT} {b : List CT} {c d : List CV} {x y : List Value}, AllV W a c x → AllV W b d y → AllV W (a ++ b) (c ++ d) (x ++ y) := by
              intro a
              induction a with
              | nil =>
                intro b c d x y h h'
                cases c <;> cases x <;> first | exact h' | cases h
              | cons t a ih =>
                intro b c d x y h h'
                cases c <;> cases x <;> first | exact ⟨h.1, ih h.2 h'⟩ | cases h
            exact app hc2 k2
          · cases hp
        · cases hp
theorem args_stay {W W' : World} (hl : laidOutB P = true) (hB : Below W.heap.size W W') {sp : Nat → Bool} : ∀ {ts : List TypeId} {pts : List PT} {vs : List Value} {ds : List (DataW H)} {ps : List MemPlace}, ptsOk P ts pts = true → (∀ x ∈ ps, x.block < W.heap.size) → (∀ x ∈ ps, sp x.block = true) →
    DataW.TrodAll enc P W 0 (fun _ => true) true ts vs ds ps → DataW.TrodAll enc P W' 0 sp true ts vs ds ps
  | [], pts, vs, ds, ps, _, _, _, hA => by
    obtain ⟨rfl, rfl, rfl⟩ := trodAll_nil hA
    exact rfl
  | t :: ts, pts, vs, ds, ps, h, hlt, hsp, hA => by
    cases pts with
    | nil => cases h
    | cons p pts =>
      simp only [ptsOk, Bool.and_eq_true, decide_eq_true_eq] at h
      obtain ⟨_, hr, hrow, hrest⟩ := h
      obtain ⟨v, vs, d, ds, q, q', rfl, rfl, rfl, h1, h2⟩ := trodAll_cons hA
      refine ⟨q, q', WideElems.Trod_stays hl hr hrow h1 (fun x hx => hB.same (hlt x (List.mem_append_left _ hx))) (fun x hx => hsp x (List.mem_append_left _ hx)), ?_, rfl⟩
      exact args_stay hl hB hrest (fun x hx => hlt x (List.mem_append_right _ hx)) (fun x hx => hsp x (List.mem_append_right _ hx)) h2
theorem post_of_below {f : Func} {s : ChangeSpec} {apart fresh handsOn again : Bool} {W W' : World} {args : Array Value} {v : Value} {ds gs : List (DataW H)} {before pa pv : List MemPlace}
    (hW : DataW.Whole enc P f.params.toList s.vars apart W args.toList ds gs before)
    (hres : ∀ (b : Nat) (sp : Nat → Bool) (hd : Bool), DataW.TrodAll enc P W' b sp hd f.resultTypes.toList (v.resultList f.resultTypes.size) (s.fn H (ds ++ gs)).results [])
    (hargs : ∀ sp : Nat → Bool, (∀ p ∈ before, sp p.block = true) → DataW.TrodAll enc P W' 0 sp true f.params.toList args.toList (s.fn H (ds ++ gs)).args pa)
    (hvars : ∀ sp : Nat → Bool, (∀ p ∈ before, sp p.block = true) → DataW.TrodVars enc P W' sp s.vars (s.fn H (ds ++ gs)).vars pv)
    (hps : before = pa ++ pv) (hB : Below W.heap.size W W')
    (hok : ∀ (j : Nat) (t : TypeId) (r : Value), f.resultTypes[j]? = some t → (v.resultList f.resultTypes.size)[j]? = some r → Value.okWide P W' .any 0 t r) :
    s.post enc P f apart fresh handsOn again W args v W' := by
  have hlt := hW.lt
  have hold : ∀ p ∈ before, (fun b => decide (b < W.heap.size)) p.block = true := fun p hp => by simpa using hlt p hp
  refine ⟨ds, gs, before, [], pa, pv, hW, hres _ _ _, hargs _ hold, hvars _ hold, World.keptBut_mono (fun p hp => ⟨hp, ?_⟩) (hB.frame (· ∈ before)), fun _ => ?_⟩
  · rw [hps, List.mem_append] at hp
    exact Or.inr hp
  · obtain ⟨_, _, _, _, _, hz, hn⟩ := hW
    refine ⟨hok, _, _, ([] ++ pa) ++ pv, ⟨[] ++ pa, pv, trodAll_append (hargs _ (fun _ _ => rfl)) (hres _ _ _), hvars _ (fun _ _ => rfl), rfl, ?_, ?_⟩, ?_⟩
    · intro b off hp
      have hm : MemPlace.cell b off ∈ before := by rw [hps]; simpa using hp
      rw [hB.frozen (p := ⟨b, off, none⟩) (hlt _ hm)]
      exact hz b off hm
    · intro ha
      have := hn ha
      rw [hps] at this
      simpa using this
    · intro p hp _
      rw [hps]
      simpa using hp
/-- a law that is true of these values, and leaves its arguments alone -/
theorem law_postW {g : FuncId} {f : Func} {s : ChangeSpec} {apart fresh handsOn again : Bool} {W : World} {base : Nat} {args : Array Value} {ds gs : List (DataW H)} {before : List MemPlace} {pts : List PT} {tb : TypeId}
    (hl : laidOutB P = true) (hpts : ptsOk P f.params.toList pts = true) (hvars : s.vars = []) (hres : f.resultTypes = #[tb]) (htb : P.underlying tb = some .bool)
    (hfn : ∀ ds : List (DataW H), ds.length = f.params.toList.length → (s.fn H ds).results = [.lit (.bool true)] ∧ (s.fn H ds).args = ds ∧ (s.fn H ds).vars = [])
    (hlaw : ∀ cvs, ValsOk pts args.toList → AllV W (flatT pts) cvs (flatV pts args.toList) → normV (flatT pts) cvs → Calls P g args W fun e W' => e = .returned (.bool true) ∧ Calm W W')
    (hval : ∀ (j : Nat) t v, f.params[j]? = some t → args[j]? = some v → Value.okWide P W .any base t v)
    (hW : DataW.Whole enc P f.params.toList s.vars apart W args.toList ds gs before) : Calls P g args W fun e W' => ∃ v, e = .returned v ∧ s.post enc P f apart fresh handsOn again W args v W' := by
  have hW' := hW
  have hlt := hW.lt
  obtain ⟨p, q, hA, hV, e, hfz, hnd⟩ := hW
  rw [hvars] at hV
  obtain ⟨e1, e2⟩ := trodVars_none hV
  subst e1; subst e2
  rw [List.append_nil] at e
  subst e
  obtain ⟨cvs, k1, k2, k3⟩ := vals_in (base := base) hpts (fun j t v a b => hval j t v (by rw [← Array.getElem?_toList]; exact a) (by rw [← Array.getElem?_toList]; exact b)) hA
  refine (hlaw cvs k1 k2 k3).mono fun e W' he => ?_
  obtain ⟨rfl, hcalm⟩ := he
  have hB := @Calm.below ⟨fun _ => 0, fun _ _ => 0, fun _ _ => []⟩ _ _ hcalm
  have hlen : ds.length = f.params.toList.length := (trodAll_length hA).2
  obtain ⟨f1, f2, f3⟩ := hfn ds hlen
  refine ⟨_, rfl, post_of_below (pa := before) (pv := []) hW' ?_ ?_ ?_ (by simp) hB ?_⟩
  · intro b sp hd
    rw [List.append_nil, f1, hres]
    exact trodAll_mk1 (shut_bool htb true)
  · intro sp hsp
    rw [List.append_nil, f2]
    exact args_stay hl hB hpts hlt hsp hA
  · intro sp hsp
    rw [List.append_nil, f3, hvars]
    exact rfl
  · rw [hres]
    exact ok_one (f := { f with resultTypes := #[tb] }) rfl rfl (okWide_bool_mk htb true)
/-- a law that is true of all values, and leaves its arguments alone -/
theorem fst_len {W : World} {t : TypeId} {ts us : List TypeId} {v : Value} {vs : List Value} {ds gs : List (DataW H)} {ps : List MemPlace} {fs : Array Field} {f0 : Field} {e : TypeId} {xs : Array Value} {a : Option Addr} {len cap : Nat} (hu : P.underlying t = some (.struct fs)) (h0 : fs[0]? = some f0) (ho : f0.offset = 0) (hc : P.cellsOf f0.type = 1) (hs : P.underlying f0.type = some (.slice e)) (hb : P.bytesOf e = 1)
    (hA : DataW.TrodAll enc P W 0 (fun _ => true) true (t :: ts) (v :: vs) ds ps) (hsz : (DataW.weightsEach P ((t :: ts) ++ us) (ds ++ gs)).all (· ≤ reachBytes) = true) (hv : v = .agg xs) (hx : xs[0]? = some (.slice a len cap)) : len ≤ reachBytes := by
  obtain ⟨v', vs', d, ds, q, q', e1, rfl, rfl, h1, _⟩ := trodAll_cons hA
  cases e1
  obtain ⟨fuel, hf⟩ := h1
  obtain ⟨ys, k', _, hd, _, c4, c5⟩ := DataW.trod_struct hu hf
  have hd1 : d = .agg (ys.map (·.1)) := congrArg Prod.fst hd
  have h5 := c5 0 f0 h0
  have h6 : ((v.cells.toList.drop f0.offset).take (P.cellsOf f0.type)) = [.slice a len cap] := by
    rw [hv, ho, hc]
    show (xs.toList.drop 0).take 1 = _
    have hx' : xs.toList[0]? = some (.slice a len cap) := by rw [Array.getElem?_toList]; exact hx
    cases hl : xs.toList with
    | nil => rw [hl] at hx'; cases hx'
    | cons y r =>
      rw [hl] at hx'
      have : y = .slice a len cap := by simpa using hx'
      subst this
      rfl
  rw [h6] at h5
  have hl0 : 0 < ys.length := by rw [c4]; exact (Array.getElem?_eq_some_iff.1 h0).1
  rw [List.getElem?_eq_getElem hl0] at h5
  have hle : ∀ n ∈ (ys[0]).1.weights P f0.type, n ≤ reachBytes := by
    intro n hn
    have m1 : n ∈ DataW.weightsEach P (fs.toList.map (·.type)) (ys.map (·.1)) := DataW.weights_mem_each (j := 0) (t := f0.type) (d := (ys[0]).1) (by rw [List.getElem?_map, Array.getElem?_toList, h0]; rfl) (by rw [List.getElem?_map, List.getElem?_eq_getElem hl0]; rfl) n hn
    have m2 : n ∈ d.weights P t := by
      rw [hd1]
      simp only [DataW.weights, hu]
      exact m1
    have m3 : n ∈ DataW.weightsEach P ((t :: ts) ++ us) ((d :: ds) ++ gs) := DataW.weights_mem_each (j := 0) (t := t) (d := d) rfl rfl n m2
    simpa using List.all_eq_true.1 hsz n m3
  rcases Deep.open_slice hs h5 with ⟨h7, _⟩ | ⟨a', len', cap', m, n, D, Pl, h7, _, _, _, _, h8, _⟩
  · have h7 : Value.slice a len cap = .slice none 0 0 := List.head_eq_of_cons_eq (show [Value.slice a len cap] = [Value.slice none 0 0] from h7)
    cases h7
    exact Nat.zero_le _
  · have h7 : Value.slice a len cap = .slice (some a') len' cap' := List.head_eq_of_cons_eq (show [Value.slice a len cap] = [Value.slice (some a') len' cap'] from h7)
    cases h7
    have := hle (((List.range len).map D).length * 1 + ((List.range (m - len)).map fun j => D (len + j)).length * 1) (by
      rw [h8]
      simp [DataW.weights, hs, hb])
    simp at this
    omega
theorem law_postN {g : FuncId} {f : Func} {s : ChangeSpec} {apart fresh handsOn again : Bool} {W : World} {base : Nat} {args : Array Value} {ds gs : List (DataW H)} {before : List MemPlace} {pts : List PT} {tb : TypeId}
    (hl : laidOutB P = true) (hpts : ptsOk P f.params.toList pts = true) (hvars : s.vars = []) (hres : f.resultTypes = #[tb]) (htb : P.underlying tb = some .bool)
    (hfn : ∀ ds : List (DataW H), ds.length = f.params.toList.length → (s.fn H ds).results = [.lit (.bool true)] ∧ (s.fn H ds).args = ds ∧ (s.fn H ds).vars = [])
    (hlaw : ∀ cvs, (∃ w vs, AllV w (flatT pts) cvs vs) → normV (flatT pts) cvs → PureSem P g pts [.inl (.sc .bool)] cvs [.b true])
    (hval : ∀ (j : Nat) t v, f.params[j]? = some t → args[j]? = some v → Value.okWide P W .any base t v)
    (hW : DataW.Whole enc P f.params.toList s.vars apart W args.toList ds gs before) : Calls P g args W fun e W' => ∃ v, e = .returned v ∧ s.post enc P f apart fresh handsOn again W args v W' :=
  law_postW (pts := pts) hl hpts hvars hres htb hfn (fun cvs k1 k2 k3 => (hlaw cvs ⟨W, _, k2⟩ k3 W args k1 k2).mono fun e W' he => by
    obtain ⟨val, rfl, ⟨_, _, h3⟩, hcalm⟩ := he
    obtain ⟨⟨x, hx, rfl⟩, _⟩ := h3
    cases hx
    exact ⟨rfl, hcalm⟩) hval hW
theorem law_post {g : FuncId} {f : Func} {s : ChangeSpec} {apart fresh handsOn again : Bool} {W : World} {base : Nat} {args : Array Value} {ds gs : List (DataW H)} {before : List MemPlace} {pts : List PT} {tb : TypeId}
    (hl : laidOutB P = true) (hpts : ptsOk P f.params.toList pts = true) (hvars : s.vars = []) (hres : f.resultTypes = #[tb]) (htb : P.underlying tb = some .bool)
    (hfn : ∀ ds : List (DataW H), ds.length = f.params.toList.length → (s.fn H ds).results = [.lit (.bool true)] ∧ (s.fn H ds).args = ds ∧ (s.fn H ds).vars = [])
    (hlaw : ∀ cvs, (∃ w vs, AllV w (flatT pts) cvs vs) → PureSem P g pts [.inl (.sc .bool)] cvs [.b true])
    (hval : ∀ (j : Nat) t v, f.params[j]? = some t → args[j]? = some v → Value.okWide P W .any base t v)
    (hW : DataW.Whole enc P f.params.toList s.vars apart W args.toList ds gs before) : Calls P g args W fun e W' => ∃ v, e = .returned v ∧ s.post enc P f apart fresh handsOn again W args v W' :=
  law_postW (pts := pts) hl hpts hvars hres htb hfn (fun cvs k1 k2 _ => (hlaw cvs ⟨W, _, k2⟩ W args k1 k2).mono fun e W' he => by
    obtain ⟨val, rfl, ⟨_, _, h3⟩, hcalm⟩ := he
    obtain ⟨⟨x, hx, rfl⟩, _⟩ := h3
    cases hx
    exact ⟨rfl, hcalm⟩) hval hW
end

/-! Arguments one by one. -/
theorem AllV.int {w : World} {k : IntKind} {ts : List CT} {cvs : List CV} {vs : List Value} (h : AllV w (.sc (.int k) :: ts) cvs vs) : ∃ x r vr, cvs = .n x :: r ∧ k.has x ∧ AllV w ts r vr := by
  cases cvs with
  | nil => cases vs <;> cases h
  | cons c r =>
    cases vs with
    | nil => cases h
    | cons v vr =>
      obtain ⟨⟨x, rfl, _, hx⟩, h2⟩ := h
      exact ⟨x, r, vr, rfl, hx, h2⟩
theorem AllV.bool {w : World} {ts : List CT} {cvs : List CV} {vs : List Value} (h : AllV w (.sc .bool :: ts) cvs vs) : ∃ x r vr, cvs = .b x :: r ∧ AllV w ts r vr := by
  cases cvs with
  | nil => cases vs <;> cases h
  | cons c r =>
    cases vs with
    | nil => cases h
    | cons v vr =>
      obtain ⟨⟨x, rfl, _⟩, h2⟩ := h
      exact ⟨x, r, vr, rfl, h2⟩
theorem AllV.list {w : World} {k : IntKind} {ts : List CT} {cvs : List CV} {vs : List Value} (h : AllV w (.lst [.int k] :: ts) cvs vs) : ∃ xs r vr, cvs = .l xs :: r ∧ xs.length ≤ big ∧ (∀ x ∈ xs, k.has x) ∧ AllV w ts r vr := by
  cases cvs with
  | nil => cases vs <;> cases h
  | cons c r =>
    cases vs with
    | nil => cases h
    | cons v vr =>
      obtain ⟨⟨n, f, rfl, hn, hl⟩, h2⟩ := h
      refine ⟨listF f n, r, vr, rfl, by simpa [listF] using hn, fun x hx => ?_, h2⟩
      obtain ⟨i, hi, rfl⟩ := List.mem_map.1 hx
      have hi : i < n := by simpa using hi
      rcases hl with ⟨rfl, _⟩ | ⟨l, A, _, _, _, _, _, _, hc⟩ | ⟨rfl, _⟩
      · omega
      rotate_left
      · omega
      · obtain ⟨v, _, hv⟩ := hc i (by simpa using hi)
        have e1 : i % 1 = 0 := by omega
        have e2 : i / 1 = i := by omega
        simp only [List.length_singleton, e1, e2, List.getD_cons_zero] at hv
        exact hv.2
theorem AllV.nil {w : World} {cvs : List CV} {vs : List Value} (h : AllV w [] cvs vs) : cvs = [] := by
  cases cvs with
  | nil => rfl
  | cons _ _ => cases vs <;> cases h
section
variable [Env]
theorem ls_dens {i : Nat} {lo hi : Int} {n : Nat} {xs : List Int} (h : Env.lst i [] = xs) (hl : xs.length ≤ n) (hr : ∀ x ∈ xs, lo ≤ x ∧ x ≤ hi) : (E.ls i .nl lo hi n).dens = xs := by
  show ((Env.lst i []).take n).map (clampI lo hi) = xs
  rw [h, List.take_of_length_le hl]
  refine (List.map_congr_left fun x hx => ?_).trans (List.map_id xs)
  exact clamp_eq (hr x hx)
theorem nm_den {i : Nat} {lo hi x : Int} (h : Env.val i = x) (hr : lo ≤ x ∧ x ≤ hi) : (X.ex (.nm i lo hi)).den = x := by
  show clampI lo hi (Env.val i) = x
  rw [h]; exact clamp_eq hr
theorem nb_den {i : Nat} {b : Bool} (h : Env.val i = bI b) : (B.ex (.eq (.nm i 0 1) (.num 1))).den = b := by
  show (clampI 0 1 (Env.val i) == (1 : Int)) = b
  rw [h]
  cases b <;> rfl
end
end Go.SX
