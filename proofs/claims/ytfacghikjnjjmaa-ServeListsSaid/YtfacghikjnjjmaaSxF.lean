/- Results with lists, shown by a run. -/
import Derived.Test.YtfacghikjnjjmaaSxE
namespace Go.SX
open Go Go.Lib
set_option linter.unusedSectionVars false
variable [Env]

/-- shown by a run -/
theorem pure_of_eval {P : Program} {call : FuncId → List AV → St → Out (AV × St)} (hc : CallSound P call) {g : FuncId} {pts rts : List PT} (rps : List Rp) {cvs res : List CV} (hok : rpsOk (flatT pts) rps = true) (hcv : rpCVs (flatT pts) rps = cvs)
    (h : (call g (splitA pts (rpCells (flatT pts) rps 0)) (rpObjs (flatT pts) rps)).val (resDen rts) = some res) : PureSem P g pts rts cvs res := by
  subst hcv
  obtain ⟨⟨v, σ'⟩, h1, h2⟩ := val_some h
  obtain ⟨_, hden⟩ := hc _ _ _ _ _ h1
  intro w vals hvo hall
  obtain ⟨ρ, q1, q2, q3⟩ := rp_place hall hok
  obtain ⟨e1, e2⟩ := split_ok pts vals.toList _ hvo q2
  refine (hden ρ w vals q1 noG ⟨by simpa using e1, fun i a x b c => e2 i a x b (by simpa using c)⟩).mono fun e w' he => ?_
  obtain ⟨val, ρ', k1, k2, k3, k4⟩ := he
  unfold resDen at h2
  split at h2
  · rename_i c hc'
    split at h2
    · rename_i cvs' gg hin
      cases hg : gg.den with
      | false => rw [hg] at h2; cases h2
      | true =>
        rw [hg] at h2
        cases h2
        obtain ⟨r1, r2, r3⟩ := flat_rel2 hc' k2
        unfold EndIs at k1
        rw [resFlat_np hc'] at k1
        exact ⟨val, k1, ⟨r1, r2, cells_in k3 _ _ _ _ _ r3 hin hg⟩, k4.os, k4.tape, k4.output, k4.size, fun b hb => k4.keep b hb fun i hi => (q3 i hi).elim⟩
    · cases h2
  · cases h2



/-- what a result's cells say; the rows that they own -/
def cellRes (σ : St) (t : CT) (s : Sc) : Option CV :=
  match t, s with
  | .sc (.int k), .int k' x => if k = k' then some (.n x.den) else none
  | .sc .bool, .bool b => some (.b b.den)
  | .str, s => s.bytes?.map fun xs => CV.l xs
  | .lst ks, .nils => some (listCV ks (fun _ _ => 0) 0)
  | .lst ks, .sl nn id (.c o) len sz =>
    match σ.at id with
    | .row true z _ => if o = 0 ∧ z = ks.length ∧ sz = ks.length then (semRows σ ks (.sl nn id (.c o) len sz)).bind fun (n, f, g) => bif g.den then some (listCV ks f n.den.toNat) else none else none
    | _ => none
  | _, _ => none
def cellsRes (σ : St) : List CT → List Sc → Option (List CV)
  | [], [] => some []
  | t :: ts, s :: r => (cellRes σ t s).bind fun v => (cellsRes σ ts r).bind fun vs => some (v :: vs)
  | _, _ => none
def lstIds : List CT → List Sc → List Nat
  | t :: ts, s :: r => (if t.isL then s.ids else []) ++ lstIds ts r
  | _, _ => []
def resDenL (rts : List PT) (x : AV × St) : Option (List CV) :=
  match resFlat rts x.1 with
  | some c => if nodupB (lstIds (flatT rts) c) then cellsRes x.2 (flatT rts) c else none
  | none => none
def Rp.okL : CT → Rp → Bool
  | .lst _, .f _ => true
  | .lst _, _ => false
  | t, r => r.ok t
def rpsOkL : List CT → List Rp → Bool
  | [], [] => true
  | t :: ts, r :: rs => r.okL t && rpsOkL ts rs
  | _, _ => false

/-- a list of a result in its row -/
theorem res_row {ρ : Nat → Loc} {σ : St} {w w' : World} {ks : List Kd} {s : Sc} {x : Value} {cv : CV} (hr : Rel ρ σ w') (hs : SRel ρ σ.length s x) (h : cellRes σ (.lst ks) s = some cv)
    (hfresh : ∀ i, owned ρ σ i → w.heap.size ≤ (ρ i).block) :
    ∃ L : Loc, (∀ (ρ2 : Nat → Loc) (m j : Nat), j < m → ρ2 j = L → SRel ρ2 m (.sl false j (.c 0) (.sem (cv.len : Int)) ks.length) x) ∧ (∀ ρ2 m, ORel ρ2 m w' L (.row true ks.length (.fn cv.len ks cv.fn))) ∧
      (L.live = true → w.heap.size ≤ L.block ∧ L.block < w'.heap.size) ∧ (L.live = true → ∃ id, s.ids = [id] ∧ owned ρ σ id ∧ L.block = (ρ id).block) := by
  unfold cellRes at h
  split at h
  · cases ‹CT.lst ks = _›
  · cases ‹CT.lst ks = _›
  · cases ‹CT.lst ks = _›
  · rename_i ks' e
    cases e
    cases h
    have hx : x = .slice none 0 0 := hs
    subst hx
    refine ⟨noLoc, fun ρ2 m j hj hρ => ⟨0, 0, rfl, by show ((listCV ks (fun _ _ => 0) 0).len : Int) = _; rw [listCV_len], by omega, hj, .inl ⟨rfl, rfl, rfl⟩⟩, fun ρ2 m => ⟨fun _ => by show (listCV ks (fun _ _ => 0) 0).len * ks.length = 0; rw [listCV_len, Nat.zero_mul], fun h => by cases h⟩, fun h => (by cases h), fun h => (by cases h)⟩
  · rename_i ks' nn id o len sz e
    cases e
    split at h
    · rename_i z c hat
      split at h
      · rename_i hc
        obtain ⟨rfl, rfl, rfl⟩ := hc
        obtain ⟨⟨n, f, g⟩, h1, h2⟩ := Option.bind_eq_some_iff.1 h
        cases hg : g.den with
        | false => simp only [hg, cond_false] at h2; cases h2
        | true =>
          simp only [hg, cond_true, Option.some.injEq] at h2
          subst h2
          obtain ⟨m, e1, e2, e3⟩ := semRows_rel hr hs h1 hg
          rw [e1, Int.toNat_natCast]
          obtain ⟨o', l', ho, hl, hbig, hid, hsl⟩ := hs
          have ho0 : o' = 0 := by have : (0 : Int) = (o' : Int) := ho; omega
          subst ho0
          have hob := hr.obj id
          rw [hat] at hob
          rcases hsl with ⟨_, hl0, rfl⟩ | ⟨A, cp, rfl, hlive, hspot, hle, hcap, hA⟩ | ⟨hl0, A, rfl, hspot⟩
          rotate_left 2
          · rcases e3 with ⟨_, e4⟩ | ⟨A', k, vs, e4, _⟩
            · cases e4
            · cases e4
              refine ⟨noLoc, fun ρ2 m j hj hρ => ⟨0, 0, rfl, by show ((listCV ks f 0).len : Int) = _; rw [listCV_len], by omega, hj, .inr (.inr ⟨rfl, A, rfl, hspot⟩)⟩, fun ρ2 m => ⟨fun _ => by show (listCV ks f 0).len * ks.length = 0; rw [listCV_len, Nat.zero_mul], fun h => by cases h⟩, fun h => (by cases h), fun h => (by cases h)⟩
          · rcases e3 with ⟨rfl, _⟩ | ⟨A', k, vs, e4, _⟩
            · refine ⟨noLoc, fun ρ2 m j hj hρ => ⟨0, 0, rfl, by show ((listCV ks f 0).len : Int) = _; rw [listCV_len], by omega, hj, .inl ⟨rfl, rfl, rfl⟩⟩, fun ρ2 m => ⟨fun _ => by show (listCV ks f 0).len * ks.length = 0; rw [listCV_len, Nat.zero_mul], fun h => by cases h⟩, fun h => (by cases h), fun h => (by cases h)⟩
            · cases e4
          · rcases e3 with ⟨_, e4⟩ | ⟨A', k, vs, e4, e5, e6, e7, e8⟩
            · cases e4
            · cases e4
              have hown : owned ρ σ id := ⟨hlive, by rw [hat]; rfl⟩
              refine ⟨ρ id, fun ρ2 m2 j hj hρ => ⟨0, m, rfl, by show ((listCV ks f m).len : Int) = _; rw [listCV_len], e2, hj, .inr <| .inl ⟨A, cp, rfl, by rw [hρ]; exact hlive, hspot, hle, by rw [hρ]; exact hcap, fun h => by rw [hρ]; exact hA h⟩⟩, fun ρ2 m2 => ⟨fun h => (by rw [hlive] at h; cases h), fun _ => ⟨fun i s hs => ?_, fun _ => ?_⟩⟩, fun _ => ⟨hfresh id hown, hr.bnd id hown.used⟩, fun _ => ⟨id, rfl, hown, rfl⟩⟩
              · have hlt := Cells.at_lt hs
                simp only [Cells.len, listCV_len] at hlt
                simp only [Cells.at] at hs
                split at hs
                · rename_i hh
                  cases hs
                  have hrl : (rowVals ks f m).length = m * ks.length := by simp [rowVals]
                  have hv : i < vs.length := by omega
                  have hk : 0 < cp := by
                    rcases Nat.eq_zero_or_pos cp with h0 | h0
                    · have : m = 0 := by omega
                      subst this; omega
                    · exact h0
                  refine ⟨vs[i], ?_, ?_⟩
                  · have := e7 i vs[i] (List.getElem?_eq_getElem hv)
                    rw [hA hk, Addr.add_lit, Nat.zero_mul, Nat.add_zero] at this
                    exact this
                  · have := e8.2 i ((ks.getD (i % ks.length) .bool).sc (f (i / ks.length) (i % ks.length))) vs[i] (by simp [rowVals, hlt]) (List.getElem?_eq_getElem hv)
                    rw [listCV_fn (by rw [← listCV_len ks f m]; exact hh.2) (Nat.mod_lt _ hh.1)]
                    exact Kd.sc_rel.2 (Kd.sc_rel.1 this)
                · cases hs
              · obtain ⟨cells, elem, fr, q1, q2, q3, q4⟩ := (hob.2 hlive).2 rfl
                refine ⟨cells, elem, fr, q1, q2, ?_, q4⟩
                show (listCV ks f m).len * ks.length ≤ _
                rw [listCV_len]
                exact Nat.mul_le_mul_right _ (by omega)
      · cases h
    · cases h
  · cases h
theorem nodupB_cons {i : Nat} {r : List Nat} (h : nodupB (i :: r) = true) : ¬ i ∈ r ∧ nodupB r = true := by
  simp only [nodupB, Bool.and_eq_true, Bool.not_eq_true'] at h
  exact ⟨by simpa using h.1, h.2⟩
theorem nodupB_append {l r : List Nat} (h : nodupB (l ++ r) = true) : nodupB r = true ∧ ∀ i, i ∈ l → ¬ i ∈ r := by
  induction l with
  | nil => exact ⟨h, fun i hi => by cases hi⟩
  | cons a l ih =>
    obtain ⟨h1, h2⟩ := nodupB_cons (show nodupB (a :: (l ++ r)) = true from h)
    obtain ⟨h3, h4⟩ := ih h2
    refine ⟨h3, fun i hi hr => ?_⟩
    rcases List.mem_cons.1 hi with rfl | hi
    · exact h1 (List.mem_append_right _ hr)
    · exact h4 i hi hr
theorem res_scalar {ρ : Nat → Loc} {σ : St} {t : CT} {s : Sc} {x : Value} {r : Rp} (hs : SRel ρ σ.length s x) (ht : t.isL = false) (h : cellRes σ t s = some (r.cv t)) (hok : r.okL t = true) : r.obj t = [] ∧ ∀ ρ2 m j, SRel ρ2 m (r.cell t j) x := by
  cases t with
  | lst ks => cases ht
  | sc k =>
    cases k with
    | int k =>
      cases r <;> first | (cases hok; done) | skip
      cases s <;> first | (cases h; done) | skip
      simp only [cellRes] at h
      split at h
      · rename_i e; subst e
        simp only [Rp.cv, Option.some.injEq, CV.n.injEq] at h
        refine ⟨rfl, fun ρ2 m j => ?_⟩
        obtain ⟨h1, h2⟩ := hs
        exact ⟨by rw [h1, h], by rw [← h]; exact h2⟩
      · cases h
    | bool =>
      cases r <;> first | (cases hok; done) | skip
      cases s <;> first | (cases h; done) | skip
      simp only [cellRes, Rp.cv, Option.some.injEq, CV.b.injEq] at h
      refine ⟨rfl, fun ρ2 m j => ?_⟩
      have hs : x = .bool _ := hs
      show x = .bool _
      rw [hs, h]
  | str =>
    cases r <;> first | (cases hok; done) | skip
    rename_i xs
    have h' : (s.bytes?.map fun xs => CV.l xs) = some (CV.l xs) := by
      cases s <;> exact h
    obtain ⟨l, h1, h2⟩ := Option.map_eq_some_iff.1 h'
    cases h2
    obtain ⟨q1, q2, q3⟩ := bytes?_rel hs h1
    exact ⟨rfl, fun ρ2 m j => ⟨q1, q2, q3⟩⟩
theorem res_place {ρ : Nat → Loc} {σ : St} {w w' : World} (hr : Rel ρ σ w') (hfresh : ∀ i, owned ρ σ i → w.heap.size ≤ (ρ i).block) :
    ∀ (ts : List CT) (c : List Sc) (vs : List Value) (rps : List Rp), LRel ρ σ.length c vs → cellsRes σ ts c = some (rpCVs ts rps) → rpsOkL ts rps = true → nodupB (lstIds ts c) = true →
    ∃ Ls : List Loc, Ls.length = (rpObjs ts rps).length ∧
      (∀ (j : Nat) (ρ2 : Nat → Loc) (m : Nat), j + Ls.length ≤ m → (∀ i, i < Ls.length → ρ2 (j + i) = Ls.getD i noLoc) → LRel ρ2 m (rpCells ts rps j) vs) ∧
      (∀ (i : Nat) L o, Ls[i]? = some L → (rpObjs ts rps)[i]? = some o → (∀ ρ2 m, ORel ρ2 m w' L o.mine) ∧ (∀ M pg, o.mine ≠ .pmem M pg) ∧ (L.live = true → w.heap.size ≤ L.block ∧ L.block < w'.heap.size)) ∧
      (∀ (i j : Nat) L L', i ≠ j → Ls[i]? = some L → Ls[j]? = some L' → L.live = true → L'.live = true → L.block ≠ L'.block) ∧
      ∀ (i : Nat) L, Ls[i]? = some L → L.live = true → ∃ id, id ∈ lstIds ts c ∧ owned ρ σ id ∧ L.block = (ρ id).block
  | [], [], vs, rps, hl, h, hok, _ => by
    cases rps with
    | nil =>
      cases vs with
      | nil => exact ⟨[], rfl, fun _ _ _ _ _ => .nil, fun i L o h => by simp at h, fun i j L L' _ h => by simp at h, fun i L h => by simp at h⟩
      | cons _ _ => exact absurd hl.1 (by simp)
    | cons _ _ => cases hok
  | [], _ :: _, _, _, _, h, _, _ => by cases h
  | _ :: _, [], _, _, _, h, _, _ => by cases h
  | t :: ts, s :: c, vs, rps, hl, h, hok, hnd => by
    cases rps with
    | nil => cases hok
    | cons r rps =>
      obtain ⟨v, vr, rfl, hv1, hv2⟩ := hl.inv
      simp only [rpsOkL, Bool.and_eq_true] at hok
      simp only [cellsRes] at h
      obtain ⟨cv, h1, h⟩ := Option.bind_eq_some_iff.1 h
      obtain ⟨cvs, h2, h⟩ := Option.bind_eq_some_iff.1 h
      simp only [rpCVs, Option.some.injEq, List.cons.injEq] at h
      obtain ⟨rfl, rfl⟩ := h
      obtain ⟨hnd1, hnd2⟩ := nodupB_append (show nodupB ((if t.isL then s.ids else []) ++ lstIds ts c) = true from hnd)
      obtain ⟨Ls, q1, q2, q3, q4, q5⟩ := res_place hr hfresh ts c vr rps hv2 h2 hok.2 hnd1
      cases ht : t.isL with
      | false =>
        obtain ⟨g1, g2⟩ := res_scalar hv1 ht h1 hok.1
        refine ⟨Ls, by rw [rpObjs, g1]; exact q1, fun j ρ2 m hm hρ => ?_, by rw [rpObjs, g1]; exact q3, q4, fun i L a b => ?_⟩
        · rw [rpCells, nextJ, ht]
          exact .cons (g2 ρ2 m j) (q2 j ρ2 m hm hρ)
        · obtain ⟨id, k1, k2⟩ := q5 i L a b
          exact ⟨id, List.mem_append_right _ k1, k2⟩
      | true =>
        cases t <;> first | (cases ht; done) | skip
        cases r <;> first | (cases hok.1; done) | skip
        rename_i cv
        obtain ⟨L, p1, p2, p3, p4⟩ := res_row (w := w) hr hv1 h1 hfresh
        refine ⟨L :: Ls, by show Ls.length + 1 = (rpObjs ts rps).length + 1; omega, fun j ρ2 m hm hρ => ?_, fun i L' o a b => ?_, fun i j L1 L2 hij a b l1 l2 => ?_, fun i L' a b => ?_⟩
        · rw [List.length_cons] at hm hρ
          refine .cons (p1 ρ2 m j (by omega) (by have := hρ 0 (by omega); simpa using this)) (q2 (j + 1) ρ2 m (by omega) fun i hi => ?_)
          have := hρ (i + 1) (by omega)
          rw [show j + 1 + i = j + (i + 1) by omega, this]
          simp
        · cases i with
          | zero => cases a; cases b; exact ⟨p2, fun _ _ e => (by cases e), p3⟩
          | succ i => exact q3 i L' o (by simpa using a) (by exact b)
        · have far : ∀ (k : Nat) L', Ls[k]? = some L' → L'.live = true → L.live = true → L.block ≠ L'.block := by
            intro k L' hk hl' hl e
            obtain ⟨id, k1, k2, k3⟩ := p4 hl
            obtain ⟨id', k4, k5, k6⟩ := q5 k L' hk hl'
            have hne : id ≠ id' := fun e => hnd2 id (by simp [CT.isL, k1]) (e ▸ k4)
            refine hr.sep id id' hne k2 k5.used (ρ id).block (foot_block _ _ _) ?_
            rw [← k3, e, k6]; exact foot_block _ _ _
          cases i with
          | zero =>
            cases a
            cases j with
            | zero => exact (hij rfl).elim
            | succ j => exact far j L2 (by simpa using b) l2 l1
          | succ i =>
            cases j with
            | zero => cases b; exact Ne.symm (far i L1 (by simpa using a) l1 l2)
            | succ j => exact q4 i j L1 L2 (by omega) (by simpa using a) (by simpa using b) l1 l2
        · cases i with
          | zero =>
            cases a
            obtain ⟨id, k1, k2⟩ := p4 b
            exact ⟨id, List.mem_append_left _ (by simp [CT.isL, k1]), k2⟩
          | succ i =>
            obtain ⟨id, k1, k2⟩ := q5 i L' (by simpa using a) b
            exact ⟨id, List.mem_append_right _ k1, k2⟩
/-- shown by a run -/
theorem pureL_of_eval {P : Program} {call : FuncId → List AV → St → Out (AV × St)} (hc : CallSound P call) {g : FuncId} {pts rts : List PT} (rps : List Rp) {cvs : List CV} {out : List Rp} (hok : rpsOk (flatT pts) rps = true) (hcv : rpCVs (flatT pts) rps = cvs)
    (h : (call g (splitA pts (rpCells (flatT pts) rps 0)) (rpObjs (flatT pts) rps)).val (resDenL rts) = some (rpCVs (flatT rts) out)) (hout : rpsOkL (flatT rts) out = true) : PureSemL P g pts rts cvs out := by
  subst hcv
  obtain ⟨⟨v, σ'⟩, h1, h2⟩ := val_some h
  obtain ⟨_, hden⟩ := hc _ _ _ _ _ h1
  intro w vals hvo hall
  obtain ⟨ρ, q1, q2, q3⟩ := rp_place hall hok
  obtain ⟨e1, e2⟩ := split_ok pts vals.toList _ hvo q2
  refine (hden ρ w vals q1 noG ⟨by simpa using e1, fun i a x b c => e2 i a x b (by simpa using c)⟩).mono fun e w' he => ?_
  obtain ⟨val, ρ', k1, k2, k3, k4⟩ := he
  unfold resDenL at h2
  split at h2
  · rename_i c hc'
    split at h2
    · rename_i hnd
      obtain ⟨r1, r2, r3⟩ := flat_rel2 hc' k2
      unfold EndIs at k1
      rw [resFlat_np hc'] at k1
      obtain ⟨Ls, p1, p2, p3, p4, _⟩ := res_place (w := w) k3 (fun i hi => by
        rcases k4.own i hi _ (foot_block _ _ _) with ⟨j, hj, _⟩ | hge
        · exact (q3 j hj).elim
        · exact hge) _ _ _ _ r3 h2 hout hnd
      exact ⟨val, k1, ⟨k4.os, k4.tape, k4.output, k4.size, fun b hb => k4.keep b hb fun i hi => (q3 i hi).elim⟩, r1, r2, Ls, p1, p2, p3, p4⟩
    · cases h2
  · cases h2
end Go.SX
