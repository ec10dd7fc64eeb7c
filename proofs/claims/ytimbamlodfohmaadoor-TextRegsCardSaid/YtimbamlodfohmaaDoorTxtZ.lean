/- strings.Join, as a contract. -/
import Derived.Test.YtimbamlodfohmaaDoorTxtY
namespace Go.SX.Txt
open Go Go.SX Go.Proofs
set_option maxRecDepth 1000000
set_option linter.unusedSectionVars false
def termsS : List Sc → Option (List E)
  | [] => some []
  | s :: r => match s.strE?, termsS r with
    | some e, some l => some (e :: l)
    | _, _ => none
/-- as strings.Join puts them together -/
def joinE (sep : E) : List E → E
  | [] => .nl
  | [e] => e
  | e :: r => ccE e (ccE sep (joinE sep r))
def tailE (sep : E) : List E → E
  | [] => .nl
  | e :: r => ccE sep (ccE e (tailE sep r))
section
variable [Env]
def joinCon : List AV → St → Out (AV × St) := fun args σ =>
  match args with
  | [.one (.sl nn id off len 1), .one (.str sep)] =>
    match sliceCells σ (.sl nn id off len 1) with
    | some c => match termsS c with
      | some es => match es with
        | [] => .fail "join: none"
        | e :: r => if c.length ≤ 1000 then
            .guard (B.mkLt (.c 1000000) (.ex (.ln (ccE e (tailE (numsE (numsOf sep)) r))))).mkNot (.ok (.one (.strt (ccE e (tailE (numsE (numsOf sep)) r))), σ)) else .fail "join: many"
      | none => .fail "join: terms"
    | none => .fail "join: cells"
  | _ => .fail "join"
theorem tailE_dens (sep : E) : ∀ es : List E, (tailE sep es).dens = (es.map fun e => sep.dens ++ e.dens).flatten
  | [] => rfl
  | e :: r => by rw [tailE, ccE_dens, ccE_dens, tailE_dens sep r]; simp
def u8s (l : List Int) : List UInt8 := l.map fun n => UInt8.ofNat n.toNat
theorem u8s_append (a b : List Int) : u8s (a ++ b) = u8s a ++ u8s b := List.map_append
theorem bytes_u8s (l : List Int) : bytesOf l = ⟨(u8s l).toArray⟩ := rfl
theorem terms_rel {ρ : Nat → Loc} {n : Nat} : ∀ {c : List Sc} {es : List E} {vs : List Value}, LRel ρ n c vs → termsS c = some es → vs = es.map (fun e => Value.string (bytesOf e.dens)) ∧ ∀ e ∈ es, ∀ x ∈ e.dens, 0 ≤ x ∧ x < 256
  | [], es, vs, h, ht => by
    cases ht
    have : vs = [] := List.eq_nil_of_length_eq_zero h.1.symm
    subst this
    exact ⟨rfl, fun e he => by cases he⟩
  | s :: c, es, vs, h, ht => by
    simp only [termsS] at ht
    split at ht
    · rename_i e l h1 h2
      cases ht
      cases vs with
      | nil => exact absurd h.1 (by simp)
      | cons v vs =>
        have hs : SRel ρ n s v := h.2 0 s v rfl rfl
        have hr : LRel ρ n c vs := ⟨by simpa using h.1, fun i a b x y => h.2 (i + 1) a b (by simpa using x) (by simpa using y)⟩
        obtain ⟨q1, q2⟩ := terms_rel hr h2
        have hb : ∃ l, s.bytes? = some l := by
          cases s <;> first | (cases h1; done) | exact ⟨_, rfl⟩
        obtain ⟨l0, hl0⟩ := hb
        obtain ⟨k1, _, k3⟩ := bytes?_rel hs hl0
        have hd : e.dens = l0 := strE_bytes hl0 h1
        refine ⟨by rw [List.map_cons, ← q1, k1, hd], fun e' he' => ?_⟩
        rcases List.mem_cons.1 he' with rfl | he'
        · rw [hd]; exact k3
        · exact q2 e' he'
    · cases ht
theorem joinCon_sound : ∀ args σ v σ', (joinCon args σ).run = some (v, σ') → Den Tryd.prog 37 args σ v σ' := by
  intro args σ v σ' h
  unfold joinCon at h
  split at h
  · rename_i nn id off len sep
    split at h
    · rename_i c hc
      split at h
      · rename_i es hes
        split at h
        · cases h
        · rename_i e r
          split at h
          · rename_i hmany
            obtain ⟨g, h⟩ := guard_some h
            cases h
            refine ⟨⟨_, Tryd.func37, rfl⟩, fun ρ w vals hrel hgl hv => ?_⟩
            obtain ⟨hv1, hv2⟩ := hv
            obtain ⟨y0, y1, rfl⟩ : ∃ y0 y1, vals = #[y0, y1] := by
              match vals, hv1 with
              | ⟨[y0, y1]⟩, _ => exact ⟨y0, y1, rfl⟩
            have e0 : SRel ρ σ.length (.sl nn id off len 1) y0 := hv2 0 _ y0 rfl rfl
            have e1 : y1 = .string sep ∧ sep.size ≤ big := hv2 1 _ y1 rfl rfl
            obtain ⟨rfl, _⟩ := e1
            have hsd : (numsE (numsOf sep)).dens = numsOf sep := numsE_D _
            have hJ : (ccE e (tailE (numsE (numsOf sep)) r)).dens = e.dens ++ (r.map fun e => numsOf sep ++ e.dens).flatten := by
              rw [ccE_dens, tailE_dens, hsd]
            rw [mkNot_den, mkLt_den, Bool.not_eq_true', decide_eq_false_iff_not] at g
            have g : ¬ ((1000000 : Int) < (((ccE e (tailE (numsE (numsOf sep)) r)).dens.length : Nat) : Int)) := g
            rcases sliceCells_rel hrel e0 hc with ⟨q, _⟩ | ⟨nn', id', off', len', sz', q, hcl, _, hval⟩
            · cases q
            · cases q
              have hlr : ∃ (A : Addr) (k : Nat) (vs : List Value), y0 = .slice (some A) len' k ∧ A.spot = none ∧ len' ≤ k ∧ (ρ id).live = true ∧ (0 < k → A = ⟨(ρ id).block, (ρ id).base + off' * 1, none⟩) ∧ LRel ρ σ.length c vs ∧
                  (∀ (j : Nat) v, vs[j]? = some v → w.cell? (A.add j) = some v) := by
                have hpos : 0 < c.length := by
                  cases c with
                  | nil => cases hes
                  | cons _ _ => simp
                rcases hval with ⟨_, hz, _⟩ | ⟨A, k, vs, a1, a2, a3, a4, _, a6, _, a8, a9⟩ | ⟨hz, _⟩
                · omega
                · exact ⟨A, k, vs, a1, a2, a3, a4, a6, a8, a9⟩
                · omega
              obtain ⟨A, k, vs, rfl, _, hle, hlive, hA, hvs, hcell⟩ := hlr
              obtain ⟨t1, t2⟩ := terms_rel hvs hes
              have hcl2 : c.length = (e :: r).length := by
                have := hvs.1
                rw [t1, List.length_map] at this
                exact this
              have hlen' : len' = (e :: r).length := by omega
              have hk : 0 < k := by rw [hlen'] at hle; simp at hle; omega
              have hAe := hA hk
              subst hAe
              have hbk : (ρ id).block < w.heap.size := by
                refine hrel.bnd id ⟨hlive, ?_⟩
                intro hd
                simp only [sliceCells] at hc
                rw [hd] at hc; cases hc
              have hjoin : (⟨(Lib.join (((e :: r).map fun e => bytesOf e.dens).map (·.data.toList)) sep.data.toList).toArray⟩ : ByteArray) = bytesOf (ccE e (tailE (numsE (numsOf sep)) r)).dens := by
                rw [hJ, bytes_u8s]
                congr 2
                have hb : ∀ l : List Int, (bytesOf l).data.toList = u8s l := fun l => by rw [bytesOf_data]; rfl
                have hs : sep.data.toList = u8s (numsOf sep) := by
                  have := bytesOf_numsOf sep
                  rw [← hb, this]
                rw [List.map_cons, List.map_cons, Lib.join_cons, u8s_append, hb, hs]
                congr 1
                unfold Lib.joinTail
                rw [List.map_map, List.map_map]
                have : ∀ l : List (List Int), u8s l.flatten = (l.map u8s).flatten := fun l => by unfold u8s; rw [List.map_flatten]
                rw [this, List.map_map]
                congr 1
                refine List.map_congr_left fun x _ => ?_
                show u8s (numsOf sep) ++ (bytesOf x.dens).data.toList = u8s (numsOf sep ++ x.dens)
                rw [hb, u8s_append]
              have hsize : (Lib.join (((e :: r).map fun e => bytesOf e.dens).map (·.data.toList)) sep.data.toList).length = (ccE e (tailE (numsE (numsOf sep)) r)).dens.length := by
                have h1 := congrArg ByteArray.size hjoin
                rw [bytesOf_size] at h1
                exact h1
              have hrun := Tryd.strings_Join (ρ id).block ((ρ id).base + off' * 1) k ((e :: r).map fun e => bytesOf e.dens) sep w (fun j x hj => by
                have := hcell j (.string x) (by
                  have h1 : vs = ((e :: r).map fun e => bytesOf e.dens).map Value.string := by rw [t1, List.map_map]; rfl
                  rw [h1, List.getElem?_map, hj]; rfl)
                rw [Addr.add_lit] at this
                exact this) hbk (by rw [List.length_map, ← hcl2]; omega) (by rw [List.length_map, ← hlen']; exact hle) (by rw [hsize]; omega)
              rw [List.length_map, ← hlen'] at hrun
              refine hrun.mono fun e' w' he => ?_
              obtain ⟨rfl, hbel⟩ := he
              rw [hjoin]
              obtain ⟨q1, q2⟩ := hrel.calm (w' := w') ⟨hbel.os, hbel.tape, hbel.output, hbel.size, fun b hb => hbel.block b hb⟩
              refine ⟨_, ρ, rfl, ⟨rfl, ?_, ?_⟩, q1, q2⟩
              · show (ccE e (tailE (numsE (numsOf sep)) r)).dens.length ≤ big
                unfold big; omega
              · show ∀ x ∈ (ccE e (tailE (numsE (numsOf sep)) r)).dens, _
                rw [hJ]
                intro x hx
                rcases List.mem_append.1 hx with hx | hx
                · exact t2 e (List.mem_cons_self ..) x hx
                · obtain ⟨l, hl, hxl⟩ := List.mem_flatten.1 hx
                  obtain ⟨e2, he2, rfl⟩ := List.mem_map.1 hl
                  rcases List.mem_append.1 hxl with hx | hx
                  · exact numsOf_range _ x hx
                  · exact t2 e2 (List.mem_cons_of_mem _ he2) x hx
          · cases h
      · cases h
    · cases h
  · cases h
end
end Go.SX.Txt
