/- strings.Builder's methods, strings.Fields: as contracts. -/
import Derived.Test.YtimbamlodfohmaaDoorGxV
import Derived.Test.YtimbamlodfohmaaDoorTxtB
namespace Go.SX.Txt
open Go Go.SX Go.Proofs
set_option maxRecDepth 1000000
set_option linter.unusedSectionVars false
def tab : List Sc := Lib.asciiSpaceTab.map fun z => .int .u8 (.c z)
def recov (M : Int → Int) : List Int := (List.range (M (-2)).toNat).map fun i => M (i : Nat)
theorem recov_bld (l : List Int) : recov (bldM l) = l := by
  unfold recov
  have h2 : (bldM l (-2)).toNat = l.length := by show ((l.length : Nat) : Int).toNat = _; rw [Int.toNat_natCast]
  rw [h2]
  refine List.ext_getElem (by simp) fun i h1 h3 => ?_
  simp only [List.getElem_map, List.getElem_range]
  unfold bldM
  rw [if_neg (by omega), if_neg (by omega), Int.toNat_natCast, List.getD_eq_getElem?_getD, List.getElem?_eq_getElem h3]; rfl
section
variable [Env]
theorem bld_upd {ρ : Nat → Loc} {σ : St} {w w' : World} {id : Nat} {M : Int → Int} {pg : Int → Bool} {o' : AO} {p v : Value} {T : TypeId} {fr : Nat × Nat} (h : Rel ρ σ w) (hat : σ.at id = .pmem M pg) (hlive : (ρ id).live = true)
    (hb : w.heap[(ρ id).block]? = some (.cells #[p, v] T fr)) (hf : ∀ k, k < w.heap.size → k ≠ (ρ id).block → some k ≠ v.ownBlock → w'.heap[k]? = w.heap[k]?)
    (hos : w'.os = w.os) (ht : w'.tape = w.tape) (hout : w'.output = w.output) (hsize : w.heap.size ≤ w'.heap.size) (ho : ORel ρ σ.length w' (ρ id) o')
    (hft : ∀ b, foot w' (ρ id) o' b → (b = (ρ id).block ∨ v.ownBlock = some b) ∨ w.heap.size ≤ b) : Rel ρ (σ.set id o') w' ∧ Ext ρ σ w ρ (σ.set id o') w' := by
  have hown : owned ρ σ id := ⟨hlive, by rw [hat]; rfl⟩
  have hid : id < σ.length := hown.used.lt
  have hfoot : ∀ b, (b = (ρ id).block ∨ v.ownBlock = some b) → foot w (ρ id) (σ.at id) b := by
    intro b h
    rcases h with h | h
    · exact .inl h
    · exact .inr ⟨M, pg, hat, .inr ⟨p, v, T, fr, hb, h⟩⟩
  have hsame : ∀ b, b < w.heap.size → ¬ foot w (ρ id) (σ.at id) b → w'.heap[b]? = w.heap[b]? := fun b hb1 hn => hf b hb1 (fun e => hn (.inl e)) (fun e => hn (hfoot b (.inr e.symm)))
  have hati : St.at (σ.set id o') id = o' := by rw [St.at_set, if_pos ⟨rfl, hid⟩]
  have hatj : ∀ i, i ≠ id → St.at (σ.set id o') i = σ.at i := fun i hi => by rw [St.at_set, if_neg (fun e => hi e.1)]
  refine ⟨h.upd (fun _ _ => rfl) (by simp) id (fun i hi => .inl (hatj i hi)) (fun i hi hu _ b hb => hsame b (h.fbnd hu hb) (fun hfi => h.sep id i (Ne.symm hi) hown hu b hfi hb)) ?_ (fun _ => by have := h.bnd id hown.used; omega) hsize ?_,
    ⟨by simp, fun _ _ => rfl, hos, ht, hout, hsize, fun b hb hn => hsame b hb (hn id hown), fun i hi b hb => ?_⟩⟩
  · rw [hati, List.length_set]; exact ho
  · intro _ j hj hu _ b hb1 hb2
    rw [hati] at hb1
    rcases hft b hb1 with h1 | h1
    · exact h.sep id j (Ne.symm hj) hown hu b (hfoot b h1) hb2
    · have := h.fbnd hu hb2
      omega
  · by_cases e : i = id
    · subst e
      rw [hati] at hb
      rcases hft b hb with h1 | h1
      · exact .inl ⟨i, hown, hfoot b h1⟩
      · exact .inr h1
    · have hio : owned ρ σ i := ⟨hi.1, by rw [← hatj i e]; exact hi.2⟩
      rw [hatj i e] at hb
      refine .inl ⟨i, hio, ?_⟩
      exact (foot_keep (hsame _ (h.bnd i hio.used) (fun hfi => h.sep id i (Ne.symm e) hown hio.used _ hfi (foot_block _ _ _)))).1 hb
/-- what a pointer to a builder means -/
theorem bld_at {ρ : Nat → Loc} {σ : St} {w : World} {id : Nat} {M : Int → Int} {pg : Int → Bool} (h : Rel ρ σ w) (hat : σ.at id = .pmem M pg) (hm : M (-1) = 300) :
    (ρ id).live = true ∧ (ρ id).base = 0 ∧ ∃ l p v, M = bldM l ∧ (∀ x ∈ l, 0 ≤ x ∧ x < 256) ∧ (p = .pointer none ∨ p = .pointer (some ⟨(ρ id).block, 0, none⟩)) ∧ w.heap[(ρ id).block]? = some (.cells #[p, v] 61 (0, 0)) ∧
      w.ownsRow 0 5 1 v l.length (l.map fun x => Value.int .u8 x) ∧ v.ownBlock ≠ some (ρ id).block := by
  have hob := h.obj id
  rw [hat] at hob
  obtain ⟨hl, ⟨_, _, _, hg⟩ | ⟨h0, T, e, l, p, v, hB, q⟩⟩ := hob
  · have := hg.byte (-1)
    omega
  · have hB2 := (show bldL = some (61, 5) from rfl).symm.trans hB
    cases hB2
    exact ⟨hl, h0, l, p, v, q⟩
def writeCon : List AV → St → Out (AV × St) := fun args σ =>
  match args with
  | [.one (.ptr id (.c 0) 1 0 _), .one (.str s)] =>
    match σ.at id with
    | .pmem M pg => if M (-1) = 300 ∧ (recov M).length + s.size ≤ 1000000 then .ok (.tup [.inl (.int .i64 (.c (s.size : Int))), .inl .nili], σ.set id (.pmem (bldM (recov M ++ numsOf s)) pg)) else .fail "write"
    | _ => .fail "write: no builder"
  | _ => .fail "write: args"
theorem ptr_val {ρ : Nat → Loc} {n id hi : Nat} {y : Value} (h : SRel ρ n (.ptr id (.c 0) 1 0 hi) y) (h0 : (ρ id).base = 0) : y = .pointer (some ⟨(ρ id).block, 0, none⟩) := by
  obtain ⟨_, _, r, hr, _, hy⟩ := h
  have hr : (0 : Int) = r := hr
  have : r = 0 := by omega
  subst this
  rw [hy, h0]; rfl
theorem writeCon_sound : ∀ args σ v σ', (writeCon args σ).run = some (v, σ') → Den Tryd.prog 30 args σ v σ' := by
  intro args σ v σ' h
  unfold writeCon at h
  split at h
  · rename_i id hi s
    split at h
    · rename_i M pg hat
      split at h
      · rename_i hc
        obtain ⟨hm, hlen⟩ := hc
        cases h
        refine ⟨⟨_, Tryd.func30, rfl⟩, fun ρ w vals hrel hgl hv => ?_⟩
        obtain ⟨hv1, hv2⟩ := hv
        obtain ⟨y0, y1, rfl⟩ : ∃ y0 y1, vals = #[y0, y1] := by
          match vals, hv1 with
          | ⟨[y0, y1]⟩, _ => exact ⟨y0, y1, rfl⟩
        obtain ⟨hl, h0, l, p, u, rfl, hrng, hp, hheap, hown, hne⟩ := bld_at hrel hat hm
        have e0 := ptr_val (hv2 0 _ y0 rfl rfl) h0
        have e1 : y1 = .string s ∧ s.size ≤ big := hv2 1 _ y1 rfl rfl
        obtain ⟨rfl, hbig⟩ := e1
        subst e0
        rw [recov_bld] at hlen ⊢
        refine (bld_write Tryd.lays166 Tryd.Builder_Extra_156 (ρ id).block p u (l.map fun x => Value.int .u8 x) s w hp hheap (by rw [List.length_map]; exact hown) hne (by rw [List.length_map]; omega)).mono fun e w' he => ?_
        obtain ⟨rfl, v', k1, k2, k3, o1, o2, o3, o4, o5, o6⟩ := he
        have hcells : (l.map fun x => Value.int .u8 x) ++ Lib.strCells s = (l ++ numsOf s).map fun x => Value.int .u8 x := by
          rw [List.map_append]
          congr 1
          unfold Lib.strCells numsOf
          rw [List.map_map]; rfl
        have hln : l.length + s.size = (l ++ numsOf s).length := by rw [List.length_append]; congr 1; simp [numsOf]
        rw [hcells, List.length_map, hln] at k2
        obtain ⟨r1, r2⟩ := bld_upd (o' := .pmem (bldM (l ++ numsOf s)) pg) hrel hat hl hheap (fun k a b c => o5 k a b c) o1 o2 o3 o4
          ⟨hl, .inr ⟨h0, 61, 5, _, _, v', rfl, rfl, fun x hx => by
            rcases List.mem_append.1 hx with hx | hx
            · exact hrng x hx
            · exact numsOf_range s x hx, .inr rfl, k1, k2, k3⟩⟩
          (fun b hb => by
            rcases hb with hb | ⟨M', pg', _, ⟨es, c, q1, _⟩ | ⟨p', v2, T', fr', q1, q2⟩⟩
            · exact .inl (.inl hb)
            · rw [k1] at q1; cases q1
            · rw [k1] at q1; cases q1
              rcases o6 b q2 with h | h
              · exact .inl (.inr h)
              · exact .inr h)
        refine ⟨_, ρ, rfl, ⟨#[.int .i64 s.size, .nilIface], rfl, rfl, fun i q x a b => ?_⟩, r1, r2⟩
        match i with
        | 0 =>
          cases a; cases b
          unfold big at hbig
          exact ⟨rfl, by show (-9223372036854775808 : Int) ≤ (s.size : Int); omega, by show (s.size : Int) ≤ (9223372036854775807 : Int); omega⟩
        | 1 => cases a; cases b; exact rfl
        | n + 2 => simp at a
      · cases h
    · cases h
  · cases h
def stringCon : List AV → St → Out (AV × St) := fun args σ =>
  match args with
  | [.one (.ptr id (.c 0) 1 0 _)] =>
    match σ.at id with
    | .pmem M _ => if M (-1) = 300 ∧ 0 < (recov M).length ∧ (recov M).length ≤ 1000000 then .ok (.one (.str (bytesOf (recov M))), σ.set id .dead) else .fail "string"
    | _ => .fail "string: no builder"
  | _ => .fail "string: args"
theorem stringCon_sound : ∀ args σ v σ', (stringCon args σ).run = some (v, σ') → Den Tryd.prog 32 args σ v σ' := by
  intro args σ v σ' h
  unfold stringCon at h
  split at h
  · rename_i id hi
    split at h
    · rename_i M pg hat
      split at h
      · rename_i hc
        obtain ⟨hm, hpos, hlen⟩ := hc
        cases h
        refine ⟨⟨_, Tryd.func32, rfl⟩, fun ρ w vals hrel hgl hv => ?_⟩
        obtain ⟨hv1, hv2⟩ := hv
        obtain ⟨y0, rfl⟩ : ∃ y0, vals = #[y0] := by
          match vals, hv1 with
          | ⟨[y0]⟩, _ => exact ⟨y0, rfl⟩
        obtain ⟨hl, h0, l, p, u, rfl, hrng, hp, hheap, hown, hne⟩ := bld_at hrel hat hm
        have e0 := ptr_val (hv2 0 _ y0 rfl rfl) h0
        subst e0
        rw [recov_bld] at hpos hlen ⊢
        have hcells : (l.map fun x => Value.int .u8 x) = Lib.byteCells (l.map fun (n : Int) => UInt8.ofNat n.toNat) := by
          unfold Lib.byteCells
          rw [List.map_map]
          refine List.map_congr_left fun x hx => ?_
          have := hrng x hx
          show Value.int .u8 x = .int .u8 ((UInt8.ofNat x.toNat).toNat : Int)
          congr 1
          rw [UInt8.toNat_ofNat']
          omega
        have hll : l.length = (l.map fun (n : Int) => UInt8.ofNat n.toNat).length := by rw [List.length_map]
        rw [hcells, hll] at hown
        refine (bld_string Tryd.lays169 Tryd.Builder_Extra_169 (ρ id).block p u (l.map fun (n : Int) => UInt8.ofNat n.toNat) w hheap hown (by intro e; rw [e] at hll; simp only [List.length_nil] at hll; omega)).mono fun e w' he => ?_
        obtain ⟨rfl, o1, o2, o3, o4, o5⟩ := he
        obtain ⟨r1, r2⟩ := bld_upd (o' := .dead) hrel hat hl hheap (fun k a _ c => o5 k a c) o1 o2 o3 o4 True.intro
          (fun b hb => by
            rcases hb with hb | ⟨M', pg', e, _⟩
            · exact .inl (.inl hb)
            · cases e)
        exact ⟨_, ρ, rfl, ⟨rfl, by rw [bytesOf_size]; unfold big; omega⟩, r1, r2⟩
      · cases h
    · cases h
  · cases h
/-! strings.Fields of known strings. -/
def fldsOf : List (ByteArray × List ByteArray) → ByteArray → Option (List ByteArray)
  | [], _ => none
  | (a, l) :: r, s => bif a.data.toList == s.data.toList then some l else fldsOf r s
def fldsOk (l : List (ByteArray × List ByteArray)) : Bool :=
  l.all fun p => decide (p.1.data.toList.length < 1000000) && p.1.data.toList.all (fun b => decide (b.toNat < 128)) && (Lib.fields p.1.data.toList == p.2.map (·.data.toList)) && p.2.all fun s => decide (s.data.toList.length < 1000000)
def fieldsCon (L : List (ByteArray × List ByteArray)) : List AV → St → Out (AV × St) := fun args σ =>
  match args, σ.at 0 with
  | [.one (.str s)], .row false 1 (.vals l) => bif lbeq Sc.beq l tab then
      match fldsOf L s with
      | some r => .ok (.one (.sl true σ.length (.c 0) (.c ((r.length : Nat) : Int)) 1), σ.new (.row true 1 (.vals (r.map .str))))
      | none => .fail "fields: other string"
      else .fail "fields: table"
  | _, _ => .fail "fields"
theorem fldsOf_ok {L : List (ByteArray × List ByteArray)} (hL : fldsOk L = true) {s : ByteArray} {r : List ByteArray} (h : fldsOf L s = some r) :
    s.size < 1000000 ∧ (∀ (j : Nat) b, s.data.toList[j]? = some b → b.toNat < 128) ∧ Lib.fields s.data.toList = r.map (·.data.toList) ∧ ∀ x ∈ r, x.size ≤ big := by
  induction L with
  | nil => cases h
  | cons p L ih =>
    unfold fldsOk at hL
    rw [List.all_cons, Bool.and_eq_true] at hL
    obtain ⟨h1, h2⟩ := hL
    obtain ⟨a, l⟩ := p
    simp only [fldsOf] at h
    cases hb : (a.data.toList == s.data.toList) with
    | false => rw [hb] at h; exact ih h2 h
    | true =>
      rw [hb] at h
      cases h
      have e : a.data.toList = s.data.toList := eq_of_beq hb
      simp only [Bool.and_eq_true, decide_eq_true_eq, List.all_eq_true, beq_iff_eq] at h1
      obtain ⟨⟨⟨q1, q2⟩, q3⟩, q4⟩ := h1
      rw [e] at q1 q2 q3
      exact ⟨q1, fun j b hj => q2 b (List.mem_of_getElem? hj), q3, fun x hx => by have h1 := q4 x hx; have h2 : x.size = x.data.toList.length := rfl; unfold big; omega⟩
theorem fieldsCon_sound {L : List (ByteArray × List ByteArray)} (hL : fldsOk L = true) : ∀ args σ v σ', (fieldsCon L args σ).run = some (v, σ') → Den Tryd.prog 12 args σ v σ' := by
  intro args σ v σ' h
  unfold fieldsCon at h
  split at h
  · rename_i s l hat
    cases hb : lbeq Sc.beq l tab with
    | false => rw [hb] at h; cases h
    | true =>
      rw [hb] at h
      simp only [cond_true] at h
      have hl : l = tab := lbeq_eq (fun _ _ => Sc.beq_eq) hb
      subst hl
      split at h
      · rename_i r hr
        cases h
        obtain ⟨q1, q2, q3, q4⟩ := fldsOf_ok hL hr
        refine ⟨⟨_, Tryd.func12, rfl⟩, fun ρ w vals hrel hgl hv => ?_⟩
        obtain ⟨hv1, hv2⟩ := hv
        obtain ⟨y0, rfl⟩ : ∃ y0, vals = #[y0] := by
          match vals, hv1 with
          | ⟨[y0]⟩, _ => exact ⟨y0, rfl⟩
        have e0 : y0 = .string s ∧ s.size ≤ big := hv2 0 _ y0 rfl rfl
        obtain ⟨rfl, _⟩ := e0
        obtain ⟨g1, g2, g3, g4⟩ := hgl 0 0 rfl
        have hob := hrel.obj 0
        rw [hat] at hob
        have hcr := (hob.2 g2).1
        have hT : ∀ c : Nat, c < 256 → w.cell? ⟨0, c, none⟩ = some (.int .u8 (if Lib.isSp (UInt8.ofNat c) then 1 else 0)) := by
          intro c hc
          have hz : Lib.asciiSpaceTab[c]? = some (if Lib.isSp (UInt8.ofNat c) then 1 else 0) := by
            have h1 := Lib.asciiSpaceTab_at c hc
            rw [List.getD_eq_getElem?_getD] at h1
            have h2 : c < Lib.asciiSpaceTab.length := by rw [Lib.asciiSpaceTab_length]; exact hc
            rw [List.getElem?_eq_getElem h2] at h1 ⊢
            simp only [Option.getD_some] at h1
            rw [h1]
          obtain ⟨u, u1, u2⟩ := hcr c (.int .u8 (.c (if Lib.isSp (UInt8.ofNat c) then 1 else 0))) (by
            show (Lib.asciiSpaceTab.map fun z => Sc.int .u8 (.c z))[c]? = _
            rw [List.getElem?_map, hz]; rfl)
          rw [g3, g4, Nat.zero_add] at u1
          rw [u1]
          exact congrArg some u2.1
        refine (Any.strings_Fields_core Tryd.lays157 (by kernel_rfl) s w (by omega) q2 hT).mono fun e w' he => ?_
        obtain ⟨rfl, rfl⟩ := he
        rw [q3]
        have hlen : ((r.map (·.data.toList)).map fun l => Value.string ⟨l.toArray⟩) = r.map .string := by
          rw [List.map_map]
          refine List.map_congr_left fun x _ => ?_
          show Value.string ⟨x.data.toList.toArray⟩ = .string x
          congr 1
        rw [hlen]
        obtain ⟨r1, r2⟩ := fresh_row (l := r.map .str) (cs := (r.map Value.string).toArray) (e := 9) (fr := (0, 0)) (w' := w.alloc (.cells (r.map Value.string).toArray 9)) 1 r.length hrel
          (by
            rw [List.length_map, List.take_of_length_le (by simp)]
            refine ⟨by simp, fun i a x ha hx => ?_⟩
            rw [List.getElem?_map] at ha
            simp only [List.getElem?_map] at hx
            obtain ⟨b, hb1, rfl⟩ := Option.map_eq_some_iff.1 ha
            rw [hb1] at hx
            cases hx
            exact ⟨rfl, q4 b (List.mem_of_getElem? hb1)⟩) rfl rfl rfl rfl (fun i _ => by omega) (by simp) (by simp)
        refine ⟨_, _, rfl, ?_, r1, r2⟩
        rw [St.len_new, List.length_map]
        refine ⟨0, r.length, rfl, rfl, ?_, by omega, .inr (.inl ⟨⟨w.heap.size, 0, none⟩, r.length, rfl, by rw [setLoc_at], rfl, Nat.le_refl _, by rw [setLoc_at]; simp, fun _ => by rw [setLoc_at]⟩)⟩
        have h3 : (Lib.fields s.data.toList).length ≤ s.data.toList.length + 1 := by
          unfold Lib.fields
          rw [Lib.fieldsGo_length]
          have : ∀ (l : List UInt8) (b : Bool), Lib.cntF b l ≤ l.length := by
            intro l
            induction l with
            | nil => intro b; exact Nat.le_refl _
            | cons x l ih => intro b; simp only [Lib.cntF, List.length_cons]; have := ih (Lib.isSp x); split <;> omega
          have := this s.data.toList true
          simp only [List.isEmpty_nil, if_true]
          omega
        rw [q3, List.length_map] at h3
        have h4 : s.size = s.data.toList.length := rfl
        unfold big; omega
      · cases h
  · cases h
end
end Go.SX.Txt
