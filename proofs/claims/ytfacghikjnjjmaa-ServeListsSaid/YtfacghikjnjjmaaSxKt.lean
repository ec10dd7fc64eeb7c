/- Laws over canonical names, lists of structs among the arguments: a name for how many, a list for all cells. -/
import Derived.Test.YtfacghikjnjjmaaSxK
import Derived.Test.YtfacghikjnjjmaaSxR
import Derived.Test.YtfacghikjnjjmaaSxW
namespace Go.SX
open Go
set_option linter.unusedSectionVars false
def Kd.rg : Kd → Int × Int
  | .int k => (k.min, k.max)
  | _ => (0, 1)
def rgK : List Kd → Int × Int
  | [] => (0, 1)
  | k :: r => (minI k.rg.1 (rgK r).1, maxI k.rg.2 (rgK r).2)
def Kd.num : Kd → Bool
  | .int _ => true
  | .bool => false
/-- lists of no more than m, tables of no more than q rows -/
def rpsT (m : Nat → Nat) (q : Nat) : List CT → Nat → Nat → List Rp
  | .sc (.int k) :: ts, i, j => .n (.ex (.nm i k.min k.max)) :: rpsT m q ts (i + 1) j
  | .sc .bool :: ts, i, j => .b (.ex (.eq (.nm i 0 1) (.num 1))) :: rpsT m q ts (i + 1) j
  | .lst (a :: b :: ks) :: ts, i, j => .tb (.nm i 0 q) (.ls j .nl (rgK (a :: b :: ks)).1 (rgK (a :: b :: ks)).2 ((a :: b :: ks).length * q)) :: rpsT m q ts (i + 1) (j + 1)
  | .lst [k] :: ts, i, j => .tm (.ls j .nl k.rg.1 k.rg.2 (m j)) :: rpsT m q ts i (j + 1)
  | _, _, _ => []
/-- so many cells -/
def factsT (q : Nat) : List CT → Nat → Nat → List EB
  | .sc _ :: ts, i, j => factsT q ts (i + 1) j
  | .lst (a :: b :: ks) :: ts, i, j => .eq (.ln (.ls j .nl (rgK (a :: b :: ks)).1 (rgK (a :: b :: ks)).2 ((a :: b :: ks).length * q))) (mulE (a :: b :: ks).length (.nm i 0 q)) :: factsT q ts (i + 1) (j + 1)
  | .lst [_] :: ts, i, j => factsT q ts i (j + 1)
  | _, _, _ => []
def longsT (m : Nat → Nat) (sk : Nat → Bool) (q : Nat) : List CT → Nat → Nat → List EB
  | .sc _ :: ts, i, j => longsT m sk q ts (i + 1) j
  | .lst (_ :: _ :: _) :: ts, i, j => .lt (.num q) (.nm i 0 big) :: longsT m sk q ts (i + 1) (j + 1)
  | .lst [k] :: ts, i, j => if sk j then longsT m sk q ts i (j + 1) else .lt (.num (m j)) (.ln (.ls j .nl k.rg.1 k.rg.2 big)) :: longsT m sk q ts i (j + 1)
  | _, _, _ => []
def plainTT : CT → Bool
  | .sc _ => true
  | .lst (k :: k' :: ks) => (k :: k' :: ks).all Kd.num
  | .lst [_] => true
  | _ => false
theorem rgK_in {k : Kd} {x : Int} : ∀ {ks : List Kd}, k ∈ ks → (k.rg.1 ≤ x ∧ x ≤ k.rg.2) → (rgK ks).1 ≤ x ∧ x ≤ (rgK ks).2
  | [], h, _ => by cases h
  | a :: r, h, hx => by
    have m1 := minI_le a.rg.1 (rgK r).1
    have m2 := le_maxI a.rg.2 (rgK r).2
    show minI a.rg.1 (rgK r).1 ≤ x ∧ x ≤ maxI a.rg.2 (rgK r).2
    rcases List.mem_cons.1 h with rfl | h
    · omega
    · have := rgK_in h hx
      omega
theorem krel_rg {k : Kd} (hk : k.num = true) {x : Int} {v : Value} (h : KRel k x v) : k.rg.1 ≤ x ∧ x ≤ k.rg.2 := by
  cases k with
  | int k => exact h.2
  | bool => cases hk
theorem AllV.tbl {w : World} {k1 k2 : Kd} {ks : List Kd} {ts : List CT} {cvs : List CV} {vs : List Value} (hk : (k1 :: k2 :: ks).all Kd.num = true) (h : AllV w (.lst (k1 :: k2 :: ks) :: ts) cvs vs) :
    ∃ n f r vr, cvs = .r (rowsL (k1 :: k2 :: ks).length f n) :: r ∧ n ≤ big ∧ (∀ x ∈ flatF (k1 :: k2 :: ks).length f n, (rgK (k1 :: k2 :: ks)).1 ≤ x ∧ x ≤ (rgK (k1 :: k2 :: ks)).2) ∧ AllV w ts r vr := by
  cases cvs with
  | nil => cases vs <;> cases h
  | cons c r =>
    cases vs with
    | nil => cases h
    | cons v vr =>
      obtain ⟨⟨n, f, rfl, hn, hl⟩, h2⟩ := h
      refine ⟨n, f, r, vr, rfl, hn, fun x hx => ?_, h2⟩
      obtain ⟨i, hi, rfl⟩ := List.mem_map.1 hx
      have hi : i < n * (k1 :: k2 :: ks).length := by simpa using hi
      rcases hl with ⟨rfl, _⟩ | ⟨l, A, _, _, _, _, _, _, hc⟩ | ⟨rfl, _⟩
      · rw [Nat.zero_mul] at hi; omega
      rotate_left
      · rw [Nat.zero_mul] at hi; omega
      · obtain ⟨v, _, hv⟩ := hc i hi
        have hlt : i % (k1 :: k2 :: ks).length < (k1 :: k2 :: ks).length := Nat.mod_lt _ (by simp)
        have hm : (k1 :: k2 :: ks).getD (i % (k1 :: k2 :: ks).length) .bool ∈ (k1 :: k2 :: ks) := by
          rw [List.getD_eq_getElem?_getD, List.getElem?_eq_getElem hlt]
          exact List.getElem_mem ..
        exact rgK_in hm (krel_rg (List.all_eq_true.1 hk _ hm) hv)
theorem AllV.one {w : World} {k : Kd} {ts : List CT} {cvs : List CV} {vs : List Value} (h : AllV w (.lst [k] :: ts) cvs vs) (hn : normV (.lst [k] :: ts) cvs) : ∃ xs r vr, cvs = .l xs :: r ∧ xs.length ≤ big ∧ (∀ x ∈ xs, k.rg.1 ≤ x ∧ x ≤ k.rg.2) ∧ AllV w ts r vr := by
  cases k with
  | int k => exact AllV.list h
  | bool =>
    cases cvs with
    | nil => cases vs <;> cases h
    | cons c r =>
      cases vs with
      | nil => cases h
      | cons v vr =>
        obtain ⟨⟨n, f, rfl, hlen, _⟩, h2⟩ := h
        exact ⟨listF f n, r, vr, rfl, by simpa [listF] using hlen, fun x hx => hn 0 (listF f n) rfl rfl x hx, h2⟩
theorem flatF_get {w : Nat} {f : Nat → Nat → Int} {n r c : Nat} (hr : r < n) (hc : c < w) : (flatF w f n).getD (r * w + c) 0 = f r c := by
  have hlt : r * w + c < n * w := by
    have : (r + 1) * w ≤ n * w := Nat.mul_le_mul_right w hr
    rw [Nat.add_mul, Nat.one_mul] at this
    omega
  unfold flatF
  rw [List.getD_eq_getElem?_getD, List.getElem?_map, List.getElem?_range hlt]
  show f ((r * w + c) / w) ((r * w + c) % w) = f r c
  have e1 : (r * w + c) / w = r := by
    rw [Nat.add_comm, Nat.add_mul_div_right _ _ (by omega), Nat.div_eq_of_lt hc, Nat.zero_add]
  have e2 : (r * w + c) % w = c := by
    rw [Nat.add_comm, Nat.add_mul_mod_self_right, Nat.mod_eq_of_lt hc]
  rw [e1, e2]
section
variable [Env]
theorem mulE_D {a : E} : ∀ {n : Nat}, (mulE n a).den = (n : Int) * a.den
  | 0 => by rw [Int.natCast_zero, Int.zero_mul]; rfl
  | 1 => by rw [Int.natCast_one, Int.one_mul]; rfl
  | n + 2 => by
    have ih := mulE_D (a := a) (n := n + 1)
    show (mulE (n + 1) a).den + a.den = _
    rw [ih]
    have : ((n + 2 : Nat) : Int) = ((n + 1 : Nat) : Int) + 1 := by omega
    rw [this, Int.add_mul, Int.one_mul]
theorem tb_rp {q w : Nat} {i j : Nat} {n : Nat} {f : Nat → Nat → Int} {lo hi : Int} (hn : Env.val i = (n : Int)) (hl : Env.lst j [] = flatF w f n) (hq : n ≤ q) (hb : ∀ x ∈ flatF w f n, lo ≤ x ∧ x ≤ hi) :
    (E.nm i 0 (q : Int)).den = (n : Int) ∧ (E.ls j .nl lo hi (w * q)).dens = flatF w f n := by
  refine ⟨nm_den hn ⟨by omega, by omega⟩, ls_dens hl ?_ hb⟩
  have : (flatF w f n).length = n * w := by simp [flatF]
  rw [this, Nat.mul_comm]
  exact Nat.mul_le_mul_left w hq
theorem rpsT_cvs {m : Nat → Nat} {sk : Nat → Bool} {q : Nat} {w : World} (hq : q ≤ big) : ∀ {ts : List CT} {cvs : List CV} {vs : List Value} {i j : Nat}, ts.all plainTT = true → AllV w ts cvs vs → normV ts cvs → (∀ k, k < (namesOf cvs).length → Env.val (i + k) = (namesOf cvs).getD k 0) →
    (∀ k, k < (listsOf cvs).length → Env.lst (j + k) [] = (listsOf cvs).getD k []) → (∀ k xs, sk (j + k) = true → (listsOf cvs)[k]? = some xs → xs.length ≤ big → xs.length ≤ m (j + k)) → (rpCVs ts (rpsT m q ts i j) = cvs ∧ rpsOk ts (rpsT m q ts i j) = true ∧ ∀ b ∈ factsT q ts i j, b.den = true) ∨ ∃ f ∈ longsT m sk q ts i j, f.den = true
  | [], cvs, vs, i, j, _, h, _, _, _, _ => .inl ⟨by rw [AllV.nil h]; rfl, rfl, fun b h => by cases h⟩
  | t :: ts, cvs, vs, i, j, hp, h, hv, hn, hl, hs => by
    simp only [List.all_cons, Bool.and_eq_true] at hp
    cases t with
    | sc k =>
      cases k with
      | int k =>
        obtain ⟨x, r, vr, rfl, hx, h2⟩ := AllV.int h
        have h0 := hn 0 (by simp [namesOf])
        rw [Nat.add_zero] at h0
        rcases rpsT_cvs (m := m) (sk := sk) hq (i := i + 1) (j := j) hp.2 h2 hv.tail (fun q hq => by have := hn (q + 1) (by simp [namesOf]; omega); rw [show i + 1 + q = i + (q + 1) by omega, this]; rfl) hl hs with ⟨ih, ih2, ih3⟩ | ih
        · left
          refine ⟨?_, by simp only [rpsT, rpsOk, Rp.ok, ih2, Bool.and_self], ih3⟩
          show CV.n (X.ex (.nm i k.min k.max)).den :: rpCVs ts (rpsT m q ts (i + 1) j) = _
          rw [ih, nm_den (x := x) h0 hx]
        · exact .inr ih
      | bool =>
        obtain ⟨x, r, vr, rfl, h2⟩ := AllV.bool h
        have h0 := hn 0 (by simp [namesOf])
        rw [Nat.add_zero] at h0
        rcases rpsT_cvs (m := m) (sk := sk) hq (i := i + 1) (j := j) hp.2 h2 hv.tail (fun q hq => by have := hn (q + 1) (by simp [namesOf]; omega); rw [show i + 1 + q = i + (q + 1) by omega, this]; rfl) hl hs with ⟨ih, ih2, ih3⟩ | ih
        · left
          refine ⟨?_, by simp only [rpsT, rpsOk, Rp.ok, ih2, Bool.and_self], ih3⟩
          show CV.b (B.ex (.eq (.nm i 0 1) (.num 1))).den :: rpCVs ts (rpsT m q ts (i + 1) j) = _
          rw [ih, nb_den (b := x) h0]
        · exact .inr ih
    | str => cases hp.1
    | lst ks =>
      match ks, hp.1 with
      | [k], _ =>
        obtain ⟨xs, r, vr, rfl, hlen, hx, h2⟩ := AllV.one h hv
        have h0 := hl 0 (by simp [listsOf])
        rw [Nat.add_zero] at h0
        by_cases hmm : xs.length ≤ m j
        · rcases rpsT_cvs (m := m) (sk := sk) hq (i := i) (j := j + 1) hp.2 h2 hv.tail hn (fun q hq => by have := hl (q + 1) (by simp [listsOf]; omega); rw [show j + 1 + q = j + (q + 1) by omega, this]; rfl) (fun k xs h1 h2 h3 => by rw [show j + 1 + k = j + (k + 1) by omega] at h1 ⊢; exact hs (k + 1) xs h1 (by simpa [listsOf] using h2) h3) with ⟨ih, ih2, ih3⟩ | ⟨f, hf, hh⟩
          · left
            refine ⟨?_, by simp only [rpsT, rpsOk, Rp.ok, ih2, Bool.and_self], ih3⟩
            show CV.l (E.ls j .nl k.rg.1 k.rg.2 (m j)).dens :: rpCVs ts (rpsT m q ts i (j + 1)) = _
            rw [ih, ls_dens (xs := xs) h0 hmm hx]
          · refine .inr ⟨f, ?_, hh⟩
            show f ∈ (if sk j then _ else _)
            split
            · exact hf
            · exact List.mem_cons_of_mem _ hf
        · refine .inr ⟨.lt (.num (m j)) (.ln (.ls j .nl k.rg.1 k.rg.2 big)), ?_, ?_⟩
          · show _ ∈ (if sk j then _ else _)
            rw [if_neg (fun e => hmm (by have := hs 0 xs (by rw [Nat.add_zero]; exact e) rfl hlen; rw [Nat.add_zero] at this; exact this))]
            exact List.mem_cons_self ..
          show decide ((m j : Int) < (((E.ls j .nl k.rg.1 k.rg.2 big).dens.length : Nat) : Int)) = true
          rw [ls_dens (xs := xs) h0 hlen hx]
          exact decide_eq_true (by omega)
      | k1 :: k2 :: ks, hk =>
        obtain ⟨n, f, r, vr, rfl, hlen, hx, h2⟩ := AllV.tbl hk h
        have h0 := hl 0 (by simp [listsOf])
        have h1 := hn 0 (by simp [namesOf])
        rw [Nat.add_zero] at h0 h1
        have h0 : Env.lst j [] = flatF (k1 :: k2 :: ks).length f n := h0.trans rowsL_flat
        have h1 : Env.val i = (n : Int) := h1.trans (by show (((rowsL _ f n).length : Nat) : Int) = _; simp [rowsL])
        by_cases hmm : n ≤ q
        · rcases rpsT_cvs (m := m) (sk := sk) hq (i := i + 1) (j := j + 1) hp.2 h2 hv.tail (fun q hq => by have := hn (q + 1) (by simp [namesOf]; omega); rw [show i + 1 + q = i + (q + 1) by omega, this]; rfl) (fun q hq => by have := hl (q + 1) (by simp [listsOf]; omega); rw [show j + 1 + q = j + (q + 1) by omega, this]; rfl) (fun k xs h1 h2 h3 => by rw [show j + 1 + k = j + (k + 1) by omega] at h1 ⊢; exact hs (k + 1) xs h1 (by simpa [listsOf] using h2) h3) with ⟨ih, ih2, ih3⟩ | ⟨f, hf, hh⟩
          · left
            obtain ⟨t1, t2⟩ := tb_rp (w := (k1 :: k2 :: ks).length) h1 h0 hmm hx
            have tl : (flatF (k1 :: k2 :: ks).length f n).length = n * (k1 :: k2 :: ks).length := by simp [flatF]
            refine ⟨?_, ?_, fun b hb => ?_⟩
            · show listCV (k1 :: k2 :: ks) (fun r c => (E.ls j .nl (rgK (k1 :: k2 :: ks)).1 (rgK (k1 :: k2 :: ks)).2 ((k1 :: k2 :: ks).length * q)).D.2.getD (r * (k1 :: k2 :: ks).length + c) 0) (E.nm i 0 (q : Int)).den.toNat :: rpCVs ts (rpsT m q ts (i + 1) (j + 1)) = _
              rw [ih, t1, Int.toNat_natCast]
              congr 1
              show CV.r (rowsL _ _ n) = CV.r (rowsL _ f n)
              congr 1
              unfold rowsL
              refine List.map_congr_left fun a ha => List.map_congr_left fun b hb => ?_
              have t2 : (E.ls j .nl (rgK (k1 :: k2 :: ks)).1 (rgK (k1 :: k2 :: ks)).2 ((k1 :: k2 :: ks).length * q)).D.2 = _ := t2
              rw [t2]
              exact flatF_get (List.mem_range.1 ha) (List.mem_range.1 hb)
            · show (Rp.ok _ _ && rpsOk ts (rpsT m q ts (i + 1) (j + 1))) = true
              rw [ih2, Bool.and_true]
              show (decide (0 ≤ (E.nm i 0 (q : Int)).den) && decide (_ = (E.nm i 0 (q : Int)).den.toNat * (ks.length + 2))) = true
              have t2 : (E.ls j .nl (rgK (k1 :: k2 :: ks)).1 (rgK (k1 :: k2 :: ks)).2 ((k1 :: k2 :: ks).length * q)).D.2 = _ := t2
              rw [t1, t2, tl, Int.toNat_natCast, Bool.and_eq_true, decide_eq_true_eq, decide_eq_true_eq]
              exact ⟨by omega, rfl⟩
            · rcases List.mem_cons.1 hb with rfl | hb
              · show ((((E.ls j .nl (rgK (k1 :: k2 :: ks)).1 (rgK (k1 :: k2 :: ks)).2 ((k1 :: k2 :: ks).length * q)).dens.length : Nat) : Int) == (mulE (k1 :: k2 :: ks).length (.nm i 0 (q : Int))).den) = true
                have t1 : (E.nm i 0 (q : Int)).den = (n : Int) := t1
                rw [t2, tl, mulE_D, t1, Int.natCast_mul, Int.mul_comm]
                exact beq_self_eq_true _
              · exact ih3 b hb
          · exact .inr ⟨f, List.mem_cons_of_mem _ hf, hh⟩
        · refine .inr ⟨_, List.mem_cons_self .., ?_⟩
          show decide ((q : Int) < (E.nm i 0 ((big : Nat) : Int)).den) = true
          have t1 : (E.nm i 0 ((big : Nat) : Int)).den = (n : Int) := nm_den (x := (n : Int)) h1 ⟨by omega, by omega⟩
          rw [t1]
          exact decide_eq_true (by omega)
/-- none is longer than all that may be -/
theorem longs_no {w : World} : ∀ {ts : List CT} {cvs : List CV} {vs : List Value} {i j : Nat}, ts.all plainTT = true → AllV w ts cvs vs → normV ts cvs → (∀ k, k < (namesOf cvs).length → Env.val (i + k) = (namesOf cvs).getD k 0) →
    (∀ k, k < (listsOf cvs).length → Env.lst (j + k) [] = (listsOf cvs).getD k []) → ¬ ∃ f ∈ longsT (fun _ => big) (fun _ => true) big ts i j, f.den = true
  | [], cvs, vs, i, j, _, h, _, _, _ => fun ⟨f, hf, _⟩ => by cases hf
  | t :: ts, cvs, vs, i, j, hp, h, hv, hn, hl => by
    simp only [List.all_cons, Bool.and_eq_true] at hp
    rintro ⟨f, hf, hh⟩
    cases t with
    | sc k =>
      cases k with
      | int k =>
        obtain ⟨x, r, vr, rfl, hx, h2⟩ := AllV.int h
        exact longs_no (i := i + 1) (j := j) hp.2 h2 hv.tail (fun q hq => by have := hn (q + 1) (by simp [namesOf]; omega); rw [show i + 1 + q = i + (q + 1) by omega, this]; rfl) hl ⟨f, hf, hh⟩
      | bool =>
        obtain ⟨x, r, vr, rfl, h2⟩ := AllV.bool h
        exact longs_no (i := i + 1) (j := j) hp.2 h2 hv.tail (fun q hq => by have := hn (q + 1) (by simp [namesOf]; omega); rw [show i + 1 + q = i + (q + 1) by omega, this]; rfl) hl ⟨f, hf, hh⟩
    | str => cases hp.1
    | lst ks =>
      match ks, hp.1 with
      | [k], _ =>
        obtain ⟨xs, r, vr, rfl, hlen, hx, h2⟩ := AllV.one h hv
        have hf : f ∈ (if true = true then longsT (fun _ => big) (fun _ => true) big ts i (j + 1) else _) := hf
        rw [if_pos rfl] at hf
        exact longs_no (i := i) (j := j + 1) hp.2 h2 hv.tail hn (fun q hq => by have := hl (q + 1) (by simp [listsOf]; omega); rw [show j + 1 + q = j + (q + 1) by omega, this]; rfl) ⟨f, hf, hh⟩
      | k1 :: k2 :: ks, hk =>
        obtain ⟨n, g, r, vr, rfl, hlen, hx, h2⟩ := AllV.tbl hk h
        rcases List.mem_cons.1 hf with rfl | hf
        · have hh : decide (((big : Nat) : Int) < clampI 0 ((big : Nat) : Int) (Env.val i)) = true := hh
          have h3 := of_decide_eq_true hh
          have : clampI 0 ((big : Nat) : Int) (Env.val i) ≤ ((big : Nat) : Int) := by unfold clampI; split <;> (try split) <;> omega
          omega
        · exact longs_no (i := i + 1) (j := j + 1) hp.2 h2 hv.tail (fun q hq => by have := hn (q + 1) (by simp [namesOf]; omega); rw [show i + 1 + q = i + (q + 1) by omega, this]; rfl) (fun q hq => by have := hl (q + 1) (by simp [listsOf]; omega); rw [show j + 1 + q = j + (q + 1) by omega, this]; rfl) ⟨f, hf, hh⟩
end
abbrev argsT (m : Nat → Nat) (q : Nat) (pts : List PT) : List AV := splitA pts (rpCells (flatT pts) (rpsT m q (flatT pts) 0 0) 0)
abbrev objsT (m : Nat → Nat) (q : Nat) (pts : List PT) : St := rpObjs (flatT pts) (rpsT m q (flatT pts) 0 0)
abbrev knowsT (q : Nat) (pts : List PT) : List Fk := knows (factsT q (flatT pts) 0 0)
theorem law_canonN {P : Program} (m : Nat → Nat) (sk : Nat → Bool) (q : Nat) {env : List Int → List (List Int) → Env} {call : Env → FuncId → List AV → St → Out (AV × St)} {g : FuncId} {pts : List PT} (hq : q ≤ big)
    (hv : ∀ xs ls, (∀ i, (env xs ls).val i = xs.getD i 0) ∧ ∀ i, i < 16 → (env xs ls).lst i [] = ls.getD i []) (hc : ∀ xs ls, @CallSound (env xs ls) P (call (env xs ls))) (hp : (flatT pts).all plainTT = true) (hlen : (flatT pts).length ≤ 16)
    (run : ∀ xs ls, @Holds (env xs ls) (knowsT q pts) → ∃ fs, @Holds (env xs ls) fs ∧ (call (env xs ls) g (argsT m q pts) (objsT m q pts)).good (@leafTrue) fs = true)
    (runs : ∀ (e : Env), ((longsT m sk q (flatT pts) 0 0).all fun f => (call e g (argsT (fun _ => big) big pts) (objsT (fun _ => big) big pts)).good (@leafTrue) (f.know true [])) = true)
    (cvs : List CV) (h : ∃ w vs, AllV w (flatT pts) cvs vs) (hnv : normV (flatT pts) cvs) (hs : ∀ k xs, sk k = true → (listsOf cvs)[k]? = some xs → xs.length ≤ m k) : PureSem P g pts [.inl (.sc .bool)] cvs [.b true] := by
  obtain ⟨w, vs, h⟩ := h
  letI : Env := env (namesOf cvs) (listsOf cvs)
  have h1 := lists_len cvs
  have h2 := AllV_len h
  have hn : ∀ k, k < (namesOf cvs).length → Env.val (0 + k) = (namesOf cvs).getD k 0 := fun k hk => by rw [Nat.zero_add]; exact (hv _ _).1 k
  have hl : ∀ k, k < (listsOf cvs).length → Env.lst (0 + k) [] = (listsOf cvs).getD k [] := fun k hk => by rw [Nat.zero_add]; exact (hv _ _).2 k (by omega)
  rcases rpsT_cvs (sk := sk) hq (i := 0) (j := 0) hp h hnv hn hl (fun k xs h1 h2 _ => by rw [Nat.zero_add] at h1 ⊢; exact hs k xs h1 h2) with ⟨h3, h4, h5⟩ | ⟨f, hf, hh⟩
  · obtain ⟨fs, hfs, hr⟩ := run (namesOf cvs) (listsOf cvs) (knows_ok h5)
    exact law_of_good (hc _ _) (rpsT m q (flatT pts) 0 0) hfs h4 h3 hr
  · rcases rpsT_cvs (m := fun _ => big) (sk := fun _ => true) (q := big) (Nat.le_refl _) (i := 0) (j := 0) hp h hnv hn hl (fun _ _ _ _ h3 => h3) with ⟨h3, h4, _⟩ | ⟨f', hf', hh'⟩
    · exact law_of_good (hc _ _) (rpsT (fun _ => big) big (flatT pts) 0 0) (know_ok hh fun f h => by cases h) h4 h3 (List.all_eq_true.1 (runs inferInstance) f hf)
    · exact (longs_no hp h hnv hn hl ⟨f', hf', hh'⟩).elim
def isBL : CT → Bool
  | .lst [.bool] => true
  | _ => false
theorem law_canonT {P : Program} (m : Nat → Nat) (q : Nat) {env : List Int → List (List Int) → Env} {call : Env → FuncId → List AV → St → Out (AV × St)} {g : FuncId} {pts : List PT} (hq : q ≤ big)
    (hv : ∀ xs ls, (∀ i, (env xs ls).val i = xs.getD i 0) ∧ ∀ i, i < 16 → (env xs ls).lst i [] = ls.getD i []) (hc : ∀ xs ls, @CallSound (env xs ls) P (call (env xs ls))) (hp : (flatT pts).all plainTT = true) (hlen : (flatT pts).length ≤ 16)
    (run : ∀ xs ls, @Holds (env xs ls) (knowsT q pts) → ∃ fs, @Holds (env xs ls) fs ∧ (call (env xs ls) g (argsT m q pts) (objsT m q pts)).good (@leafTrue) fs = true)
    (runs : ∀ (e : Env), ((longsT m (fun _ => false) q (flatT pts) 0 0).all fun f => (call e g (argsT (fun _ => big) big pts) (objsT (fun _ => big) big pts)).good (@leafTrue) (f.know true [])) = true)
    (cvs : List CV) (h : ∃ w vs, AllV w (flatT pts) cvs vs) (hb : ((flatT pts).all fun t => !isBL t) = true := by rfl) : PureSem P g pts [.inl (.sc .bool)] cvs [.b true] :=
  law_canonN m (fun _ => false) q hq hv hc hp hlen run runs cvs h (fun i xs h1 _ => by
    have := List.all_eq_true.1 hb _ (List.mem_of_getElem? h1)
    cases this) (fun _ _ h => by cases h)
end Go.SX
