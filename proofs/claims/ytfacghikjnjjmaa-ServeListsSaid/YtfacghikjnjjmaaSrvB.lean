/- ServeLists: how long its host's bytes are. -/
import Derived.Test.YtfacghikjnjjmaaSrvA
namespace Go.SX.Srv
open Go Go.SX Go.Proofs
theorem first_len {W : World} {args : List Value} {cvs : List CV} {R : Nat} (k1 : ValsOk ptsL args) (k2 : AllV W (flatT ptsL) cvs (flatV ptsL args)) (hb : ∀ v vs xs a len cap, args = v :: vs → v = .agg xs → xs[0]? = some (.slice a len cap) → len ≤ R) : ∀ xs, (listsOf cvs)[0]? = some xs → xs.length ≤ R := by
  intro ys hy
  cases args with
  | nil => cases k1
  | cons v vs =>
    obtain ⟨⟨cs, rfl, hsz⟩, _⟩ := k1
    have hf : flatV ptsL (.agg cs :: vs) = cs.toList ++ flatV [.inl (.lst [.bool])] vs := rfl
    rw [hf] at k2
    cases hc : cs.toList with
    | nil =>
      have : cs.toList.length = 3 := by rw [Array.length_toList]; exact hsz
      rw [hc] at this; cases this
    | cons x0 r =>
      rw [hc] at k2
      cases cvs with
      | nil => cases k2
      | cons c0 rc =>
        obtain ⟨⟨n, f, rfl, _, hl⟩, _⟩ := k2
        have hy : some (listF f n) = some ys := hy
        cases hy
        have hlen : (listF f n).length = n := by simp [listF]
        rw [hlen]
        rcases hl with ⟨rfl, _⟩ | ⟨l, A, _, _, hx, _⟩ | ⟨rfl, _⟩
        · exact Nat.zero_le _
        · refine hb _ vs cs (some A) n l.cap rfl rfl ?_
          rw [← Array.getElem?_toList, hc, hx]; rfl
        · exact Nat.zero_le _
end Go.SX.Srv
