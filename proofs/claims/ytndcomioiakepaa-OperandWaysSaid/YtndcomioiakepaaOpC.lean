/- The law of OperandWays: true, whatever the bytes. -/
import Derived.Test.YtndcomioiakepaaOpB1
import Derived.Test.YtndcomioiakepaaOpB2
import Derived.Test.YtndcomioiakepaaOpB3
import Derived.Test.YtndcomioiakepaaOpB4
namespace Go.SX.Op
open Go Go.SX Go.Proofs
set_option linter.unusedSectionVars false
section
variable [Env]
theorem all_ways : ∃ fs, Holds fs ∧ ways fs = true := by
  have h0 : Holds [] := fun f h => by cases h
  cases h1 : qa4.den with
  | true =>
    cases h2 : qi4.den with
    | true =>
      cases h3 : qb5.den with
      | true => exact ⟨_, know_ok h1 (know_ok h2 (know_ok h3 h0)), w1⟩
      | false => exact ⟨_, know_ok h1 (know_ok h2 (know_ok h3 h0)), w2⟩
    | false =>
      cases h3 : (qs 2).den with
      | true =>
        cases h4 : (qs 1).den with
        | true => exact ⟨_, know_ok h1 (know_ok h2 (know_ok h3 (know_ok h4 h0))), w3⟩
        | false => exact ⟨_, know_ok h1 (know_ok h2 (know_ok h3 (know_ok h4 h0))), w4⟩
      | false =>
        cases h4 : (qs 3).den with
        | true => exact ⟨_, know_ok h1 (know_ok h2 (know_ok h3 (know_ok h4 h0))), w5⟩
        | false => exact ⟨_, know_ok h1 (know_ok h2 (know_ok h3 (know_ok h4 h0))), w6⟩
  | false =>
    cases h2 : qa5.den with
    | true => exact ⟨_, know_ok h1 (know_ok h2 h0), w7⟩
    | false => exact ⟨_, know_ok h1 (know_ok h2 h0), w8⟩
end
theorem law10 (cvs : List CV) (h : ∃ w vs, AllV w (flatT [.inl u8, .inl u8, .inl u3, .inl u8]) cvs vs) : PureSem Try.prog 10 [.inl u8, .inl u8, .inl u3, .inl u8] [.inl bo] cvs [.b true] := by
  obtain ⟨w, vs, h⟩ := h
  obtain ⟨a, r, vr, rfl, ha, h⟩ := AllV.int (ts := [u8, u3, u8]) h
  obtain ⟨b, r, vr, rfl, hb, h⟩ := AllV.int (ts := [u3, u8]) h
  obtain ⟨d, r, vr, rfl, hd, h⟩ := AllV.int (ts := [u8]) h
  obtain ⟨c, r, vr, rfl, hc, h⟩ := AllV.int (ts := []) h
  obtain rfl := AllV.nil h
  letI : Env := envOf Try.prog sigs [a, b, d, c]
  obtain ⟨fs, hf, hw⟩ := all_ways
  refine law_of_good (call_sound mixed envOkW 12) [byteN 0, byteN 1, wordN 2, byteN 3] (fs := fs) hf rfl ?_ hw
  show [CV.n (X.ex (.nm 0 0 255)).den, .n (X.ex (.nm 1 0 255)).den, .n (X.ex (.nm 2 0 4294967295)).den, .n (X.ex (.nm 3 0 255)).den] = _
  have e0 : (X.ex (.nm 0 0 255)).den = a := nm_den rfl ha
  have e1 : (X.ex (.nm 1 0 255)).den = b := nm_den rfl hb
  have e2 : (X.ex (.nm 2 0 4294967295)).den = d := nm_den rfl hd
  have e3 : (X.ex (.nm 3 0 255)).den = c := nm_den rfl hc
  rw [e0, e1, e2, e3]
end Go.SX.Op
