/- DecodeMasks, DecodeJumps: what these laws come to: true, whatever the bytes. -/
import Derived.Test.YtcldncojpmljhaaSxR
import Derived.Test.YtcldncojpmljhaaRows
namespace Go.SX.Dec
open Go Go.SX Go.Proofs
set_option maxRecDepth 1000000
set_option linter.unusedSectionVars false
def i6 : CT := .sc (.int .i64)
def u3 : CT := .sc (.int .u32)
def u8 : CT := .sc (.int .u8)
def bo : CT := .sc .bool
abbrev byteN (i : Nat) : Rp := .n (.ex (.nm i 0 255))
abbrev wordN (i : Nat) : Rp := .n (.ex (.nm i 0 4294967295))
theorem mixed : Try.prog.follows .mixedOrders = true := by kernel_rfl
theorem names : NamesOk Try.prog := by
  have h : Try.prog.funcs.toList.all (fun fn => !(fn.name == "runtime.NumGoroutine")) = true := by kernel_rfl
  intro g fn hg
  have := List.all_eq_true.1 h fn (by rw [← Array.getElem?_toList] at hg; exact List.mem_of_getElem? hg)
  simpa using this
section
variable [Env]
abbrev env0 : FuncId → Option Con := fun _ => none
abbrev cfg0 : FuncId → Cfg := fun _ => {}
theorem envOk0 : EnvOk Try.prog env0 cfg0 := ⟨names, fun g c h => (by cases h), fun g fn c σ _ _ _ => LoopsOk.none (fun _ => rfl) c⟩
theorem sound0 (d : Nat) : CallSound Try.prog (callE Try.prog env0 cfg0 d) := call_sound mixed envOk0 d
theorem known10 : (callE Try.prog env0 cfg0 12 10 (splitA [] (rpCells (flatT []) [] 0)) (rpObjs (flatT []) [])).good leafTrue [] = true := by kernel_rfl
end
theorem known_sem [Env] (cvs : List CV) (_ : (B.c true).den = true) (h : ∃ w vs, AllV w (flatT []) cvs vs) : rpsOk (flatT [(Sum.inl bo : PT)]) [.b (.c true)] = true ∧ PureSem Try.prog 10 [] [.inl bo] cvs (rpCVs (flatT [(Sum.inl bo : PT)]) [.b (.c true)]) := by
  obtain ⟨w, vs, h⟩ := h
  obtain rfl := AllV.nil h
  exact ⟨rfl, law_of_good (sound0 12) [] (fs := []) (fun f h => (by cases h)) rfl rfl known10⟩
section
variable [Env]
def envK : FuncId → Option Con := fun g =>
  if g = 10 then some (pCon [] [.inl bo] (fun _ => .c true) fun _ => [.b (.c true)]) else none
theorem envOkK : EnvOk Try.prog envK cfg0 := by
  refine ⟨names, fun g c h => ?_, fun g fn c σ _ _ _ => LoopsOk.none (fun _ => rfl) c⟩
  unfold envK at h
  split at h
  · rename_i e; subst e; cases h
    exact pCon_sound ⟨_, Try.func10, rfl⟩ rfl known_sem
  · cases h
abbrev pts3 : List PT := [.inl u8, .inl u8, .inl u3]
theorem run6 : (callE Try.prog envK cfg0 12 6 (splitA pts3 (rpCells (flatT pts3) [byteN 0, byteN 1, wordN 2] 0)) (rpObjs (flatT pts3) [byteN 0, byteN 1, wordN 2])).good leafTrue [] = true := by kernel_rfl
theorem run7 : (callE Try.prog envK cfg0 12 7 (splitA pts3 (rpCells (flatT pts3) [byteN 0, byteN 1, wordN 2] 0)) (rpObjs (flatT pts3) [byteN 0, byteN 1, wordN 2])).good leafTrue [] = true := by kernel_rfl
end
theorem law67 {g : FuncId} (hrun : ∀ [Env], (callE Try.prog envK cfg0 12 g (splitA pts3 (rpCells (flatT pts3) [byteN 0, byteN 1, wordN 2] 0)) (rpObjs (flatT pts3) [byteN 0, byteN 1, wordN 2])).good leafTrue [] = true)
    (cvs : List CV) (h : ∃ w vs, AllV w (flatT pts3) cvs vs) : PureSem Try.prog g pts3 [.inl bo] cvs [.b true] := by
  obtain ⟨w, vs, h⟩ := h
  obtain ⟨a, r, vr, rfl, ha, h⟩ := AllV.int (ts := [u8, u3]) h
  obtain ⟨b, r, vr, rfl, hb, h⟩ := AllV.int (ts := [u3]) h
  obtain ⟨d, r, vr, rfl, hd, h⟩ := AllV.int (ts := []) h
  obtain rfl := AllV.nil h
  letI : Env := envOf Try.prog (fun _ => none) [a, b, d]
  refine law_of_good (call_sound mixed envOkK 12) [byteN 0, byteN 1, wordN 2] (fs := []) (fun f h => (by cases h)) rfl ?_ hrun
  show [CV.n (X.ex (.nm 0 0 255)).den, .n (X.ex (.nm 1 0 255)).den, .n (X.ex (.nm 2 0 4294967295)).den] = _
  have e0 : (X.ex (.nm 0 0 255)).den = a := nm_den rfl ha
  have e1 : (X.ex (.nm 1 0 255)).den = b := nm_den rfl hb
  have e2 : (X.ex (.nm 2 0 4294967295)).den = d := nm_den rfl hd
  rw [e0, e1, e2]
theorem law6 (cvs : List CV) (h : ∃ w vs, AllV w (flatT pts3) cvs vs) : PureSem Try.prog 6 pts3 [.inl bo] cvs [.b true] := law67 run6 cvs h
theorem law7 (cvs : List CV) (h : ∃ w vs, AllV w (flatT pts3) cvs vs) : PureSem Try.prog 7 pts3 [.inl bo] cvs [.b true] := law67 run7 cvs h
end Go.SX.Dec
