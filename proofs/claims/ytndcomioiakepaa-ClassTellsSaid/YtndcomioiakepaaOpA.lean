/- What the law OperandReads comes to: both readers agree on all bytes; then the law has but one way. -/
import Derived.Test.YtndcomioiakepaaSxR
import Derived.Test.YtndcomioiakepaaRows
namespace Go.SX.Op
open Go Go.SX Go.Proofs
set_option maxRecDepth 1000000
set_option linter.unusedSectionVars false
def i6 : CT := .sc (.int .i64)
def u3 : CT := .sc (.int .u32)
def u8 : CT := .sc (.int .u8)
def bo : CT := .sc .bool
def bytesT : PT := .inl (.lst [.int .u8])
def operT : PT := .inr [i6, i6, i6, i6, i6, u3]
def sig31 : Sig := ⟨[30, 31], [bytesT], [operT, .inl i6, .inl i6, .inl i6], [(0, 5), (0, 7), (-1, 7), (-1, 7), (0, 8), (0, 4294967295), (0, 7), (0, 6), (0, 21)]⟩
def sigs (j : Nat) : Option Sig := if j = 31 then some sig31 else none
abbrev listN (i : Nat) : Rp := .tm (.ls i .nl 0 255 9223372036854775807)
abbrev byteN (i : Nat) : Rp := .n (.ex (.nm i 0 255))
abbrev wordN (i : Nat) : Rp := .n (.ex (.nm i 0 4294967295))
theorem mixed : Try.prog.follows .mixedOrders = true := by kernel_rfl
theorem names : NamesOk Try.prog := by
  have h : Try.prog.funcs.toList.all (fun fn => !(fn.name == "runtime.NumGoroutine")) = true := by kernel_rfl
  intro g fn hg
  have := List.all_eq_true.1 h fn (by rw [← Array.getElem?_toList] at hg; exact List.mem_of_getElem? hg)
  simpa using this
section
variable [Env]
abbrev env0 : FuncId → Option Con := fun _ => none
abbrev cfg0 : FuncId → Cfg := fun _ => {}
theorem envOk0 : EnvOk Try.prog env0 cfg0 := ⟨names, fun g c h => (by cases h), fun g fn c σ _ _ _ => LoopsOk.none (fun _ => rfl) c⟩
theorem sound0 (d : Nat) : CallSound Try.prog (callE Try.prog env0 cfg0 d) := call_sound mixed envOk0 d
theorem both31 : (bothE (callE Try.prog env0 cfg0 12) 30 31 (splitA sig31.pts (rpCells (flatT sig31.pts) [listN 0] 0)) (rpObjs (flatT sig31.pts) [listN 0])).good (leafB sig31) [] = true := by kernel_rfl
theorem known29 : (callE Try.prog env0 cfg0 12 29 (splitA [] (rpCells (flatT []) [] 0)) (rpObjs (flatT []) [])).good leafTrue [] = true := by kernel_rfl
end
theorem res31 (cvs : List CV) (h : ∃ w vs, AllV w (flatT sig31.pts) cvs vs) : HasRes Try.prog sig31 cvs := by
  obtain ⟨w, vs, h⟩ := h
  obtain ⟨xs, r, vr, rfl, hl, hx, h⟩ := AllV.list (ts := []) h
  obtain rfl := AllV.nil h
  letI : Env := envOf Try.prog sigs [] [xs]
  refine res_of_both (sound0 12) (s := sig31) rfl [listN 0] (fs := []) (fun f h => (by cases h)) rfl ?_ both31
  show [CV.l (E.ls 0 .nl 0 255 9223372036854775807).dens] = _
  have e : (E.ls 0 .nl 0 255 9223372036854775807).dens = xs := ls_dens rfl hl hx
  rw [e]
section
variable [Env]
def env1 : FuncId → Option Con := fun g =>
  if g = 31 then some (aCon 31 sig31 fun _ => true) else if g = 30 then some (aCon 31 sig31 fun _ => true)
  else if g = 29 then some (pCon [] [.inl bo] (fun _ => .c true) fun _ => [.b (.c true)]) else none
theorem known_sem (cvs : List CV) (_ : (B.c true).den = true) (h : ∃ w vs, AllV w (flatT []) cvs vs) : rpsOk (flatT [(Sum.inl bo : PT)]) [.b (.c true)] = true ∧ PureSem Try.prog 29 [] [.inl bo] cvs (rpCVs (flatT [(Sum.inl bo : PT)]) [.b (.c true)]) := by
  obtain ⟨w, vs, h⟩ := h
  obtain rfl := AllV.nil h
  exact ⟨rfl, law_of_good (sound0 12) [] (fs := []) (fun f h => (by cases h)) rfl rfl known29⟩
theorem envOk1 (happ : ∀ i l, i < 64 → Env.app (64 * 31 + i) l = (Res Try.prog sig31 l).getD i 0) : EnvOk Try.prog env1 cfg0 := by
  refine ⟨names, fun g c h => ?_, fun g fn c σ _ _ _ => LoopsOk.none (fun _ => rfl) c⟩
  unfold env1 at h
  split at h
  · rename_i e; subst e; cases h
    exact aCon_sound (by decide) ⟨_, Try.func31, rfl⟩ rfl (by decide) happ fun e cvs _ hh _ => res31 cvs hh
  · split at h
    · rename_i e; subst e; cases h
      exact aCon_sound (by decide) ⟨_, Try.func30, rfl⟩ rfl (by decide) happ fun e cvs _ hh _ => res31 cvs hh
    · split at h
      · rename_i e; subst e; cases h
        exact pCon_sound ⟨_, Try.func29, rfl⟩ rfl known_sem
      · cases h
theorem run9 : (callE Try.prog env1 cfg0 12 9 (splitA [bytesT, .inl u8, .inl u8, .inl u3, .inl u8] (rpCells (flatT [bytesT, .inl u8, .inl u8, .inl u3, .inl u8]) [listN 0, byteN 0, byteN 1, wordN 2, byteN 3] 0)) (rpObjs (flatT [bytesT, .inl u8, .inl u8, .inl u3, .inl u8]) [listN 0, byteN 0, byteN 1, wordN 2, byteN 3])).good leafTrue [] = true := by kernel_rfl
end
theorem law9 (cvs : List CV) (h : ∃ w vs, AllV w (flatT [bytesT, .inl u8, .inl u8, .inl u3, .inl u8]) cvs vs) : PureSem Try.prog 9 [bytesT, .inl u8, .inl u8, .inl u3, .inl u8] [.inl bo] cvs [.b true] := by
  obtain ⟨w, vs, h⟩ := h
  obtain ⟨xs, r, vr, rfl, hl, hx, h⟩ := AllV.list (ts := [u8, u8, u3, u8]) h
  obtain ⟨a, r, vr, rfl, ha, h⟩ := AllV.int (ts := [u8, u3, u8]) h
  obtain ⟨b, r, vr, rfl, hb, h⟩ := AllV.int (ts := [u3, u8]) h
  obtain ⟨d, r, vr, rfl, hd, h⟩ := AllV.int (ts := [u8]) h
  obtain ⟨c, r, vr, rfl, hc, h⟩ := AllV.int (ts := []) h
  obtain rfl := AllV.nil h
  letI : Env := envOf Try.prog sigs [a, b, d, c] [xs]
  refine law_of_good (call_sound mixed (envOk1 fun i l hi => envOf_app (s := sig31) rfl i l hi) 12) [listN 0, byteN 0, byteN 1, wordN 2, byteN 3] (fs := []) (fun f h => (by cases h)) rfl ?_ run9
  show [CV.l (E.ls 0 .nl 0 255 9223372036854775807).dens, .n (X.ex (.nm 0 0 255)).den, .n (X.ex (.nm 1 0 255)).den, .n (X.ex (.nm 2 0 4294967295)).den, .n (X.ex (.nm 3 0 255)).den] = _
  have e : (E.ls 0 .nl 0 255 9223372036854775807).dens = xs := ls_dens rfl hl hx
  have e0 : (X.ex (.nm 0 0 255)).den = a := nm_den rfl ha
  have e1 : (X.ex (.nm 1 0 255)).den = b := nm_den rfl hb
  have e2 : (X.ex (.nm 2 0 4294967295)).den = d := nm_den rfl hd
  have e3 : (X.ex (.nm 3 0 255)).den = c := nm_den rfl hc
  rw [e, e0, e1, e2, e3]
end Go.SX.Op
