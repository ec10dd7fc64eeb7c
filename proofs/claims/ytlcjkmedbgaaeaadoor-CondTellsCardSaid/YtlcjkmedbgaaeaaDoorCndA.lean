/- Conditions: the evaluator over the seat's program; what the laid table says. -/
import Derived.Test.YtlcjkmedbgaaeaaDoorGxQ
import Derived.Test.YtlcjkmedbgaaeaaDoorRows
import Derived.Lib.LaidTab
import Derived.Lib.Space
import Derived.MakeChecks
namespace Go.SX.Cnd
open Go Go.SX Go.Proofs Go.Proofs.YtlcjkmedbgaaeaaDoor
set_option maxRecDepth 1000000
set_option linter.unusedSectionVars false
def i6 : CT := .sc (.int .i64)
def u3 : CT := .sc (.int .u32)
def u8 : CT := .sc (.int .u8)
def bo : CT := .sc .bool
abbrev flagsT : PT := .inr [bo, bo, bo, bo, bo, bo]
theorem mixed : Tryd.prog.follows .mixedOrders = true := by kernel_rfl
theorem names : NamesOk Tryd.prog := by
  have h : Tryd.prog.funcs.toList.all (fun fn => !(fn.name == "runtime.NumGoroutine")) = true := by kernel_rfl
  intro g fn hg
  have := List.all_eq_true.1 h fn (by rw [← Array.getElem?_toList] at hg; exact List.mem_of_getElem? hg)
  simpa using this
section
variable [Env]
abbrev env0 : FuncId → Option (List AV → St → Out (AV × St)) := fun _ => none
abbrev cfg0 : FuncId → Cfg := fun _ => {}
theorem envOk0 : EnvOk Tryd.prog env0 cfg0 := ⟨names, fun g c h => (by cases h), fun g fn c σ _ _ _ => LoopsOk.none (fun _ => rfl) c⟩
theorem sound0 (d : Nat) : CallSound Tryd.prog (callE Tryd.prog env0 cfg0 d) := call_sound mixed envOk0 d
end
/-- the table's cells -/
def tab : List Sc := Lib.asciiSpaceTab.map fun z => .int .u8 (.c z)
abbrev laid : List (String × DataW Unit) := [("unicode.White_Space", Rows.laid_unicode_White_Space), ("strings.asciiSpace", Rows.laid_strings_asciiSpace)]
theorem gT : Tryd.prog.globalNamed "strings.asciiSpace" = some 0 := by kernel_rfl
theorem tab_data : Rows.laid_strings_asciiSpace = Lib.tabData (H := Unit) .u8 Lib.asciiSpaceTab := by kernel_rfl
theorem tab_u8 : (Lib.asciiSpaceTab.all fun z => decide (0 ≤ z) && decide (z ≤ 255)) = true := by kernel_rfl
theorem of_laid {W : World} (h : laidMetH Tryd.prog laid W) : Lib.TabIs Tryd.prog W "strings.asciiSpace" .u8 Lib.asciiSpaceTab := by
  rw [MakeChecks.laidMetH_plain _ _ _ (by kernel_rfl)] at h
  obtain ⟨ps, ⟨_, _, _, _, _, _, _, _, _, _, ⟨g1, t1, cs1, f1, p1, q1, hg1, ht1, hv1, hd1, _, _⟩, _⟩, _, _⟩ := h
  obtain ⟨t, n, e, hty, ht, he, hce, hct⟩ : ∃ t n e, (Tryd.prog.globals[0]?).map (·.type) = some t ∧ Tryd.prog.underlying t = some (.array n e) ∧ Tryd.prog.underlying e = some (.int .u8) ∧ Tryd.prog.cellsOf e = 1 ∧ Tryd.prog.cellsOf t = n :=
    ⟨34, 256, 5, by kernel_rfl, Tryd.underlying34, Tryd.underlying5, by kernel_rfl, by kernel_rfl⟩
  obtain rfl := Option.some.inj (gT.symm.trans hg1)
  obtain rfl := Option.some.inj (hty.symm.trans ht1)
  rw [tab_data] at hd1
  unfold Lib.TabIs
  rw [hv1, ← Lib.cells_of_tab ht he hce hct hd1]
theorem tab_cells [Env] {W : World} (h : Lib.TabIs Tryd.prog W "strings.asciiSpace" .u8 Lib.asciiSpaceTab) : ∀ i s, tab[i]? = some s → ∃ v, W.cell? ⟨0, i, none⟩ = some v ∧ ∀ ρ n, SRel ρ n s v := by
  intro i s hi
  unfold tab at hi
  rw [List.getElem?_map] at hi
  obtain ⟨z, hz, rfl⟩ := Option.map_eq_some_iff.1 hi
  have hlt : i < Lib.asciiSpaceTab.length := (List.getElem?_eq_some_iff.1 hz).1
  have hc := h.cell gT i hlt
  rw [List.getD_eq_getElem?_getD, hz] at hc
  refine ⟨_, hc, fun ρ n => ⟨rfl, ?_⟩⟩
  have := List.all_eq_true.1 tab_u8 z (List.mem_of_getElem? hz)
  rw [Bool.and_eq_true, decide_eq_true_eq, decide_eq_true_eq] at this
  exact this
theorem heap_pos {W : World} (h : Lib.TabIs Tryd.prog W "strings.asciiSpace" .u8 Lib.asciiSpaceTab) : 0 < W.heap.size := by
  have hc := h.cell gT 0 (by rw [Lib.asciiSpaceTab_length]; decide)
  rcases Nat.eq_zero_or_pos W.heap.size with h0 | h0
  · exfalso
    have : W.heap[0]? = none := Array.getElem?_eq_none (by omega)
    simp [World.cell?, this] at hc
  · exact h0
end Go.SX.Cnd
