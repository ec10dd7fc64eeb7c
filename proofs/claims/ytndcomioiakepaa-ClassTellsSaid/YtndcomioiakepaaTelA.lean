/- ClassTells: the contracts' signs, the beginnings of instructions, what is run. -/
import Derived.Test.YtndcomioiakepaaSxI
import Derived.Test.YtndcomioiakepaaOpA
namespace Go.SX.Tel
open Go Go.SX Go.Proofs Go.SX.Op
set_option maxRecDepth 1000000
set_option linter.unusedSectionVars false
def instrT : PT := .inr [i6, i6, i6, i6, i6, i6, i6, i6, u3, i6, i6, i6, i6, i6, u3, u3, bo, i6]
def i64B : Int × Int := (-9223372036854775808, 9223372036854775807)
def operB : List (Int × Int) := [(0, 5), (0, 7), (-1, 7), (-1, 7), (0, 8), (0, 4294967295)]
def instrB : List (Int × Int) := [i64B, (0, 15), (0, 8)] ++ operB ++ operB ++ [(0, 4294967295), (0, 1), (0, 15)]
def sig12 : Sig := ⟨[12], [bytesT], [instrT, .inl i6], instrB ++ [(0, 22)]⟩
def sig14 : Sig := ⟨[14, 15], [instrT], [.inl i6], [(0, 4)]⟩
def sig16 : Sig := ⟨[16, 17], [instrT, instrT], [.inl bo], [(0, 1)]⟩
def sig59 : Sig := ⟨[59], [.inl i6], [.inl i6], [i64B]⟩
def sig69 : Sig := ⟨[69], [.inl (.lst [.int .i64]), .inl i6], [.inl i6], [i64B]⟩
def heads0 : List (List Int) := [[1], [3], [0], [2], [5], [4]]
def heads1 : List (List Int) := [[17], [25], [33], [41], [49], [57]]
def heads2 : List (List Int) := [[11], [64], [73], [80], [90], [104]]
def heads3 : List (List Int) := [[106], [105], [107], [112], [128], [129]]
def heads4 : List (List Int) := [[131], [132], [133], [134], [135], [136]]
def heads5 : List (List Int) := [[137], [138], [139], [141], [143], [144]]
def heads6 : List (List Int) := [[147], [152], [153], [160], [161], [162]]
def heads7 : List (List Int) := [[163], [164], [165], [168], [169], [170]]
def heads8 : List (List Int) := [[171], [172], [173], [177], [185], [193]]
def heads9 : List (List Int) := [[194], [195], [198], [199], [201], [204]]
def heads10 : List (List Int) := [[209], [211], [232], [233], [235], [244]]
def heads11 : List (List Int) := [[245], [246], [247], [248], [249], [252]]
def heads12 : List (List Int) := [[253], [254], [255], [15, 68], [15, 133], [15, 159]]
def heads13 : List (List Int) := [[15, 175], [15, 182], [15, 183], [15, 190], [15, 191], [243, 164]]
def heads14 : List (List Int) := [[243, 165], [243, 170], [243, 171], [242, 15, 16], [242, 15, 17], [242, 15, 42]]
def heads15 : List (List Int) := [[242, 15, 44], [242, 15, 81], [242, 15, 88], [242, 15, 89], [242, 15, 92], [242, 15, 93]]
def heads16 : List (List Int) := [[242, 15, 94], [242, 15, 95], [102, 15, 46]]
def heads : List (List Int) := heads0 ++ (heads1 ++ (heads2 ++ (heads3 ++ (heads4 ++ (heads5 ++ (heads6 ++ (heads7 ++ (heads8 ++ (heads9 ++ (heads10 ++ (heads11 ++ (heads12 ++ (heads13 ++ (heads14 ++ (heads15 ++ (heads16))))))))))))))))
def Shape (xs : List Int) : Prop := ∃ h t : List Int, h ∈ heads ∧ t.length = 12 ∧ xs = h ++ t
def sig13 : LSig := ⟨13, [.inl u8, .inl u8, .inl u3], .u8, 15, Shape⟩
def sigT (j : Nat) : Option Sig := if j = 31 then some sig31 else if j = 12 then some sig12 else if j = 14 then some sig14 else if j = 16 then some sig16 else if j = 59 then some sig59 else if j = 69 then some sig69 else none
def lsigT (j : Nat) : Option LSig := if j = 100 then some sig13 else none
@[reducible] noncomputable def E0 (xs : List Int) (ls : List (List Int)) : Env := envL Try.prog sigT lsigT xs ls
def headC (h : List Int) : List Sc := h.map (fun n => .int .u8 (.c n)) ++ (List.range 12).map fun j => .int .u8 (.ex (.nm j 0 255))
section
variable [Env]
def Happ : Prop := ∀ j s i l, sigT j = some s → i < 64 → Env.app (64 * j + i) l = (Res Try.prog s l).getD i 0
def env1 : FuncId → Option Con := fun g =>
  if g = 31 then some (aCon 31 sig31 fun _ => true) else if g = 59 then some (aCon 59 sig59 (endIn 0 7)) else if g = 69 then some (aCon 69 sig69 (endIn 0 7)) else none
noncomputable def oneRun (c : List Sc) : Bool := rpsOk (flatT sig12.pts) [.l c] && (callE Try.prog env1 cfg0 12 12 (splitA sig12.pts (rpCells (flatT sig12.pts) [.l c] 0)) (rpObjs (flatT sig12.pts) [.l c])).good (leafT sig12) []
theorem run59 : (callE Try.prog env0 cfg0 12 59 (splitA sig59.pts (rpCells (flatT sig59.pts) [.n (.ex (.nm 0 0 7))] 0)) (rpObjs (flatT sig59.pts) [.n (.ex (.nm 0 0 7))])).good (leafT sig59) [] = true := by kernel_rfl
theorem run69 : (callE Try.prog env0 cfg0 12 69 (splitA sig69.pts (rpCells (flatT sig69.pts) [.tm (.ls 0 .nl (-9223372036854775808) 9223372036854775807 9223372036854775807), .n (.ex (.nm 0 0 7))] 0)) (rpObjs (flatT sig69.pts) [.tm (.ls 0 .nl (-9223372036854775808) 9223372036854775807 9223372036854775807), .n (.ex (.nm 0 0 7))])).good (leafT sig69) [] = true := by kernel_rfl
end
theorem res59 (x : Int) (h : 0 ≤ x ∧ x ≤ 7) : HasRes Try.prog sig59 [.n x] := by
  letI : Env := E0 [x] []
  refine res_of_good (sound0 12) (s := sig59) rfl [.n (.ex (.nm 0 0 7))] (fs := []) (fun f h => (by cases h)) rfl ?_ run59
  show [CV.n (X.ex (.nm 0 0 7)).den] = _
  have e : (X.ex (.nm 0 0 7)).den = x := nm_den rfl h
  rw [e]
theorem res69 (xs : List Int) (hl : xs.length ≤ big) (hx : ∀ x ∈ xs, IntKind.i64.has x) (x : Int) (h : 0 ≤ x ∧ x ≤ 7) : HasRes Try.prog sig69 [.l xs, .n x] := by
  letI : Env := E0 [x] [xs]
  refine res_of_good (sound0 12) (s := sig69) rfl [.tm (.ls 0 .nl (-9223372036854775808) 9223372036854775807 9223372036854775807), .n (.ex (.nm 0 0 7))] (fs := []) (fun f h => (by cases h)) rfl ?_ run69
  show [CV.l (E.ls 0 .nl (-9223372036854775808) 9223372036854775807 9223372036854775807).dens, CV.n (X.ex (.nm 0 0 7)).den] = _
  have e : (X.ex (.nm 0 0 7)).den = x := nm_den rfl h
  have e2 : (E.ls 0 .nl (-9223372036854775808) 9223372036854775807 9223372036854775807).dens = xs := ls_dens rfl hl hx
  rw [e, e2]
section
variable [Env]
theorem envOk1 (ha : Happ) : EnvOk Try.prog env1 cfg0 := by
  refine ⟨names, fun g c h => ?_, fun g fn c σ _ _ _ => LoopsOk.none (fun _ => rfl) c⟩
  unfold env1 at h
  split at h
  · rename_i e; subst e; cases h
    exact aCon_sound (by decide) ⟨_, Try.func31, rfl⟩ rfl (by decide) (fun i l hi => ha 31 sig31 i l rfl hi) fun e cvs _ hh _ => res31 cvs hh
  · split at h
    · rename_i e; subst e; cases h
      refine aCon_sound (by decide) ⟨_, Try.func59, rfl⟩ rfl (by decide) (fun i l hi => ha 59 sig59 i l rfl hi) fun e cvs hp hh hd => ?_
      obtain ⟨w, vs, hh⟩ := hh
      obtain ⟨x, r, vr, rfl, hx, hh⟩ := AllV.int (ts := []) hh
      obtain rfl := AllV.nil hh
      exact res59 x (endIn_ok (l := []) hp hd)
    · split at h
      · rename_i e; subst e; cases h
        refine aCon_sound (by decide) ⟨_, Try.func69, rfl⟩ rfl (by decide) (fun i l hi => ha 69 sig69 i l rfl hi) fun e cvs hp hh hd => ?_
        obtain ⟨w, vs, hh⟩ := hh
        obtain ⟨xs, r, vr, rfl, hl, hxs, hh⟩ := AllV.list (ts := [i6]) hh
        obtain ⟨x, r, vr, rfl, hx, hh⟩ := AllV.int (ts := []) hh
        obtain rfl := AllV.nil hh
        exact res69 xs hl hxs x (endIn_ok (l := (xs.length : Int) :: xs) hp (by rw [hd]; rfl))
      · cases h
end
theorem happ (xs : List Int) (ls : List (List Int)) : @Happ (E0 xs ls) := fun j s i l hj hi => envL_app hj i l hi
end Go.SX.Tel
