/- Both readers of operands give the same; what is known of what they give. -/
import Derived.Test.YtimbamlodfohmaaSxJ
import Derived.Test.YtimbamlodfohmaaSxR
import Derived.Test.YtimbamlodfohmaaRows
namespace Go.SX.One
open Go Go.SX Go.Proofs
set_option maxRecDepth 1000000
set_option linter.unusedSectionVars false
def i6 : CT := .sc (.int .i64)
def u3 : CT := .sc (.int .u32)
def u8 : CT := .sc (.int .u8)
def bo : CT := .sc .bool
def bytesT : PT := .inl (.lst [.int .u8])
def operT : PT := .inr [i6, i6, i6, i6, i6, u3]
def instrT : PT := .inr [i6, i6, i6, i6, i6, i6, i6, i6, u3, i6, i6, i6, i6, i6, u3, u3, bo, i6]
def n0 : E := .num 0
def regE (b0 : E) : E := .op .and .u8 (.op .shr .u8 b0 (.num 3)) (.num 7)
def rmErr : RT := .lf [n0, n0, n0, n0, n0, n0, n0, n0, .num 21]
def rtRM (a b0 : E) (r : List E) : RT :=
  .br (.lt (.num 0) (selE (.num 0) a))
    (.br (.eq (.op .shr .u8 b0 (.num 6)) (.num 3))
      (.lf [.num 1, .op .and .u8 b0 (.num 7), .num (-1), .num (-1), .num 1, n0, regE b0, .num 1, n0])
      (.br (.eq (r.getD 8 n0) n0)
        (.lf [.num 3, n0, r.getD 2 n0, r.getD 3 n0, r.getD 4 n0, r.getD 5 n0, regE b0, r.getD 7 n0, n0]) rmErr)) rmErr
def operB : List (Int × Int) := [(0, 5), (0, 7), (-1, 7), (-1, 7), (0, 8), (0, 4294967295)]
def sigRM : Sig := ⟨[69, 28], [bytesT], [operT, .inl i6, .inl i6, .inl i6], operB ++ [(0, 7), (0, 6), (0, 21)], 128, some rtRM⟩
def z19 (e : E) : RT := .lf [n0, n0, n0, n0, n0, n0, n0, n0, n0, n0, n0, n0, n0, n0, n0, n0, n0, n0, e]
def rtOne (_ _ : E) (r : List E) : RT :=
  .br (.eq (r.getD 18 n0) n0) (.br (.lt n0 (r.getD 17 n0)) (.lf [r.getD 0 n0, r.getD 1 n0, r.getD 2 n0, r.getD 3 n0, r.getD 4 n0, r.getD 5 n0, r.getD 6 n0, r.getD 7 n0, r.getD 8 n0, r.getD 9 n0, r.getD 10 n0, r.getD 11 n0, r.getD 12 n0, r.getD 13 n0, r.getD 14 n0, r.getD 15 n0, r.getD 16 n0, r.getD 17 n0, n0]) (z19 (.num 21))) (z19 (r.getD 18 n0))
def sigOne : Sig := ⟨[13, 16], [bytesT], [instrT, .inl i6], [(0, 62), (0, 15), (0, 8)] ++ operB ++ operB ++ [(0, 4294967295), (0, 1), (0, 15), (0, 23)], 131072, some rtOne⟩
def sigs (j : Nat) : Option Sig := if j = 28 then some sigRM else if j = 13 then some sigOne else none
theorem getD_map [Env] (r : List E) (i : Nat) : (r.getD i n0).den = (r.map E.den).getD i 0 := by
  rw [List.getD_eq_getElem?_getD, List.getD_eq_getElem?_getD, List.getElem?_map]
  cases r[i]? <;> rfl
theorem resp_rm : Resp sigRM := by
  intro e1 e2 a b0 a' b0' res res' h1 h2 h3
  have g : ∀ i, @E.den e1 (res.getD i n0) = @E.den e2 (res'.getD i n0) := fun i => by rw [@getD_map e1, @getD_map e2, h3]
  have ha : @E.den e1 (selE (.num 0) a) = @E.den e2 (selE (.num 0) a') := by
    rw [@selE_den e1, @selE_den e2, show @E.D e1 a = (_, @E.dens e1 a) from rfl, show @E.D e2 a' = (_, @E.dens e2 a') from rfl, h1]; rfl
  have hh : (@E.dens e1 a).headD 0 = @E.den e1 (selE (.num 0) a) := by
    rw [@selE_den e1]; show _ = (@E.dens e1 a).getD 0 0; cases @E.dens e1 a <;> rfl
  have hn : ∀ n, @E.den e1 (.num n) = @E.den e2 (.num n) := fun n => rfl
  simp only [rtRM, RT.den, EB.den, rmErr, List.map_cons, List.map_nil, ha, g]
  by_cases h0 : 0 < @E.den e2 (selE (.num 0) a')
  · have hb : @E.den e1 b0 = @E.den e2 b0' := h2 (by rw [hh, ha]; exact h0)
    have q1 : @E.den e1 (.op .shr .u8 b0 (.num 6)) = @E.den e2 (.op .shr .u8 b0' (.num 6)) := by
      show semI .shr .u8 (@E.den e1 b0) 6 = semI .shr .u8 (@E.den e2 b0') 6; rw [hb]
    have q2 : @E.den e1 (.op .and .u8 b0 (.num 7)) = @E.den e2 (.op .and .u8 b0' (.num 7)) := by
      show semI .and .u8 (@E.den e1 b0) 7 = semI .and .u8 (@E.den e2 b0') 7; rw [hb]
    have q3 : @E.den e1 (regE b0) = @E.den e2 (regE b0') := by
      show semI .and .u8 (semI .shr .u8 (@E.den e1 b0) 3) 7 = semI .and .u8 (semI .shr .u8 (@E.den e2 b0') 3) 7; rw [hb]
    rw [q1, q2, q3]
    rfl
  · have e0 : (decide (@E.den e1 (.num 0) < @E.den e2 (selE (.num 0) a'))) = false := decide_eq_false h0
    have e0' : (decide (@E.den e2 (.num 0) < @E.den e2 (selE (.num 0) a'))) = false := decide_eq_false h0
    rw [e0, e0']
    rfl
theorem resp_one : Resp sigOne := by
  intro e1 e2 a b0 a' b0' res res' h1 h2 h3
  have g : ∀ i, @E.den e1 (res.getD i n0) = @E.den e2 (res'.getD i n0) := fun i => by rw [@getD_map e1, @getD_map e2, h3]
  simp only [rtOne, z19, RT.den, EB.den, List.map_cons, List.map_nil, g]
  rfl
theorem mixed : Try.prog.follows .mixedOrders = true := by kernel_rfl
theorem names : NamesOk Try.prog := by
  have h : Try.prog.funcs.toList.all (fun fn => !(fn.name == "runtime.NumGoroutine")) = true := by kernel_rfl
  intro g fn hg
  have := List.all_eq_true.1 h fn (by rw [← Array.getElem?_toList] at hg; exact List.mem_of_getElem? hg)
  simpa using this
section
variable [Env]
abbrev env0 : FuncId → Option Con := fun _ => none
abbrev cfg0 : FuncId → Cfg := fun _ => {}
theorem envOk0 : EnvOk Try.prog env0 cfg0 := ⟨names, fun g c h => (by cases h), fun g fn c σ _ _ _ => LoopsOk.none (fun _ => rfl) c⟩
theorem sound0 (d : Nat) : CallSound Try.prog (callE Try.prog env0 cfg0 d) := call_sound mixed envOk0 d
abbrev lsN : E := .ls 0 .nl 0 255 9223372036854775807
abbrev argE (l : E) : E := .cn (.ln l) (.cc l .nl)
theorem bothRM : (bothE (callE Try.prog env0 cfg0 12) 69 28 (splitA sigRM.pts (rpCells (flatT sigRM.pts) [.tm lsN] 0)) (rpObjs (flatT sigRM.pts) [.tm lsN])).good (leafB sigRM (argE lsN) (selE n0 lsN)) [] = true := by kernel_rfl
end
theorem resRM (cvs : List CV) (h : ∃ w vs, AllV w (flatT sigRM.pts) cvs vs) : HasRes Try.prog sigRM cvs := by
  obtain ⟨w, vs, h⟩ := h
  obtain ⟨xs, r, vr, rfl, hl, hx, h⟩ := AllV.list (ts := []) h
  obtain rfl := AllV.nil h
  letI : Env := envOf Try.prog sigs [] [xs]
  have e : lsN.dens = xs := ls_dens rfl hl hx
  refine res_of_both (sound0 12) (s := sigRM) rfl [.tm lsN] resp_rm (argE lsN) (selE n0 lsN) ?_ ?_ (fs := []) (fun f h => (by cases h)) rfl ?_ bothRM
  · show ((lsN.dens.length : Nat) : Int) :: (lsN.dens ++ []) = ((xs.length : Nat) : Int) :: xs ++ []
    rw [e]; rfl
  · rw [selE_den]
    show lsN.dens.getD 0 0 = (((xs.length : Nat) : Int) :: xs ++ []).getD 1 0
    rw [e]; simp
  · show [CV.l lsN.dens] = _
    rw [e]
section
variable [Env]
def env1 : FuncId → Option Con := fun g =>
  if g = 28 then some (tCon 28 sigRM rtRM fun _ => true) else if g = 69 then some (tCon 28 sigRM rtRM fun _ => true) else none
theorem envOk1 (happ : ∀ i l, i < 64 → Env.app (64 * 28 + i) l = (Res Try.prog sigRM l).getD i 0) : EnvOk Try.prog env1 cfg0 := by
  refine ⟨names, fun g c h => ?_, fun g fn c σ _ _ _ => LoopsOk.none (fun _ => rfl) c⟩
  unfold env1 at h
  split at h
  · rename_i e; subst e; cases h
    exact tCon_sound (s := sigRM) rfl (by decide) ⟨_, Try.func28, rfl⟩ rfl (by decide) (by decide) happ fun e cvs _ _ hh _ => resRM cvs hh
  · split at h
    · rename_i e; subst e; cases h
      exact tCon_sound (s := sigRM) rfl (by decide) ⟨_, Try.func69, rfl⟩ rfl (by decide) (by decide) happ fun e cvs _ _ hh _ => resRM cvs hh
    · cases h
abbrev lsM : E := .ls 0 .nl 0 255 9223372036854775806
noncomputable abbrev good1 (l : E) (c : E) : Bool := (bothE (callE Try.prog env1 cfg0 12) 13 16 (splitA sigOne.pts (rpCells (flatT sigOne.pts) [.tm l] 0)) (rpObjs (flatT sigOne.pts) [.tm l])).good (leafB sigOne (argE l) c) []
theorem runNil : good1 .nl n0 = true := by kernel_rfl
end
end Go.SX.One
