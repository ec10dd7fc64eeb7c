/- What the byte behind a group's opcode refuses: a contract of both readers of instructions, for the opcodes of groups. -/
import Derived.Test.YtimbamlodfohmaaOneA
namespace Go.SX.One
open Go Go.SX Go.Proofs
set_option maxRecDepth 1000000
set_option linter.unusedSectionVars false
/-- the second byte, of the arguments' terms -/
def b1A : E → E
  | .cn _ (.cc (.cn _ (.cn y _)) _) => y
  | .cn _ (.cn _ (.cn y _)) => y
  | a => selE (.num 2) a
theorem b1A_den [Env] (a : E) : (b1A a).den = a.dens.getD 2 0 := by
  unfold b1A
  split
  · rfl
  · rfl
  · exact selE_den _ _
def grpT : List (Int × List Int) := [(0x8f, [0]), (0xc1, [0, 1, 4, 5, 7]), (0xd1, [0, 1, 4, 5, 7]), (0xd3, [0, 1, 4, 5, 7]), (0xc6, [0]), (0xc7, [0]), (0xf6, [0, 2, 3]), (0xf7, [0, 2, 3, 4, 5, 6, 7]), (0xfe, [0, 1]), (0xff, [0, 1, 2, 4, 6])]
def grpC : List Int := [0x80, 0x81, 0x83, 0x8f, 0xc1, 0xc6, 0xc7, 0xd1, 0xd3, 0xf6, 0xf7, 0xfe, 0xff]
def okT (e : E) (yes no : RT) : List Int → RT
  | [] => no
  | k :: r => .br (.eq e (.num k)) yes (okT e yes no r)
def grpQ (b0 rg : E) (yes no : RT) : List (Int × List Int) → RT
  | [] => yes
  | (c, l) :: r => .br (.eq b0 (.num c)) (okT rg yes no l) (grpQ b0 rg yes no r)
def rtLow (r : List E) : RT :=
  .br (.eq (r.getD 18 n0) n0) (.lf [r.getD 0 n0, r.getD 1 n0, r.getD 2 n0, r.getD 3 n0, r.getD 4 n0, r.getD 5 n0, r.getD 6 n0, r.getD 7 n0, r.getD 8 n0, r.getD 9 n0, r.getD 10 n0, r.getD 11 n0, r.getD 12 n0, r.getD 13 n0, r.getD 14 n0, r.getD 15 n0, r.getD 16 n0, r.getD 17 n0, n0]) (z19 (.num 21))
def rtGrp (a b0 : E) (r : List E) : RT :=
  .br (.lt (.num 1) (selE (.num 0) a)) (grpQ b0 (regE (b1A a)) (rtLow r) (z19 (.num 22)) grpT) (z19 (.num 21))
def sigGrp : Sig := { sigOne with rt := some rtGrp }
theorem okT_resp {e1 e2 : Env} {e e' : E} {y n y' n' : RT} (he : @E.den e1 e = @E.den e2 e') (hy : @RT.den e1 y = @RT.den e2 y') (hn : @RT.den e1 n = @RT.den e2 n') : ∀ l, @RT.den e1 (okT e y n l) = @RT.den e2 (okT e' y' n' l)
  | [] => hn
  | k :: r => by
    show (bif (@E.den e1 e == k) then @RT.den e1 y else @RT.den e1 (okT e y n r)) = (bif (@E.den e2 e' == k) then @RT.den e2 y' else @RT.den e2 (okT e' y' n' r))
    rw [he, hy, okT_resp he hy hn r]
theorem grpQ_resp {e1 e2 : Env} {b b' e e' : E} {y n y' n' : RT} (hb : @E.den e1 b = @E.den e2 b') (he : @E.den e1 e = @E.den e2 e') (hy : @RT.den e1 y = @RT.den e2 y') (hn : @RT.den e1 n = @RT.den e2 n') : ∀ l, @RT.den e1 (grpQ b e y n l) = @RT.den e2 (grpQ b' e' y' n' l)
  | [] => hy
  | (c, l) :: r => by
    show (bif (@E.den e1 b == c) then @RT.den e1 (okT e y n l) else @RT.den e1 (grpQ b e y n r)) = (bif (@E.den e2 b' == c) then @RT.den e2 (okT e' y' n' l) else @RT.den e2 (grpQ b' e' y' n' r))
    rw [hb, okT_resp he hy hn l, grpQ_resp hb he hy hn r]
theorem resp_grp : Resp sigGrp := by
  intro e1 e2 a b0 a' b0' res res' h1 h2 h3
  have g : ∀ i, @E.den e1 (res.getD i n0) = @E.den e2 (res'.getD i n0) := fun i => by rw [@getD_map e1, @getD_map e2, h3]
  have ha : @E.den e1 (selE (.num 0) a) = @E.den e2 (selE (.num 0) a') := by
    rw [@selE_den e1, @selE_den e2, show @E.D e1 a = (_, @E.dens e1 a) from rfl, show @E.D e2 a' = (_, @E.dens e2 a') from rfl, h1]; rfl
  have hh : (@E.dens e1 a).headD 0 = @E.den e1 (selE (.num 0) a) := by
    rw [@selE_den e1]; show _ = (@E.dens e1 a).getD 0 0; cases @E.dens e1 a <;> rfl
  have hm : @E.den e1 (b1A a) = @E.den e2 (b1A a') := by rw [@b1A_den e1, @b1A_den e2, h1]
  have hr : @E.den e1 (regE (b1A a)) = @E.den e2 (regE (b1A a')) := by
    show semI .and .u8 (semI .shr .u8 (@E.den e1 (b1A a)) 3) 7 = semI .and .u8 (semI .shr .u8 (@E.den e2 (b1A a')) 3) 7; rw [hm]
  show (bif decide ((1 : Int) < @E.den e1 (selE (.num 0) a)) then @RT.den e1 (grpQ b0 (regE (b1A a)) (rtLow res) (z19 (.num 22)) grpT) else @RT.den e1 (z19 (.num 21))) =
    (bif decide ((1 : Int) < @E.den e2 (selE (.num 0) a')) then @RT.den e2 (grpQ b0' (regE (b1A a')) (rtLow res') (z19 (.num 22)) grpT) else @RT.den e2 (z19 (.num 21)))
  rw [ha]
  by_cases h0 : (1 : Int) < @E.den e2 (selE (.num 0) a')
  · have hb : @E.den e1 b0 = @E.den e2 b0' := h2 (by rw [hh, ha]; omega)
    rw [grpQ_resp (n := z19 (.num 22)) (n' := z19 (.num 22)) (y := rtLow res) (y' := rtLow res') hb hr ?_ rfl grpT]
    · rfl
    · simp only [rtLow, z19, RT.den, EB.den, List.map_cons, List.map_nil, g]
      rfl
  · rw [decide_eq_false h0]
    rfl
section
variable [Env]
abbrev lsM2 : E := .ls 0 .nl 0 255 9223372036854775805
abbrev mE (y : Int) : E := .pl (.op .mul .i64 (.nm 0 0 3) (.num 64)) (.pl (.num (8 * y)) (.nm 1 0 7))
noncomputable abbrev goodG (l : E) (c : E) : Bool := (bothE (callE Try.prog env1 cfg0 12) 13 16 (splitA sigGrp.pts (rpCells (flatT sigGrp.pts) [.tm l] 0)) (rpObjs (flatT sigGrp.pts) [.tm l])).good (leafB sigGrp (argE l) c) []
end
end Go.SX.One
