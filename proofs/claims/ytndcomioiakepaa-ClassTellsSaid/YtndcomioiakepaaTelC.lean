/- ClassTells: the other runs: masks, both classes, both pairs, Bytes, the law. -/
import Derived.Test.YtndcomioiakepaaTelA
namespace Go.SX.Tel
open Go Go.SX Go.Proofs Go.SX.Op
set_option maxRecDepth 1000000
set_option linter.unusedSectionVars false
def irps : List Rp := [.n (.ex (.nm 0 (-9223372036854775808) 9223372036854775807)), .n (.ex (.nm 1 (-9223372036854775808) 9223372036854775807)), .n (.ex (.nm 2 (-9223372036854775808) 9223372036854775807)), .n (.ex (.nm 3 (-9223372036854775808) 9223372036854775807)), .n (.ex (.nm 4 (-9223372036854775808) 9223372036854775807)), .n (.ex (.nm 5 (-9223372036854775808) 9223372036854775807)), .n (.ex (.nm 6 (-9223372036854775808) 9223372036854775807)), .n (.ex (.nm 7 (-9223372036854775808) 9223372036854775807)), .n (.ex (.nm 8 0 4294967295)), .n (.ex (.nm 9 (-9223372036854775808) 9223372036854775807)), .n (.ex (.nm 10 (-9223372036854775808) 9223372036854775807)), .n (.ex (.nm 11 (-9223372036854775808) 9223372036854775807)), .n (.ex (.nm 12 (-9223372036854775808) 9223372036854775807)), .n (.ex (.nm 13 (-9223372036854775808) 9223372036854775807)), .n (.ex (.nm 14 0 4294967295)), .n (.ex (.nm 15 0 4294967295)), .b (.ex (.eq (.nm 16 0 1) (.num 1))), .n (.ex (.nm 17 (-9223372036854775808) 9223372036854775807))]
def irps2 : List Rp := [.n (.ex (.nm 18 (-9223372036854775808) 9223372036854775807)), .n (.ex (.nm 19 (-9223372036854775808) 9223372036854775807)), .n (.ex (.nm 20 (-9223372036854775808) 9223372036854775807)), .n (.ex (.nm 21 (-9223372036854775808) 9223372036854775807)), .n (.ex (.nm 22 (-9223372036854775808) 9223372036854775807)), .n (.ex (.nm 23 (-9223372036854775808) 9223372036854775807)), .n (.ex (.nm 24 (-9223372036854775808) 9223372036854775807)), .n (.ex (.nm 25 (-9223372036854775808) 9223372036854775807)), .n (.ex (.nm 26 0 4294967295)), .n (.ex (.nm 27 (-9223372036854775808) 9223372036854775807)), .n (.ex (.nm 28 (-9223372036854775808) 9223372036854775807)), .n (.ex (.nm 29 (-9223372036854775808) 9223372036854775807)), .n (.ex (.nm 30 (-9223372036854775808) 9223372036854775807)), .n (.ex (.nm 31 (-9223372036854775808) 9223372036854775807)), .n (.ex (.nm 32 0 4294967295)), .n (.ex (.nm 33 0 4294967295)), .b (.ex (.eq (.nm 34 0 1) (.num 1))), .n (.ex (.nm 35 (-9223372036854775808) 9223372036854775807))]
def cB (n : Int) : Sc := .int .u8 (.c n)
def nB : Sc := .int .u8 (.ex (.nm 0 0 255))
def pre12 (e : E) : Bool :=
  match e with
  | .cn _ (.cc (.ls i _ lo hi n) .nl) => i == 100 && (lo == 0 && (hi == 255 && n == 15))
  | .cn _ (.cn (.num 131) (.cn _ (.cn (.num 224) .nl))) => true
  | .cn _ (.cn (.num 129) (.cn _ (.cn (.num 224) (.cn (.num 255) (.cn (.num 255) (.cn (.num 255) .nl)))))) => true
  | .cn _ (.cn (.num 255) (.cn _ .nl)) => true
  | _ => false
def shapeB (l : List Sc) : Bool := heads.any fun h => lbeq Sc.beq (l.take h.length) (h.map cB) && (l.length == h.length + 12)
section
variable [Env]
theorem m83 : oneRun [cB 131, nB, cB 224] = true := by kernel_rfl
theorem m81 : oneRun [cB 129, nB, cB 224, cB 255, cB 255, cB 255] = true := by kernel_rfl
theorem mff : oneRun [cB 255, nB] = true := by kernel_rfl
theorem mnil : oneRun [] = true := by kernel_rfl
theorem both14 : (bothE (callE Try.prog env0 cfg0 12) 14 15 (splitA sig14.pts (rpCells (flatT sig14.pts) irps 0)) (rpObjs (flatT sig14.pts) irps)).good (leafB sig14) [] = true := by kernel_rfl
theorem both16 : (bothE (callE Try.prog env0 cfg0 12) 16 17 (splitA sig16.pts (rpCells (flatT sig16.pts) (irps ++ irps2) 0)) (rpObjs (flatT sig16.pts) (irps ++ irps2))).good (leafB sig16) [] = true := by kernel_rfl
theorem known11 : (callE Try.prog env0 cfg0 12 11 (splitA [] (rpCells (flatT []) [] 0)) (rpObjs (flatT []) [])).good leafTrue [] = true := by kernel_rfl
end
end Go.SX.Tel
