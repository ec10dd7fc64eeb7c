/- ImageReads: lists with another entry by names; what is known of them. -/
import Derived.Test.YtkbghbkfaloblaaImgC
namespace Go.SX.Img
open Go Go.SX Go.Proofs
set_option maxRecDepth 1000000
set_option linter.unusedSectionVars false
abbrev pts4 : List PT := [bytesT, bytesT, .inl u1, .inl u8, .inl u8]
abbrev l1E : E := .ls 1 .nl 0 255 200
def bodyE : E := (.cn (.num (83)) (.cn (.num (65)) (.cn (.num (76)) (.cn (.num (84)) (.cn (.num (1)) (.cn (.num (0)) (.cn (.num (0)) (.cn (.num (0)) (.cn (.num (2)) (.cn (.num (0)) (.cn (.num (0)) (.cn (.num (0)) (.cn (.ln l1E) (.cn (.op .shr .u32 (.ln l1E) (.num (8))) (.cn (.op .shr .u32 (.ln l1E) (.num (16))) (.cn (.op .shr .u32 (.ln l1E) (.num (24))) (.cn (.num (9)) (.cn (.num (0)) (.cn (.num (0)) (.cn (.num (0)) (.cn (.num (128)) (.cn (.num (0)) (.cn (.num (0)) (.cn (.num (0)) (.cn (.num (0)) (.cn (.num (0)) (.cn (.num (0)) (.cn (.num (0)) (.cn (.num (144)) (.cn (.num (244)) l1E))))))))))))))))))))))))))))))
def bE : E := (.cn (.num (83)) (.cn (.num (65)) (.cn (.num (76)) (.cn (.num (84)) (.cn (.num (1)) (.cn (.num (0)) (.cn (.num (0)) (.cn (.num (0)) (.cn (.num (2)) (.cn (.num (0)) (.cn (.num (0)) (.cn (.num (0)) (.cn (.ln l1E) (.cn (.op .shr .u32 (.ln l1E) (.num (8))) (.cn (.op .shr .u32 (.ln l1E) (.num (16))) (.cn (.op .shr .u32 (.ln l1E) (.num (24))) (.cn (.num (9)) (.cn (.num (0)) (.cn (.num (0)) (.cn (.num (0)) (.cn (.num (128)) (.cn (.num (0)) (.cn (.num (0)) (.cn (.num (0)) (.cn (.num (0)) (.cn (.num (0)) (.cn (.num (0)) (.cn (.num (0)) (.cn (.num (144)) (.cn (.num (244)) (.cc l1E (.cn (.wr .u8 (.op .or .u32 (.op .shl .u32 (.ap 12802 (.cn (.num (1)) (.cn (.num (0)) (.cn (.num (0)) (.cn (.ln bodyE) bodyE)))) (0) 65520) (.num (16))) (.ap 12801 (.cn (.num (1)) (.cn (.num (0)) (.cn (.num (0)) (.cn (.ln bodyE) bodyE)))) (0) 65520))) (.cn (.wr .u8 (.op .shr .u32 (.op .or .u32 (.op .shl .u32 (.ap 12802 (.cn (.num (1)) (.cn (.num (0)) (.cn (.num (0)) (.cn (.ln bodyE) bodyE)))) (0) 65520) (.num (16))) (.ap 12801 (.cn (.num (1)) (.cn (.num (0)) (.cn (.num (0)) (.cn (.ln bodyE) bodyE)))) (0) 65520)) (.num (8)))) (.cn (.wr .u8 (.op .shr .u32 (.op .or .u32 (.op .shl .u32 (.ap 12802 (.cn (.num (1)) (.cn (.num (0)) (.cn (.num (0)) (.cn (.ln bodyE) bodyE)))) (0) 65520) (.num (16))) (.ap 12801 (.cn (.num (1)) (.cn (.num (0)) (.cn (.num (0)) (.cn (.ln bodyE) bodyE)))) (0) 65520)) (.num (16)))) (.cn (.op .shr .u32 (.op .or .u32 (.op .shl .u32 (.ap 12802 (.cn (.num (1)) (.cn (.num (0)) (.cn (.num (0)) (.cn (.ln bodyE) bodyE)))) (0) 65520) (.num (16))) (.ap 12801 (.cn (.num (1)) (.cn (.num (0)) (.cn (.num (0)) (.cn (.ln bodyE) bodyE)))) (0) 65520)) (.num (24))) .nl)))))))))))))))))))))))))))))))))))
def r0 : E := (.pl (.num (0)) (.op .rem .i64 (.nm 0 (0) 65535) (.pl (.pl (.num (30)) (.ln l1E)) (.num (4)))))
def a0 : E := (.op .xor .u8 (.sel (.pl (.op .rem .i64 (.nm 0 (0) 65535) (.pl (.pl (.num (30)) (.ln l1E)) (.num (4)))) (.num (0))) bE) (.nm 1 (0) 255))
def r3 : E := (.pl (.num (0)) (.op .add .i64 (.num (8)) (.op .rem .i64 (.nm 0 (0) 65535) (.num (20)))))
def a3 : E := (.op .xor .u8 (.sel (.pl (.op .rem .i64 (.nm 0 (0) 65535) (.num (20))) (.num (8))) bE) (.nm 1 (0) 255))
def hw (k : Int) : Fk := .eq (eqD (.op .rem .u8 (.nm 2 0 255) (.num 5)) (.num k))
def dqF (r a : E) : Fk := .eq (eqD (.dq (nmS r a bE) (setE r a bE)) (.num 0))
def lnF (r a : E) : Fk := .eq (eqD (.ln (nmS r a bE)) (.ln bE))
abbrev m3 : E := .mi (.op .sub .i64 (.pl (.pl (.num 30) (.ln l1E)) (.num 4)) (.num 4)) (.num 0)
abbrev n78 : E := .ls 78 .nl 0 255 234
abbrev n79 : E := .ls 79 .nl 0 255 238
def p3 : E := .sb n78 (.num 0) m3
def s3 : E := .op .or .u32 (.op .shl .u32 (.ap 12802 (.cn (.num 1) (.cn (.num 0) (.cn (.num 0) (.cn (.ln p3) p3)))) 0 65520) (.num 16)) (.ap 12801 (.cn (.num 1) (.cn (.num 0) (.cn (.num 0) (.cn (.ln p3) p3)))) 0 65520)
def e79 : E := .cc p3 (.cn (.wr .u8 s3) (.cn (.wr .u8 (.op .shr .u32 s3 (.num 8))) (.cn (.wr .u8 (.op .shr .u32 s3 (.num 16))) (.cn (.op .shr .u32 s3 (.num 24)) .nl))))
def dqG : Fk := .eq (eqD (.dq n79 e79) (.num 0))
def lnG : Fk := .eq (eqD (.ln n79) (.pl (.num 34) (.ln l1E)))
/-- what is known in each case -/
def fsK : Nat → List Fk
  | 0 => [lnF r0 a0]
  | 3 => [lnF r3 a3, lnG]
  | _ => []
def gsK : Nat → List Fk
  | 0 => [hw 0, lnF r0 a0, dqF r0 a0]
  | 3 => [hw 3, lnF r3 a3, lnG, dqF r3 a3, dqG]
  | k => [hw k]
section
variable [Env]
def envR : FuncId → Option Con := fun g => if g = 7 then some (trueCon []) else none
def cfgR (fs : List Fk) : FuncId → Cfg := fun g => if g = 17 then { lc := fun id => if id = 3 then some (wCon 200 4 wP) else none } else if g = 15 then { lc := fun id => if id = 3 then some (wCon 200 4 wR) else none } else if g = 4 then { lm := fun id => id = 20, lv := fun id => if id = 20 then some [115, 114, 113, 10] else none, fs := fs } else {}
end
end Go.SX.Img
