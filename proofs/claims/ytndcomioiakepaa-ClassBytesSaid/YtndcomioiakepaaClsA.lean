/- What the law's functions come to. -/
import Derived.Test.YtndcomioiakepaaSxD
import Derived.Test.YtndcomioiakepaaRows
import Derived.ProofKit
namespace Go.SX.Cls
open Go Go.SX Go.Proofs

def i6 : CT := .sc (.int .i64)
def u3 : CT := .sc (.int .u32)
def bo : CT := .sc .bool
def bytesT : PT := .inl (.lst [.int .u8])
def instrT : PT := .inr [i6, i6, i6, i6, i6, i6, i6, i6, u3, i6, i6, i6, i6, i6, u3, u3, bo, i6]
abbrev env0 : FuncId → Option Con := fun _ => none
abbrev cfg0 : FuncId → Cfg := fun _ => {}
set_option maxRecDepth 1000000
theorem mixed : Try.prog.follows .mixedOrders = true := by kernel_rfl
theorem names : NamesOk Try.prog := by
  have h : Try.prog.funcs.toList.all (fun fn => !(fn.name == "runtime.NumGoroutine")) = true := by kernel_rfl
  intro g fn hg
  have := List.all_eq_true.1 h fn (by rw [← Array.getElem?_toList] at hg; exact List.mem_of_getElem? hg)
  simpa using this
theorem envOk0 : EnvOk Try.prog env0 cfg0 := ⟨names, fun g c h => (by cases h), fun g fn c σ _ _ _ => LoopsOk.none (fun _ => rfl) c⟩
theorem sound0 (d : Nat) : CallSound Try.prog (callE Try.prog env0 cfg0 d) := call_sound mixed envOk0 d

def classOf7 (x0 x2 x3 x4 x9 x14 x17 : Int) : Int := (bif (decide (x0 < 1)) then (0) else (bif (decide (61 < x0 )) then (0) else (bif (x0 == 34 ) then (0) else (bif (x0 == 40 ) then (0) else (bif (x0 == 32 ) then (bif (x3 == 4 ) then (2) else (bif (x3 == 1 ) then (4) else (bif (x3 == 3 ) then (0) else (1)))) else (bif (x0 == 33 ) then (bif (x3 == 4 ) then (2) else (bif (x3 == 1 ) then (4) else (bif (x3 == 3 ) then (0) else (1)))) else (bif (x0 == 31 ) then (bif (x3 == 4 ) then (2) else (bif (x0 == 5 ) then (bif (x2 == 4 ) then (bif (x3 == 1 ) then (bif (!(x4 == 4 ) ) then (bif (x9 == 4 ) then (bif (x14 == 4294967264 ) then (bif (x17 == 3 ) then (3) else (1)) else (1)) else (1)) else (1)) else (1)) else (1)) else (1))) else (bif (x0 == 5 ) then (bif (x2 == 4 ) then (bif (x3 == 1 ) then (bif (!(x4 == 4 ) ) then (bif (x9 == 4 ) then (bif (x14 == 4294967264 ) then (bif (x17 == 3 ) then (3) else (1)) else (1)) else (1)) else (1)) else (1)) else (1)) else (1)))))))))
def classOf : List Int → Int
  | [x0, x2, x3, x4, x9, x14, x17] => classOf7 x0 x2 x3 x4 x9 x14 x17
  | _ => 0
def F14 (x0 x2 x3 x4 x9 x14 x17 : Int) : Option (List CV) := (bif (decide (x0 < 1)) then some [(.n 0)] else (bif (decide (61 < x0 )) then some [(.n 0)] else (bif (x0 == 34 ) then some [(.n 0)] else (bif (x0 == 40 ) then some [(.n 0)] else (bif (x0 == 32 ) then (bif (x3 == 4 ) then some [(.n 2)] else (bif (x3 == 1 ) then some [(.n 4)] else (bif (x3 == 3 ) then some [(.n 0)] else some [(.n 1)]))) else (bif (x0 == 33 ) then (bif (x3 == 4 ) then some [(.n 2)] else (bif (x3 == 1 ) then some [(.n 4)] else (bif (x3 == 3 ) then some [(.n 0)] else some [(.n 1)]))) else (bif (x0 == 31 ) then (bif (x3 == 4 ) then some [(.n 2)] else (bif (x0 == 5 ) then (bif (x2 == 4 ) then (bif (x3 == 1 ) then (bif (!(x4 == 4 ) ) then (bif (x9 == 4 ) then (bif (x14 == 4294967264 ) then (bif (x17 == 3 ) then some [(.n 3)] else some [(.n 1)]) else some [(.n 1)]) else some [(.n 1)]) else some [(.n 1)]) else some [(.n 1)]) else some [(.n 1)]) else some [(.n 1)])) else (bif (x0 == 5 ) then (bif (x2 == 4 ) then (bif (x3 == 1 ) then (bif (!(x4 == 4 ) ) then (bif (x9 == 4 ) then (bif (x14 == 4294967264 ) then (bif (x17 == 3 ) then some [(.n 3)] else some [(.n 1)]) else some [(.n 1)]) else some [(.n 1)]) else some [(.n 1)]) else some [(.n 1)]) else some [(.n 1)]) else some [(.n 1)]))))))))
theorem push (c : Bool) (a b : Int) : (bif c then some [CV.n a] else some [CV.n b]) = some [CV.n (bif c then a else b)] := by cases c <;> rfl
theorem F14_eq (x0 x2 x3 x4 x9 x14 x17 : Int) : F14 x0 x2 x3 x4 x9 x14 x17 = some [.n (classOf [x0, x2, x3, x4, x9, x14, x17])] := by
  unfold F14
  simp only [push]
  rfl
def irps (x0 x1 x2 x3 x4 x5 x6 x7 x8 x9 x10 x11 x12 x13 x14 x15 : Int) (x16 : Bool) (x17 : Int) : List Rp := [.n (.sem x0), .n (.sem x1), .n (.sem x2), .n (.sem x3), .n (.sem x4), .n (.sem x5), .n (.sem x6), .n (.sem x7), .n (.sem x8), .n (.sem x9), .n (.sem x10), .n (.sem x11), .n (.sem x12), .n (.sem x13), .n (.sem x14), .n (.sem x15), .b (.sem x16), .n (.sem x17)]
theorem run14 (x0 x1 x2 x3 x4 x5 x6 x7 x8 x9 x10 x11 x12 x13 x14 x15 : Int) (x16 : Bool) (x17 : Int) :
    (callE Try.prog env0 cfg0 12 14 (splitA [instrT] (rpCells (flatT [instrT]) (irps x0 x1 x2 x3 x4 x5 x6 x7 x8 x9 x10 x11 x12 x13 x14 x15 x16 x17) 0)) (rpObjs (flatT [instrT]) (irps x0 x1 x2 x3 x4 x5 x6 x7 x8 x9 x10 x11 x12 x13 x14 x15 x16 x17))).val (resDen [.inl i6]) = F14 x0 x2 x3 x4 x9 x14 x17 := by
  kernel_rfl
def ofF : List CV → List Rp
  | [.n x0, _, .n x2, .n x3, .n x4, _, _, _, _, .n x9, _, _, _, _, .n x14, _, _, .n x17] => [.n (.sem (classOf [x0, x2, x3, x4, x9, x14, x17]))]
  | _ => []
theorem of_sem : ∀ cvs, (B.c true).den = true → (∃ w vs, AllV w (flatT [instrT]) cvs vs) → rpsOk (flatT [(Sum.inl i6 : PT)]) (ofF cvs) = true ∧ PureSem Try.prog 14 [instrT] [.inl i6] cvs (rpCVs (flatT [(Sum.inl i6 : PT)]) (ofF cvs)) := by
  rintro cvs _ ⟨w, vs, h0⟩
  have int : ∀ {t : CT} {k : IntKind} {ts : List CT} {cvs : List CV} {vs : List Value}, t = .sc (.int k) → AllV w (t :: ts) cvs vs → ∃ x r vr, cvs = .n x :: r ∧ AllV w ts r vr := by
    rintro t k ts cvs vs rfl h
    cases cvs with
    | nil => cases vs <;> cases h
    | cons c r =>
      cases vs with
      | nil => cases h
      | cons v vr =>
        obtain ⟨⟨x, rfl, _⟩, h2⟩ := h
        exact ⟨x, r, vr, rfl, h2⟩
  have bool : ∀ {ts : List CT} {cvs : List CV} {vs : List Value}, AllV w (.sc .bool :: ts) cvs vs → ∃ x r vr, cvs = .b x :: r ∧ AllV w ts r vr := by
    intro ts cvs vs h
    cases cvs with
    | nil => cases vs <;> cases h
    | cons c r =>
      cases vs with
      | nil => cases h
      | cons v vr =>
        obtain ⟨⟨x, rfl, _⟩, h2⟩ := h
        exact ⟨x, r, vr, rfl, h2⟩
  obtain ⟨x0, cvs, vs, rfl, h1⟩ := int rfl h0
  obtain ⟨x1, cvs, vs, rfl, h2⟩ := int rfl h1
  obtain ⟨x2, cvs, vs, rfl, h3⟩ := int rfl h2
  obtain ⟨x3, cvs, vs, rfl, h4⟩ := int rfl h3
  obtain ⟨x4, cvs, vs, rfl, h5⟩ := int rfl h4
  obtain ⟨x5, cvs, vs, rfl, h6⟩ := int rfl h5
  obtain ⟨x6, cvs, vs, rfl, h7⟩ := int rfl h6
  obtain ⟨x7, cvs, vs, rfl, h8⟩ := int rfl h7
  obtain ⟨x8, cvs, vs, rfl, h9⟩ := int rfl h8
  obtain ⟨x9, cvs, vs, rfl, h10⟩ := int rfl h9
  obtain ⟨x10, cvs, vs, rfl, h11⟩ := int rfl h10
  obtain ⟨x11, cvs, vs, rfl, h12⟩ := int rfl h11
  obtain ⟨x12, cvs, vs, rfl, h13⟩ := int rfl h12
  obtain ⟨x13, cvs, vs, rfl, h14⟩ := int rfl h13
  obtain ⟨x14, cvs, vs, rfl, h15⟩ := int rfl h14
  obtain ⟨x15, cvs, vs, rfl, h16⟩ := int rfl h15
  obtain ⟨x16, cvs, vs, rfl, h17⟩ := bool h16
  obtain ⟨x17, cvs, vs, rfl, h18⟩ := int rfl h17
  have : cvs = [] := by
    cases cvs with
    | nil => rfl
    | cons _ _ => cases vs <;> cases h18
  subst this
  refine ⟨rfl, ?_⟩
  refine pure_of_eval (sound0 12) (irps x0 x1 x2 x3 x4 x5 x6 x7 x8 x9 x10 x11 x12 x13 x14 x15 x16 x17) rfl rfl ?_
  rw [run14, F14_eq]
  rfl

/-- what One makes of a mask, of those beside it -/
def onePre (l : List Int) : Bool :=
  (decide (l.length = 3) && (l.getD 0 0 == 131) && decide (224 ≤ l.getD 1 0) && decide (l.getD 1 0 ≤ 231)) ||
  (decide (l.length = 6) && (l.getD 0 0 == 129) && decide (224 ≤ l.getD 1 0) && decide (l.getD 1 0 ≤ 231)) || (l == [37, 224, 255, 255, 255])
def oneReg (l : List Int) : Int := if l.getD 0 0 = 37 then 0 else l.getD 1 0 - 224
def oneDisp (l : List Int) : Int :=
  if l.length = 3 then IntKind.wrap .u32 (IntKind.wrap .i32 (IntKind.wrap .i8 (l.getD 2 0)))
  else if l.length = 6 then semI .or .u32 (semI .or .u32 (semI .or .u32 (IntKind.wrap .u32 (l.getD 2 0)) (semI .shl .u32 (IntKind.wrap .u32 (l.getD 3 0)) 8)) (semI .shl .u32 (IntKind.wrap .u32 (l.getD 4 0)) 16)) (semI .shl .u32 (IntKind.wrap .u32 (l.getD 5 0)) 24)
  else 4294967264
def oneP : List CV → B
  | [.l l] => .sem (onePre l)
  | _ => .c false
def oneF : List CV → List Rp
  | [.l l] => [.n (.c 5), .n (.c 0), .n (.c 4), .n (.c 1), .n (.sem (oneReg l)), .n (.c (-1)), .n (.c (-1)), .n (.c 1), .n (.c 0), .n (.c 4), .n (.c 0), .n (.c (-1)), .n (.c (-1)), .n (.c 1), .n (.sem (oneDisp l)), .n (.c 0), .b (.c false), .n (.c l.length), .n (.c 0)]
  | _ => []
abbrev OneIs (l : List Int) : Prop := PureSem Try.prog 12 [bytesT] [instrT, .inl i6] [.l l] (rpCVs (flatT [instrT, .inl i6]) (oneF [.l l]))
theorem one83_0 (t : Int) : OneIs [131, 224, t] := pure_of_eval (sound0 12) [.l [.int .u8 (.c 131), .int .u8 (.c 224), .int .u8 (.sem t)]] (by kernel_rfl) (by kernel_rfl) (by kernel_rfl)
theorem one81_0 (a b c d : Int) : OneIs [129, 224, a, b, c, d] := pure_of_eval (sound0 12) [.l [.int .u8 (.c 129), .int .u8 (.c 224), .int .u8 (.sem a), .int .u8 (.sem b), .int .u8 (.sem c), .int .u8 (.sem d)]] (by kernel_rfl) (by kernel_rfl) (by kernel_rfl)
theorem one83_1 (t : Int) : OneIs [131, 225, t] := pure_of_eval (sound0 12) [.l [.int .u8 (.c 131), .int .u8 (.c 225), .int .u8 (.sem t)]] (by kernel_rfl) (by kernel_rfl) (by kernel_rfl)
theorem one81_1 (a b c d : Int) : OneIs [129, 225, a, b, c, d] := pure_of_eval (sound0 12) [.l [.int .u8 (.c 129), .int .u8 (.c 225), .int .u8 (.sem a), .int .u8 (.sem b), .int .u8 (.sem c), .int .u8 (.sem d)]] (by kernel_rfl) (by kernel_rfl) (by kernel_rfl)
theorem one83_2 (t : Int) : OneIs [131, 226, t] := pure_of_eval (sound0 12) [.l [.int .u8 (.c 131), .int .u8 (.c 226), .int .u8 (.sem t)]] (by kernel_rfl) (by kernel_rfl) (by kernel_rfl)
theorem one81_2 (a b c d : Int) : OneIs [129, 226, a, b, c, d] := pure_of_eval (sound0 12) [.l [.int .u8 (.c 129), .int .u8 (.c 226), .int .u8 (.sem a), .int .u8 (.sem b), .int .u8 (.sem c), .int .u8 (.sem d)]] (by kernel_rfl) (by kernel_rfl) (by kernel_rfl)
theorem one83_3 (t : Int) : OneIs [131, 227, t] := pure_of_eval (sound0 12) [.l [.int .u8 (.c 131), .int .u8 (.c 227), .int .u8 (.sem t)]] (by kernel_rfl) (by kernel_rfl) (by kernel_rfl)
theorem one81_3 (a b c d : Int) : OneIs [129, 227, a, b, c, d] := pure_of_eval (sound0 12) [.l [.int .u8 (.c 129), .int .u8 (.c 227), .int .u8 (.sem a), .int .u8 (.sem b), .int .u8 (.sem c), .int .u8 (.sem d)]] (by kernel_rfl) (by kernel_rfl) (by kernel_rfl)
theorem one83_4 (t : Int) : OneIs [131, 228, t] := pure_of_eval (sound0 12) [.l [.int .u8 (.c 131), .int .u8 (.c 228), .int .u8 (.sem t)]] (by kernel_rfl) (by kernel_rfl) (by kernel_rfl)
theorem one81_4 (a b c d : Int) : OneIs [129, 228, a, b, c, d] := pure_of_eval (sound0 12) [.l [.int .u8 (.c 129), .int .u8 (.c 228), .int .u8 (.sem a), .int .u8 (.sem b), .int .u8 (.sem c), .int .u8 (.sem d)]] (by kernel_rfl) (by kernel_rfl) (by kernel_rfl)
theorem one83_5 (t : Int) : OneIs [131, 229, t] := pure_of_eval (sound0 12) [.l [.int .u8 (.c 131), .int .u8 (.c 229), .int .u8 (.sem t)]] (by kernel_rfl) (by kernel_rfl) (by kernel_rfl)
theorem one81_5 (a b c d : Int) : OneIs [129, 229, a, b, c, d] := pure_of_eval (sound0 12) [.l [.int .u8 (.c 129), .int .u8 (.c 229), .int .u8 (.sem a), .int .u8 (.sem b), .int .u8 (.sem c), .int .u8 (.sem d)]] (by kernel_rfl) (by kernel_rfl) (by kernel_rfl)
theorem one83_6 (t : Int) : OneIs [131, 230, t] := pure_of_eval (sound0 12) [.l [.int .u8 (.c 131), .int .u8 (.c 230), .int .u8 (.sem t)]] (by kernel_rfl) (by kernel_rfl) (by kernel_rfl)
theorem one81_6 (a b c d : Int) : OneIs [129, 230, a, b, c, d] := pure_of_eval (sound0 12) [.l [.int .u8 (.c 129), .int .u8 (.c 230), .int .u8 (.sem a), .int .u8 (.sem b), .int .u8 (.sem c), .int .u8 (.sem d)]] (by kernel_rfl) (by kernel_rfl) (by kernel_rfl)
theorem one83_7 (t : Int) : OneIs [131, 231, t] := pure_of_eval (sound0 12) [.l [.int .u8 (.c 131), .int .u8 (.c 231), .int .u8 (.sem t)]] (by kernel_rfl) (by kernel_rfl) (by kernel_rfl)
theorem one81_7 (a b c d : Int) : OneIs [129, 231, a, b, c, d] := pure_of_eval (sound0 12) [.l [.int .u8 (.c 129), .int .u8 (.c 231), .int .u8 (.sem a), .int .u8 (.sem b), .int .u8 (.sem c), .int .u8 (.sem d)]] (by kernel_rfl) (by kernel_rfl) (by kernel_rfl)
theorem one25 : OneIs [37, 224, 255, 255, 255] := pure_of_eval (sound0 12) [.l [.int .u8 (.c 37), .int .u8 (.c 224), .int .u8 (.c 255), .int .u8 (.c 255), .int .u8 (.c 255)]] (by kernel_rfl) (by kernel_rfl) (by kernel_rfl)
theorem one_sem : ∀ cvs, (oneP cvs).den = true → (∃ w vs, AllV w (flatT [bytesT]) cvs vs) → rpsOk (flatT [instrT, .inl i6]) (oneF cvs) = true ∧ PureSem Try.prog 12 [bytesT] [instrT, .inl i6] cvs (rpCVs (flatT [instrT, .inl i6]) (oneF cvs)) := by
  intro cvs hp hh
  clear hh
  unfold oneP at hp
  split at hp
  · rename_i l
    refine ⟨rfl, ?_⟩
    have hp : onePre l = true := hp
    simp only [onePre, Bool.or_eq_true, Bool.and_eq_true, decide_eq_true_eq, beq_iff_eq] at hp
    rcases hp with (⟨⟨⟨h1, h2⟩, h3⟩, h4⟩ | ⟨⟨⟨h1, h2⟩, h3⟩, h4⟩) | h
    · match l, h1 with
      | [a, b, c], _ =>
        simp only [List.getD_cons_zero, List.getD_cons_succ] at h2 h3 h4
        subst h2
        have : b = 224 ∨ b = 225 ∨ b = 226 ∨ b = 227 ∨ b = 228 ∨ b = 229 ∨ b = 230 ∨ b = 231 := by omega
        rcases this with rfl | rfl | rfl | rfl | rfl | rfl | rfl | rfl
        · exact one83_0 c
        · exact one83_1 c
        · exact one83_2 c
        · exact one83_3 c
        · exact one83_4 c
        · exact one83_5 c
        · exact one83_6 c
        · exact one83_7 c
    · match l, h1 with
      | [a, b, c, d, e, f], _ =>
        simp only [List.getD_cons_zero, List.getD_cons_succ] at h2 h3 h4
        subst h2
        have : b = 224 ∨ b = 225 ∨ b = 226 ∨ b = 227 ∨ b = 228 ∨ b = 229 ∨ b = 230 ∨ b = 231 := by omega
        rcases this with rfl | rfl | rfl | rfl | rfl | rfl | rfl | rfl
        · exact one81_0 c d e f
        · exact one81_1 c d e f
        · exact one81_2 c d e f
        · exact one81_3 c d e f
        · exact one81_4 c d e f
        · exact one81_5 c d e f
        · exact one81_6 c d e f
        · exact one81_7 c d e f
    · subst h; exact one25
  · cases hp
theorem known_sem : PureSem Try.prog 11 [] [.inl bo] [] [.b true] := pure_of_eval (sound0 20) [] (by kernel_rfl) (by kernel_rfl) (by kernel_rfl)
theorem known_sem' : ∀ cvs, (B.c true).den = true → (∃ w vs, AllV w (flatT []) cvs vs) → rpsOk (flatT [(Sum.inl bo : PT)]) [.b (.c true)] = true ∧ PureSem Try.prog 11 [] [.inl bo] cvs (rpCVs (flatT [(Sum.inl bo : PT)]) [.b (.c true)]) := by
  rintro cvs _ ⟨w, vs, h⟩
  have : cvs = [] := by
    cases cvs with
    | nil => rfl
    | cons _ _ => cases vs <;> cases h
  subst this
  exact ⟨rfl, known_sem⟩
def env1 : FuncId → Option Con := fun g => if g = 12 then some (pCon [bytesT] [instrT, .inl i6] oneP oneF) else if g = 11 then some (pCon [] [.inl bo] (fun _ => .c true) fun _ => [.b (.c true)]) else if g = 14 then some (pCon [instrT] [.inl i6] (fun _ => .c true) ofF) else none
theorem envOk1 : EnvOk Try.prog env1 cfg0 := by
  refine ⟨names, fun g c h => ?_, fun g fn c σ _ _ _ => LoopsOk.none (fun _ => rfl) c⟩
  unfold env1 at h
  split at h
  · rename_i e; subst e; cases h
    exact pCon_sound ⟨_, Try.func12, rfl⟩ rfl one_sem
  · split at h
    · rename_i e; subst e; cases h
      exact pCon_sound ⟨_, Try.func11, rfl⟩ rfl known_sem'
    · split at h
      · rename_i e; subst e; cases h
        exact pCon_sound ⟨_, Try.func14, rfl⟩ rfl of_sem
      · cases h
theorem sound1 (d : Nat) : CallSound Try.prog (callE Try.prog env1 cfg0 d) := call_sound mixed envOk1 d
def F4 (r v : Int) : Option (List CV) := (bif (onePre [131, (semI .or .u8 224 (semI .and .u8 r 7)), (IntKind.wrap .u8 v )]) then (bif (onePre [129, (semI .or .u8 224 (semI .and .u8 r 7)), (IntKind.wrap .u8 v ), (IntKind.wrap .u8 (semI .shr .u32 v 8)), (IntKind.wrap .u8 (semI .shr .u32 v 16)), (IntKind.wrap .u8 (semI .shr .u32 v 24))]) then (bif (onePre [37, 224, 255, 255, 255]) then (bif ((IntKind.wrap .u8 v ) == 224 ) then (bif (!((semI .and .u8 r 7) == 4 ) ) then (bif ((classOf [5, 4, 1, (oneReg [131, (semI .or .u8 224 (semI .and .u8 r 7)), (IntKind.wrap .u8 v )]), 4, (oneDisp [131, (semI .or .u8 224 (semI .and .u8 r 7)), (IntKind.wrap .u8 v )]), 3]) == 3 ) then (bif ((classOf [5, 4, 1, (oneReg [129, (semI .or .u8 224 (semI .and .u8 r 7)), (IntKind.wrap .u8 v ), (IntKind.wrap .u8 (semI .shr .u32 v 8)), (IntKind.wrap .u8 (semI .shr .u32 v 16)), (IntKind.wrap .u8 (semI .shr .u32 v 24))]), 4, (oneDisp [129, (semI .or .u8 224 (semI .and .u8 r 7)), (IntKind.wrap .u8 v ), (IntKind.wrap .u8 (semI .shr .u32 v 8)), (IntKind.wrap .u8 (semI .shr .u32 v 16)), (IntKind.wrap .u8 (semI .shr .u32 v 24))]), 6]) == 1 ) then (bif ((classOf [5, 4, 1, (oneReg [37, 224, 255, 255, 255]), 4, (oneDisp [37, 224, 255, 255, 255]), 5]) == 1 ) then some [(.b true)] else some [(.b false)]) else some [(.b false)]) else some [(.b false)]) else (bif ((classOf [5, 4, 1, (oneReg [131, (semI .or .u8 224 (semI .and .u8 r 7)), (IntKind.wrap .u8 v )]), 4, (oneDisp [131, (semI .or .u8 224 (semI .and .u8 r 7)), (IntKind.wrap .u8 v )]), 3]) == 3 ) then some [(.b false)] else (bif ((classOf [5, 4, 1, (oneReg [131, (semI .or .u8 224 (semI .and .u8 r 7)), (IntKind.wrap .u8 v )]), 4, (oneDisp [131, (semI .or .u8 224 (semI .and .u8 r 7)), (IntKind.wrap .u8 v )]), 3]) == 1 ) then (bif ((classOf [5, 4, 1, (oneReg [129, (semI .or .u8 224 (semI .and .u8 r 7)), (IntKind.wrap .u8 v ), (IntKind.wrap .u8 (semI .shr .u32 v 8)), (IntKind.wrap .u8 (semI .shr .u32 v 16)), (IntKind.wrap .u8 (semI .shr .u32 v 24))]), 4, (oneDisp [129, (semI .or .u8 224 (semI .and .u8 r 7)), (IntKind.wrap .u8 v ), (IntKind.wrap .u8 (semI .shr .u32 v 8)), (IntKind.wrap .u8 (semI .shr .u32 v 16)), (IntKind.wrap .u8 (semI .shr .u32 v 24))]), 6]) == 1 ) then (bif ((classOf [5, 4, 1, (oneReg [37, 224, 255, 255, 255]), 4, (oneDisp [37, 224, 255, 255, 255]), 5]) == 1 ) then some [(.b true)] else some [(.b false)]) else some [(.b false)]) else some [(.b false)]))) else (bif ((classOf [5, 4, 1, (oneReg [131, (semI .or .u8 224 (semI .and .u8 r 7)), (IntKind.wrap .u8 v )]), 4, (oneDisp [131, (semI .or .u8 224 (semI .and .u8 r 7)), (IntKind.wrap .u8 v )]), 3]) == 3 ) then some [(.b false)] else (bif ((classOf [5, 4, 1, (oneReg [131, (semI .or .u8 224 (semI .and .u8 r 7)), (IntKind.wrap .u8 v )]), 4, (oneDisp [131, (semI .or .u8 224 (semI .and .u8 r 7)), (IntKind.wrap .u8 v )]), 3]) == 1 ) then (bif ((classOf [5, 4, 1, (oneReg [129, (semI .or .u8 224 (semI .and .u8 r 7)), (IntKind.wrap .u8 v ), (IntKind.wrap .u8 (semI .shr .u32 v 8)), (IntKind.wrap .u8 (semI .shr .u32 v 16)), (IntKind.wrap .u8 (semI .shr .u32 v 24))]), 4, (oneDisp [129, (semI .or .u8 224 (semI .and .u8 r 7)), (IntKind.wrap .u8 v ), (IntKind.wrap .u8 (semI .shr .u32 v 8)), (IntKind.wrap .u8 (semI .shr .u32 v 16)), (IntKind.wrap .u8 (semI .shr .u32 v 24))]), 6]) == 1 ) then (bif ((classOf [5, 4, 1, (oneReg [37, 224, 255, 255, 255]), 4, (oneDisp [37, 224, 255, 255, 255]), 5]) == 1 ) then some [(.b true)] else some [(.b false)]) else some [(.b false)]) else some [(.b false)]))) else none) else none) else none)
theorem run4 (r v : Int) : (callE Try.prog env1 cfg0 8 4 (splitA [.inl (.sc (.int .u8)), .inl u3] (rpCells (flatT [.inl (.sc (.int .u8)), .inl u3]) [.n (.sem r), .n (.sem v)] 0)) (rpObjs (flatT [.inl (.sc (.int .u8)), .inl u3]) [.n (.sem r), .n (.sem v)])).val (resDen [.inl bo]) = F4 r v := by
  kernel_rfl
end Go.SX.Cls
