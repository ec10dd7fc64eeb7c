/- An evaluator of translated Go code over abstract values and an abstract memory, with Lean's own terms as leaves: definitions. -/
import Derived.Test.YtfacghikjnjjmaaSxG
import Derived.Laws.Build
namespace Go.SX
open Go
set_option linter.unusedSectionVars false
variable [Env]

inductive Sc where
  | any
  | int (k : IntKind) (x : X)
  | bool (b : B)
  | str (s : ByteArray)
  | strf (l : List Int)
  /-- a string by its bytes' term -/
  | strt (e : E)
  | flt (k : FloatKind) (n : Nat)
  | nilp
  /-- row 'row' of rows of sz cells, from cell fld on; the row is below hi (0: nothing is said) -/
  | ptr (id : Nat) (row : X) (sz fld hi : Nat)
  | nils
  | sl (nn : Bool) (id : Nat) (off len : X) (sz : Nat)
  | nilm
  | mp (id : Nat)
  | fn (f : FuncId)
  | nilf
  | nili
  deriving Inhabited

abbrev Part := Sum Sc (List Sc)
inductive AV where
  | one (s : Sc)
  | agg (l : List Sc)
  | tup (l : List Part)
  | ifc (t : TypeId) (p : Part)
  /-- as a call's result: it panicked with such an interface value -/
  | pan (t : TypeId) (p : Part)
  deriving Inhabited

def AV.ofPart : Part → AV
  | .inl s => .one s
  | .inr l => .agg l
def AV.part? : AV → Option Part
  | .one s => some (.inl s)
  | .agg l => some (.inr l)
  | _ => none

/-- cells: of values; or rows of numbers and bools by a function -/
inductive Cells where
  | vals (l : List Sc)
  | fn (n : Nat) (ks : List Kd) (f : Nat → Nat → Int)
  /-- a list's term -/
  | ex (k : Kd) (e : E)
  /-- rows of these kinds, one behind another, as a list's term -/
  | tb (ks : List Kd) (e : E)
  deriving Inhabited

inductive AO where
  | dead
  | row (own : Bool) (sz : Nat) (c : Cells)
  | mapo (es : List (Sc × AV))
  | maps (kk : IntKind) (vk : Kd) (f : Int → Option Int)
  /-- pages of 4096 bytes: the bytes, the pages that there are -/
  | pmem (M : Int → Int) (pg : Int → Bool)
  deriving Inhabited

/-- slots, as a tree: slot 0 on top, the odd ones on the left -/
inductive F where
  | nil
  | node (l : F) (v : AV) (r : F)
  /-- one slot, ahead of others -/
  | al (i : Nat) (v : AV) (r : F)
  deriving Inhabited
def F.getN : F → Nat → AV
  | .nil, _ => .one .any
  | .node l v r, i => @Bool.casesOn (fun _ => AV) (Nat.beq i 0) (@Bool.casesOn (fun _ => AV) (Nat.beq (Nat.mod i 2) 1) (r.getN (Nat.sub (Nat.div i 2) 1)) (l.getN (Nat.div i 2))) v
  | .al j v r, i => @Bool.casesOn (fun _ => AV) (Nat.beq i j) (r.getN i) v
def F.setN : F → Nat → AV → F
  | .nil, _, _ => .nil
  | .node l v r, i, x => @Bool.casesOn (fun _ => F) (Nat.beq i 0) (@Bool.casesOn (fun _ => F) (Nat.beq (Nat.mod i 2) 1) (.node l v (r.setN (Nat.sub (Nat.div i 2) 1) x)) (.node (l.setN (Nat.div i 2) x) v r)) (.node l x r)
  | .al j v r, i, x => .al i x (.al j v r)
/-- a frame: so many slots -/
structure Fr where
  n : Nat
  t : F
  deriving Inhabited
def Fr.get : Fr → Nat → AV
  | ⟨n, t⟩, i => bif Nat.blt i n then t.getN i else .one .any
def Fr.set : Fr → Nat → AV → Fr
  | ⟨n, t⟩, i, x => bif Nat.blt i n then ⟨n, t.setN i x⟩ else ⟨n, t⟩
def F.fresh : Nat → F
  | 0 => .nil
  | d + 1 => .node (F.fresh d) (.one .any) (F.fresh d)
def Fr.put (f : Fr) : List AV → Nat → Fr
  | [], _ => f
  | v :: l, i => Fr.put (f.set i v) l (i + 1)
abbrev St := List AO

/-! Scalars. -/
def Sc.int? : Sc → Option (IntKind × X)
  | .int k x => some (k, x)
  | _ => none
def Sc.bool? : Sc → Option B
  | .bool b => some b
  | _ => none
/-- a number's term -/
def Out.numX {α : Type} (s : Sc) (k : X → Out α) : Out α :=
  match s with
  | .int _ x => k x
  | _ => .fail "num"
def Sc.kd? : Sc → Option Kd
  | .int k _ => some (.int k)
  | .bool _ => some .bool
  | _ => none
/-- a scalar as a number -/
def Sc.vI : Sc → Int
  | .int _ x => x.den
  | .bool b => bI b.den
  | _ => 0
def Kd.sc : Kd → Int → Sc
  | .int k, n => .int k (.sem n)
  | .bool, n => .bool (.sem (iB n))
def kdIs (k : Kd) (s : Sc) : Bool :=
  match s.kd? with
  | some k' => k.beq k'
  | none => false

def big : Nat := 9223372036854775807
def maxStr : Nat := 1000000

/-- is a number one of its kind? -/
def fitB (k : IntKind) (n : Int) : Bool := decide (k.min ≤ n) && decide (n ≤ k.max)
def Sc.ofConst : Value → Sc
  | .int k n => if fitB k n then .int k (.c n) else .any
  | .bool b => .bool (.c b)
  | .string s => if s.size ≤ maxStr then .str s else .any
  | .float k n => .flt k n
  | .pointer none => .nilp
  | .slice none 0 0 => .nils
  | .map none => .nilm
  | .nilFunc => .nilf
  | .nilIface => .nili
  | _ => .any
def AV.ofConst : Value → AV
  | .agg cs => .agg (cs.toList.map Sc.ofConst)
  | v => .one (Sc.ofConst v)

def AV.cells? : AV → Option (List Sc)
  | .one .any => none
  | .one s => some [s]
  | .agg l => some l
  | _ => none

def AV.panB : AV → Bool
  | .pan _ _ => true
  | _ => false
def AV.np : AV → AV
  | .pan _ _ => .one .any
  | v => v
def opd (f : Fr) : Operand → AV
  | .tmp t => (f.get t).np
  | .const v => AV.ofConst v
  | .func g => .one (.fn g)
  | .global g => match gmapOf gmapL g with
    | some id => .one (.ptr id (.c 0) 1 0 0)
    | none => .one .any

def opds (f : Fr) (o : Operand) : Sc :=
  match opd f o with
  | .one s => s
  | _ => .any

/-! Operations on numbers, bools, strings. -/
def isShift : BinOp → Bool
  | .shl | .shr => true
  | _ => false
def binI (op : BinOp) (k : IntKind) (a b : X) : Out Sc :=
  match op with
  | .add | .sub | .mul | .and | .or | .xor | .andNot => .ok (.int k (X.bin op k a b))
  | .quo | .rem => .guard (B.mkEq b (.c 0)).mkNot (.ok (.int k (X.bin op k a b)))
  | .eql => .ok (.bool (B.mkEq a b))
  | .neq => .ok (.bool (B.mkEq a b).mkNot)
  | .lss => .ok (.bool (B.mkLt a b))
  | .leq => .ok (.bool (B.mkLt b a).mkNot)
  | .gtr => .ok (.bool (B.mkLt b a))
  | .geq => .ok (.bool (B.mkLt a b).mkNot)
  | _ => .fail "2"

/-- which of so many numbers, from i on, it is -/
def enumR {α : Type} (r : X) (f : Nat → Out α) : Nat → Nat → Out α
  | 0, _ => .fail "enum"
  | 1, i => .guard (B.mkEq r (.c (i : Int))) (f i)
  | n + 1, i => .ite (B.mkEq r (.c (i : Int))) (fun _ => f i) (fun _ => enumR r f n (i + 1))
/-- of a known number and few ways of a shift: how many -/
def enumTop (a n : X) : Nat :=
  match a, n with
  | .c _, .ex e => if 0 ≤ e.R.1.1 ∧ e.R.1.2 ≤ 7 then e.R.1.2.toNat + 1 else 0
  | _, _ => 0
def shiftI (op : BinOp) (k : IntKind) (a n : X) : Out Sc :=
  if isShift op then
    match enumTop a n with
    | 0 => .guard (B.mkLt n (.c 0)).mkNot (.ok (.int k (X.bin op k a n)))
    | m + 1 => enumR n (fun i => .ok (.int k (X.bin op k a (.c (i : Int))))) (m + 1) 0
  else .fail "3"

def numsOf (s : ByteArray) : List Int := s.data.toList.map fun b => (b.toNat : Int)
def bytesOf (l : List Int) : ByteArray := ⟨(l.map fun n => UInt8.ofNat n.toNat).toArray⟩
/-- a string's bytes -/
def Sc.bytes? : Sc → Option (List Int)
  | .str s => some (numsOf s)
  | .strf l => some l
  | .strt e => some e.D.2
  | _ => none
def strEq (a b : ByteArray) : Bool := a.toList == b.toList

/-- lists' order -/
def ltL : List Int → List Int → Bool
  | [], [] => false
  | [], _ :: _ => true
  | _ :: _, [] => false
  | x :: l, y :: m => bif decide (x < y) then true else bif decide (y < x) then false else ltL l m

/-- a string's term -/
def Sc.strE? : Sc → Option E
  | .str s => some ((numsOf s).foldr (fun n e => .cn (.num n) e) .nl)
  | .strt e => some e
  | _ => none
def sameS (a b : Sc) (x y : List Int) : B :=
  match a.strE?, b.strE? with
  | some d, some e => if d.beq e then .c true else match a, b with
    | .str s, _ => if s.size ≤ 16 then .ex (eqLs e (numsOf s)) else .ex (.lq d e)
    | _, .str s => if s.size ≤ 16 then .ex (eqLs d (numsOf s)) else .ex (.lq d e)
    | _, _ => .ex (.lq d e)
  | _, _ => .sem (x == y)
def binS (op : BinOp) (a b : Sc) : Out Sc :=
  match a, b with
  | .str x, .str y =>
    match op with
    | .add => if x.size + y.size ≤ maxStr then .ok (.str (x ++ y)) else .fail "4"
    | .eql => .ok (.bool (.c (strEq x y)))
    | .neq => .ok (.bool (.c (!strEq x y)))
    | _ => .fail "4"
  | a, b =>
    match a.bytes?, b.bytes? with
    | some x, some y =>
      match op with
      | .add => match a.strE?, b.strE? with
        | some d, some e => .guard (B.mkLt (.c (big : Int)) ((X.ex (.ln d)).plus (.ex (.ln e)))).mkNot (.ok (.strt (ccE d e)))
        | _, _ => .guard (.sem (decide (x.length + y.length ≤ big))) (.ok (.strf (x ++ y)))
      | .eql => .ok (.bool (sameS a b x y))
      | .neq => .ok (.bool (sameS a b x y).mkNot)
      | _ => .fail "4"
    | _, _ => .fail "6"

def tsize (P : Program) (t : TypeId) : Option Nat := (P.info? t).map (·.size)
def tbytes (P : Program) (t : TypeId) : Option Nat := (P.info? t).map (·.bytes)
def tzero (P : Program) (t : TypeId) : Option AV := ((P.info? t).bind (·.zero)).map AV.ofConst
def tagg (P : Program) (t : TypeId) : Option Bool := (P.underlying t).map fun | .struct _ | .array _ _ => true | _ => false
/-- the kinds of an element's cells -/
def kindsL : List Sc → Option (List Kd)
  | [] => some []
  | s :: r => match s.kd?, kindsL r with
    | some k, some l => some (k :: l)
    | _, _ => none
def tkinds (P : Program) (t : TypeId) : Option (List Kd) := ((tzero P t).bind (·.cells?)).bind kindsL

/-- a field of an aggregate -/
def partE (P : Program) (t : TypeId) (l : List Sc) (off : Nat) : Option AV :=
  match tagg P t, tsize P t with
  | some true, some n => if off + n ≤ l.length then some (.agg ((l.drop off).take n)) else none
  | some false, some _ => (l[off]?).map .one
  | _, _ => none

def eqFs (P : Program) (rec : TypeId → AV → AV → Option B) (xs ys : List Sc) : List Field → Option B
  | [] => some (.c true)
  | f :: fs =>
    if f.name = "_" then eqFs P rec xs ys fs else
    match partE P f.type xs f.offset, partE P f.type ys f.offset with
    | some a, some b =>
      match rec f.type a b, eqFs P rec xs ys fs with
      | some b1, some b2 => some (B.mkAnd b1 b2)
      | _, _ => none
    | _, _ => none
def eqEs (P : Program) (rec : TypeId → AV → AV → Option B) (t : TypeId) (xs ys : List Sc) (sz : Nat) : Nat → Nat → Option B
  | 0, _ => some (.c true)
  | n + 1, off =>
    match partE P t xs off, partE P t ys off with
    | some a, some b =>
      match rec t a b, eqEs P rec t xs ys sz n (off + sz) with
      | some b1, some b2 => some (B.mkAnd b1 b2)
      | _, _ => none
    | _, _ => none

/-- '==' of two values of a type, all of whose parts are numbers, bools, strings. -/
def eqT (P : Program) : Nat → TypeId → AV → AV → Option B
  | 0, _, _, _ => none
  | d + 1, t, x, y =>
    match P.underlying t, x, y with
    | some (.struct fields), .agg xs, .agg ys =>
      if P.stoodInHeld t then none else eqFs P (eqT P d) xs ys fields.toList
    | some (.array n e), .agg xs, .agg ys =>
      match tsize P e with
      | some sz => if sz = 0 then none else eqEs P (eqT P d) e xs ys sz n 0
      | none => none
    | some (.int _), .one (.int k1 n1), .one (.int k2 n2) => if k1 = k2 then some (B.mkEq n1 n2) else none
    | some .bool, .one (.bool b1), .one (.bool b2) => some (B.mkIff b1 b2)
    | some .string, .one a, .one b =>
      match a, b with
      | .str a, .str b => some (.c (a == b))
      | a, b => match a.bytes?, b.bytes? with
        | some x, some y => some (.sem (x == y))
        | _, _ => none
    | some (.slice _), .one .nils, .one .nils => some (.c true)
    | some (.slice _), .one .nils, .one (.sl true _ _ _ _) => some (.c false)
    | some (.slice _), .one (.sl true _ _ _ _), .one .nils => some (.c false)
    | some (.pointer _), .one .nilp, .one .nilp => some (.c true)
    | some (.pointer _), .one .nilp, .one (.ptr _ _ _ _ _) => some (.c false)
    | some (.pointer _), .one (.ptr _ _ _ _ _), .one .nilp => some (.c false)
    | _, _, _ => none

def binE (P : Program) (op : BinOp) (t : TypeId) (x y : AV) : Out Sc :=
  match x, y with
  | .one (.int k1 n1), .one (.int k2 n2) =>
    if isShift op then shiftI op k1 n1 n2
    else if k1 = k2 then binI op k1 n1 n2 else .fail "5"
  | .one a, .one b =>
    match a.bytes?, b.bytes? with
    | some _, some _ => binS op a b
    | _, _ =>
      match op with
      | .eql => (Out.get (eqT P 20 t x y)).bind fun b => .ok (.bool b)
      | .neq => (Out.get (eqT P 20 t x y)).bind fun b => .ok (.bool b.mkNot)
      | _ => .fail "6"
  | .agg _, .agg _ =>
    if P.eqGuardType P.depth t then .fail "7" else
    match op with
    | .eql => (Out.get (eqT P 20 t x y)).bind fun b => .ok (.bool b)
    | .neq => (Out.get (eqT P 20 t x y)).bind fun b => .ok (.bool b.mkNot)
    | _ => .fail "8"
  | _, _ => .fail "9"

def unE (op : UnOp) (s : Sc) : Out Sc :=
  match op, s with
  | .neg, .int k n => .ok (.int k (X.bin .sub k (.c 0) n))
  | .xor, .int k n => .ok (.int k (X.bin .xor k (.c (if k.signed then -1 else k.max)) n))
  | .not, .bool b => .ok (.bool b.mkNot)
  | _, _ => .fail "10"

/-! Memory. -/
def offs (row sz fld : Nat) : Nat := row * sz + fld
/-- column: cell s of each of h rows of sz cells -/
def colOf (l : List Sc) (s sz h : Nat) : List Sc := (List.range h).map fun r => l.getD (r * sz + s) .any
/-- of scalars of one kind, or strings, the one of a number -/
def strsL : List Sc → Option (List (List Int))
  | [] => some []
  | s :: r => match s.bytes?, strsL r with
    | some x, some l => some (x :: l)
    | _, _ => none
/-- numbers' terms, as a list's term -/
def termsL : List Sc → Option E
  | [] => some .nl
  | .int _ x :: r => match x.e?, termsL r with
    | some a, some l => some (.cn a l)
    | _, _ => none
  | _ :: _ => none
def selS (r : X) (col : List Sc) : Option Sc :=
  match col with
  | [] => none
  | s :: _ =>
    match s.kd? with
    | some k => if col.all (kdIs k) then (match k, r.e?, termsL col with
      | .int k, some re, some le => some (.int k (.ex (.sel re le)))
      | k, _, _ => some (k.sc ((col.map Sc.vI).getD r.den.toNat 0))) else none
    | none => none
def selAll (l : List Sc) (r : X) (sz h : Nat) : Nat → Nat → Option (List Sc)
  | 0, _ => some []
  | k + 1, s => match selS r (colOf l s sz h), selAll l r sz h k (s + 1) with
    | some a, some m => some (a :: m)
    | _, _ => none
/-- how many rows lie there -/
def rowsIn (len sz fld k : Nat) : Nat := if fld + k ≤ len && decide (0 < sz) then (len - (fld + k)) / sz + 1 else 0
/-- which of so many rows may be meant -/
def hiOf {α : Type} (hi h0 : Nat) (r : X) (k : Nat → Out α) : Out α :=
  if hi = 0 then .guard (B.mkLt r (.c (h0 : Int))) (k h0) else if hi ≤ h0 then k hi else .fail "rows"
/-- is it known? -/
def Sc.isK : Sc → Bool
  | .int _ (.c _) => true
  | .bool (.c _) => true
  | .str _ => true
  | _ => false
def exCell (k : Kd) (e : E) (row : X) : Sc :=
  match k, row.e? with
  | .int i, some r => .int i (xOf (selAt r e))
  | .bool, some r => .bool (.ex (.eq (selAt r e) (.num 1)))
  | k, none => k.sc (e.D.2.getD row.den.toNat 0)
def B.le (x y : X) : B := (B.mkLt y x).mkNot
/-- so many times a term -/
def mulE : Nat → E → E
  | 0, _ => .num 0
  | 1, a => a
  | n + 2, a => .pl (mulE (n + 1) a) a
def mulX (n : Nat) (x : X) : X :=
  match x with
  | .c a => .c ((n : Int) * a)
  | x => match x.e? with
    | some a => .ex (mulE n a)
    | none => .sem ((n : Int) * x.den)
/-- a cell of a row of rows: the term is held to the kind's range -/
def tbCell (k : Kd) (e : E) (p : X) : Sc :=
  match k, p.e? with
  | .int i, some r => .int i (xOf (E.mkWr i (selAt r e)))
  | .bool, some r => .bool (.ex (.eq (selAt r e) (.num 1)))
  | k, none => k.sc (e.D.2.getD p.den.toNat 0)
/-- known numbers, one by one -/
def goesK (k : IntKind) : Int → List Sc → Bool
  | _, [] => true
  | n, .int k' (.c m) :: r => decide (k' = k) && (m == n) && goesK k (n + 1) r
  | _, _ :: _ => false
def progL (l : List Sc) (sz fld k : Nat) (row : X) : Option (List Sc) :=
  match l with
  | .int kd (.c n) :: r => if sz = 1 ∧ fld = 0 ∧ k = 1 ∧ goesK kd (n + 1) r = true then some [.int kd (row.plus (.c n))] else none
  | _ => none
def selRow (l : List Sc) (row : X) (sz fld h k : Nat) : Option (List Sc) :=
  match progL l sz fld k row with
  | some c => some c
  | none => if h ≤ 70 ∧ l.all Sc.isK = true then none else selAll l row sz h k fld
/-- n cells from a place on -/
def Cells.read (c : Cells) (row : X) (sz fld hi k : Nat) : Out (List Sc) :=
  match c with
  | .vals l =>
    match row with
    | .c r => if offs r.toNat sz fld + k ≤ l.length then .ok ((l.drop (offs r.toNat sz fld)).take k) else .fail "11"
    | r => hiOf hi (rowsIn l.length sz fld k) r fun h =>
        match selRow l r sz fld h k with
        | some c => .ok c
        | none => enumR r (fun i => if offs i sz fld + k ≤ l.length then .ok ((l.drop (offs i sz fld)).take k) else .fail "rows") h 0
  | .fn n ks f =>
    if ks.length = sz ∧ fld + k ≤ sz then .guard (B.mkLt row (.c (n : Int))) (.ok ((List.range k).map fun j => (ks.getD (fld + j) .bool).sc (f row.den.toNat (fld + j)))) else .fail "12"
  | .ex kd e => if sz = 1 ∧ fld = 0 ∧ k = 1 then .guard (B.mkLt row (.ex (.ln e))) (.ok [exCell kd e row]) else .fail "12x"
  | .tb ks e =>
    if ks.length = sz ∧ fld + k ≤ sz then .guard (B.le (mulX sz (row.plus (.c 1))) (.ex (.ln e)))
      (.ok ((List.range k).map fun j => tbCell (ks.getD (fld + j) .bool) e ((mulX sz row).plus (.c ((fld + j : Nat) : Int))))) else .fail "12t"
def setL : List Sc → Nat → List Sc → List Sc
  | l, _, [] => l
  | l, i, v :: r => setL (l.set i v) (i + 1) r
/-- a cell of the r-th of h rows is another one -/
def updC (r : X) (sz fld h : Nat) (vs : List Sc) (s : Sc) (i : Nat) : Option Sc :=
  if fld ≤ i ∧ (i - fld) % sz < vs.length ∧ (i - fld) / sz < h then
    match s.kd?, vs[(i - fld) % sz]? with
    | some k, some v => if kdIs k v then some (k.sc (bif r.den == (((i - fld) / sz : Nat) : Int) then v.vI else s.vI)) else none
    | _, _ => none
  else some s
def updL (r : X) (sz fld h : Nat) (vs : List Sc) : List Sc → Nat → Option (List Sc)
  | [], _ => some []
  | s :: l, i => match updC r sz fld h vs s i, updL r sz fld h vs l (i + 1) with
    | some a, some m => some (a :: m)
    | _, _ => none
def updF (f : Nat → Nat → Int) (r0 fld : Nat) (vs : List Int) : Nat → Nat → Int :=
  fun r c => if r = r0 ∧ fld ≤ c ∧ c < fld + vs.length then vs.getD (c - fld) 0 else f r c
def kdsAre : List Kd → List Sc → Bool
  | _, [] => true
  | k :: ks, s :: r => kdIs k s && kdsAre ks r
  | [], _ :: _ => false
def Cells.write (c : Cells) (row : X) (sz fld hi : Nat) (vs : List Sc) : Out Cells :=
  match c with
  | .vals l =>
    match row with
    | .c r => if offs r.toNat sz fld + vs.length ≤ l.length then .ok (.vals (setL l (offs r.toNat sz fld) vs)) else .fail "15"
    | r => if vs.length ≤ sz then hiOf hi (rowsIn l.length sz fld vs.length) r fun h => (Out.get (updL r sz fld h vs l 0)).bind fun l' => .ok (.vals l') else .fail "15b"
  | .fn n ks f =>
    if ks.length = sz ∧ fld + vs.length ≤ sz ∧ kdsAre (ks.drop fld) vs = true then
      .guard (B.mkLt row (.c (n : Int))) (.ok (.fn n ks (updF f row.den.toNat fld (vs.map Sc.vI)))) else .fail "16"
  | .ex kd e =>
    match vs, row.e? with
    | [.int k x], some r =>
      match x.e? with
      | some a => if sz = 1 ∧ fld = 0 ∧ kd.beq (.int k) = true then .guard (B.mkLt row (.ex (.ln e))) (.guard (.ex (.eq (.dq (nmS r a e) (setE r a e)) (.num 0))) (.ok (.ex kd (nmS r a e)))) else .fail "16x"
      | none => .fail "16y"
    | _, _ => .fail "16z"
  | .tb _ _ => .fail "16t"

def St.at (σ : St) (id : Nat) : AO := σ.getD id .dead
def St.new (σ : St) (o : AO) : St := σ ++ [o]

def Sc.known : Sc → Bool
  | .any => false
  | _ => true

def loadE (P : Program) (t : TypeId) (a : Sc) (σ : St) : Out AV :=
  match a with
  | .ptr id row sz fld hi =>
    match σ.at id with
    | .row _ _ c =>
      (Out.get (tagg P t)).bind fun g => (Out.get (tsize P t)).bind fun n =>
        if g then (c.read row sz fld hi n).bind fun l => .ok (.agg l)
        else (c.read row sz fld hi 1).bind fun l => .ok (.one (l.headD .any))
    | _ => .fail "20"
  | _ => .fail "21"

def storeE (P : Program) (t : TypeId) (a : Sc) (v : AV) (σ : St) : Out St :=
  match a with
  | .ptr id row sz fld hi =>
    match σ.at id with
    | .row true z c =>
      (Out.get (tsize P t)).bind fun n => (Out.get v.cells?).bind fun vs =>
        if vs.length = n && vs.all Sc.known then (c.write row sz fld hi vs).bind fun c' => .ok (σ.set id (.row true z c')) else .fail "22"
    | _ => .fail "23"
  | _ => .fail "24"

def fillA (place : Nat → Option (Nat × Nat)) (cells : List Sc) : List (Nat × List Sc) → Option (List Sc)
  | [] => some cells
  | (i, vs) :: rest =>
    match place i with
    | none => none
    | some (off, size) => if vs.length ≠ size || off + size > cells.length then none else fillA place (setL cells off vs) rest

def partsE (f : Fr) : List (Nat × Operand) → Option (List (Nat × List Sc))
  | [] => some []
  | (i, x) :: r => match (opd f x).cells?, partsE f r with
    | some l, some r' => some ((i, l) :: r')
    | _, _ => none

def zerosA (z : List Sc) (n : Nat) : List Sc := (List.range n).map fun i => z.getD (i % z.length) .any

def optE (f : Fr) : Option Operand → Option Sc
  | none => none
  | some o => some (opds f o)
/-- a bound -/
def boundE {α : Type} (d : X) (s : Option Sc) (k : X → Out α) : Out α :=
  match s with
  | none => k d
  | some s => Out.numX s k

/-- is it a new strings.Builder? -/
def bldB (e : TypeId) (l : List Sc) : Bool :=
  match bldL, l with
  | some (T, _), [.nilp, .nils] => decide (e = T)
  | _, _ => false

/-- low, high of a slice expression, high within the length -/
def boundsE {α : Type} (len : X) (lo hi : Option Sc) (k : X → X → Out α) : Out α :=
  boundE len hi fun h => boundE (.c 0) lo fun l =>
    .guard (B.le (.c 0) l) (.guard (B.le l h) (.guard (B.le h len) (k l h)))

/-- is it known by its range that it is more than 0? -/
def posR : X → Bool
  | .c n => decide (0 < n)
  | .ex e => decide (0 < e.lin.R.1)
  | .sem _ => false
def numsE : List Int → E
  | [] => .nl
  | n :: l => .cn (.num n) (numsE l)
/-- a part of one byte -/
def oneT (l h : X) : Option E :=
  match l.e?, h.e? with
  | some a, some b => if (Lin.sub b.lin a.lin).t.isEmpty && (Lin.sub b.lin a.lin).k == 1 then some a else none
  | _, _ => none
def sliceE (x : Sc) (lo hi : Option Sc) : Out Sc :=
  match x with
  | .str s => boundsE (.c (s.size : Int)) lo hi fun l h =>
      match l, h with
      | .c l, .c h => .ok (.str (s.extract l.toNat h.toNat))
      | l, h => match oneT l h with
        | some a => .ok (.strt (.cn (selE a (numsE (numsOf s))) .nl))
        | none => .ok (.strf (((numsOf s).take h.den.toNat).drop l.den.toNat))
  | .strf s => boundsE (.sem (s.length : Int)) lo hi fun l h => .ok (.strf ((s.take h.den.toNat).drop l.den.toNat))
  | .sl nn id off len sz => boundsE len lo hi fun l h => .ok (.sl (nn || posR l) id (off.plus l) (h.minus l) sz)
  | .nils => boundsE (.c 0) lo hi fun _ _ => .ok .nils
  | _ => .fail "26"

/-- a slice's cells, where they are known one by one -/
def sliceCells (σ : St) (x : Sc) : Option (List Sc) :=
  match x with
  | .nils => some []
  | .sl _ id (.c off) (.c len) sz =>
    match σ.at id with
    | .row _ _ (.vals l) => if off.toNat * sz + len.toNat * sz ≤ l.length then some ((l.drop (off.toNat * sz)).take (len.toNat * sz)) else none
    | _ => none
  | _ => none
/-- rows of known cells as a function -/
def rowsF (sz : Nat) (l : List Sc) : Nat → Nat → Int := fun r c => (l.getD (r * sz + c) .any).vI
def kdRows (ks : List Kd) (l : List Sc) : Nat → Nat → Bool
  | 0, _ => true
  | n + 1, i => kdsAre ks ((l.drop i).take ks.length) && kdRows ks l n (i + ks.length)
/-- a slice of rows of these kinds: how many, and as a function; what must hold -/
def semRows (σ : St) (ks : List Kd) (x : Sc) : Option (X × (Nat → Nat → Int) × B) :=
  match x with
  | .nils => some (.c 0, (fun _ _ => 0), .c true)
  | .sl _ id off len sz =>
    if sz = ks.length then
      match σ.at id with
      | .row _ _ (.vals l) =>
        if kdRows ks l (l.length / sz) 0 then some (len, (fun r c => rowsF sz l (off.den.toNat + r) c), B.le (off.plus len) (.c ((l.length / sz : Nat) : Int))) else none
      | .row _ _ (.fn n ks' f) =>
        if kdsEq ks ks' then some (len, (fun r c => f (off.den.toNat + r) c), B.sem (decide (off.den + len.den ≤ (n : Int)))) else none
      | .row _ _ (.ex k e) =>
        if kdsEq ks [k] then some (len, (fun r _ => e.D.2.getD (off.den.toNat + r) 0), B.le (off.plus len) (.ex (.ln e))) else none
      | .row _ _ (.tb ks' e) =>
        if kdsEq ks ks' then some (len, (fun r c => e.D.2.getD ((off.den.toNat + r) * ks.length + c) 0), B.le (mulX ks.length (off.plus len)) (.ex (.ln e))) else none
      | _ => none
    else none
  | _ => none
where kdsEq : List Kd → List Kd → Bool
  | [], [] => true
  | a :: l, b :: m => a.beq b && kdsEq l m
  | _, _ => false

def roomB : Nat := 140737488355328
/-- is there room for so many? -/
def roomG (n : X) (by_ : Nat) : B := B.le n (.c ((roomB / by_ : Nat) : Int))
/-- cells of a kind as a list's term -/
def cellsE (k : Kd) : List Sc → E → Option E
  | [], e => some e
  | .int k' x :: r, e => if k.beq (.int k') then match x.e?, cellsE k r e with
    | some a, some l => some (.cn a l)
    | _, _ => none else none
  | _ :: _, _ => none
def isZ : X → Bool
  | .c 0 => true
  | _ => false
def tmSub (e : E) (off len : X) : Option E :=
  match off.e?, len.e? with
  | some o, some n => match subE e o.lin n.lin with
    | some t => some t
    | none => if isZ off && n.beq (.ln e) then some e else some (.sb e o n)
  | _, _ => none
/-- what is appended (or appended to) as a list's term -/
def tmOf (σ : St) (k : Kd) : Sc → Option E
  | .str b => if k.beq (.int .u8) then some (numsE (numsOf b)) else none
  | .nils => some .nl
  | .sl _ id off len sz =>
    if sz = 1 then
      match σ.at id with
      | .row _ _ (.ex k' e) => if k.beq k' then tmSub e off len else none
      | .row _ _ (.vals l) =>
        match off, len with
        | .c o, .c n => cellsE k ((l.drop o.toNat).take n.toNat) .nl
        | off, len => (cellsE k l .nl).bind fun e => tmSub e off len
      | _ => none
    else none
  | _ => none
/-- rows by a function, or by a list's term -/
def fnRow (ks : List Kd) (n : Nat) (f : Nat → Nat → Int) (t : Option E) : Cells :=
  match ks, t with
  | [k], some e => .ex k e
  | k :: k' :: ks, some e => .tb (k :: k' :: ks) e
  | _, _ => .fn n ks f
/-- cells of these kinds as a list's term -/
def kcellsE (ks : List Kd) (w : Nat) : List Sc → Nat → Option E
  | [], _ => some .nl
  | .int k' x :: r, i => if (ks.getD (i % w) .bool).beq (.int k') then match x.e?, kcellsE ks w r (i + 1) with
    | some a, some l => some (.cn a l)
    | _, _ => none else none
  | .bool b :: r, i => if (ks.getD (i % w) (.int .u8)).beq .bool then match boolT b, kcellsE ks w r (i + 1) with
    | some a, some l => some (.cn a l)
    | _, _ => none else none
  | _ :: _, _ => none
where boolT : B → Option E
  | .c b => some (.num (bI b))
  | .ex (.eq e (.num n)) => if n = 1 ∧ 0 ≤ e.R.1.1 ∧ e.R.1.2 ≤ 1 then some e else none
  | _ => none
/-- rows as a list's term; what must hold -/
def tbOf (σ : St) (ks : List Kd) : Sc → Option (E × B)
  | .nils => some (.nl, .c true)
  | .sl _ id off len sz =>
    if sz = ks.length then
      match σ.at id with
      | .row _ _ (.tb ks' e) => if semRows.kdsEq ks ks' && isZ off then len.e?.map fun n => (e, .ex (.eq (.ln e) (mulE ks.length n))) else none
      | .row _ _ (.vals l) =>
        match off, len with
        | .c o, .c n => (kcellsE ks ks.length ((l.drop (o.toNat * ks.length)).take (n.toNat * ks.length)) 0).map fun e => (e, .c true)
        | _, _ => none
      | _ => none
    else none
  | _ => none
def tmOf1 (σ : St) (ks : List Kd) (s : Sc) : Option (E × B) :=
  match ks with
  | [k] => (tmOf σ k s).map fun e => (e, .c true)
  | ks => tbOf σ ks s
def tmG : Option (E × B) → B
  | some (_, g) => g
  | none => .c true
def tmApp (a b : Option (E × B)) : Option E :=
  match a, b with
  | some (a, _), some (b, _) => some (ccE a b)
  | _, _ => none

/-- what is appended: its cells, one by one -/
def srcE (σ : St) (sz : Nat) : Sc → Option (Nat × List Sc)
  | .str b => if sz = 1 then some (b.size, (numsOf b).map fun n => .int .u8 (.c n)) else none
  | .nils => some (0, [])
  | .sl nn id off len z => if z = sz then (sliceCells σ (.sl nn id off len z)).map fun c => (c.length / sz, c) else none
  | _ => none
/-- the same by a function -/
def srcF (σ : St) (ks : List Kd) : Sc → Option (X × (Nat → Nat → Int) × B)
  | .str b => if kdsAre ks [.int .u8 (.c 0)] && decide (ks.length = 1) then some (.c (b.size : Int), (fun r _ => (numsOf b).getD r 0), .c true) else none
  | .strf l => if kdsAre ks [.int .u8 (.c 0)] && decide (ks.length = 1) then some (.sem (l.length : Int), (fun r _ => l.getD r 0), .c true) else none
  | s => semRows σ ks s
/-- one row behind another -/
def appF (f : Nat → Nat → Int) (n : Nat) (g : Nat → Nat → Int) : Nat → Nat → Int := fun r c => if r < n then f r c else g (r - n) c

/-- what stands behind a part of a named list is named -/
def nameA : Option E → Option E × B
  | some (.cc (.sb (.ls 78 x lo hi n) o m) r) => (some (.ls 79 .nl (E.R (.cc (.sb (.ls 78 x lo hi n) o m) r)).2.1 (E.R (.cc (.sb (.ls 78 x lo hi n) o m) r)).2.2 (E.L (.cc (.sb (.ls 78 x lo hi n) o m) r)).2.toNat),
      .ex (.eq (.dq (.ls 79 .nl (E.R (.cc (.sb (.ls 78 x lo hi n) o m) r)).2.1 (E.R (.cc (.sb (.ls 78 x lo hi n) o m) r)).2.2 (E.L (.cc (.sb (.ls 78 x lo hi n) o m) r)).2.toNat) (.cc (.sb (.ls 78 x lo hi n) o m) r)) (.num 0)))
  | t => (t, .c true)
/-- whether it is known that it isn't empty -/
def posX : X → Bool
  | .c n => decide (0 < n)
  | _ => false
def appendE (P : Program) (st1 : TypeId) (s x : Sc) (σ : St) : Out (AV × St) :=
  match P.underlying st1 with
  | some (.slice e) =>
    (Out.get (tsize P e)).bind fun sz => (Out.get (tbytes P e)).bind fun by_ =>
    if sz = 0 || by_ = 0 || ((tzero P e).bind (·.cells?)).map List.length ≠ some sz then .fail "append: type" else
    match sliceCells σ s, srcE σ sz x with
    | some _, some (n, xc) =>
      if !xc.all Sc.known || decide (xc.length ≠ n * sz) then .fail "append: known" else
      match s with
      | .nils =>
        if n * by_ ≤ roomB then .ok (.one (.sl (decide (0 < n)) σ.length (.c 0) (.c (n : Int)) sz), σ.new (.row true sz (.vals xc))) else .fail "append: room"
      | .sl nn id off len z =>
        if z = sz then
          match σ.at id, sliceCells σ (.sl nn id off len z) with
          | .row true z' _, some sc =>
            if z' ≠ sz then .fail "append: size" else
            if (len.den.toNat + n) * by_ ≤ roomB then
              .ok (.one (.sl (nn || decide (0 < n)) σ.length (.c 0) (.c (len.den + (n : Int))) sz), St.new (σ.set id .dead) (.row true sz (.vals (sc ++ xc))))
            else .fail "append: room"
          | _, _ => .fail "append: not own"
        else .fail "append: other size"
      | _ => .fail "append: no slice"
    | _, _ =>
      (Out.get (tkinds P e)).bind fun ks =>
      if ks.length ≠ sz then .fail "append: kinds" else
      match srcF σ ks x with
      | none => .fail "append: source"
      | some (n, xf, gx) =>
        match s with
        | .nils =>
          .guard gx (.guard (roomG n by_) (.guard (tmG (tmOf1 σ ks x))
            (.ok (.one (.sl (posX n) σ.length (.c 0) n sz), σ.new (.row true sz (fnRow ks n.den.toNat xf ((tmOf1 σ ks x).map (·.1))))))))
        | .sl nn id off len z =>
          match σ.at id, semRows σ ks (.sl nn id off len z) with
          | .row true z' _, some (_, sf, gs) =>
            if z' ≠ sz ∨ z ≠ sz then .fail "append: size" else
            .guard gs (.guard gx (.guard (roomG (len.plus n) by_)
              (.guard (tmG (tmOf1 σ ks (.sl nn id off len z))) (.guard (tmG (tmOf1 σ ks x)) (.guard (nameA (tmApp (tmOf1 σ ks (.sl nn id off len z)) (tmOf1 σ ks x))).2
              (.ok (.one (.sl (nn || posX n) σ.length (.c 0) (len.plus n) sz), St.new (σ.set id .dead) (.row true sz (fnRow ks (len.den + n.den).toNat (appF sf len.den.toNat xf) (nameA (tmApp (tmOf1 σ ks (.sl nn id off len z)) (tmOf1 σ ks x))).1)))))))))
          | _, _ => .fail "append: not own"
        | _ => .fail "append: no slice"
  | _ => .fail "append"

def maxMake : Nat := 70000
/-- so many noughts, where an environment has them -/
def zerosE (e : E) : E := .ls 77 (.cn e .nl) 0 0 big
def makeSliceE (P : Program) (t : TypeId) (l c : Sc) (σ : St) : Out (AV × St) :=
  match P.underlying t with
  | some (.slice e) =>
    (Out.get (tsize P e)).bind fun sz => (Out.get (tbytes P e)).bind fun by_ => (Out.get (tzero P e)).bind fun z =>
      if by_ = 0 then .fail "make: size" else
      match l, c, sz, z with
      | .int .i64 (.c n), .int .i64 (.c m), 1, .one z =>
          if n = m ∧ 0 ≤ n ∧ n ≤ 300 ∧ n.toNat * by_ ≤ roomB then
            .ok (.one (.sl true σ.length (.c 0) (.c n) 1), σ.new (.row true 1 (.vals (List.replicate n.toNat z))))
          else if n = m ∧ 0 ≤ n ∧ n.toNat * by_ ≤ roomB then
            match z.kd? with
            | some k => .ok (.one (.sl true σ.length (.c 0) (.c n) 1), σ.new (.row true 1 (.fn n.toNat [k] fun _ _ => z.vI)))
            | none => .fail "make: kind"
          else .fail "34"
      | .int .i64 n, .int .i64 m, 1, .one z =>
        match z.kd? with
        | some k => .guard (B.mkEq n m) (.guard (B.le (.c 0) n) (.guard (B.le n (.c ((roomB / by_ : Nat) : Int)))
            (match n.e?, z.vI == 0 with
              | some e, true => .guard (.ex (.eq (.ln (zerosE e)) e)) (.ok (.one (.sl true σ.length (.c 0) (.ex (.ln (zerosE e))) 1), σ.new (.row true 1 (.ex k (zerosE e)))))
              | _, _ => .ok (.one (.sl true σ.length (.c 0) n 1), σ.new (.row true 1 (.fn n.den.toNat [k] fun _ _ => z.vI))))))
        | none => .fail "make: kind"
      | _, _, _, _ => .fail "35"
  | _ => .fail "36"

/-- whether two keys that are known are one -/
def keyEq : Sc → Sc → Option Bool
  | .int k (.c a), .int k' (.c b) => if k = k' then some (a == b) else none
  | .str a, .str b => some (a == b)
  | _, _ => none
def findE (k : Sc) : List (Sc × AV) → Nat → Option (Option (Nat × AV))
  | [], _ => some none
  | (k', v) :: r, i => match keyEq k k' with
    | some true => some (some (i, v))
    | some false => findE k r (i + 1)
    | none => none
def lookE (k : Sc) (dflt : Out (AV × Bool)) : List (Sc × AV) → Out (AV × Bool)
  | [] => dflt
  | (k', v) :: r =>
    match k, k' with
    | .int j a, .int j' (.c b) => if j = j' then .ite (B.mkEq a (.c b)) (fun _ => .ok (v, true)) (fun _ => lookE k dflt r) else .fail "37"
    | .str a, .str b => if a == b then .ok (v, true) else lookE k dflt r
    | _, _ => .fail "39"
/-- a table: known keys of a kind, scalars of a kind -/
def tabE (j : IntKind) (kd : Kd) : List (Sc × AV) → Option (List (Int × Int))
  | [] => some []
  | (.int j' (.c b), .one s) :: r => if j = j' && kdIs kd s then (tabE j kd r).map fun l => (b, s.vI) :: l else none
  | _ :: _ => none
def assocI (a d : Int) : List (Int × Int) → Int
  | [] => d
  | (b, v) :: r => bif a == b then v else assocI a d r
def assocB (a : Int) : List (Int × Int) → Bool
  | [] => false
  | (b, _) :: r => bif a == b then true else assocB a r

def keyFits : TypeDesc → Sc → Bool
  | .int _, .int _ _ | .string, .str _ => true
  | _, _ => false
/-- numbers as keys and scalars as values, told by a function -/
def fnOf (es : List (Int × Int)) : Int → Option Int := fun a => if assocB a es then some (assocI a 0 es) else none
def putM (f : Int → Option Int) (k v : Int) : Int → Option Int := fun a => if a = k then some v else f a

/-- bytes, one by one, if they are known -/
def knownL : List Sc → Option (List Int)
  | [] => some []
  | .int .u8 (.c n) :: r => (knownL r).map fun l => n :: l
  | _ :: _ => none
def szOk : Sc → Bool
  | .sl _ _ _ _ z => decide (z = 1)
  | .nils => true
  | _ => false
def listF (f : Nat → Nat → Int) (n : Nat) : List Int := (List.range n).map fun r => f r 0

def strOf (t : Option E) (l : List Int) : Sc :=
  match t with
  | some e => .strt e
  | none => .strf l
def convE (P : Program) (src dst : TypeId) (x : Sc) (σ : St) : Out (AV × St) :=
  match P.underlying src, P.underlying dst, x with
  | some _, some (.int k), .int _ n => .ok (.one (.int k (n.wrap k)), σ)
  | some .string, some .string, .str s => .ok (.one (.str s), σ)
  | some .string, some .string, .strf s => .ok (.one (.strf s), σ)
  | some .string, some .string, .strt s => .ok (.one (.strt s), σ)
  | some (.slice e), some .string, x =>
    match P.underlying e with
    | some (.int .u8) =>
      match (if szOk x then (sliceCells σ x).bind knownL else none) with
      | some l => if l.length ≤ maxStr then .ok (.one (.str (bytesOf l)), σ) else .fail "conv: long"
      | none =>
        match semRows σ [.int .u8] x with
        | some (n, f, g) => .guard g (.ok (.one (strOf (tmOf σ (.int .u8) x) (listF f n.den.toNat)), σ))
        | none => .fail "40"
    | _ => .fail "42"
  | some .string, some (.slice e), x =>
    match P.underlying e, x with
    | some (.int .u8), .str s => .ok (.one (.sl true σ.length (.c 0) (.c (s.size : Int)) 1), σ.new (.row true 1 (.vals ((numsOf s).map fun n => .int .u8 (.c n)))))
    | some (.int .u8), .strf l => .ok (.one (.sl true σ.length (.c 0) (.sem (l.length : Int)) 1), σ.new (.row true 1 (.fn l.length [.int .u8] fun r _ => l.getD r 0)))
    | _, _ => .fail "44"
  | some (.slice _), some (.slice e), .sl nn id off (.c l) sz =>
    match P.underlying e, σ.at id with
    | some (.int .u8), .row true _ _ => if src = dst ∧ 0 < l then .ok (.one (.sl nn id off (.c l) sz), σ) else .fail "46"
    | _, _ => .fail "47"
  | _, _, _ => .fail "45"

/-- a row as the value of a type -/
def asT (g : Bool) (l : List Sc) : AV := if g then .agg l else .one (l.headD .any)

def indexE (P : Program) (t : TypeId) (x : AV) (i : Sc) : Out AV :=
  match P.underlying t, x with
  | some .string, .one s =>
    match s with
    | .str b => Out.numX i fun n => .guard (B.le (.c 0) n) (.guard (B.mkLt n (.c (b.size : Int)))
        (.ok (.one (.int .u8 (match n with | .c m => .c ((numsOf b).getD m.toNat 0) | .sem m => .sem ((numsOf b).getD m.toNat 0) | .ex e => .ex (.sel e (numsE (numsOf b))))))))
    | .strf l => Out.numX i fun n => .guard (B.le (.c 0) n) (.guard (B.mkLt n (.sem (l.length : Int))) (.ok (.one (.int .u8 (.sem (l.getD n.den.toNat 0))))))
    | _ => .fail "index: string"
  | some (.array n e), .agg l =>
    (Out.get (tsize P e)).bind fun sz => (Out.get (tagg P e)).bind fun g =>
      if sz = 0 ∨ n * sz > l.length ∨ n = 0 ∨ (g = false ∧ sz ≠ 1) then .fail "index: size" else
      Out.numX i fun j => .guard (B.le (.c 0) j) (.guard (B.mkLt j (.c (n : Int)))
        (match j with
          | .c j => .ok (asT g ((l.drop (j.toNat * sz)).take sz))
          | j => (Out.get (selAll l j sz n sz 0)).bind fun c => .ok (asT g c)))
  | _, _ => .fail "61"
def lookGo (P : Program) (e : TypeId) (k : Sc) (ok : Bool) (es : List (Sc × AV)) : Out AV :=
  (lookE k ((Out.get (tzero P e)).bind fun z => .ok (z, false)) es).bind fun (v, b) =>
    if ok then (Out.get v.part?).bind fun p => .ok (.tup [p, .inl (.bool (.c b))]) else .ok v.np
def lookTab (P : Program) (e : TypeId) (k : Sc) (es : List (Sc × AV)) : Option (Kd × Int × Int × List (Int × Int)) :=
  match k, tzero P e with
  | .int j (.sem a), some (.one z) =>
    match z.kd? with
    | some kv => (tabE j kv es).map fun l => (kv, z.vI, a, l)
    | none => none
  | _, _ => none
def lookupE (P : Program) (t : TypeId) (m k : Sc) (ok : Bool) (σ : St) : Out AV :=
  match P.underlying t, m with
  | some (.map kt e), .mp id =>
    match σ.at id, P.underlying kt with
    | .mapo es, some kd =>
      if keyFits kd k then
        match lookTab P e k es with
        | some (kv, z, a, l) => if ok then .ok (.tup [.inl (kv.sc (assocI a z l)), .inl (.bool (.sem (assocB a l)))]) else .ok (.one (kv.sc (assocI a z l)))
        | none => lookGo P e k ok es
      else .fail "lookup: key"
    | .maps kk vk h, some (.int _) =>
      match k, tzero P e with
      | .int j a, some (.one z) =>
        if j = kk ∧ kdIs vk z = true then
          if ok then .ok (.tup [.inl (vk.sc ((h a.den).getD z.vI)), .inl (.bool (.sem (h a.den).isSome))]) else .ok (.one (vk.sc ((h a.den).getD z.vI)))
        else .fail "lookup: kinds"
      | _, _ => .fail "lookup: key"
    | _, _ => .fail "lookup: map"
  | _, _ => .fail "lookup"
def nodupK : List (Int × Int) → Bool
  | [] => true
  | (b, _) :: r => !assocB b r && nodupK r
def keyKnown : Sc → Bool
  | .int _ (.c _) => true
  | .int _ _ => false
  | _ => true
def insertE (P : Program) (t : TypeId) (m k : Sc) (v : AV) (σ : St) : Out St :=
  match P.underlying t, m with
  | some (.map kt e), .mp id =>
    match σ.at id, P.underlying kt with
    | .mapo es, some kd =>
      if keyFits kd k then
        match keyKnown k, findE k es 0 with
        | true, some none => .ok (σ.set id (.mapo (es ++ [(k, v)])))
        | _, _ =>
          match k, tkinds P e, v with
          | .int j a, some [vk], .one s =>
            match tabE j vk es with
            | some l => if kdIs vk s && nodupK l then .ok (σ.set id (.maps j vk (putM (fnOf l) a.den s.vI))) else .fail "insert: value"
            | none => .fail "insert: table"
          | _, _, _ => .fail "insert: there"
      else .fail "insert: key"
    | .maps kk vk h, some (.int _) =>
      match k, v with
      | .int j a, .one s => if j = kk ∧ kdIs vk s = true then .ok (σ.set id (.maps kk vk (putM h a.den s.vI))) else .fail "insert: kinds"
      | _, _ => .fail "insert: key"
    | _, _ => .fail "insert: map"
  | _, _ => .fail "insert"

/-- what an operation that is no call of a Go function gives. -/
def opE (P : Program) (o : Oper) (f : Fr) (σ : St) : Out (AV × St) :=
  match o.op with
  | .move x | .assign x => .ok (opd f x, σ)
  | .pick c a b =>
    match opds f c with
    | .bool t => .ite t (fun _ => .ok (opd f a, σ)) (fun _ => .ok (opd f b, σ))
    | _ => .fail "46"
  | .alloc e =>
    (Out.get ((tzero P e).bind (·.cells?))).bind fun l =>
      if bldB e l then .ok (.one (.ptr σ.length (.c 0) 1 0 0), σ.new (.pmem (bldM []) fun _ => false))
      else .ok (.one (.ptr σ.length (.c 0) 1 0 0), σ.new (.row true 1 (.vals l)))
  | .box _ x =>
    (Out.get (opd f x).cells?).bind fun l => .ok (.one (.ptr σ.length (.c 0) 1 0 0), σ.new (.row true 1 (.vals l)))
  | .build t parts =>
    match P.underlying t, (tzero P t).bind (·.cells?), partsE f parts.toList with
    | some (.struct fields), some z, some ps =>
      if !fields.toList.all (fun fd => (tsize P fd.type).isSome) then .fail "build" else
      (Out.get (fillA (fun i => (fields[i]?).bind fun fd => (tsize P fd.type).map fun n => (fd.offset, n)) z ps)).bind fun l => .ok (.agg l, σ)
    | some (.array _ e), some z, some ps =>
      (Out.get ((tsize P e).bind fun n => fillA (fun i => some (i * n, n)) z ps)).bind fun l => .ok (.agg l, σ)
    | _, _, _ => .fail "47"
  | .buildSlice t len parts =>
    match P.underlying t with
    | some (.slice e) =>
      match tsize P e, (tzero P e).bind (·.cells?), partsE f parts.toList with
      | some n, some z, some ps =>
        if n = 0 || len * n > 100000 || z.length != n then .fail "48" else
        (Out.get (fillA (fun i => some (i * n, n)) (zerosA z (len * n)) ps)).bind fun l =>
          .ok (.one (.sl true σ.length (.c 0) (.c (len : Int)) n), σ.new (.row true n (.vals l)))
      | _, _, _ => .fail "49"
    | _ => .fail "50"
  | .load t a => (loadE P t (opds f a) σ).bind fun v => .ok (v, σ)
  | .store t a x => (storeE P t (opds f a) (opd f x) σ).bind fun σ' => .ok (.one .any, σ')
  | .nilCheck x =>
    match opds f x with
    | .ptr id r z d h => .ok (.one (.ptr id r z d h), σ)
    | _ => .fail "51"
  | .binOp op t x y _ => (binE P op t (opd f x) (opd f y)).bind fun s => .ok (.one s, σ)
  | .unOp op _ x => (unE op (opds f x)).bind fun s => .ok (.one s, σ)
  | .convert src dst x => convE P src dst (opds f x) σ
  | .makeInterface t x => if P.concrete t then (Out.get (opd f x).part?).bind fun p => .ok (.ifc t p, σ) else .fail "iface"
  | .panic x =>
    match opd f x with
    | .ifc t p => .ok (.pan t p, σ)
    | _ => .fail "panic"
  | .makeMap _ none => .ok (.one (.mp σ.length), σ.new (.mapo []))
  | .makeSlice t l c => makeSliceE P t (opds f l) (opds f c) σ
  | .slice t x lo hi none =>
    match P.underlying t, opds f x with
    | some .string, .str s => (sliceE (.str s) (optE f lo) (optE f hi)).bind fun s => .ok (.one s, σ)
    | some .string, .strf s => (sliceE (.strf s) (optE f lo) (optE f hi)).bind fun s => .ok (.one s, σ)
    | some (.slice e), x =>
      match x with
      | .nils => if (tsize P e).isSome then (sliceE x (optE f lo) (optE f hi)).bind fun s => .ok (.one s, σ) else .fail "slice"
      | .sl _ _ _ _ z => if tsize P e = some z then (sliceE x (optE f lo) (optE f hi)).bind fun s => .ok (.one s, σ) else .fail "52"
      | _ => .fail "53"
    | some (.array n e), .ptr id (.c r) z d _ =>
      match σ.at id with
      | .row true 1 (.vals l) =>
        if z = 1 ∧ tsize P e = some 1 ∧ offs r.toNat 1 d + n ≤ l.length ∧ n ≤ 100000 then
          boundsE (.c (n : Int)) (optE f lo) (optE f hi) fun a b => .ok (.one (.sl true id ((X.c (offs r.toNat 1 d : Nat)).plus a) (b.minus a) 1), σ)
        else .fail "slice of an array"
      | _ => .fail "slice of an array's row"
    | _, _ => .fail "54"
  | .fieldAddr s x i =>
    match P.underlying s, opds f x with
    | some (.struct fields), .ptr id r z d h => (Out.get (fields[i]?)).bind fun fd =>
        (Out.get (tsize P fd.type)).bind fun n => if n = 0 then .fail "55" else .ok (.one (.ptr id r z (d + fd.offset) h), σ)
    | _, _ => .fail "56"
  | .field s x i =>
    match P.underlying s, opd f x with
    | some (.struct fields), .agg l => (Out.get (fields[i]?)).bind fun fd => (Out.get (partE P fd.type l fd.offset)).bind fun v => .ok (v, σ)
    | _, _ => .fail "field"
  | .indexAddr t x i =>
    match P.underlying t, opds f x with
    | some (.slice e), .sl _ id off len z =>
      if tsize P e = some z then
        Out.numX (opds f i) fun n => .guard (B.le (.c 0) n) (.guard (B.mkLt n len) (.ok (.one (.ptr id (off.plus n) z 0 0), σ)))
      else .fail "59"
    | some (.array n e), .ptr id (.c r) z d _ =>
      (Out.get (tsize P e)).bind fun sz =>
        if n = 0 then .fail "60" else
        Out.numX (opds f i) fun j => .guard (B.le (.c 0) j) (.guard (B.mkLt j (.c (n : Int))) (.ok (.one (.ptr id j sz (offs r.toNat z d) n), σ)))
    | _, _ => .fail "60"
  | .index t x i => (indexE P t (opd f x) (opds f i)).bind fun v => .ok (v, σ)
  | .lookup t x i ok => (lookupE P t (opds f x) (opds f i) ok σ).bind fun v => .ok (v, σ)
  | .insert t m k x | .mapUpdate t m k x => (insertE P t (opds f m) (opds f k) (opd f x) σ).bind fun σ' => .ok (.one .any, σ')
  | .extract t i =>
    match opd f t with
    | .tup l => (Out.get (l[i]?)).bind fun p => .ok (AV.ofPart p, σ)
    | _ => .fail "69"
  | .call { callee := .builtin .len, args, argTypes } =>
    match (argTypes[0]?).bind P.underlying, (args[0]?).map (opds f) with
    | some .string, some (.str s) => .ok (.one (.int .i64 (.c (s.size : Int))), σ)
    | some .string, some (.strf s) => .ok (.one (.int .i64 (.sem (s.length : Int))), σ)
    | some .string, some (.strt s) => .ok (.one (.int .i64 (.ex (.ln s))), σ)
    | some (.slice _), some .nils => .ok (.one (.int .i64 (.c 0)), σ)
    | some (.slice _), some (.sl _ _ _ len _) => .ok (.one (.int .i64 len), σ)
    | some (.map _ _), some (.mp id) =>
      match σ.at id with
      | .mapo es => if es.length ≤ maxStr then .ok (.one (.int .i64 (.c (es.length : Int))), σ) else .fail "70"
      | _ => .fail "70"
    | _, _ => .fail "71"
  | .call { callee := .builtin .append, args, argTypes } =>
    match argTypes[0]?, argTypes[1]?, args[0]?, args[1]? with
    | some t, some t', some a, some b =>
      match P.underlying t' with
      | some (.slice _) | some .string => appendE P t (opds f a) (opds f b) σ
      | _ => .fail "72"
    | _, _, _, _ => .fail "73"
  | .call { callee := .builtin .min, args, .. } =>
    match args.toList.map (opds f) with
    | [.int k1 (.c n1), .int k2 (.c n2)] => if k1 = k2 then .ok (.one (.int k1 (.c (if n2 < n1 then n2 else n1))), σ) else .fail "74"
    | [.int k1 n1, .int k2 n2] => if k1 = k2 then .ite (B.mkLt n2 n1) (fun _ => .ok (.one (.int k1 n2), σ)) (fun _ => .ok (.one (.int k1 n1), σ)) else .fail "74"
    | _ => .fail "76"
  | .call { callee := .builtin .max, args, .. } =>
    match args.toList.map (opds f) with
    | [.int k1 (.c n1), .int k2 (.c n2)] => if k1 = k2 then .ok (.one (.int k1 (.c (if n1 < n2 then n2 else n1))), σ) else .fail "77"
    | [.int k1 n1, .int k2 n2] => if k1 = k2 then .ite (B.mkLt n1 n2) (fun _ => .ok (.one (.int k1 n2), σ)) (fun _ => .ok (.one (.int k1 n1), σ)) else .fail "77"
    | _ => .fail "79"
  | .slice t x none (some hi) (some mx) =>
    match opds f hi, opds f mx, P.underlying t, opds f x with
    | .int _ (.c 0), .int _ (.c 0), some (.slice e), .nils => if (tsize P e).isSome then .ok (.one .nils, σ) else .fail "81"
    | .int _ (.c 0), .int _ (.c 0), some (.slice e), .sl nn _ _ _ z => if tsize P e = some z then .ok (.one (.sl nn σ.length (.c 0) (.c 0) z), σ.new (.row true z (.vals []))) else .fail "81"
    | _, _, _, _ => .fail "81"
  | _ => .fail "80"

inductive Ex where
  | normal
  | exit (id : Nat)
  | ret
  | pan (t : TypeId) (p : Part)

/-! What is still used, with numbers anew. -/
def Sc.ids : Sc → List Nat
  | .ptr id _ _ _ _ => [id]
  | .sl _ id _ _ _ => [id]
  | .mp id => [id]
  | _ => []
def Part.ids : Part → List Nat
  | .inl s => s.ids
  | .inr l => l.flatMap Sc.ids
def AV.ids : AV → List Nat
  | .one s => s.ids
  | .agg l => l.flatMap Sc.ids
  | .tup l => l.flatMap Part.ids
  | .ifc _ p => Part.ids p
  | .pan _ p => Part.ids p
def AO.ids : AO → List Nat
  | .row _ _ (.vals l) => l.flatMap Sc.ids
  | .mapo es => es.flatMap fun e => e.1.ids ++ e.2.ids
  | _ => []
def reach (σ : St) (n0 : Nat) : Nat → List Nat → List Nat → List Nat
  | 0, _, acc => acc
  | _ + 1, [], acc => acc
  | k + 1, i :: r, acc => if decide (i < n0) || acc.contains i then reach σ n0 k r acc else reach σ n0 k (r ++ (σ.at i).ids) (acc ++ [i])
def rn : List Nat → Nat → Nat → Option Nat
  | [], _, _ => none
  | k :: r, j, i => if k = i then some j else rn r (j + 1) i
def Sc.ren (keep : List Nat) : Sc → Sc
  | .ptr id row sz fld hi => match rn keep 0 id with | some j => .ptr j row sz fld hi | none => .any
  | .sl nn id off len sz => match rn keep 0 id with | some j => .sl nn j off len sz | none => .any
  | .mp id => match rn keep 0 id with | some j => .mp j | none => .any
  | s => s
def Part.ren (keep : List Nat) : Part → Part
  | .inl s => .inl (s.ren keep)
  | .inr l => .inr (l.map (Sc.ren keep))
def AV.ren (keep : List Nat) : AV → AV
  | .one s => .one (s.ren keep)
  | .agg l => .agg (l.map (Sc.ren keep))
  | .tup l => .tup (l.map (Part.ren keep))
  | .ifc t p => .ifc t (Part.ren keep p)
  | .pan t p => .pan t (Part.ren keep p)
def AO.ren (keep : List Nat) : AO → AO
  | .row own sz (.vals l) => .row own sz (.vals (l.map (Sc.ren keep)))
  | .mapo es => .mapo (es.map fun e => (e.1.ren keep, e.2.ren keep))
  | o => o
def nodupB : List Nat → Bool
  | [] => true
  | i :: r => !r.contains i && nodupB r
def prefixB : Nat → List Nat → Nat → Bool
  | 0, _, _ => true
  | _ + 1, [], _ => false
  | n + 1, i :: r, j => i == j && prefixB n r (j + 1)
/-- the slots that live, put into a frame that is empty else -/
def liveF (keep : List Nat) (f : Fr) : List Nat → Fr → Fr
  | [], g => g
  | t :: r, g => liveF keep f r (g.set t ((f.get t).ren keep))
def gcE (n0 : Nat) (lv : List Nat) (f : Fr) (σ : St) (d : Nat) : Option (Fr × St) :=
  let keep := List.range n0 ++ reach σ n0 1000 (lv.flatMap fun t => (f.get t).ids) []
  if nodupB keep && (prefixB n0 keep 0 && gmapL.all fun p => decide (p.2 < n0)) then some (liveF keep f lv ⟨f.n, F.fresh d⟩, keep.map fun i => (σ.at i).ren keep) else none

/-! Equal states. -/
def X.beq : X → X → Bool
  | .c a, .c b => a == b
  | .ex a, .ex b => a.beq b
  | _, _ => false
def B.beq : B → B → Bool
  | .c a, .c b => a == b
  | .ex a, .ex b => a.beq b
  | _, _ => false
def Sc.beq : Sc → Sc → Bool
  | .any, .any => true
  | .int k x, .int j y => decide (k = j) && x.beq y
  | .bool a, .bool b => a.beq b
  | .str a, .str b => a.data.toList == b.data.toList
  | .strf a, .strf b => a == b
  | .strt a, .strt b => a.beq b
  | .nilp, .nilp => true
  | .ptr a b c d e, .ptr a' b' c' d' e' => a == a' && (b.beq b' && (c == c' && (d == d' && e == e')))
  | .nils, .nils => true
  | .sl a b c d e, .sl a' b' c' d' e' => a == a' && (b == b' && (c.beq c' && (d.beq d' && e == e')))
  | .nilm, .nilm => true
  | .mp a, .mp b => a == b
  | .fn a, .fn b => a == b
  | .nilf, .nilf => true
  | .nili, .nili => true
  | _, _ => false
def lbeq {α : Type} (eq : α → α → Bool) : List α → List α → Bool
  | [], [] => true
  | a :: l, b :: m => eq a b && lbeq eq l m
  | _, _ => false
def Part.beq : Part → Part → Bool
  | .inl a, .inl b => a.beq b
  | .inr a, .inr b => lbeq Sc.beq a b
  | _, _ => false
def AV.beq : AV → AV → Bool
  | .one a, .one b => a.beq b
  | .agg a, .agg b => lbeq Sc.beq a b
  | .tup a, .tup b => lbeq Part.beq a b
  | .ifc t p, .ifc u q => t == u && Part.beq p q
  | .pan t p, .pan u q => t == u && Part.beq p q
  | _, _ => false
def Cells.beq : Cells → Cells → Bool
  | .vals a, .vals b => lbeq Sc.beq a b
  | .ex .bool e, .ex .bool e' => e.beq e'
  | .ex (.int k) e, .ex (.int k') e' => decide (k = k') && e.beq e'
  | .tb ks e, .tb ks' e' => decide (semRows.kdsEq ks ks' = true) && e.beq e'
  | _, _ => false
def AO.beq : AO → AO → Bool
  | .dead, .dead => true
  | .row a b c, .row a' b' c' => a == a' && (b == b' && c.beq c')
  | .mapo a, .mapo b => lbeq (fun x y => x.1.beq y.1 && x.2.beq y.2) a b
  | _, _ => false
def F.beq : F → F → Bool
  | .nil, .nil => true
  | .node a b c, .node a' b' c' => b.beq b' && (a.beq a' && c.beq c')
  | .al i v r, .al j w s => i == j && (v.beq w && r.beq s)
  | _, _ => false
def Fr.beq (a b : Fr) : Bool := a.n == b.n && a.t.beq b.t
def Ex.beq : Ex → Ex → Bool
  | .normal, .normal => true
  | .exit a, .exit b => a == b
  | .ret, .ret => true
  | .pan t p, .pan u q => t == u && Part.beq p q
  | _, _ => false
def St.beq (a b : St) : Bool := lbeq AO.beq a b
def avstBeq (a b : AV × St) : Bool := a.1.beq b.1 && St.beq a.2 b.2
def exstBeq (a b : Ex × Fr × St) : Bool := a.1.beq b.1 && (a.2.1.beq b.2.1 && St.beq a.2.2 b.2.2)

structure Cfg where
  fuel : Nat := 1000
  /-- loops by contract -/
  lc : Nat → Option (Fr → St → Out (Ex × Fr × St)) := fun _ => none
  /-- the slots that live at a loop's head -/
  lv : Nat → Option (List Nat) := fun _ => none
  /-- whether all ways of a round that end alike are taken as one -/
  lm : Nat → Bool := fun _ => false
  /-- the same of all ways of a call -/
  mg : Bool := false
  /-- what is known where rounds are merged -/
  fs : List Fk := []
  /-- so many objects there must be where it is called -/
  ob : Option Nat := none

section
variable (P : Program) (call : FuncId → List AV → St → Out (AV × St)) (cf : Cfg) (n0 : Nat)

/-- any operation -/
def operE0 (o : Oper) (f : Fr) (σ : St) : Out (AV × St) :=
  match o.op with
  | .call { callee := .value (.func g), args, .. } => call g (args.toList.map (opd f)) σ
  | _ => (opE P o f σ).named o.pos

/-- a bool that is not known: both ways, each with a known one -/
def splitV (x : AV × St) : Out (AV × St) :=
  match x.1 with
  | .one (.bool (.c b)) => .ok (.one (.bool (.c b)), x.2)
  | .one (.bool b) => .br b (fun _ => .ok (.one (.bool (.c true)), x.2)) (fun _ => .ok (.one (.bool (.c false)), x.2))
  | _ => .ok x
def isCallO (o : Oper) : Bool :=
  match o.op with
  | .call .. => true
  | _ => false
/-- what a function tells isn't split -/
def splitO (o : Oper) (x : AV × St) : Out (AV × St) := bif isCallO o then .ok x else splitV x
def operE (o : Oper) (f : Fr) (σ : St) : Out (AV × St) := (operE0 P call o f σ).bind (splitO o)

def putF (f : Fr) (d : Option Tmp) (v : AV) : Fr :=
  match d with
  | some t => f.set t v
  | none => f

/-- operations that leave memory alone -/
def silentO (o : Oper) : Bool :=
  match o.op with
  | .move _ | .assign _ | .pick .. | .build .. | .load .. | .nilCheck _ | .binOp .. | .unOp .. | .slice _ _ _ _ none | .fieldAddr .. | .field .. | .indexAddr .. | .index ..
  | .lookup .. | .extract .. | .makeInterface .. => true
  | .call { callee := .builtin .len, .. } | .call { callee := .builtin .min, .. } | .call { callee := .builtin .max, .. } => true
  | _ => false

/-- on, unless it panicked -/
def onE (o : Oper) (f : Fr) (v : AV) (σ : St) (k : Fr → St → Out (Ex × Fr × St)) : Out (Ex × Fr × St) :=
  match v with
  | .pan t p => .ok (.pan t p, f, σ)
  | v => k (putF f o.dst v) σ

def opsE (ops : Array Oper) : List Nat → Fr → St → Out (Ex × Fr × St)
  | [], f, σ => .ok (.normal, f, σ)
  | i :: r, f, σ =>
    match ops[i]? with
    | none => opsE ops r f σ
    | some o =>
      match o.guard with
      | none => (operE P call o f σ).bind fun (v, σ') => onE o f v σ' (opsE ops r)
      | some (j, want) =>
        match (ops[j]?).bind (·.dst) with
        | none => .fail "guard"
        | some d =>
          match f.get d with
          | .one (.bool b) =>
            .ite (B.mkIff b (.c want)) (fun _ => (operE P call o f σ).bind fun (v, σ') => onE o f v σ' (opsE ops r))
              (fun _ => opsE ops r (putF f o.dst (.tup [])) σ)
          | .tup [] => opsE ops r (putF f o.dst (.tup [])) σ
          | _ => .fail "guard: no bool"

/-! Regions whose order is free: each operation is run on its own part of the frame and of memory; two that may come in
either order must not touch. -/
def lendAO : AO → AO
  | .row _ sz c => .row false sz c
  | _ => .dead
def memOf (chg rd : List Nat) : St → Nat → St
  | [], _ => []
  | o :: r, i => (if chg.contains i then o else if rd.contains i then lendAO o else .dead) :: memOf chg rd r (i + 1)
def backE (chg : List Nat) (out : St) : St → Nat → St
  | [], i => out.drop i
  | o :: r, i => (if chg.contains i then out.at i else o) :: backE chg out r (i + 1)
def frameOf (f : Fr) : List Nat → F
  | [] => .nil
  | t :: r => .al t (f.get t) (frameOf f r)
def ownB : AO → Bool
  | .dead => true
  | .row own _ _ => own
  | _ => true
def deadB : AO → Bool
  | .dead => true
  | _ => false

/-- do all addresses in it lie below n? -/
def Sc.below (n : Nat) : Sc → Bool
  | .ptr id _ _ _ _ => decide (id < n)
  | .sl _ id _ _ _ => decide (id < n)
  | .mp id => decide (id < n)
  | _ => true
def Part.below (n : Nat) : Part → Bool
  | .inl s => s.below n
  | .inr l => l.all (Sc.below n)
def AV.below (n : Nat) : AV → Bool
  | .one s => s.below n
  | .agg l => l.all (Sc.below n)
  | .tup l => l.all (Part.below n)
  | .ifc _ p => Part.below n p
  | .pan _ p => Part.below n p
def Cells.below (n : Nat) : Cells → Bool
  | .vals l => l.all (Sc.below n)
  | .fn _ _ _ => true
  | .ex _ _ => true
  | .tb _ _ => true
def AO.below (n : Nat) : AO → Bool
  | .row _ _ c => c.below n
  | .mapo es => es.all fun e => e.1.below n && e.2.below n
  | _ => true

inductive Dk where
  | quiet
  | lent
  | write
  | calls
def dkind (o : Oper) : Dk :=
  if silentO o then .quiet else match o.op with
    | .store .. => .write
    | .insert .. => .write
    | .call { callee := .builtin .append, .. } => .write
    | .call { callee := .builtin .copy, .. } => .write
    | .call { callee := .value _, .. } => .calls
    | _ => .lent
/-- what an operation touches -/
structure Touch where
  dst : Option Nat
  lk : List Nat
  rd : List Nat
  wr : List Nat
  anc : Nat
  /-- it only adds an entry to a map -/
  ins : Option (Nat × Sc)
  /-- it only puts cells into a row: which, from which cell on -/
  sto : Option (Nat × Nat × List Sc)
def off (l m : List Nat) : Bool := l.all fun i => !m.contains i
def insApart (x y : Touch) : Bool :=
  match x.ins, y.ins with
  | some (d, k), some (d', k') => d == d' && (match keyEq k k' with | some false => true | _ => false)
  | _, _ => false
def apartP (x y : Touch) : Bool :=
  off x.wr y.rd && off y.wr x.rd &&
  (match x.dst with | some d => !y.lk.contains d && !(y.dst == some d) | none => true) &&
  (match y.dst with | some d => !x.lk.contains d | none => true)
def stoApart (x y : Touch) : Bool :=
  match x.sto, y.sto with
  | some (d, o, vs), some (d', o', vs') => d == d' && (decide (o + vs.length ≤ o') || decide (o' + vs'.length ≤ o))
  | _, _ => false
def apartR (x y : Touch) : Bool := apartP x y || (insApart x y || stoApart x y)
/-- the last one stands first -/
def okAll : List Touch → Nat → Touch → Bool
  | [], _, _ => true
  | r :: rs, k, x => (x.anc.testBit (k - 1) || apartR r x) && okAll rs (k - 1) x
def ancOf : List Touch → Nat → Nat → Nat
  | [], _, _ => 0
  | r :: rs, k, i => if i = k - 1 then r.anc else ancOf rs (k - 1) i
def ancE (recs : List Touch) (j : Nat) : List Edge → Nat
  | [] => 0
  | e :: r => if Region.binds .any e then (ancE recs j r ||| (1 <<< e.on)) ||| ancOf recs j e.on else ancE recs j r
def idsOf (f : Fr) (o : Oper) : List (List Nat) := o.op.operands.toList.map fun x => (opd f x).ids
/-- operations that don't look at memory -/
def blindO (o : Oper) : Bool :=
  match o.op with
  | .move _ | .assign _ | .pick .. | .build .. | .nilCheck _ | .binOp .. | .unOp .. | .slice _ _ _ _ none | .fieldAddr .. | .field .. | .indexAddr .. | .index .. | .extract .. | .makeInterface .. => true
  | _ => false
def rdOf (f : Fr) (σ : St) (o : Oper) : List Nat :=
  bif blindO o then (match o.op with
    | .slice _ x _ _ none => match opds f x with
      | .ptr id _ _ _ _ => [id]
      | _ => []
    | _ => []) else match o.op with
  | .call { callee := .value _, .. } => reach σ 0 1000 ((idsOf f o).flatten ++ gmapL.map fun p => p.2) []
  | _ => (idsOf f o).flatten
def chgOf (f : Fr) (σ : St) (o : Oper) : List Nat :=
  match dkind o with
  | .quiet => rdOf f σ o
  | .write => (idsOf f o).headD []
  | .calls => rdOf f σ o
  | .lent => []
def wrOf (f : Fr) (σ out : St) (o : Oper) : List Nat :=
  match dkind o with
  | .write => ((idsOf f o).headD []).filter fun i => decide (i < σ.length)
  | .calls => (rdOf f σ o).filter fun i => decide (i < σ.length) && !(out.at i).beq (σ.at i)
  | _ => []
def frOf (ops : Array Oper) (f : Fr) (o : Oper) : Fr := ⟨f.n, frameOf f (o.looksAt ops)⟩
def insOf (ops : Array Oper) (f : Fr) (σ out : St) (o : Oper) (rd wr : List Nat) : Option (Nat × Sc) :=
  match o.op, o.dst with
  | .insert _ m k x, none =>
    match opds (frOf ops f o) m, rd, wr with
    | .mp d, [d1], [d2] =>
      if d1 == d && d2 == d && out.length == σ.length && (opds (frOf ops f o) k).below 0 && (opd (frOf ops f o) x).below 0 then
        match out.at d with
        | .mapo _ => some (d, opds (frOf ops f o) k)
        | _ => none
      else none
    | _, _, _ => none
  | _, _ => none
def stoOf (ops : Array Oper) (f : Fr) (σ out : St) (o : Oper) (wr : List Nat) : Option (Nat × Nat × List Sc) :=
  match o.op, o.dst with
  | .store _ a x, none =>
    match opds (frOf ops f o) a, (opd (frOf ops f o) x).cells?, wr with
    | .ptr d (.c r) sz fld _, some vs, [d2] =>
      if d2 == d && out.length == σ.length then
        match out.at d with
        | .row true _ (.vals _) => some (d, offs r.toNat sz fld, vs)
        | _ => none
      else none
    | _, _, _ => none
  | _, _ => none
def touchOf (ops : Array Oper) (recs : List Touch) (j : Nat) (f : Fr) (σ out : St) (o : Oper) : Touch :=
  ⟨o.dst, o.looksAt ops, rdOf f σ o ++ List.range' σ.length (out.length - σ.length), wrOf f σ out o ++ List.range' σ.length (out.length - σ.length), ancE recs j o.after.toList,
    insOf ops f σ out o (rdOf f σ o ++ List.range' σ.length (out.length - σ.length)) (wrOf f σ out o ++ List.range' σ.length (out.length - σ.length)),
    stoOf ops f σ out o (wrOf f σ out o ++ List.range' σ.length (out.length - σ.length))⟩
def skipOf (ops : Array Oper) (recs : List Touch) (j : Nat) (o : Oper) : Touch := ⟨o.dst, o.looksAt ops, [], [], ancE recs j o.after.toList, none, none⟩
def drawX (ops : Array Oper) (o : Oper) (j : Nat) (recs : List Touch) (f : Fr) (σ : St) (k : Touch → Fr → St → Out (Fr × St)) : Out (Fr × St) :=
  if (o.looksAt ops).all (fun t => (f.get t).below σ.length) && (memOf (chgOf f σ o) (rdOf f σ o) σ 0).all (AO.below σ.length) then
    (operE P call o (frOf ops f o) (memOf (chgOf f σ o) (rdOf f σ o) σ 0)).bind fun (v, out) =>
      if (out.drop σ.length).all ownB && (chgOf f σ o).all (fun i => !deadB (St.at (memOf (chgOf f σ o) (rdOf f σ o) σ 0) i) || deadB (out.at i)) && okAll recs j (touchOf ops recs j f σ out o) && !v.panB then
        k (touchOf ops recs j f σ out o) (putF f o.dst v) (backE (chgOf f σ o) out σ 0)
      else .fail ("draw: touches " ++ o.pos)
  else .fail "draw: below"
def drawS (ops : Array Oper) (o : Oper) (j : Nat) (recs : List Touch) (f : Fr) (σ : St) (k : Touch → Fr → St → Out (Fr × St)) : Out (Fr × St) :=
  if okAll recs j (skipOf ops recs j o) then k (skipOf ops recs j o) (putF f o.dst (.tup [])) σ else .fail "draw: touches"
def drawGo (ops : Array Oper) : List Oper → Nat → List Touch → Fr → St → Out (Fr × St)
  | [], _, _, f, σ => .ok (f, σ)
  | o :: r, j, recs, f, σ =>
    if o.after.toList.all (fun e => !Region.binds .any e || decide (e.on < j)) then
      match o.guard with
      | none => drawX P call ops o j recs f σ fun t f' σ' => drawGo ops r (j + 1) (t :: recs) f' σ'
      | some (g, want) =>
        match (ops[g]?).bind (·.dst) with
        | none => .fail "guard"
        | some d =>
          match f.get d with
          | .one (.bool b) =>
            .ite (B.mkIff b (.c want)) (fun _ => drawX P call ops o j recs f σ fun t f' σ' => drawGo ops r (j + 1) (t :: recs) f' σ')
              (fun _ => drawS ops o j recs f σ fun t f' σ' => drawGo ops r (j + 1) (t :: recs) f' σ')
          | .tup [] => drawS ops o j recs f σ fun t f' σ' => drawGo ops r (j + 1) (t :: recs) f' σ'
          | _ => .fail "guard: no bool"
    else .fail "draw: edges"
def drawE (ops : Array Oper) (f : Fr) (σ : St) : Out (Ex × Fr × St) := (drawGo P call ops ops.toList 0 [] f σ).bind fun (f', σ') => .ok (.normal, f', σ')

def firstRegion : Code → Nat
  | .region id _ _ => id
  | .seq a _ => firstRegion a
  | .block _ b => firstRegion b
  | _ => 0

def tidy (id : Nat) (f : Fr) (σ : St) : Option (Fr × St) :=
  match cf.lv id with
  | some lv => gcE n0 lv f σ (Nat.log2 (f.n + 1) + 1)
  | none => some (f, σ)

def loopN0 (td : Fr → St → Option (Fr × St)) (g : Fr → St → Out (Ex × Fr × St)) : Nat → Fr → St → Out (Ex × Fr × St)
  | 0, _, _ => .fail "rounds"
  | n + 1, f, σ => (g f σ).bind fun (e, f', σ') => match e with
    | .normal => match td f' σ' with
      | some (f1, σ1) => loopN0 td g n f1 σ1
      | none => .fail "tidy"
    | e => .ok (e, f', σ')

def roundM (m : Option (List Fk)) (td : Fr → St → Option (Fr × St)) (o : Out (Ex × Fr × St)) : Out (Ex × Fr × St) :=
  match m with
  | some fs => (o.bind fun (e, f', σ') => match e with
    | .normal => match td f' σ' with
      | some (f1, σ1) => .ok (.normal, f1, σ1)
      | none => .fail "tidy"
    | e => .ok (e, f', σ')).mrg exstBeq fs
  | none => o.bind fun (e, f', σ') => match e with
    | .normal => match td f' σ' with
      | some (f1, σ1) => .ok (.normal, f1, σ1)
      | none => .fail "tidy"
    | e => .ok (e, f', σ')
def loopN (m : Option (List Fk)) (td : Fr → St → Option (Fr × St)) (g : Fr → St → Out (Ex × Fr × St)) : Nat → Fr → St → Out (Ex × Fr × St)
  | 0, _, _ => .fail "rounds"
  | n + 1, f, σ => (roundM m td (g f σ)).bind fun (e, f1, σ1) => match e with
    | .normal => loopN m td g n f1 σ1
    | e => .ok (e, f1, σ1)

def codeE : Code → Fr → St → Out (Ex × Fr × St)
  | .skip, f, σ => .ok (.normal, f, σ)
  | .region _ ops d, f, σ => if d then drawE P call ops f σ else opsE P call ops (List.range ops.size) f σ
  | .seq a b, f, σ => (codeE a f σ).bind fun (e, f', σ') => match e with
    | .normal => codeE b f' σ'
    | e => .ok (e, f', σ')
  | .cond c a b, f, σ =>
    match opds f c with
    | .bool t => .ite t (fun _ => codeE a f σ) (fun _ => codeE b f σ)
    | _ => .fail "cond"
  | .block id b, f, σ => (codeE b f σ).bind fun (e, f', σ') => match e with
    | .exit i => .ok (if i = id then .normal else .exit i, f', σ')
    | e => .ok (e, f', σ')
  | .loop b, f, σ =>
    match tidy cf n0 (firstRegion b) f σ with
    | none => .fail "tidy"
    | some (f1, σ1) => match cf.lc (firstRegion b) with
      | some c => c f1 σ1
      | none => loopN (bif cf.lm (firstRegion b) then some cf.fs else none) (tidy cf n0 (firstRegion b)) (codeE b) cf.fuel f1 σ1
  | .exit i, f, σ => .ok (.exit i, f, σ)
  | .ret, f, σ => .ok (.ret, f, σ)
  | _, _, _ => .fail "code"

/-- the results of a function -/
def resE (f : Fr) (σ : St) : List ResultVar → Out (List Part)
  | [] => .ok []
  | .tmp t :: r => (Out.get (f.get t).part?).bind fun p => (resE f σ r).bind fun ps => .ok (p :: ps)
  | .cell a t :: r => (loadE P t (match f.get a with | .one s => s | _ => .any) σ).bind fun v =>
      (Out.get v.part?).bind fun p => (resE f σ r).bind fun ps => .ok (p :: ps)

/-- what a call made and nothing leads to is forgotten -/
def forget (n : Nat) (v : AV) (σ : St) : St :=
  if v.below n && (σ.take n).all (AO.below n) then σ.take n else σ

def depthFor (n : Nat) : Nat := Nat.log2 (n + 1) + 1

def fnE (fn : Func) (args : List AV) (σ : St) : Out (AV × St) :=
  match fn.body with
  | none => .fail "body"
  | some c =>
    (codeE P call cf σ.length c (Fr.put ⟨args.length + (fn.ntmps - args.length), F.fresh (depthFor (args.length + (fn.ntmps - args.length)))⟩ args 0) σ).bind fun (e, f, σ') =>
      match e with
      | .exit _ => .fail "exit"
      | .pan t p => .ok (.pan t p, forget σ.length (.pan t p) σ')
      | _ => (resE P f σ' fn.results.toList).bind fun ps =>
        match ps with
        | [p] => .ok (AV.ofPart p, forget σ.length (AV.ofPart p) σ')
        | ps => .ok (.tup ps, forget σ.length (.tup ps) σ')
end

def obOk (cf : Cfg) (σ : St) : Bool :=
  match cf.ob with
  | some n => σ.length == n
  | none => true
def obN (cf : Cfg) (σ : St) : Nat :=
  match cf.ob with
  | some n => n
  | none => σ.length
/-- calls: by contract where there is one, else by the text, so deep -/
def callE (P : Program) (env : FuncId → Option (List AV → St → Out (AV × St))) (cfg : FuncId → Cfg) :
    Nat → FuncId → List AV → St → Out (AV × St)
  | 0, _, _, _ => .fail "depth"
  | d + 1, g, args, σ =>
    match env g with
    | some c => c args σ
    | none =>
      match P.funcs[g]? with
      | none => .fail "no function"
      | some fn => bif obOk (cfg g) σ then (bif (cfg g).mg then (fnE P (callE P env cfg d) (cfg g) fn args σ).mrg avstBeq else fnE P (callE P env cfg d) (cfg g) fn args σ) else .fail "objects"

end Go.SX
