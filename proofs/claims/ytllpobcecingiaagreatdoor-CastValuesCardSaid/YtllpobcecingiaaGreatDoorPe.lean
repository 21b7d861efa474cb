/-
  The evaluator: what a function's code does to pure values. It fails (none) wherever it does not know; Ps shows that what it yields, the code yields.
-/
import Derived.Test.YtllpobcecingiaaGreatDoorPv
set_option linter.unusedVariables false
set_option linter.unusedSimpArgs false
namespace Go.Proofs.YtllpobcecingiaaGreatDoor
open Go.RowKit

/-- a slot: its pure value, and the claim on the room behind a slice: 0 none, 1 free (nothing behind it, or nil), else a claim's name -/
abbrev TV := PV × Nat
structure St where
  ρ : List TV
  bx : List (Option (List TV))

/-- a function that may be called: its pure function, and whether its result (a slice) is the caller's own -/
structure PFn where
  F : {R : Type} → List PV → (PV → Option R) → Option R
  own : Bool

/-- what surrounds an evaluation -/
structure Env where
  P : Program
  E : FuncId → Option PFn
  G : Nat → Option (List PV)

inductive PAct where
  | skip
  | val (v : PV) (tag : Nat)
  | load (id off n : Nat) (agg : Bool)
  | store (id off : Nat) (cells : List TV)
  | mk (cells : List TV)
  | own (c : Nat) (v : PV)

/-! ## types -/
inductive CT where
  | int (k : IntKind) | bool | str | sl (sz : Nat) | ptr | iface | func | other

def szOf (P : Program) (t : TypeId) : Nat := ((P.info? t).map (·.size)).getD 0
def bytesOf (P : Program) (t : TypeId) : Nat := ((P.info? t).map (·.bytes)).getD 0
def isAggT (P : Program) (t : TypeId) : Bool :=
  match P.underlying t with
  | some (.struct _) => true
  | some (.array _ _) => true
  | _ => false
def elemT (P : Program) (t : TypeId) : Option TypeId :=
  match P.underlying t with
  | some (.slice e) => some e
  | _ => none
def cellTys (P : Program) : Nat → TypeId → List CT
  | 0, _ => [.other]
  | n + 1, t =>
    match P.underlying t with
    | some .bool => [.bool]
    | some (.int k) => [.int k]
    | some .string => [.str]
    | some (.slice e) => [.sl (szOf P e)]
    | some (.pointer _) => [.ptr]
    | some (.interface _) => [.iface]
    | some (.func _ _ _) => [.func]
    | some (.struct fs) => fs.toList.flatMap fun f => cellTys P n f.type
    | some (.array len e) => (List.replicate len (cellTys P n e)).flatten
    | _ => [.other]
def tysOf (P : Program) (t : TypeId) : List CT := cellTys P 12 t
def CT.zero : CT → PV
  | .int k => .int k 0
  | .bool => .bool false
  | .str => .str []
  | .sl sz => .sl (some true) sz 0 []
  | .ptr => .nilptr
  | .iface => .nilIface
  | .func => .nilFunc
  | .other => .undef
/-- is this cell of a zero value that pure value? -/
def CT.fits : CT → Value → Bool
  | .int k, .int k' n => decide (k = k') && n == 0
  | .bool, .bool b => !b
  | .str, .string s => s.data.toList.isEmpty
  | .sl _, .slice none n c => n == 0 && c == 0
  | .ptr, .pointer none => true
  | .iface, .nilIface => true
  | .func, .nilFunc => true
  | .other, v => v.oneCell'
  | _, _ => false
def fitsAll : List CT → List Value → Bool
  | [], [] => true
  | t :: ts, v :: vs => t.fits v && fitsAll ts vs
  | _, _ => false
/-- the cells of a type's zero value -/
def zeroPV (P : Program) (t : TypeId) : Option (List PV) :=
  match (P.info? t).bind (·.zero) with
  | some z => if fitsAll (tysOf P t) z.cells.toList && szOf P t == z.cells.size then some ((tysOf P t).map CT.zero) else none
  | none => none

/-! ## values by their types -/
def PV.asInt (k : IntKind) : PV → Option Int
  | .int k' n => if k' = k then some n else none
  | _ => none
def PV.asBool : PV → Option Bool
  | .bool b => some b
  | _ => none
def PV.asStr : PV → Option (List UInt8)
  | .str s => some s
  | _ => none
def PV.asSl (sz : Nat) : PV → Option (Option Bool × Nat × List PV)
  | .sl nl sz' n cells => if sz' = sz then some (nl, n, cells) else none
  | _ => none
def refine1 {R : Type} (t : CT) (x : PV) (k : PV → Option R) : Option R :=
  match t with
  | .int i => (x.asInt i).bind fun n => k (.int i n)
  | .bool => x.asBool.bind fun b => k (.bool b)
  | .str => x.asStr.bind fun s => k (.str s)
  | .sl sz => (x.asSl sz).bind fun p => k (.sl p.1 sz p.2.1 p.2.2)
  | _ => if x.data then k x else none
def refineL {R : Type} : List CT → List PV → (List PV → Option R) → Option R
  | [], _, k => k []
  | t :: ts, xs, k => xs.head?.bind fun x => refine1 t x fun y => refineL ts xs.tail fun ys => k (y :: ys)

def constPV (P : Program) (t : TypeId) : Value → TV
  | .bool b => (.bool b, 0)
  | .int k n => (.int k n, 0)
  | .string s => (.str s.data.toList, 0)
  | .slice none n c => if n = 0 ∧ c = 0 then (.sl (some true) ((elemT P t).elim 0 (szOf P)) 0 [], 1) else (.undef, 0)
  | .pointer none => (.nilptr, 0)
  | .nilIface => (.nilIface, 0)
  | .nilFunc => (.nilFunc, 0)
  | _ => (.undef, 0)
def ev (en : Env) (st : St) (t : TypeId) : Operand → TV
  | .tmp u => st.ρ.getD u (.undef, 0)
  | .const v => constPV en.P t v
  | .global g => match en.G g with
    | some cs => (.eptr cs, 0)
    | none => (.undef, 0)
  | .func f => (.clo f [], 0)

/-! ## operators -/
def bitsI (op : BinOp) (k : IntKind) (x y : Int) : Option Int :=
  let a := BitVec.ofInt k.bits x
  let b := BitVec.ofInt k.bits y
  match op with
  | .and => some (k.wrap (a &&& b).toNat)
  | .or => some (k.wrap (a ||| b).toNat)
  | .xor => some (k.wrap (a ^^^ b).toNat)
  | .andNot => some (k.wrap (a &&& ~~~b).toNat)
  | _ => none
def pint {R : Type} (op : BinOp) (k : IntKind) (a b : Int) (kk : PV → Option R) : Option R :=
  match op with
  | .add => kk (.int k (k.wrap (a + b)))
  | .sub => kk (.int k (k.wrap (a - b)))
  | .mul => kk (.int k (k.wrap (a * b)))
  | .quo => bif b == 0 then none else kk (.int k (k.wrap (a.tdiv b)))
  | .rem => bif b == 0 then none else kk (.int k (a.tmod b))
  | .eql => kk (.bool (a == b))
  | .neq => kk (.bool (a != b))
  | .lss => kk (.bool (decide (a < b)))
  | .leq => kk (.bool (decide (a ≤ b)))
  | .gtr => kk (.bool (decide (b < a)))
  | .geq => kk (.bool (decide (b ≤ a)))
  | .shl => none
  | .shr => none
  | .and => kk (.int k (k.wrap (BitVec.ofInt k.bits a &&& BitVec.ofInt k.bits b).toNat))
  | .or => kk (.int k (k.wrap (BitVec.ofInt k.bits a ||| BitVec.ofInt k.bits b).toNat))
  | .xor => kk (.int k (k.wrap (BitVec.ofInt k.bits a ^^^ BitVec.ofInt k.bits b).toNat))
  | .andNot => kk (.int k (k.wrap (BitVec.ofInt k.bits a &&& ~~~BitVec.ofInt k.bits b).toNat))
def pstr {R : Type} (op : BinOp) (a b : List UInt8) (kk : PV → Option R) : Option R :=
  match op with
  | .add => bif decide (a.length + b.length ≤ 9223372036854775807) then kk (.str (a ++ b)) else none
  | .eql => kk (.bool (a == b))
  | .neq => kk (.bool (a != b))
  | .lss => kk (.bool (Op.bytesLess a b))
  | .leq => kk (.bool (Op.bytesLess a b || a == b))
  | .gtr => kk (.bool (!(Op.bytesLess a b || a == b)))
  | .geq => kk (.bool (!Op.bytesLess a b))
  | _ => none
def isBoolT (P : Program) (t : TypeId) : Bool := match P.underlying t with | some .bool => true | _ => false
def isSliceT (P : Program) (t : TypeId) : Bool := match P.underlying t with | some (.slice _) => true | _ => false
def isPtrT (P : Program) (t : TypeId) : Bool := match P.underlying t with | some (.pointer _) => true | _ => false
def isIfaceT (P : Program) (t : TypeId) : Bool := match P.underlying t with | some (.interface _) => true | _ => false
def isFuncT (P : Program) (t : TypeId) : Bool := match P.underlying t with | some (.func _ _ _) => true | _ => false
/-- is it nil? (compared with a constant) -/
def nilCmp (P : Program) (t : TypeId) (x : PV) (c : Value) : Option Bool :=
  match c with
  | .slice none _ _ => if isSliceT P t then match x with
    | .sl nl _ _ _ => nl
    | _ => none
    else none
  | .pointer none => if isPtrT P t then match x with
    | .nilptr => some true
    | .nptr => some false
    | .ptr _ _ => some false
    | .eptr _ => some false
    | _ => none
    else none
  | .nilIface => if isIfaceT P t then match x with
    | .nilIface => some true
    | .iface _ _ => some false
    | _ => none
    else none
  | .nilFunc => if isFuncT P t then match x with
    | .nilFunc => some true
    | .clo _ _ => some false
    | _ => none
    else none
  | _ => none
/-- a part of an aggregate's cells, as a value of a type -/
def ppart {R : Type} (P : Program) (t : TypeId) (cells : List PV) (off : Nat) (kk : PV → Option R) : Option R :=
  if isAggT P t then
    if off + szOf P t ≤ cells.length then kk (.agg ((cells.take (off + szOf P t)).drop off)) else none
  else cells[off]?.bind kk
/-- are two values of a type equal? (fields one by one) -/
def eqFs (P : Program) (g : TypeId → PV → PV → Option Bool) (xs ys : List PV) : List Field → Option Bool
  | [] => some true
  | f :: fs =>
    if f.name ≠ "_" then
      if (P.info? f.type).isSome && (P.underlying f.type).isSome then
        match ppart P f.type xs f.offset some, ppart P f.type ys f.offset some with
        | some x, some y => match g f.type x y with
          | some b => match eqFs P g xs ys fs with
            | some r => some (bif b then r else false)
            | none => none
          | none => none
        | _, _ => none
      else none
    else eqFs P g xs ys fs
def eqP (P : Program) : Nat → TypeId → PV → PV → Option Bool
  | 0, _, _, _ => none
  | d + 1, t, x, y =>
    match P.underlying t, x, y with
    | some (.int _), .int k a, .int k' b => if k = k' then some (a == b) else none
    | some .bool, .bool a, .bool b => some (a == b)
    | some .string, .str a, .str b => some (a == b)
    | some (.struct fs), .agg xs, .agg ys => if P.stoodInHeld t then none else eqFs P (eqP P d) xs ys fs.toList
    | _, _, _ => none
def pbin {R : Type} (P : Program) (op : BinOp) (t : TypeId) (ox oy : Operand) (x y : PV) (kk : PV → Option R) : Option R :=
  match x, y with
  | .int kx a, .int ky b =>
    match op with
    | .shl => bif decide (b < 0) then none else kk (.int kx (kx.wrap (a * 2 ^ (min b.toNat kx.bits))))
    | .shr => bif decide (b < 0) then none else kk (.int kx (a.fdiv (2 ^ (min b.toNat kx.bits))))
    | op => if kx = ky then pint op kx a b kk else none
  | .str a, .str b => pstr op a b kk
  | .bool a, .bool b =>
    if isBoolT P t then
      match op with
      | .eql => kk (.bool (a == b))
      | .neq => kk (.bool (!(a == b)))
      | _ => none
    else none
  | .agg xs, .agg ys =>
    if P.eqGuardType P.depth t then none else
      match op with
      | .eql => (eqP P 20 t (.agg xs) (.agg ys)).bind fun b => kk (.bool b)
      | .neq => (eqP P 20 t (.agg xs) (.agg ys)).bind fun b => kk (.bool (!b))
      | _ => none
  | x, y =>
    match oy with
    | .const c =>
      match op with
      | .eql => (nilCmp P t x c).bind fun b => kk (.bool b)
      | .neq => (nilCmp P t x c).bind fun b => kk (.bool (!b))
      | _ => none
    | _ => none
def pun {R : Type} (op : UnOp) (x : PV) (kk : PV → Option R) : Option R :=
  match op, x with
  | .neg, .int k n => kk (.int k (k.wrap (0 - n)))
  | .xor, .int k n => kk (.int k (k.wrap (BitVec.ofInt k.bits (if k.signed then -1 else k.max) ^^^ BitVec.ofInt k.bits n).toNat))
  | .not, .bool b => kk (.bool (!b))
  | _, _ => none
/-- cells that are bytes -/
def pbytes : List PV → Option (List UInt8)
  | [] => some []
  | x :: xs => (x.asInt .u8).bind fun n => (pbytes xs).bind fun l => some (UInt8.ofNat n.toNat :: l)
def bytePV (c : UInt8) : PV := .int .u8 c.toNat
def pconv {R : Type} (P : Program) (src dst : TypeId) (x : PV) (kk : PV → Option R) : Option R :=
  match P.underlying src, P.underlying dst, x with
  | some (.int _), some (.int k), .int _ n => kk (.int k (k.wrap n))
  | some .string, some .string, .str s => kk (.str s)
  | some .string, some (.slice e), .str s =>
    match P.underlying e with
    | some (.int .u8) => if szOf P e = 1 then bif decide (s.length ≤ 9223372036854775807) then kk (.sl (some false) 1 s.length (s.map bytePV)) else none else none
    | _ => none
  | some (.slice e), some .string, .sl _ sz n cells =>
    match P.underlying e with
    | some (.int .u8) => if sz = 1 then (pbytes cells).bind fun l => kk (.str l) else none
    | _ => none
  | _, _, _ => none

/-- a bound of a slice expression: between 0 and m -/
def pbound {R : Type} (x : PV) (m : Nat) (kk : Nat → Option R) : Option R :=
  match x with
  | .int _ i => bif decide (0 ≤ i) && decide (i ≤ m) then kk i.toNat else none
  | _ => none
def pboundO {R : Type} (x : Option PV) (dflt m : Nat) (kk : Nat → Option R) : Option R :=
  match x with
  | some x => pbound x m kk
  | none => kk dflt
def pslice {R : Type} (P : Program) (t : TypeId) (x : PV) (lo hi mx : Option PV) (kk : TV → Option R) : Option R :=
  match P.underlying t, x with
  | some .string, .str s =>
    match mx with
    | some _ => none
    | none => pboundO hi s.length s.length fun h => pboundO lo 0 h fun l => kk (.str ((s.take h).drop l), 0)
  | some (.slice e), .sl nl sz n cells =>
    if szOf P e = sz then
      match mx with
      | some m => pbound m n fun m => pboundO (hi.or (some .undef)) m m fun h => pboundO lo 0 h fun l => kk (.sl nl sz (h - l) ((cells.take (h * sz)).drop (l * sz)), if h = m then 1 else 0)
      | none => pboundO hi n n fun h => pboundO lo 0 h fun l => kk (.sl nl sz (h - l) ((cells.take (h * sz)).drop (l * sz)), 0)
    else none
  | _, _ => none
def fieldsOf (P : Program) (t : TypeId) : Option (Array Field) :=
  match P.underlying t with
  | some (.struct fs) => some fs
  | _ => none
/-- the cells of a value that is stored or boxed -/
def pcells (x : TV) : Option (List TV) :=
  match x with
  | (.agg cs, _) => some (cs.map fun y => (y, 0))
  | (.bool b, _) => some [(.bool b, 0)]
  | (.int k n, _) => some [(.int k n, 0)]
  | (.str s, _) => some [(.str s, 0)]
  | (.sl nl sz n cs, c) => some [(.sl nl sz n cs, c)]
  | (.nilptr, _) => some [(.nilptr, 0)]
  | (.nptr, _) => some [(.nptr, 0)]
  | (.nilIface, _) => some [(.nilIface, 0)]
  | (.iface t v, _) => some [(.iface t v, 0)]
  | (.nilFunc, _) => some [(.nilFunc, 0)]
  | _ => none
/-- parts laid into cells -/
def pfill (cells : List PV) : List (Nat × List PV) → Option (List PV)
  | [] => some cells
  | (off, cs) :: rest => if off + cs.length ≤ cells.length then pfill (cells.take off ++ cs ++ cells.drop (off + cs.length)) rest else none
def allData (cs : List TV) : Bool := cs.all fun x => x.1.data
def pbuildParts (en : Env) (st : St) (place : Nat → Option (Nat × Nat × TypeId)) : List (Nat × Operand) → Option (List (Nat × List PV))
  | [] => some []
  | (i, x) :: rest =>
    match place i with
    | some (off, sz, t) =>
      match pcells (ev en st t x) with
      | some cs => if cs.length = sz && allData cs then (pbuildParts en st place rest).map fun r => (off, cs.map (·.1)) :: r else none
      | none => none
    | none => none

def roomB : Nat := 140737488355328
def pbuiltin {R : Type} (P : Program) (b : Builtin) (ts : Array TypeId) (xs : List TV) (kk : PAct → Option R) : Option R :=
  match b, xs with
  | .len, [x] =>
    match ts[0]?.bind P.underlying, x.1 with
    | some .string, .str s => kk (.val (.int .i64 s.length) 0)
    | some (.slice _), .sl _ _ n _ => kk (.val (.int .i64 n) 0)
    | some (.array n _), _ => kk (.val (.int .i64 n) 0)
    | _, _ => none
  | .max, [x, y] =>
    match x.1, y.1 with
    | .int k a, .int _ b => kk (.val (.int k (if b > a then b else a)) 0)
    | _, _ => none
  | .min, [x, y] =>
    match x.1, y.1 with
    | .int k a, .int _ b => kk (.val (.int k (if b < a then b else a)) 0)
    | _, _ => none
  | .append, [s, x] =>
    match ts[0]?.bind (elemT P), s.1 with
    | some e, .sl nl sz n cells =>
      if szOf P e = sz && decide (0 < sz) && decide (s.2 ≠ 0) && (zeroPV P e).isSome then
        match (ts[1]?).bind P.underlying, x.1 with
        | some (.slice e'), .sl _ sz' m cells' =>
          if sz' = sz then
            bif decide (n + m ≤ 9223372036854775807) && decide ((n + m) * bytesOf P e ≤ roomB) then kk (.own s.2 (.sl (nl.map (· && (m == 0))) sz (n + m) (cells ++ cells'))) else none
          else none
        | _, _ => none
      else none
    | _, _ => none
  | _, _ => none
def argTVs (en : Env) (st : St) : List Operand → List TypeId → List TV
  | [], _ => []
  | x :: xs, ts => ev en st (ts.headD 0) x :: argTVs en st xs ts.tail

def presolve {R : Type} (en : Env) (st : St) (o : Oper) (kk : PAct → Option R) : Option R :=
  match o.op with
  | .move x => kk (.val (ev en st o.type x).1 (if isSliceT en.P o.type then (ev en st o.type x).2 else 0))
  | .assign x => kk (.val (ev en st o.type x).1 (if isSliceT en.P o.type then (ev en st o.type x).2 else 0))
  | .pick c a b =>
    match (ev en st o.type c).1 with
    | .bool cb =>
      match (ev en st o.type a).1, (ev en st o.type b).1 with
      | .bool x, .bool y => kk (.val (.bool (bif cb then x else y)) 0)
      | x, y => bif cb then kk (.val x 0) else kk (.val y 0)
    | _ => none
  | .binOp op t x y yt => pbin en.P op t x y (ev en st t x).1 (ev en st t y).1 fun v => kk (.val v 0)
  | .unOp op t x => pun op (ev en st t x).1 fun v => kk (.val v 0)
  | .convert s d x => pconv en.P s d (ev en st s x).1 fun v => kk (.val v 0)
  | .slice t x lo hi mx => pslice en.P t (ev en st t x).1 (lo.map fun y => (ev en st 0 y).1) (hi.map fun y => (ev en st 0 y).1) (mx.map fun y => (ev en st 0 y).1) fun v => kk (.val v.1 v.2)
  | .field t x f =>
    match (fieldsOf en.P t).bind (·[f]?), (ev en st t x).1 with
    | some fd, .agg cs => ppart en.P fd.type cs fd.offset fun v => kk (.val v 0)
    | _, _ => none
  | .index t x i =>
    match en.P.underlying t, (ev en st t x).1, (ev en st 0 i).1 with
    | some .string, .str s, .int _ i => bif decide (0 ≤ i) && decide (i < s.length) then s[i.toNat]?.bind fun c => kk (.val (bytePV c) 0) else none
    | some (.array n e), .agg cs, .int _ i => bif decide (0 ≤ i) && decide (i < n) then ppart en.P e cs (i.toNat * szOf en.P e) fun v => kk (.val v 0) else none
    | _, _, _ => none
  | .fieldAddr t x f =>
    match (fieldsOf en.P t).bind (·[f]?), (ev en st t x).1 with
    | some fd, .ptr id off => if szOf en.P fd.type = 0 then none else kk (.val (.ptr id (off + fd.offset)) 0)
    | some fd, .eptr cs => if szOf en.P fd.type = 0 then none else kk (.val (.eptr (cs.drop fd.offset)) 0)
    | _, _ => none
  | .indexAddr t x i =>
    match en.P.underlying t, (ev en st t x).1, (ev en st 0 i).1 with
    | some (.slice e), .sl nl sz n cells, .int _ i =>
      if szOf en.P e = sz && decide (0 < sz) then bif decide (0 ≤ i) && decide (i < n) then kk (.val (.eptr ((cells.drop (i.toNat * sz)).take sz)) 0) else none else none
    | some (.array n e), .ptr id off, .int _ i => bif decide (0 ≤ i) && decide (i < n) then kk (.val (.ptr id (off + i.toNat * szOf en.P e)) 0) else none
    | some (.array n e), .eptr cs, .int _ i => bif decide (0 ≤ i) && decide (i < n) then kk (.val (.eptr (cs.drop (i.toNat * szOf en.P e))) 0) else none
    | _, _, _ => none
  | .load t a =>
    match (ev en st t a).1 with
    | .ptr id off => kk (.load id off (szOf en.P t) (isAggT en.P t))
    | .eptr cs => if (tysOf en.P t).length = szOf en.P t then
        refineL (tysOf en.P t) cs fun r => if isAggT en.P t then kk (.val (.agg r) 0) else match r with
          | [x] => kk (.val x 0)
          | _ => none
      else none
    | _ => none
  | .store t a x =>
    match (ev en st t a).1, pcells (ev en st t x) with
    | .ptr id off, some cs => if cs.length = szOf en.P t && allData cs then kk (.store id off cs) else none
    | _, _ => none
  | .alloc t =>
    match zeroPV en.P t with
    | some cs => kk (.mk (cs.map fun x => (x, 0)))
    | none => none
  | .box t x =>
    match pcells (ev en st t x) with
    | some cs => if allData cs then kk (.mk cs) else none
    | none => none
  | .nilCheck x =>
    match ev en st 0 x with
    | (.ptr id off, c) => kk (.val (.ptr id off) 0)
    | (.eptr cs, c) => kk (.val (.eptr cs) 0)
    | (.clo f cs, c) => kk (.val (.clo f cs) 0)
    | _ => none
  | .build t parts =>
    match zeroPV en.P t with
    | some z =>
      match en.P.underlying t with
      | some (.struct fs) =>
        match pbuildParts en st (fun i => fs[i]?.map fun f => (f.offset, szOf en.P f.type, f.type)) parts.toList with
        | some ps => match pfill z ps with
          | some cs => kk (.val (.agg cs) 0)
          | none => none
        | none => none
      | some (.array n e) =>
        match pbuildParts en st (fun i => some (i * szOf en.P e, szOf en.P e, e)) parts.toList with
        | some ps => match pfill z ps with
          | some cs => kk (.val (.agg cs) 0)
          | none => none
        | none => none
      | _ => none
    | none => none
  | .buildSlice t len parts =>
    match elemT en.P t with
    | some e =>
      if len * szOf en.P e ≤ 1000 then
        match zeroPV en.P e with
        | some z => if z.length = szOf en.P e && decide (0 < szOf en.P e) then
            match pbuildParts en st (fun i => some (i * szOf en.P e, szOf en.P e, e)) parts.toList with
            | some ps => match pfill ((List.replicate len z).flatten) ps with
              | some cs => kk (.val (.sl (some false) (szOf en.P e) len cs) 1)
              | none => none
            | none => none
          else none
        | none => none
      else none
    | none => none
  | .makeSlice t l c =>
    match elemT en.P t, (ev en st 0 l).1, (ev en st 0 c).1 with
    | some e, .int _ n, .int _ m =>
      match zeroPV en.P e with
      | some z =>
        if z.length = szOf en.P e && decide (0 < szOf en.P e) then
          bif decide (0 ≤ n) && decide (n ≤ m) && decide (m * bytesOf en.P e ≤ roomB) && decide (m ≤ 9223372036854775807) then kk (.own 0 (.sl (some false) (szOf en.P e) n.toNat ((List.replicate n.toNat z).flatten))) else none
        else none
      | none => none
    | _, _, _ => none
  | .extract x i =>
    match (ev en st 0 x).1 with
    | .tuple vs => vs[i]?.bind fun v => if v.data then kk (.val v 0) else none
    | _ => none
  | .makeInterface t x =>
    if isIfaceT en.P t then none else
    match (ev en st t x).1 with
    | v => if v.data then kk (.val (.iface t v) 0) else none
  | .call c =>
    match c.callee with
    | .builtin b => pbuiltin en.P b c.argTypes (argTVs en st c.args.toList c.argTypes.toList) kk
    | .value f =>
      match (ev en st 0 f).1 with
      | .clo fid [] =>
        match en.E fid with
        | some fn =>
          if allData (argTVs en st c.args.toList c.argTypes.toList) then fn.F ((argTVs en st c.args.toList c.argTypes.toList).map (·.1)) fun v => if fn.own then kk (.own 0 v) else kk (.val v 0) else none
        | none => none
      | _ => none
    | .invoke _ _ => none
  | _ => none

/-- what the proofs ask of a type and of those that it is made of -/
def typeOK (P : Program) (t : TypeId) : Bool :=
  match P.underlying t with
  | some (.slice e) => (P.underlying e).isSome
  | some (.array _ e) => (P.underlying e).isSome
  | some (.struct fs) => fs.all fun f => (P.underlying f.type).isSome
  | some _ => true
  | none => false
def opOK (P : Program) (o : Oper) : Bool :=
  match o.op with
  | .load t _ => typeOK P t && (isAggT P t || szOf P t == 1)
  | .store t _ _ => typeOK P t
  | .build t _ => typeOK P t
  | .buildSlice t _ _ => typeOK P t
  | .makeSlice t _ _ => typeOK P t
  | .slice t _ _ _ _ => typeOK P t
  | .fieldAddr t _ _ => typeOK P t
  | .field t _ _ => typeOK P t
  | .indexAddr t _ _ => typeOK P t
  | .index t _ _ => typeOK P t
  | .makeInterface t _ => typeOK P t
  | .call c => match c.argTypes[0]? with
    | some t => typeOK P t
    | none => true
  | _ => true

/-! ## acts -/
def putS (d : Option Tmp) (v : TV) (st : St) : St :=
  match d with
  | some d => { st with ρ := st.ρ.set d v }
  | none => st
def clr (c : Nat) (x : TV) : TV := if c = x.2 && decide (2 ≤ c) then (x.1, 0) else x
def St.clr (c : Nat) (st : St) : St := ⟨st.ρ.map (Go.Proofs.YtllpobcecingiaaGreatDoor.clr c), st.bx.map (Option.map (List.map (Go.Proofs.YtllpobcecingiaaGreatDoor.clr c)))⟩
/-- what an act that writes its own slot alone writes there -/
def actVal (act : PAct) (bx : List (Option (List TV))) : Option TV :=
  match act with
  | .skip => some (.tuple [], 0)
  | .val v c => some (v, c)
  | .load id off n agg =>
    match bx[id]? with
    | some (some cs) => if agg then if off + n ≤ cs.length then some (.agg (((cs.take (off + n)).drop off).map (·.1)), 0) else none else cs[off]?
    | _ => none
  | _ => none
def papply (act : PAct) (d : Option Tmp) (st : St) : Option St :=
  match act with
  | .store id off cells =>
    match st.bx[id]?, d with
    | some (some cs), none => if off + cells.length ≤ cs.length then some { st with bx := st.bx.set id (some (cs.take off ++ cells ++ cs.drop (off + cells.length))) } else none
    | _, _ => none
  | .mk cells =>
    match d with
    | some d => match st.bx[d]? with
      | some none => some ⟨st.ρ.set d (.ptr d 0, 0), st.bx.set d (some cells)⟩
      | _ => none
    | none => none
  | .own c v =>
    match d with
    | some d => some ⟨((st.clr c).clr (d + 2)).ρ.set d (v, d + 2), ((st.clr c).clr (d + 2)).bx⟩
    | none => none
  | .skip => (actVal .skip st.bx).map fun x => putS d x st
  | .val v c => (actVal (.val v c) st.bx).map fun x => putS d x st
  | .load id off n agg => (actVal (.load id off n agg) st.bx).map fun x => putS d x st

/-! ## regions -/
def pguard {R : Type} (ops : Array Oper) (o : Oper) (st : St) (kT kF : St → Option R) : Option R :=
  match o.guard with
  | none => kT st
  | some (j, want) =>
    match (ops[j]?).bind (·.dst) with
    | none => kF st
    | some t =>
      match st.ρ[t]? with
      | some (.bool b, c) => bif b then (if want then kT { st with ρ := st.ρ.set t (.bool true, c) } else kF { st with ρ := st.ρ.set t (.bool true, c) }) else (if want then kF { st with ρ := st.ρ.set t (.bool false, c) } else kT { st with ρ := st.ρ.set t (.bool false, c) })
      | some (.tuple [], _) => kF st
      | _ => none
def pops {R : Type} (en : Env) (ops : Array Oper) : List Oper → List PAct → St → (St → List PAct → Option R) → Option R
  | [], acc, st, k => k st acc
  | o :: rest, acc, st, k => pguard ops o st
      (fun st => presolve en st o fun act => match papply act o.dst st with
        | some st' => pops en ops rest (act :: acc) st' k
        | none => none)
      (fun st => pops en ops rest (.skip :: acc) (putS o.dst (.tuple [], 0) st) k)

/-! ### regions without a copy for each guard -/
def isVal : PAct → Bool
  | .skip => true
  | .val _ _ => true
  | .load _ _ _ _ => true
  | _ => false
def isOwn : PAct → Bool
  | .own _ _ => true
  | _ => false
/-- slots that hold what they are said to hold only if a truth value is true, and nothing else -/
abbrev OS := List (Nat × Bool)
def optOf (os : OS) : Operand → Option Bool
  | .tmp t => os.lookup t
  | _ => none
def resT (os : OS) (t : Nat) (x : TV) : TV :=
  match os.lookup t with
  | none => x
  | some b => bif b then x else (.tuple [], 0)
def mapIdx {α β : Type} (f : Nat → α → β) : Nat → List α → List β
  | _, [] => []
  | i, x :: xs => f i x :: mapIdx f (i + 1) xs
def resS (os : OS) (st : St) : St :=
  match os with
  | [] => st
  | os => ⟨mapIdx (resT os) 0 st.ρ, st.bx⟩
def conjB : List Bool → Bool
  | [] => true
  | [b] => b
  | b :: bs => bif b then conjB bs else false
/-- 'slot, truth value' pairs under which an optional slot is there -/
abbrev LS := List (Nat × List (Nat × Bool))
def subL (l L : List (Nat × Bool)) : Bool := l.all fun p => L.any fun q => p.1 == q.1 && p.2 == q.2
/-- the truth value that is wanted for an operand, if it isn't implied by 'L' -/
def trimO (os : OS) (ls : LS) (L : List (Nat × Bool)) : Operand → Option Bool
  | .tmp t => match ls.lookup t with
    | some l => if subL l L then none else os.lookup t
    | none => os.lookup t
  | _ => none
def litC (c : Operand) (b : Bool) (L : List (Nat × Bool)) : List (Nat × Bool) :=
  match c with
  | .tmp t => (t, b) :: L
  | _ => L
/-- what must be true for an operation's operands to be there -/
def needOf (en : Env) (st : St) (os : OS) (ls : LS) (L : List (Nat × Bool)) (o : Oper) : List Bool :=
  match o.op with
  | .pick c a b =>
    match (ev en st o.type c).1 with
    | .bool cb => (trimO os ls L c).toList ++ (match trimO os ls (litC c true L) a, trimO os ls (litC c false L) b with
      | none, none => []
      | x, y => [bif cb then x.getD true else y.getD true])
    | _ => []
  | op => op.operands.toList.filterMap (trimO os ls L)
def delL (d : Option Tmp) (ls : LS) : LS :=
  match d with
  | some d => ls.filter fun q => q.1 != d && !q.2.any (fun p => p.1 == d)
  | none => ls
def setL (d : Option Tmp) (l : Option (List (Nat × Bool))) (ls : LS) : LS :=
  match d, l with
  | some d, some l => if l.any (fun p => p.1 == d) then ls else (d, l) :: ls
  | _, _ => ls
def litOf (os : OS) (ls : LS) (t : Nat) (want : Bool) : Option (List (Nat × Bool)) :=
  match os.lookup t with
  | none => some [(t, want)]
  | some _ => (ls.lookup t).map fun l => (t, want) :: l
def ifNeed {R : Type} (l : List Bool) (x : Option R) : Option R :=
  match l with
  | [] => x
  | l => bif conjB l then x else none
def ifNeedG {R : Type} (g : Bool) (l : List Bool) (x : Option R) : Option R :=
  match l with
  | [] => x
  | l => bif (bif g then conjB l else true) then x else none
def delO (d : Option Tmp) (os : OS) : OS :=
  match d with
  | some d => os.filter fun p => p.1 != d
  | none => os
def setO (d : Option Tmp) (g : Bool) (os : OS) : OS :=
  match d with
  | some d => (d, g) :: os
  | none => os
/-- an operation that may be done before it is known whether it is wanted -/
def lazyOp (P : Program) (o : Oper) : Bool :=
  match o.op with
  | .move _ => !isSliceT P o.type
  | .assign _ => !isSliceT P o.type
  | .pick _ _ _ => true
  | .binOp op t _ _ _ =>
    match op with
    | .quo => false
    | .rem => false
    | .shl => false
    | .shr => false
    | .add => !(match P.underlying t with | some .string => true | _ => false)
    | _ => true
  | .unOp _ _ _ => true
  | .convert s d _ => match P.underlying s, P.underlying d with
    | some (.int _), some (.int _) => true
    | _, _ => false
  | .field _ _ _ => true
  | .extract _ _ => true
  | .load _ _ => true
  | .fieldAddr _ _ _ => true
  | .call c => match c.callee with
    | .builtin .len => true
    | .builtin .min => true
    | .builtin .max => true
    | _ => false
  | _ => false
def guardB (ob : Option Bool) (want x : Bool) : Bool :=
  match ob with
  | none => if want then x else !x
  | some b => bif b then (if want then x else !x) else false
/-- what is written into a slot that isn't there -/
def junkV (P : Program) (t : TypeId) : TV :=
  match P.underlying t with
  | some .bool => (.bool false, 0)
  | some (.int k) => (.int k 0, 0)
  | some .string => (.str [], 0)
  | _ => (.tuple [], 0)
/-- the pairs are so: what is known then -/
def know1 (p : Nat × Bool) (so : St × OS) : St × OS :=
  match so.1.ρ[p.1]? with
  | some (.bool _, c) => ({ so.1 with ρ := so.1.ρ.set p.1 (.bool p.2, c) }, delO (some p.1) so.2)
  | _ => so
def knowL : List (Nat × Bool) → St × OS → St × OS
  | [], so => so
  | p :: l, so => know1 p (knowL l so)
def dropL (L : List (Nat × Bool)) (ls : LS) : LS := ls.filter fun q => !L.any fun p => p.1 == q.1
def popsQ {R : Type} (en : Env) (ops : Array Oper) : List Oper → List PAct → St → OS → LS → OS → (St → List PAct → Option R) → Option R
  | [], acc, st, os, _, _, k => k (resS os st) acc
  | o :: rest, acc, st, os, ls, kn, k =>
    match o.guard with
    | none => ifNeed (needOf en st os ls [] o) (presolve en st o fun act =>
        if os.isEmpty || !isOwn act then match papply act o.dst st with
          | some st' => popsQ en ops rest (act :: acc) st' (delO o.dst os) (if isVal act then delL o.dst ls else []) kn k
          | none => none
        else none)
    | some (j, want) =>
      match (ops[j]?).bind (·.dst) with
      | none => popsQ en ops rest (.skip :: acc) (putS o.dst (.tuple [], 0) st) (delO o.dst os) (delL o.dst ls) kn k
      | some t =>
        match st.ρ[t]? with
        | some (.tuple [], _) => match os.lookup t with
          | none => popsQ en ops rest (.skip :: acc) (putS o.dst (.tuple [], 0) st) (delO o.dst os) (delL o.dst ls) kn k
          | some _ => none
        | some (.bool x, c) =>
          match kn.lookup t, os.lookup t with
          | some b, none => bif x == b then
              (if b == want then ifNeed (needOf en st os ls [(t, want)] o) (presolve en st o fun act =>
                if os.isEmpty || !isOwn act then match papply act o.dst st with
                  | some st' => popsQ en ops rest (act :: acc) st' (delO o.dst os) (if isVal act then delL o.dst ls else []) kn k
                  | none => none
                else none)
              else popsQ en ops rest (.skip :: acc) (putS o.dst (.tuple [], 0) st) (delO o.dst os) (delL o.dst ls) kn k) else none
          | some w, some b =>
            if w == want then
              bif guardB (some b) want x then none
              else popsQ en ops rest (.skip :: acc) (putS o.dst (junkV en.P o.type) st) (setO o.dst false os) (setL o.dst (litOf os ls t want) (delL o.dst ls)) kn k
            else none
          | none, ob =>
            if lazyOp en.P o then
              ifNeedG (guardB ob want x) (needOf en st os ls ((litOf os ls t want).getD []) o) (presolve en st o fun act =>
                if isVal act then match actVal act st.bx with
                  | some v => popsQ en ops rest (act :: acc) (putS o.dst v st) (setO o.dst (guardB ob want x) os) (setL o.dst (litOf os ls t want) (delL o.dst ls)) kn k
                  | none => none
                else none)
            else match ob with
              | some b =>
                bif guardB (some b) want x then
                  ifNeed (needOf en (knowL ((litOf os ls t want).getD []) (st, os)).1 (knowL ((litOf os ls t want).getD []) (st, os)).2 (dropL ((litOf os ls t want).getD []) ls) ((litOf os ls t want).getD []) o) (presolve en (knowL ((litOf os ls t want).getD []) (st, os)).1 o fun act =>
                    if (knowL ((litOf os ls t want).getD []) (st, os)).2.isEmpty || !isOwn act then match papply act o.dst (knowL ((litOf os ls t want).getD []) (st, os)).1 with
                      | some st' => popsQ en ops rest (act :: acc) st' (delO o.dst (knowL ((litOf os ls t want).getD []) (st, os)).2) (if isVal act then delL o.dst (dropL ((litOf os ls t want).getD []) ls) else []) (((litOf os ls t want).getD []) ++ kn) k
                      | none => none
                    else none)
                else popsQ en ops rest (.skip :: acc) (putS o.dst (junkV en.P o.type) st) (setO o.dst false os) (setL o.dst (litOf os ls t want) (delL o.dst ls)) ((t, want) :: kn) k
              | none =>
                bif (if want then x else !x) then ifNeed (needOf en { st with ρ := st.ρ.set t (.bool want, c) } os ls [(t, want)] o) (presolve en { st with ρ := st.ρ.set t (.bool want, c) } o fun act =>
                  if os.isEmpty || !isOwn act then match papply act o.dst { st with ρ := st.ρ.set t (.bool want, c) } with
                    | some st' => popsQ en ops rest (act :: acc) st' (delO o.dst os) (if isVal act then delL o.dst ls else []) ((t, want) :: kn) k
                    | none => none
                  else none)
                else popsQ en ops rest (.skip :: acc) (putS o.dst (.tuple [], 0) { st with ρ := st.ρ.set t (.bool (!want), c) }) (delO o.dst os) (delL o.dst ls) ((t, !want) :: kn) k
        | _ => none

/-- the claims' names make no difference to what it does -/
def tagFree (P : Program) (o : Oper) : Bool :=
  match o.op with
  | .move _ => !isSliceT P o.type
  | .assign _ => !isSliceT P o.type
  | .store _ _ _ => false
  | .box _ _ => false
  | .call c => match c.callee with
    | .builtin .append => false
    | _ => true
  | _ => true
/-- two acts that may come in either order (their places being apart) -/
def indep (di dj : Option Tmp) (fi fj : Bool) : PAct → PAct → Bool
  | .skip, _ => true
  | _, .skip => true
  | .val _ _, .val _ _ => true
  | .val _ _, .load _ _ _ _ => true
  | .val _ _, .store _ _ _ => true
  | .val _ _, .mk _ => true
  | .val _ t, .own _ _ => fi && decide (t ≤ 1)
  | .load _ _ _ _, .val _ _ => true
  | .load _ _ _ _, .load _ _ _ _ => true
  | .load i _ _ _, .store j _ _ => i != j
  | .load i _ _ _, .mk _ => dj != some i
  | .load _ _ _ _, .own _ _ => fi
  | .store _ _ _, .val _ _ => true
  | .store i _ _, .load j _ _ _ => i != j
  | .store i _ _, .store j _ _ => i != j
  | .store i _ _, .mk _ => dj != some i
  | .store _ _ _, .own _ _ => false
  | .mk _, .val _ _ => true
  | .mk _, .load i _ _ _ => di != some i
  | .mk _, .store i _ _ => di != some i
  | .mk _, .mk _ => true
  | .mk _, .own _ _ => false
  | .own _ _, .val _ t => fj && decide (t ≤ 1)
  | .own _ _, .load _ _ _ _ => fj
  | .own _ _, .store _ _ _ => false
  | .own _ _, .mk _ => false
  | .own _ _, .own _ _ => false
def actAt (acts : List PAct) (i : Nat) : PAct := acts.getD i .skip
def waitsFor (o : Oper) (i : Nat) : Bool := o.after.any fun e => Region.binds .any e && e.on == i
def indepAt (P : Program) (ops : Array Oper) (acts : List PAct) (i j : Nat) : Bool :=
  match ops[i]?, ops[j]? with
  | some oi, some oj => waitsFor oj i || indep oi.dst oj.dst (tagFree P oi) (tagFree P oj) (actAt acts i) (actAt acts j)
  | _, _ => true
def indepAll (P : Program) (ops : Array Oper) (acts : List PAct) : Bool :=
  (List.range ops.size).all fun i => (List.range ops.size).all fun j => decide (j ≤ i) || indepAt P ops acts i j
def pregion {R : Type} (en : Env) (ops : Array Oper) (draw : Bool) (st : St) (k : St → Option R) : Option R :=
  if ops.toList.all (opOK en.P) then
    if draw then
      if Region.lexB .any ops then popsQ en ops ops.toList [] st [] [] [] fun st' acts => if indepAll en.P ops acts.reverse then k st' else none else none
    else popsQ en ops ops.toList [] st [] [] [] fun st' _ => k st'
  else none

/-! ## code -/
/-- what is kept: slots (with their claim, or without), and boxes -/
structure Keep where
  slots : List (Nat × Bool)
  boxes : List Nat
def keptPV (bs : List Nat) : PV → PV
  | .ptr id off => if bs.contains id then .ptr id off else .undef
  | .clo f [] => .clo f []
  | .clo _ _ => .undef
  | x => x
/-- names of the claims that are kept -/
def keptTags (kp : Keep) (st : St) : List Nat := kp.slots.filterMap fun p => if p.2 then (match st.ρ[p.1]? with | some x => if 2 ≤ x.2 then some x.2 else none | none => none) else none
def distinct : List Nat → Bool
  | [] => true
  | x :: xs => !xs.contains x && distinct xs
def normSlot (kp : Keep) (n t : Nat) (x : TV) : TV :=
  match kp.slots.lookup t with
  | none => (.undef, 0)
  | some want => (keptPV kp.boxes x.1, if want then (if x.2 = 0 then 0 else n + 2 + t) else 0)
def normOK (kp : Keep) (st : St) : Bool :=
  distinct (keptTags kp st) && kp.slots.all fun p => !p.2 || (match st.ρ[p.1]? with | some x => x.2 != 0 | none => false)
def normBox (kp : Keep) (id : Nat) (b : Option (List TV)) : Option (List TV) := if kp.boxes.contains id then b.map (List.map fun x => (x.1, 0)) else none
def pnorm {R : Type} (kp : Option Keep) (st : St) (k : St → Option R) : Option R :=
  match kp with
  | none => k st
  | some kp => if normOK kp st then k ⟨mapIdx (normSlot kp st.ρ.length) 0 st.ρ, mapIdx (normBox kp) 0 st.bx⟩ else none

def ploop {R : Type} (kp : Option Keep) (step : St → (St → Option R) → Option R) : Nat → St → Option R
  | 0, _ => none
  | n + 1, st => step st fun st' => pnorm kp st' fun st'' => ploop kp step n st''
/-- hints: what is kept at a block's end, and at the head of the loop in a block -/
structure Hints where
  block : List (Nat × Keep)
  loop : List (Nat × Keep)
def pcode {R : Type} (en : Env) (h : Hints) (fuel : Nat) (kr : St → Option R) : Code → Nat → St → (St → Option R) → List (Nat × (St → Option R)) → Option R
  | .skip, _, st, kn, _ => kn st
  | .region _ ops draw, _, st, kn, _ => pregion en ops draw st kn
  | .seq a b, cur, st, kn, kx => pcode en h fuel kr a cur st (fun st' => pcode en h fuel kr b cur st' kn kx) kx
  | .cond c a b, cur, st, kn, kx =>
    match (ev en st 0 c).1 with
    | .bool t => bif t then pcode en h fuel kr a cur st kn kx else pcode en h fuel kr b cur st kn kx
    | _ => none
  | .block id a, _, st, kn, kx => pcode en h fuel kr a id st (fun st' => pnorm (h.block.lookup id) st' kn) ((id, fun st' => pnorm (h.block.lookup id) st' kn) :: kx)
  | .loop a, cur, st, kn, kx => pnorm (h.loop.lookup cur) st fun st' => ploop (h.loop.lookup cur) (fun st kn' => pcode en h fuel kr a cur st kn' kx) fuel st'
  | .exit id, _, st, _, kx =>
    match kx.lookup id with
    | some k => k st
    | none => none
  | .ret, _, st, _, _ => kr st
  | .label _, _, st, kn, _ => kn st
  | _, _, _, _, _ => none

/-- the round of the loop at a path of the code (0: first part, body; 1: second part), with what follows it; 'kl': what follows a round of the loop around it -/
def stepAt {R : Type} (en : Env) (h : Hints) (fuel : Nat) (kr : St → Option R) : List Nat → Code → Nat → (St → Option R) → List (Nat × (St → Option R)) → (St → Option R) → St → (St → Option R) → Option R
  | 0 :: p, .seq a b, cur, kn, kx, kl => stepAt en h fuel kr p a cur (fun st' => pcode en h fuel kr b cur st' kn kx) kx kl
  | _ :: p, .seq _ b, cur, kn, kx, kl => stepAt en h fuel kr p b cur kn kx kl
  | 0 :: p, .cond _ a _, cur, kn, kx, kl => stepAt en h fuel kr p a cur kn kx kl
  | _ :: p, .cond _ _ b, cur, kn, kx, kl => stepAt en h fuel kr p b cur kn kx kl
  | _ :: p, .block id a, _, kn, kx, kl => stepAt en h fuel kr p a id (fun st' => pnorm (h.block.lookup id) st' kn) ((id, fun st' => pnorm (h.block.lookup id) st' kn) :: kx) kl
  | _ :: p, .loop a, cur, _, kx, kl => stepAt en h fuel kr p a cur kl kx kl
  | [], .loop a, cur, _, kx, _ => fun st kn' => pcode en h fuel kr a cur st kn' kx
  | _, _, _, _, _, _ => fun _ _ => none
/-- slots and boxes written out, all else unknown -/
def frame (n : Nat) (l : List (Nat × TV)) (b : List (Nat × List TV)) : St := ⟨(List.range n).map fun t => (l.lookup t).getD (.undef, 0), (List.range n).map fun t => b.lookup t⟩

/-! ## functions -/
def presult (en : Env) (st : St) : ResultVar → Option PV
  | .tmp t => match st.ρ[t]? with
    | some x => if x.1.data then some x.1 else none
    | none => none
  | .cell a t => match st.ρ[a]? with
    | some (.ptr id off, _) =>
      match st.bx[id]? with
      | some (some cs) =>
        if typeOK en.P t && (isAggT en.P t || szOf en.P t == 1) then
          if isAggT en.P t then if off + szOf en.P t ≤ cs.length then some (.agg (((cs.take (off + szOf en.P t)).drop off).map (·.1))) else none
          else (cs[off]?).map (·.1)
        else none
      | _ => none
    | _ => none
def presults (en : Env) (st : St) : List ResultVar → Option (List PV)
  | [] => some []
  | r :: rs => match presult en st r with
    | some x => (presults en st rs).map (x :: ·)
    | none => none
/-- the result has a claim of its own -/
def pclaim (st : St) : List ResultVar → Bool
  | [.tmp t] => match st.ρ[t]? with
    | some (.sl _ _ _ _, c) => c != 0
    | _ => false
  | _ => false
def pfin (en : Env) (own : Bool) (fn : Func) (st : St) : Option PV :=
  if !own || pclaim st fn.results.toList then
    match presults en st fn.results.toList with
    | some [x] => some x
    | some xs => some (.tuple xs)
    | none => none
  else none
def st0 (n : Nat) (args : List PV) : St := ⟨args.map (fun x => (x, 0)) ++ List.replicate (n - args.length) (.tuple [], 0), List.replicate n none⟩
/-- the function's pure meaning -/
def prun (en : Env) (h : Hints) (fuel : Nat) (own : Bool) (fn : Func) (args : List PV) : Option PV :=
  match fn.body with
  | some c => pcode en h fuel (pfin en own fn) c 0 (st0 fn.ntmps args) (pfin en own fn) []
  | none => none

end Go.Proofs.YtllpobcecingiaaGreatDoor
