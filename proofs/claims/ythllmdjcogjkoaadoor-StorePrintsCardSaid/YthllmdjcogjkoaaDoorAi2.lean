/- The abstract machine: what an operation does that calls nothing. -/
import Derived.Test.YthllmdjcogjkoaaDoorAi1
namespace Go.Ai

def evalA (tm : List AV) : Operand → Option AV
  | .tmp t => some (tm.getD t undefA)
  | .const v => ofVal 4 v
  | .global _ => none
  | .func f => some (.func f [] [])

def cut (cs : List AV) (off n : Nat) : Option (List AV) := bif decide (off + n ≤ cs.length) then some ((cs.drop off).take n) else none
def splice (cs : List AV) (off : Nat) (ns : List AV) : List AV := cs.take off ++ (ns ++ cs.drop (off + ns.length))

def cellsAt (h : AH) (id : Nat) : Option (List AV) :=
  match h.get id with
  | some (.cells cs _) => some cs
  | some (.byt _ cs) => some cs
  | some (.var _ cs) => some cs
  | _ => none

def storeCellsA (h : AH) (id off : Nat) (ns : List AV) : Option AH :=
  match ns with
  | [] => some h
  | _ =>
    match h.get id with
    | some (.cells cs false) => bif decide (off + ns.length ≤ cs.length) && ns.all AV.one then some (h.set id (.cells (splice cs off ns) false)) else none
    | some (.var e cs) => bif decide (off + ns.length ≤ cs.length) && ns.all AV.one then some (h.set id (.var e (splice cs off ns))) else none
    | _ => none

def newVarA (h : AH) (v : AV) : Option (AV × AH) :=
  match v.box with
  | some cs => some (.ptr h.n 0, h.push (.cells cs false))
  | none => none

def boundA (x : Option AV) (most dflt : Nat) : Option Nat :=
  match x with
  | none => some dflt
  | some (.int _ i) => bif decide (0 ≤ i ∧ i ≤ (most : Int)) then some i.toNat else none
  | some _ => none

def fillA (place : Nat → Option (Nat × Nat)) (cells : List AV) : List (Nat × AV) → Option (List AV)
  | [] => some cells
  | (i, v) :: rest =>
    match place i, v.box with
    | some (off, size), some vs => bif decide (vs.length = size ∧ off + vs.length ≤ cells.length) then fillA place (splice cells off vs) rest else none
    | _, _ => none

def zerosA (z : List AV) (n : Nat) : List AV := (List.replicate n z).flatten

def mapOpt {α β : Type} (f : α → Option β) : List α → Option (List β)
  | [] => some []
  | a :: as => match f a, mapOpt f as with
    | some b, some bs => some (b :: bs)
    | _, _ => none
def optOpt {α β : Type} (f : α → Option β) : Option α → Option (Option β)
  | none => some none
  | some a => (f a).map some


section
variable (P : Program)

def szOf (t : TypeId) : Option Nat := (P.info? t).map (·.size)
def aggT (t : TypeId) : Option Bool :=
  match P.underlying t with
  | some (.struct _) => some true
  | some (.array _ _) => some true
  | some _ => some false
  | none => none
def zeroA (t : TypeId) : Option AV :=
  match P.info? t with
  | some i => match i.zero with
    | some v => ofVal 4 v
    | none => none
  | none => none
/-- The cells of a type's zero value, as many as the type has. -/
def zeroCellsA (t : TypeId) : Option (List AV) :=
  match zeroA P t, szOf P t with
  | some z, some n => match z.box with
    | some cs => bif decide (cs.length = n) then some cs else none
    | none => none
  | _, _ => none
/-- A struct that bears a pointer to its like at its head: its variables' types are kept. -/
def isBld (t : TypeId) : Bool :=
  match P.underlying t with
  | some (.struct fs) => match fs[0]? with
    | some f => match P.underlying f.type with
      | some (.pointer u) => u == t
      | _ => false
    | none => false
  | _ => false
def allocA (h : AH) (t : TypeId) (v : AV) : Option (AV × AH) :=
  bif isBld P t then
    match v.box with
    | some cs => some (.ptr h.n 0, h.push (.var t cs))
    | none => none
  else newVarA h v
def sliceElem (t : TypeId) : Option TypeId := match P.underlying t with | some (.slice e) => some e | _ => none

def partA (t : TypeId) (cs : List AV) (off : Nat) : Option AV :=
  match aggT P t, szOf P t with
  | some true, some n => some (.agg ((cs.drop off).take n))
  | some false, _ => cs[off]?
  | _, _ => none

def loadA (h : AH) (t : TypeId) (a : AV) : Option AV :=
  match a with
  | .ptr id off =>
    match cellsAt h id, aggT P t, szOf P t with
    | some cs, some true, some n => (cut cs off n).map .agg
    | some cs, some false, _ => cs[off]?
    | _, _, _ => none
  | .ipt cs off =>
    match aggT P t, szOf P t with
    | some true, some n => (cut cs off n).map .agg
    | some false, _ => cs[off]?
    | _, _ => none
  | _ => none

def storeA (h : AH) (t : TypeId) (a v : AV) : Option AH :=
  match a, v.box, szOf P t with
  | .ptr id off, some cs, some n => bif decide (cs.length = n) then storeCellsA h id off cs else none
  | _, _, _ => none

/-! ### Numbers, strings -/
def intBinA (op : BinOp) (k : IntKind) (a b : Int) : Option AV :=
  match op with
  | .add => some (.int k (k.wrap (a + b)))
  | .sub => some (.int k (k.wrap (a - b)))
  | .mul => some (.int k (k.wrap (a * b)))
  | .quo => bif decide (b = 0) then none else some (.int k (k.wrap (a.tdiv b)))
  | .rem => bif decide (b = 0) then none else some (.int k (a.tmod b))
  | .and => some (.int k (k.wrap (BitVec.ofInt k.bits a &&& BitVec.ofInt k.bits b).toNat))
  | .or => some (.int k (k.wrap (BitVec.ofInt k.bits a ||| BitVec.ofInt k.bits b).toNat))
  | .xor => some (.int k (k.wrap (BitVec.ofInt k.bits a ^^^ BitVec.ofInt k.bits b).toNat))
  | .andNot => some (.int k (k.wrap (BitVec.ofInt k.bits a &&& ~~~ BitVec.ofInt k.bits b).toNat))
  | .eql => some (.bool (a == b))
  | .neq => some (.bool (a != b))
  | .lss => some (.bool (decide (a < b)))
  | .leq => some (.bool (decide (a ≤ b)))
  | .gtr => some (.bool (decide (a > b)))
  | .geq => some (.bool (decide (a ≥ b)))
  | _ => none
def shiftA (op : BinOp) (k : IntKind) (a b : Int) : Option AV :=
  bif decide (b < 0) then none else
  match op with
  | .shl => some (.int k (k.wrap (a * 2 ^ (min b.toNat k.bits))))
  | .shr => some (.int k (a.fdiv (2 ^ (min b.toNat k.bits))))
  | _ => none
def strBinA (op : BinOp) (x y : ByteArray) : Option AV :=
  match op with
  | .add => bif decide (((x.size + y.size : Nat) : Int) > IntKind.i64.max) then none else some (.str (x ++ y))
  | .eql => some (.bool (x.toList == y.toList))
  | .neq => some (.bool !(x.toList == y.toList))
  | .lss => some (.bool (Op.bytesLess x.toList y.toList))
  | .leq => some (.bool (Op.bytesLess x.toList y.toList || x.toList == y.toList))
  | .gtr => some (.bool !(Op.bytesLess x.toList y.toList || x.toList == y.toList))
  | .geq => some (.bool !(Op.bytesLess x.toList y.toList))
  | _ => none

/-! ### Equality -/
def eqFieldsA (eq : TypeId → AV → AV → Option Bool) : List Field → List AV → List AV → Option Bool
  | [], _, _ => some true
  | f :: fs, xs, ys =>
    bif f.name != "_" then
      match partA P f.type xs f.offset, partA P f.type ys f.offset with
      | some a, some b => match eq f.type a b with
        | some true => eqFieldsA eq fs xs ys
        | some false => some false
        | none => none
      | _, _ => none
    else eqFieldsA eq fs xs ys
def eqArrA (eq : TypeId → AV → AV → Option Bool) (elem : TypeId) (n : Nat) (xs ys : List AV) : Nat → Nat → Option Bool
  | 0, _ => some true
  | k + 1, i =>
    match partA P elem xs (i * n), partA P elem ys (i * n) with
    | some a, some b => match eq elem a b with
      | some true => eqArrA eq elem n xs ys k (i + 1)
      | some false => some false
      | none => none
    | _, _ => none
def eqA : Nat → TypeId → AV → AV → Option Bool
  | 0, _, _, _ => none
  | d + 1, t, x, y =>
    match x, y with
    | .bool a, .bool b => match P.underlying t with | some .bool => some (a == b) | _ => none
    | .int k a, .int k' b => match P.underlying t with | some (.int _) => bif decide (k = k') then some (a == b) else none | _ => none
    | .str a, .str b => match P.underlying t with | some .string => some (a == b) | _ => none
    | .nilptr, .nilptr => match P.underlying t with | some (.pointer _) => some true | _ => none
    | .nilptr, .ptr _ _ => match P.underlying t with | some (.pointer _) => some false | _ => none
    | .ptr _ _, .nilptr => match P.underlying t with | some (.pointer _) => some false | _ => none
    | .niliface, .niliface => match P.underlying t with | some (.interface _) => some true | _ => none
    | .niliface, .iface _ _ => match P.underlying t with | some (.interface _) => some false | _ => none
    | .iface _ _, .niliface => match P.underlying t with | some (.interface _) => some false | _ => none
    | .nilslice, .nilslice => match P.underlying t with | some (.slice _) => some true | _ => none
    | .nilslice, .slice _ _ _ _ => match P.underlying t with | some (.slice _) => some false | _ => none
    | .slice _ _ _ _, .nilslice => match P.underlying t with | some (.slice _) => some false | _ => none
    | .nilslice, .empty _ _ _ => match P.underlying t with | some (.slice _) => some false | _ => none
    | .empty _ _ _, .nilslice => match P.underlying t with | some (.slice _) => some false | _ => none
    | .nilmap, .nilmap => match P.underlying t with | some (.map _ _) => some true | _ => none
    | .nilmap, .map _ => match P.underlying t with | some (.map _ _) => some false | _ => none
    | .map _, .nilmap => match P.underlying t with | some (.map _ _) => some false | _ => none
    | .nilfunc, .nilfunc => match P.underlying t with | some (.func _ _ _) => some true | _ => none
    | .nilfunc, .func _ _ _ => match P.underlying t with | some (.func _ _ _) => some false | _ => none
    | .func _ _ _, .nilfunc => match P.underlying t with | some (.func _ _ _) => some false | _ => none
    | .agg xs, .agg ys =>
      match P.underlying t with
      | some (.struct fields) => bif P.stoodInHeld t then none else eqFieldsA P (eqA d) fields.toList xs ys
      | some (.array len elem) => match szOf P elem with
        | some n => eqArrA P (eqA d) elem n xs ys len 0
        | none => none
      | _ => none
    | _, _ => none

def binA (op : BinOp) (t : TypeId) (x y : AV) : Option AV :=
  match x, y with
  | .int k a, .int k' b =>
    match op with
    | .shl | .shr => shiftA op k a b
    | _ => bif decide (k = k') then intBinA op k a b else none
  | .str a, .str b => strBinA op a b
  | x, y =>
    match op with
    | .eql => (eqA P 20 t x y).map .bool
    | .neq => (eqA P 20 t x y).map fun b => .bool !b
    | _ => none

/-- What the model asks ahead of an equality: no two nil values of an interface type meet, but for a written nil. -/
def guardAt (t : TypeId) (x y : Operand) (a b : AV) : Bool :=
  match a, b with
  | .niliface, .niliface => (match x with | .const _ => true | _ => false) || (match y with | .const _ => true | _ => false)
  | .agg _, .agg _ => !(P.eqGuardType P.depth t)
  | .other, _ => false
  | _, .other => false
  | _, _ => true
def guardA (op : BinOp) (t : TypeId) (x y : Operand) (a b : AV) : Bool :=
  match op with
  | .eql => guardAt P t x y a b
  | .neq => guardAt P t x y a b
  | _ => true

def unaryA (op : UnOp) (x : AV) : Option AV :=
  match op, x with
  | .neg, .int k n => some (.int k (k.wrap (0 - n)))
  | .xor, .int k n => some (.int k (k.wrap (BitVec.ofInt k.bits (if k.signed then -1 else k.max) ^^^ BitVec.ofInt k.bits n).toNat))
  | .not, .bool b => some (.bool !b)
  | _, _ => none

def convertA (src dst : TypeId) (x : AV) : Option AV :=
  match P.underlying src, P.underlying dst, x with
  | some _, some (.int k), .int _ n => some (.int k (k.wrap n))
  | some _, some .string, .str s => some (.str s)
  | _, _, _ => none

/-! ### Addresses, slices -/
def fieldAddrA (s : TypeId) (x : AV) (f : Nat) : Option AV :=
  match P.underlying s, x with
  | some (.struct fields), .ptr id off =>
    match fields[f]? with
    | some fd => match szOf P fd.type with
      | some (_ + 1) => some (.ptr id (off + fd.offset))
      | _ => none
    | none => none
  | some (.struct fields), .ipt cs off =>
    match fields[f]? with
    | some fd => match szOf P fd.type with
      | some (_ + 1) => some (.ipt cs (off + fd.offset))
      | _ => none
    | none => none
  | _, _ => none
def fieldA (t : TypeId) (x : AV) (f : Nat) : Option AV :=
  match P.underlying t, x with
  | some (.struct fields), .agg cs =>
    match fields[f]? with
    | some fd => partA P fd.type cs fd.offset
    | none => none
  | _, _ => none
def indexAddrA (t : TypeId) (x i : AV) : Option AV :=
  match i with
  | .int _ i =>
    match P.underlying t, x with
    | some (.slice e), .slice id off len _ => match szOf P e with
      | some n => bif decide (0 ≤ i ∧ i < (len : Int)) then some (.ptr id (off + i.toNat * n)) else none
      | none => none
    | some (.array len e), .ptr id off => match szOf P e with
      | some n => bif decide (0 ≤ i ∧ i < (len : Int)) then some (.ptr id (off + i.toNat * n)) else none
      | none => none
    | some (.slice e), .lst m cs => match szOf P e with
      | some n => bif decide (0 ≤ i ∧ i < (m : Int)) then some (.ipt cs (i.toNat * n)) else none
      | none => none
    | some (.array len e), .ipt cs off => match szOf P e with
      | some n => bif decide (0 ≤ i ∧ i < (len : Int)) then some (.ipt cs (off + i.toNat * n)) else none
      | none => none
    | _, _ => none
  | _ => none
def indexA (t : TypeId) (x i : AV) : Option AV :=
  match i with
  | .int _ i =>
    match P.underlying t, x with
    | some (.array len e), .agg cs => match szOf P e with
      | some n => bif decide (0 ≤ i ∧ i < (len : Int)) then partA P e cs (i.toNat * n) else none
      | none => none
    | some .string, .str s => match (if 0 ≤ i then s[i.toNat]? else none) with
      | some b => some (.int .u8 b.toNat)
      | none => none
    | _, _ => none
  | _ => none
def sliceA (t : TypeId) (x : AV) (low high mx : Option AV) : Option AV :=
  match P.underlying t with
  | some .string =>
    match x, mx with
    | .str s, none => match boundA high s.size s.size with
      | some h => match boundA low h 0 with
        | some l => some (.str (s.extract l h))
        | none => none
      | none => none
    | _, _ => none
  | some (.slice e) =>
    match szOf P e with
    | none => none
    | some n =>
      match x with
      | .nilslice => match mx, high with
        | some _, none => none
        | _, _ => match boundA mx 0 0, boundA high 0 0, boundA low 0 0 with
          | some _, some _, some _ => some .nilslice
          | _, _, _ => none
      | .slice id off len (.exact c) =>
        match mx, high with
        | some _, none => none
        | _, _ =>
          match boundA mx c c with
          | none => none
          | some m => match boundA high m len with
            | none => none
            | some h => match boundA low h 0 with
              | none => none
              | some l => some (.slice id (if m = l then off else off + l * n) (h - l) (.exact (m - l)))
      | .slice id off len (.rest z) =>
        bif decide (z = n) then
          match mx, high with
          | none, _ => match boundA high len len with
            | none => none
            | some h => match boundA low h 0 with
              | none => none
              | some l => bif decide (l = 0) then some (.slice id off h (.rest n)) else bif decide (l < h) then some (.slice id (off + l * n) (h - l) (.rest n)) else some (.empty id (off + l * n) n)
          | some _, none => none
          | some _, some _ => match boundA mx len 0 with
            | none => none
            | some m => match boundA high m 0 with
              | none => none
              | some h => match boundA low h 0 with
                | none => none
                | some l => some (.slice id (if m = l then off else off + l * n) (h - l) (.exact (m - l)))
        else none
      | .empty id off z => match boundA high 0 0, boundA low 0 0, mx with
        | some _, some _, none => some (.empty id off z)
        | _, _, _ => none
      | .lst m cs =>
        bif decide (cs.length = m * n) then
          match mx with
          | some _ => none
          | none => match boundA high m m with
            | none => none
            | some h => match boundA low h 0 with
              | none => none
              | some l => some (.lst (h - l) ((cs.drop (l * n)).take ((h - l) * n)))
        else none
      | _ => none
  | some (.array len e) =>
    match szOf P e, x with
    | some n, .ptr id off =>
      match mx, high with
      | some _, none => none
      | _, _ =>
        match boundA mx len len with
        | none => none
        | some m => match boundA high m len with
          | none => none
          | some h => match boundA low h 0 with
            | none => none
            | some l => some (.slice id (if m = l then off else off + l * n) (h - l) (.exact (m - l)))
    | _, _ => none
  | _ => none

/-! ### Values that are built; memory that is made -/
def buildA (t : TypeId) (parts : List (Nat × AV)) : Option AV :=
  match zeroA P t with
  | some (.agg zero) =>
    match P.underlying t with
    | some (.struct fields) => match mapOpt (fun f => (szOf P f.type).map fun n => (f.offset, n)) fields.toList with
      | some places => (fillA (fun i => places[i]?) zero parts).map .agg
      | none => none
    | some (.array _ e) => match szOf P e with
      | some n => (fillA (fun i => some (i * n, n)) zero parts).map .agg
      | none => none
    | _ => none
  | _ => none
def buildSliceA (h : AH) (t : TypeId) (len : Nat) (parts : List (Nat × AV)) : Option (AV × AH) :=
  match sliceElem P t with
  | none => none
  | some e => match szOf P e, zeroCellsA P e with
    | some n, some z => bif decide (len * n ≤ 2 ^ 24) then
        match fillA (fun i => some (i * n, n)) (zerosA z len) parts with
        | some cs => some (.slice h.n 0 len (.exact len), h.push (.cells cs false))
        | none => none
      else none
    | _, _ => none
def makeSliceA (h : AH) (t : TypeId) (len cap : AV) : Option (AV × AH) :=
  match sliceElem P t, len, cap with
  | some e, .int _ l, .int _ c =>
    match P.info? e, zeroCellsA P e with
    | some i, some z =>
      let l := IntKind.i64.wrap l
      let c := IntKind.i64.wrap c
      bif decide (0 ≤ l ∧ l ≤ c ∧ (i.bytes : Int) * c ≤ 2 ^ 48) then some (.slice h.n 0 l.toNat (.exact c.toNat), h.push (.cells (zerosA z c.toNat) false)) else none
    | _, _ => none
  | _, _, _ => none
def makeMapA (h : AH) (t : TypeId) (r : Option AV) : Option (AV × AH) :=
  match r with
  | none => some (.map h.n, h.push (.map [] 0))
  | some (.int _ _) => match P.underlying t with
    | some (.map _ _) => some (.map h.n, h.push (.map [] 0))
    | _ => none
  | _ => none

/-! ### Maps -/
def AV.flat : AV → Bool
  | .int _ _ => true
  | .str _ => true
  | .bool _ => true
  | _ => false
def AV.key : AV → Bool
  | .agg cs => cs.all AV.flat
  | v => v.flat
def sameFlat : AV → AV → Bool
  | .int j a, .int k b => decide (j = k) && a == b
  | .str a, .str b => a == b
  | .bool a, .bool b => a == b
  | _, _ => false
def sameFlats : List AV → List AV → Bool
  | [], [] => true
  | a :: as, b :: bs => sameFlat a b && sameFlats as bs
  | _, _ => false
def sameKey : AV → AV → Bool
  | .agg as, .agg bs => sameFlats as bs
  | a, b => sameFlat a b
/-- Keys of such a type are compared cell by cell: the type has cells that are numbers, strings and bools alone, and all of them count. -/
def keyTypeOk : Nat → TypeId → Bool
  | 0, _ => false
  | d + 1, t =>
    match P.underlying t with
    | some (.int _) => true
    | some .string => true
    | some .bool => true
    | some (.struct fields) => fields.toList.all fun f => f.name != "_" && keyTypeOk d f.type
    | some (.array _ e) => keyTypeOk d e
    | _ => false
def findA (keyType : TypeId) (k : AV) : List (AV × AV × Nat) → Nat → Option (Option (Nat × AV))
  | [], _ => some none
  | (k', v, _) :: es, i =>
    match eqA P 20 keyType k k' with
    | some true => bif sameKey k k' then some (some (i, v)) else none
    | some false => findA keyType k es (i + 1)
    | none => none
def keyFieldsOk (ok : TypeId → AV → Bool) : List Field → List AV → Bool
  | [], _ => true
  | f :: fs, xs =>
    bif f.name != "_" then
      match partA P f.type xs f.offset with
      | some a => ok f.type a && keyFieldsOk ok fs xs
      | none => false
    else keyFieldsOk ok fs xs
def keyArrOk (ok : TypeId → AV → Bool) (elem : TypeId) (n : Nat) (xs : List AV) : Nat → Nat → Bool
  | 0, _ => true
  | k + 1, i =>
    match partA P elem xs (i * n) with
    | some a => ok elem a && keyArrOk ok elem n xs k (i + 1)
    | none => false
def keyOk : Nat → TypeId → AV → Bool
  | 0, _, _ => false
  | d + 1, t, v =>
    match P.underlying t, v with
    | some (.interface _), _ => false
    | some (.array len e), .agg cs => match szOf P e with
      | some n => keyArrOk P (keyOk d) e n cs len 0
      | none => false
    | some (.struct fields), .agg cs => keyFieldsOk P (keyOk d) fields.toList cs
    | some (.array _ _), _ => false
    | some (.struct _), _ => false
    | some _, _ => true
    | none, _ => false
def mapTypes (t : TypeId) : Option (TypeId × TypeId) := match P.underlying t with | some (.map k e) => some (k, e) | _ => none
def mapAt (h : AH) (m : AV) : Option (List (AV × AV × Nat) × Nat) :=
  match m with
  | .nilmap => some ([], 0)
  | .map id => match h.get id with
    | some (.map es c) => some (es, c)
    | _ => none
  | _ => none
def lookupA (h : AH) (t : TypeId) (m k : AV) (ok : Bool) : Option AV :=
  match mapTypes P t, mapAt h m with
  | some (kt, e), some (es, _) =>
    bif k.key && keyOk P 20 kt k then
      match findA P kt k es 0, zeroA P e with
      | some (some (_, v)), _ => some (bif ok then .tuple [v, .bool true] else v)
      | some none, some z => some (bif ok then .tuple [z, .bool false] else z)
      | _, _ => none
    else none
  | _, _ => none
def setEntry : List (AV × AV × Nat) → Nat → AV → AV → List (AV × AV × Nat)
  | [], _, _, _ => []
  | (_, _, b) :: es, 0, k, v => (k, v, b) :: es
  | e :: es, i + 1, k, v => e :: setEntry es i k v
def mapUpdateA (h : AH) (t : TypeId) (m k v : AV) : Option AH :=
  match mapTypes P t, m with
  | some (kt, _), .map id =>
    match h.get id with
    | some (.map es c) =>
      bif k.key && keyOk P 20 kt k then
        match findA P kt k es 0 with
        | some (some (i, _)) => some (h.set id (.map (setEntry es i k v) c))
        | some none => some (h.set id (.map (es ++ [(k, v, c)]) (c + 1)))
        | none => none
      else none
    | _ => none
  | _, _ => none

/-! ### Built-in functions -/
def bytesOfA (s : ByteArray) (n : Nat) : List AV := (s.data.toList.take n).map fun b => .int .u8 b.toNat
def lenA (h : AH) (t : TypeId) (x : AV) : Option Nat :=
  match P.underlying t, x with
  | some .string, .str s => some s.size
  | some (.array n _), .agg _ => some n
  | some (.pointer a), .ptr _ _ => match P.underlying a with | some (.array n _) => some n | _ => none
  | some (.slice _), .nilslice => some 0
  | some (.slice _), .empty _ _ _ => some 0
  | some (.slice _), .slice _ _ n _ => some n
  | some (.slice _), .lst n _ => some n
  | some (.map _ _), .nilmap => some 0
  | some (.map _ _), .map id => match h.get id with
    | some (.map es _) => some es.length
    | _ => none
  | _, _ => none
def capA (t : TypeId) (x : AV) : Option Nat :=
  match P.underlying t, x with
  | some (.slice _), .nilslice => some 0
  | some (.slice _), .slice _ _ _ (.exact c) => some c
  | _, _ => none
/-- The first n elements of a slice, or bytes of a string. -/
def firstA (h : AH) (z n : Nat) (x : AV) : Option (List AV) :=
  match x with
  | .nilslice => bif decide (n = 0) then some [] else none
  | .empty _ _ _ => bif decide (n = 0) then some [] else none
  | .slice id off len _ => bif decide (n ≤ len) then (match cellsAt h id with | some cs => cut cs off (n * z) | none => none) else none
  | .str s => some (bytesOfA s n)
  | .lst m cs => bif decide (n ≤ m ∧ cs.length = m * z) then some (cs.take (n * z)) else none
  | _ => none
def lenOfA : AV → Option Nat
  | .nilslice => some 0
  | .empty _ _ _ => some 0
  | .slice _ _ n _ => some n
  | .str s => some s.size
  | .lst n _ => some n
  | _ => none
/-- What is appended: how many elements, and their cells. -/
def moreA (h : AH) (e : TypeId) (z : Nat) (xt : TypeId) (x : AV) : Option (Nat × List AV) :=
  match P.underlying xt with
  | some (.int _) =>
    match x, zeroCellsA P e, P.info? e with
    | .int _ l, some zs, some i =>
      let l := IntKind.i64.wrap l
      bif decide (0 ≤ l ∧ l * (i.bytes : Int) ≤ 2 ^ 48) then some (l.toNat, zerosA zs l.toNat) else none
    | _, _, _ => none
  | some _ =>
    match lenOfA x with
    | some n => match firstA h z n x with
      | some cs => bif decide (cs.length = n * z) then some (n, cs) else none
      | none => none
    | none => none
  | none => none
def isU8 (t : TypeId) : Bool := match P.underlying t with | some (.int .u8) => true | _ => false
def rowA (e : TypeId) (cs : List AV) : AO := bif isU8 P e then .byt e cs else .cells cs false
def roomA (bytes need : Nat) : Bool := decide (need ≤ 2147483648 ∧ bytes ≤ 16384)
def appendA (h : AH) (argTypes : List TypeId) (args : List AV) : Option (AV × AH) :=
  match argTypes, args with
  | [st, xt], [s, x] =>
    match sliceElem P st with
    | none => none
    | some e => match P.info? e, zeroCellsA P e with
      | some i, some _ =>
        match moreA P h e i.size xt x with
        | none => none
        | some (m, ns) =>
          match s with
          | .nilslice =>
            bif decide (m = 0) then some (.nilslice, h)
            else bif roomA i.bytes m then some (.slice h.n 0 m (.rest i.size), h.push (rowA P e ns)) else none
          | .slice id off len (.exact c) =>
            bif decide (len + m ≤ c) then
              match storeCellsA h id (off + len * i.size) ns with
              | some h' => some (.slice id off (len + m) (.exact c), h')
              | none => none
            else bif roomA i.bytes (len + m) then
              match firstA h i.size len s with
              | some old => some (.slice h.n 0 (len + m) (.rest i.size), h.push (.cells (old ++ ns) false))
              | none => none
            else none
          | .slice id off len (.rest z) =>
            bif decide (z = i.size ∧ 0 < z) then
              bif decide (m = 0) then some (s, h)
              else match h.get id with
                | some (.cells cs false) =>
                  bif decide (off + len * z + m * z ≤ cs.length) then
                    match storeCellsA h id (off + len * z) ns with
                    | some h' => some (.slice id off (len + m) (.rest z), h')
                    | none => none
                  else bif roomA i.bytes (len + m) && ns.all AV.one then
                    match cut cs off (len * z) with
                    | some old => some (.slice h.n 0 (len + m) (.rest z), (h.set id .gone).push (.cells (old ++ ns) false))
                    | none => none
                  else none
                | some (.byt e' cs) =>
                  bif decide (e' = e) && (roomA i.bytes (len + m) && ns.all AV.one) then
                    match cut cs off (len * z) with
                    | some old => some (.slice h.n 0 (len + m) (.rest z), (h.set id .gone).push (.byt e (old ++ ns)))
                    | none => none
                  else none
                | _ => none
            else none
          | .empty id _ z =>
            bif decide (z = i.size ∧ 0 < z) then
              bif decide (m = 0) then some (s, h)
              else match h.get id with
                | some (.cells _ false) =>
                  bif roomA i.bytes m && ns.all AV.one then some (.slice h.n 0 m (.rest z), (h.set id .gone).push (.cells ns false)) else none
                | _ => none
            else none
          | _ => none
      | _, _ => none
  | _, _ => none
def copyA (h : AH) (argTypes : List TypeId) (args : List AV) : Option (AV × AH) :=
  match argTypes, args with
  | dt :: _, [d, x] =>
    match sliceElem P dt with
    | none => none
    | some e => match szOf P e, lenOfA x, d with
      | some z, some n, .slice id off len _ =>
        match firstA h z (min n len) x with
        | some cs => match storeCellsA h id off cs with
          | some h' => some (.int .i64 (min n len : Nat), h')
          | none => none
        | none => none
      | some _, some _, .nilslice => some (.int .i64 0, h)
      | _, _, _ => none
  | _, _ => none
def clearA (h : AH) (argTypes : List TypeId) (args : List AV) : Option AH :=
  match argTypes, args with
  | t :: _, [x] =>
    match P.underlying t, x with
    | some _, .nilslice => some h
    | some _, .empty _ _ _ => some h
    | some _, .nilmap => some h
    | some (.slice e), .slice id off len _ => match zeroCellsA P e with
      | some z => storeCellsA h id off (zerosA z len)
      | none => none
    | some (.map _ _), .map id => match h.get id with
      | some (.map _ c) => some (h.set id (.map [] c))
      | _ => none
    | _, _ => none
  | _, _ => none
def max2A : AV → AV → Option AV
  | .int k x, .int _ y => some (.int k (if y > x then y else x))
  | _, _ => none
def min2A : AV → AV → Option AV
  | .int k x, .int _ y => some (.int k (if y < x then y else x))
  | _, _ => none
def foldA (f : AV → AV → Option AV) : AV → List AV → Option AV
  | x, [] => some x
  | x, y :: ys => match f x y with
    | some z => foldA f z ys
    | none => none
def bytesA : List AV → Option (List UInt8)
  | [] => some []
  | .int .u8 b :: xs => match bytesA xs with
    | some l => bif decide ((b.toNat.toUInt8.toNat : Int) = b) then some (b.toNat.toUInt8 :: l) else none
    | none => none
  | _ => none
/-- unsafe.String: the bytes stay as they are from now on. -/
def textA (h : AH) (argTypes : List TypeId) (args : List AV) : Option (AV × AH) :=
  match argTypes, args with
  | [_, _], [.nilptr, .int .i64 (.ofNat 0)] => some (.str .empty, h)
  | [_, _], [.ptr _ _, .int .i64 (.ofNat 0)] => some (.str .empty, h)
  | [pt, _], [.ptr id off, .int .i64 (.ofNat (n + 1))] =>
    match P.underlying pt, h.get id with
    | some (.pointer u), some (.byt e cs) =>
      bif decide (u = e ∧ n + 1 ≤ 2147483648) && P.cellsOf e == 1 then
        match cut cs off (n + 1) with
        | some bs => match bytesA bs with
          | some l => some (.str ⟨l.toArray⟩, h.set id (.cells cs true))
          | none => none
        | none => none
      else none
    | _, _ => none
  | _, _ => none
def dataA (h : AH) (args : List AV) : Option (AV × AH) :=
  match args with
  | [.nilslice] => some (.nilptr, h)
  | [.slice id off (_ + 1) _] => some (.ptr id off, h)
  | _ => none
def builtinA (h : AH) (b : Builtin) (argTypes : List TypeId) (args : List AV) : Option (AV × AH) :=
  match b with
  | .len => match argTypes, args with
    | t :: _, [x] => (lenA P h t x).map fun n => (.int .i64 n, h)
    | _, _ => none
  | .cap => match argTypes, args with
    | t :: _, x :: _ => (capA P t x).map fun n => (.int .i64 n, h)
    | _, _ => none
  | .append => appendA P h argTypes args
  | .copy => copyA P h argTypes args
  | .clear => (clearA P h argTypes args).map fun h' => (.tuple [], h')
  | .max => match args with
    | x :: xs => (foldA max2A x xs).map fun v => (v, h)
    | [] => none
  | .min => match args with
    | x :: xs => (foldA min2A x xs).map fun v => (v, h)
    | [] => none
  | .unsafeSliceData => dataA h args
  | .unsafeString => textA P h argTypes args
  | _ => none

/-- An operation that enters no function. -/
def opA (ρ : Operand → Option AV) (op : Op) (h : AH) : Option (AV × AH) :=
  match op with
  | .move x => (ρ x).map fun v => (v, h)
  | .assign x => (ρ x).map fun v => (v, h)
  | .pick c a b => match ρ c with
    | some (.bool true) => (ρ a).map fun v => (v, h)
    | some (.bool false) => (ρ b).map fun v => (v, h)
    | _ => none
  | .alloc e => match zeroA P e with
    | some z => allocA P h e z
    | none => none
  | .box _ x => match ρ x with
    | some v => newVarA h v
    | none => none
  | .build t ps => match mapOpt (fun p => (ρ p.2).map fun v => (p.1, v)) ps.toList with
    | some vs => (buildA P t vs).map fun v => (v, h)
    | none => none
  | .buildSlice t n ps => match mapOpt (fun p => (ρ p.2).map fun v => (p.1, v)) ps.toList with
    | some vs => buildSliceA P h t n vs
    | none => none
  | .load t a => match ρ a with
    | some a => (loadA P h t a).map fun v => (v, h)
    | none => none
  | .store t a x => match ρ a, ρ x with
    | some a, some v => (storeA P h t a v).map fun h' => (undefA, h')
    | _, _ => none
  | .nilCheck x => match ρ x with
    | some (.ptr id off) => some (.ptr id off, h)
    | some (.ipt cs off) => some (.ipt cs off, h)
    | some (.func f xs ys) => some (.func f xs ys, h)
    | some (.yieldf l) => some (.yieldf l, h)
    | _ => none
  | .binOp op t x y _ => match ρ x, ρ y with
    | some a, some b => bif guardA P op t x y a b then (binA P op t a b).map fun v => (v, h) else none
    | _, _ => none
  | .unOp op _ x => match ρ x with
    | some a => (unaryA op a).map fun v => (v, h)
    | none => none
  | .convert s d x => match ρ x with
    | some a => (convertA P s d a).map fun v => (v, h)
    | none => none
  | .makeInterface t x => match P.underlying t, ρ x with
    | some (.interface _), _ => none
    | some _, some v => some (.iface t v, h)
    | _, _ => none
  | .makeFunc fn xs ys => match fn, mapOpt ρ xs.toList, mapOpt ρ ys.toList with
    | .func f, some xs, some ys => some (.func f xs ys, h)
    | _, _, _ => none
  | .makeMap t r => match optOpt ρ r with
    | some r => makeMapA P h t r
    | none => none
  | .makeSlice t l c => match ρ l, ρ c with
    | some l, some c => makeSliceA P h t l c
    | _, _ => none
  | .slice t x l hi m => match ρ x, optOpt ρ l, optOpt ρ hi, optOpt ρ m with
    | some x, some l, some hi, some m => (sliceA P t x l hi m).map fun v => (v, h)
    | _, _, _, _ => none
  | .fieldAddr s x f => match ρ x with
    | some x => (fieldAddrA P s x f).map fun v => (v, h)
    | none => none
  | .field t x f => match ρ x with
    | some x => (fieldA P t x f).map fun v => (v, h)
    | none => none
  | .indexAddr t x i => match ρ x, ρ i with
    | some x, some i => (indexAddrA P t x i).map fun v => (v, h)
    | _, _ => none
  | .index t x i => match ρ x, ρ i with
    | some x, some i => (indexA P t x i).map fun v => (v, h)
    | _, _ => none
  | .lookup t m k ok => match ρ m, ρ k with
    | some m, some k => (lookupA P h t m k ok).map fun v => (v, h)
    | _, _ => none
  | .mapUpdate t m k v => match ρ m, ρ k, ρ v with
    | some m, some k, some v => (mapUpdateA P h t m k v).map fun h' => (undefA, h')
    | _, _, _ => none
  | .insert t m k v => match ρ m, ρ k, ρ v with
    | some m, some k, some v => (mapUpdateA P h t m k v).map fun h' => (undefA, h')
    | _, _, _ => none
  | .extract x i => match ρ x with
    | some (.tuple vs) => (vs[i]?).map fun v => (v, h)
    | _ => none
  | .call { callee := .builtin b, args, argTypes } => match mapOpt ρ args.toList with
    | some vs => builtinA P h b argTypes.toList vs
    | none => none
  | _ => none
end
end Go.Ai
