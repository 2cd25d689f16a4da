/-
  The abstract machine, part B: the operations of the model, evaluated on abstract values. Each says what it yields, which keys of the abstract heap it reads and writes, and which calls it makes.
-/
import Derived.Test.YtkhcaamgjjhpeaaGreatDoorAvmA
set_option linter.unusedSectionVars false
namespace Go.Avm
variable [GlobTab]

/-- What an operation does: its value, the entries that it writes, the keys that it reads, the calls of Go functions on data that it makes. -/
structure Out where
  val : AV
  wr : List (Nat × Ent) := []
  rd : List Nat := []
  ob : List (Nat × List D × List D) := []

/-- What is asked of calls: on data, or with the abstract heap. -/
inductive Obl where
  | data (c : Nat × List D × List D)
  | heap (f : Nat) (args : List AV) (h : Heap) (rs : List AV) (h' : Heap)
  | frame (f : Nat) (args : List AV) (pre : List (Nat × Ent)) (rs : List AV) (post : List (Nat × Ent))
  | yield (k v : Nat) (args : List AV) (h : Heap) (rs : List AV) (h' : Heap)
  | exact (f : Nat) (args : List AV) (pre : List Nat) (h0 : Heap) (rs : List AV) (post : List Nat) (h1 : Heap)
/-- What a call does to the abstract heap: the whole of it; or a few entries. -/
inductive HCK where
  | heap (rs : List AV) (h' : Heap) (tk : List Nat)
  | frame (pre : List (Nat × Ent)) (rs : List AV) (post : List (Nat × Ent))
  /-- in every heap that has the entries 'pre' of h0, those named in 'post' become what they are in h1 -/
  | exact (pre : List Nat) (h0 : Heap) (rs : List AV) (post : List Nat) (h1 : Heap)

/-- What the prover says of a region: the results of its calls, by the operation's place; where a nil slice that is appended to becomes a mutable object. -/
structure Cfg where
  ret : Nat → List D := fun _ => []
  obm : Nat → Bool := fun _ => false
  /-- calls that look at the abstract heap and turn it: what they hand back, the heap behind -/
  hc : Nat → Option HCK := fun _ => none
  /-- where the keys of what an operation makes begin -/
  base : Nat → Nat := fun _ => 0
  deriving Inhabited

def knownT (P : Program) (t : TypeId) : Bool := (P.info? t).isSome
def zeroOf (P : Program) (t : TypeId) : Option Value := (P.info? t).bind (·.zero)
def aggT (P : Program) (t : TypeId) : Option Bool := (P.underlying t).map fun | .struct _ | .array _ _ => true | _ => false

def cst1 : Value → AV
  | .bool b => .d (.bool b)
  | .int k n => .d (.int k n)
  | .string s => .d (.str s.data.toList)
  | .pointer none => .d .nilp
  | .nilIface => .d .nili
  | .slice none 0 0 => .nils
  | _ => .junk

def allD : List AV → Option (List D)
  | [] => some []
  | .d x :: r => if x.one then (allD r).map (x :: ·) else none
  | _ :: _ => none
def mkAgg (cs : List AV) : AV := match allD cs with
  | some ds => .d (.agg ds)
  | none => .agg cs
def cstCells (cs : Array Value) : Option (List AV) := if cs.toList.all (·.oneCell') then some (cs.toList.map cst1) else none
def cst : Value → AV
  | .agg cs => match cstCells cs with
    | some l => mkAgg l
    | none => .junk
  | v => cst1 v

def opd (env : Nat → AV) : Operand → AV
  | .tmp t => env t
  | .const v => cst v
  | .func f => .fn f []
  | .global g => match GlobTab.tab g with
    | some cs => .d (.rp cs)
    | none => .junk

/-- The data that a value stands for, with the objects that it leads to as they are now; the keys of these. -/
def viewL (f : AV → Option (D × List Nat)) : List AV → Option (List D × List Nat)
  | [] => some ([], [])
  | x :: r => match f x, viewL f r with
    | some a, some b => some (a.1 :: b.1, a.2 ++ b.2)
    | _, _ => none
def view : Nat → Heap → AV → Option (D × List Nat)
  | 0, _, _ => none
  | n + 1, h, x =>
    match x with
    | .d y => some (y, [])
    | .nils | .es => some (.ro [], [])
    | .vec _ _ _ l => some (.ro l, [])
    | .sl k v off len _ =>
      match (h k).ob with
      | some (.arr _ es) => if (h k).ver = v ∧ off + len ≤ es.length then (viewL (view n h) ((es.drop off).take len)).map fun r => (.ro r.1, k :: r.2) else none
      | _ => none
    | .ptr k v i off _ =>
      match (h k).ob with
      | some (.arr sz es) =>
        if (h k).ver = v ∧ sz = 1 ∧ off = 0 ∧ i ≤ es.length then (viewL (view n h) (es.drop i)).map fun r => (.rp r.1, k :: r.2) else none
      | _ => none
    | .agg cs => (viewL (view n h) cs).map fun r => (.agg r.1, r.2)
    | _ => none
abbrev view.go (n : Nat) (h : Heap) (l : List AV) : Option (List D × List Nat) := viewL (view n h) l

/-- Data without a look at the heap. -/
def toD : AV → Option D
  | .d y => some y
  | .nils | .es => some (.ro [])
  | .vec _ _ _ l => some (.ro l)
  | .agg cs => (go cs).map .agg
  | _ => none
where go : List AV → Option (List D)
  | [] => some []
  | .d y :: r => if y.one then (go r).map (y :: ·) else none
  | .nils :: r | .es :: r => (go r).map (.ro [] :: ·)
  | .vec _ _ _ l :: r => (go r).map (.ro l :: ·)
  | _ :: _ => none
def toDs : List AV → Option (List D)
  | [] => some []
  | x :: r => match toD x, toDs r with
    | some a, some b => some (a :: b)
    | _, _ => none

def D.scal : D → Bool
  | .bool _ | .int _ _ | .str _ | .nilp | .nili | .ifc => true
  | _ => false

def kill (h : Heap) (ks : List Nat) : List (Nat × Ent) := ks.map fun k => (k, ⟨(h k).ver + 1, none⟩)

def retAV : List D → AV
  | [x] => .d x
  | l => .tup (l.map .d)

/-- A pointer's object and what lies from there on: (n cells). -/
def cellsAt (h : Heap) (a : AV) (n : Nat) : Option (List AV × List Nat) :=
  match a with
  | .d (.rp cs) => if n ≤ cs.length then some ((cs.take n).map .d, []) else none
  | .ptr k v i off _ =>
    match (h k).ob with
    | some (.arr sz es) =>
      if (h k).ver = v then
        if sz = 1 then (if off = 0 ∧ i + n ≤ es.length then some ((es.drop i).take n, [k]) else none)
        else match es[i]? with
          | some e => if off + n ≤ sz then some ((e.cells.drop off).take n, [k]) else none
          | none => none
      else none
    | _ => none
  | _ => none

def opLoad (P : Program) (t : TypeId) (a : AV) (h : Heap) : Option Out :=
  match aggT P t with
  | some true => (cellsAt h a (P.cellsOf t)).map fun r => { val := mkAgg r.1, rd := r.2 }
  | some false => match a with
    | .d (.rp (c :: _)) => some { val := .d c }
    | .ptr k v i off _ =>
      match (h k).ob with
      | some (.arr sz es) =>
        if (h k).ver = v then
          if sz = 1 then (if off = 0 then (es[i]?).map fun x => { val := x, rd := [k] } else none)
          else match es[i]? with
            | some e => (e.cells[off]?).map fun x => { val := x, rd := [k] }
            | none => none
        else none
      | _ => none
    | _ => none
  | none => none

def opStore (P : Program) (t : TypeId) (a x : AV) (h : Heap) : Option Out :=
  match a with
  | .ptr k v i off _ =>
    match (h k).ob with
    | some (.arr sz es) =>
      if (h k).ver = v ∧ x.stor = true ∧ x.cells.length = P.cellsOf t ∧ knownT P t = true then
        if sz = 1 then
          if off = 0 then
            (if x.one then (if i < es.length then some { val := .junk, rd := [k], wr := [(k, ⟨v, some (.arr sz (es.set i x))⟩)] } else none)
             else if i + x.cells.length ≤ es.length then some { val := .junk, rd := [k], wr := [(k, ⟨v, some (.arr sz (es.take i ++ x.cells ++ es.drop (i + x.cells.length)))⟩)] } else none)
          else none
        else match es[i]? with
          | some e =>
            if off = 0 ∧ x.cells.length = sz then some { val := .junk, rd := [k], wr := [(k, ⟨v, some (.arr sz (es.set i x))⟩)] }
            else if off + x.cells.length ≤ sz then some { val := .junk, rd := [k], wr := [(k, ⟨v, some (.arr sz (es.set i (mkAgg (e.cells.take off ++ x.cells ++ e.cells.drop (off + x.cells.length)))))⟩)] } else none
          | none => none
      else none
    | _ => none
  | _ => none

def newOb (h : Heap) (k sz : Nat) (es : List AV) : Nat × Ent := (k, ⟨(h k).ver + 1, some (.arr sz es)⟩)

def zcells (P : Program) (t : TypeId) : Option (List AV) := (zeroOf P t).bind fun z => cstCells z.cells
def opAlloc (P : Program) (t : TypeId) (k : Nat) (h : Heap) : Option Out :=
  match zcells P t with
  | some zs => some { val := .ptr k ((h k).ver + 1) 0 0 1, rd := [k], wr := [newOb h k 1 zs] }
  | none => none

def opBox (x : AV) (k : Nat) (h : Heap) : Option Out :=
  if x.stor then some { val := .ptr k ((h k).ver + 1) 0 0 1, rd := [k], wr := [newOb h k 1 x.cells] } else none

def fillA (place : Nat → Option (Nat × Nat)) (cs : List AV) : List (Nat × AV) → Option (List AV)
  | [] => some cs
  | (i, x) :: r =>
    match place i with
    | some (off, size) => if x.stor = true ∧ x.cells.length = size ∧ off + x.cells.length ≤ cs.length then fillA place (cs.take off ++ x.cells ++ cs.drop (off + x.cells.length)) r else none
    | none => none

def fieldsOf (P : Program) (t : TypeId) : Option (Array Field) := match P.underlying t with
  | some (.struct fs) => some fs
  | _ => none
/-- A field's place in cells, and its size. -/
def placeOf (P : Program) (t : TypeId) (i : Nat) : Option (Nat × Nat) := (fieldsOf P t).bind fun fs => (fs[i]?).map fun f => (f.offset, P.cellsOf f.type)
def structOk (P : Program) (t : TypeId) : Bool := match fieldsOf P t with
  | some fs => fs.toList.all fun f => (P.info? f.type).isSome
  | none => false
/-- Is a field a struct or an array? -/
def fieldAgg (P : Program) (t : TypeId) (i : Nat) : Option Bool := (fieldsOf P t).bind fun fs => (fs[i]?).bind fun f => aggT P f.type

/-- An array's element type. -/
def arrOf (P : Program) (t : TypeId) : Option TypeId := match P.underlying t with
  | some (.array _ e) => if knownT P e = true then some e else none
  | _ => none
def opBuild (P : Program) (t : TypeId) (parts : List (Nat × AV)) : Option Out :=
  match structOk P t, zcells P t with
  | true, some zs => (fillA (placeOf P t) zs parts).map fun cs => { val := mkAgg cs }
  | false, some zs => match arrOf P t with
    | some e => (fillA (fun i => some (i * P.cellsOf e, P.cellsOf e)) zs parts).map fun cs => { val := mkAgg cs }
    | none => none
  | _, _ => none

/-- The elements of a slice literal, in order, all given. -/
def litParts : Nat → List (Nat × AV) → Option (List AV)
  | _, [] => some []
  | n, (i, x) :: r => if i = n then (litParts (n + 1) r).map (x :: ·) else none

def opBuildSlice (P : Program) (obm : Bool) (t : TypeId) (len : Nat) (parts : List (Nat × AV)) (k : Nat) (h : Heap) : Option Out :=
  match P.underlying t with
  | some (.slice e) =>
    match litParts 0 parts with
    | some xs =>
      if xs.length = len ∧ len * P.cellsOf e ≤ 65536 ∧ (zeroOf P e).isSome = true ∧ xs.all (fun x => x.stor && x.cells.length == P.cellsOf e) = true then
        if obm then if P.cellsOf e = 1 ∧ xs.all AV.lone = false then none else some { val := .sl k ((h k).ver + 1) 0 len (P.cellsOf e), rd := [k], wr := [newOb h k (P.cellsOf e) xs] }
        else match view.go 3 h xs with
          | some r =>
            if k ∈ r.2 then none else
            some { val := .vec k ((h k).ver + 1) (P.cellsOf e) r.1, rd := k :: r.2, wr := (k, ⟨(h k).ver + 1, none⟩) :: kill h r.2 }
          | none => none
      else none
    | none => none
  | _ => none

def opIndexAddr (P : Program) (t : TypeId) (x ix : AV) (h : Heap) : Option Out :=
  match P.underlying t, ix with
  | some (.slice e), .d (.int _ i) =>
    match x with
    | .d (.ro l) | .vec _ _ _ l =>
      if 0 ≤ i then match l[i.toNat]? with
        | some y => if y.cells.length = P.cellsOf e ∧ knownT P e = true then some { val := .d (.rp y.cells) } else none
        | none => none
      else none
    | .sl k v off len sz => if sz = P.cellsOf e ∧ knownT P e = true ∧ 0 ≤ i ∧ i.toNat < len then some { val := .ptr k v (off + i.toNat) 0 sz } else none
    | _ => none
  | some (.array n e), .d (.int _ i) =>
    match x with
    | .ptr k v j off sz => if sz = 1 ∧ off = 0 ∧ knownT P e = true ∧ 0 ≤ i ∧ i.toNat < n then some { val := .ptr k v (j + i.toNat * P.cellsOf e) 0 sz } else none
    | .d (.rp cs) => if knownT P e = true ∧ 0 ≤ i ∧ i.toNat < n then some { val := .d (.rp (cs.drop (i.toNat * P.cellsOf e))) } else none
    | _ => none
  | _, _ => none

def opFieldAddr (P : Program) (t : TypeId) (x : AV) (f : Nat) (h : Heap) : Option Out :=
  match placeOf P t f, structOk P t with
  | some (fo, fs), true =>
    if fs = 0 then none else
    match x with
    | .d (.rp cs) => some { val := .d (.rp (cs.drop fo)) }
    | .ptr k v i off sz => if sz = 1 then (if off = 0 then some { val := .ptr k v (i + fo) 0 sz } else none) else some { val := .ptr k v i (off + fo) sz }
    | _ => none
  | _, _ => none

def opField (P : Program) (t : TypeId) (x : AV) (f : Nat) : Option Out :=
  match placeOf P t f, fieldAgg P t f, x with
  | some (fo, fs), some true, .d (.agg cs) => if fo + fs ≤ cs.length then some { val := .d (.agg ((cs.drop fo).take fs)) } else none
  | some (fo, _), some false, .d (.agg cs) => (cs[fo]?).map fun c => { val := .d c }
  | some (fo, fs), some true, .agg cs => if fo + fs ≤ cs.length then some { val := mkAgg ((cs.drop fo).take fs) } else none
  | some (fo, _), some false, .agg cs => (cs[fo]?).map fun c => { val := c }
  | _, _, _ => none

def opBin (op : BinOp) (x y : AV) : Option AV :=
  match x, y with
  | .d (.int k a), .d (.int k' b) =>
    match op with
    | .shl => if 0 ≤ b then some (.d (.int k (k.wrap (a * 2 ^ (min b.toNat k.bits))))) else none
    | .shr => if 0 ≤ b then some (.d (.int k (a.fdiv (2 ^ (min b.toNat k.bits))))) else none
    | _ =>
      if k = k' then
        match op with
        | .add => some (.d (.int k (k.wrap (a + b))))
        | .sub => some (.d (.int k (k.wrap (a - b))))
        | .mul => some (.d (.int k (k.wrap (a * b))))
        | .quo => if b = 0 then none else some (.d (.int k (k.wrap (a.tdiv b))))
        | .rem => if b = 0 then none else some (.d (.int k (a.tmod b)))
        | .and => some (.d (.int k (k.wrap (BitVec.ofInt k.bits a &&& BitVec.ofInt k.bits b).toNat)))
        | .or => some (.d (.int k (k.wrap (BitVec.ofInt k.bits a ||| BitVec.ofInt k.bits b).toNat)))
        | .xor => some (.d (.int k (k.wrap (BitVec.ofInt k.bits a ^^^ BitVec.ofInt k.bits b).toNat)))
        | .eql => some (.d (.bool (a == b)))
        | .neq => some (.d (.bool (a != b)))
        | .lss => some (.d (.bool (decide (a < b))))
        | .leq => some (.d (.bool (decide (a ≤ b))))
        | .gtr => some (.d (.bool (decide (b < a))))
        | .geq => some (.d (.bool (decide (b ≤ a))))
        | _ => none
      else none
  | .d (.str a), .d (.str b) =>
    match op with
    | .add => if a.length + b.length ≤ 9223372036854775807 then some (.d (.str (a ++ b))) else none
    | .eql => some (.d (.bool (a == b)))
    | .neq => some (.d (.bool (!(a == b))))
    | .lss => some (.d (.bool (Op.bytesLess a b)))
    | .leq => some (.d (.bool (Op.bytesLess a b || a == b)))
    | .gtr => some (.d (.bool (!(Op.bytesLess a b || a == b))))
    | .geq => some (.d (.bool (!Op.bytesLess a b)))
    | _ => none
  | _, _ => none

/-- '==' and '!=' of two bools, or of two structs of integers, by their type. -/
def intsEq : List D → List D → Option Bool
  | [], [] => some true
  | .int k a :: r, .int k' b :: s => if k = k' then (intsEq r s).map fun t => decide (a = b) && t else none
  | _, _ => none
def eqOne (P : Program) (t : TypeId) (x y : D) : Option Bool :=
  match P.underlying t, x, y with
  | some (.int _), .int k a, .int k' b => if k = k' then some (a == b) else none
  | some .bool, .bool a, .bool b => some (a == b)
  | some .string, .str a, .str b => some (a == b)
  | _, _, _ => none
/-- Structs whose fields are one cell each, field by field. -/
def eqFieldsD (P : Program) : List Field → Nat → List D → List D → Option Bool
  | [], _, [], [] => some true
  | f :: fs, i, x :: xs, y :: ys =>
    if f.name ≠ "_" ∧ f.offset = i ∧ aggT P f.type = some false then
      match eqOne P f.type x y, eqFieldsD P fs (i + 1) xs ys with
      | some a, some b => some (a && b)
      | _, _ => none
    else none
  | _, _, _, _ => none
/-- Arrays whose elements are one cell each. -/
def eqItemsD (P : Program) (e : TypeId) : List D → List D → Option Bool
  | [], [] => some true
  | x :: xs, y :: ys => match eqOne P e x y, eqItemsD P e xs ys with
    | some a, some b => some (a && b)
    | _, _ => none
  | _, _ => none
def opEq (P : Program) (t : TypeId) (x y : AV) : Option Bool :=
  match P.underlying t, x, y with
  | some .bool, .d (.bool a), .d (.bool b) => some (a == b)
  | some (.struct fs), .d (.agg xs), .d (.agg ys) => if P.stoodInHeld t = false ∧ P.eqGuardType P.depth t = false then eqFieldsD P fs.toList 0 xs ys else none
  | some (.array n e), .d (.agg xs), .d (.agg ys) => if xs.length = n ∧ P.cellsOf e = 1 ∧ aggT P e = some false ∧ P.eqGuardType P.depth t = false then eqItemsD P e xs ys else none
  | _, _, _ => none

def isCst : Operand → Bool
  | .const _ => true
  | _ => false
/-- Pointers. -/
def ptrEq (P : Program) (e : TypeId) (x y : AV) : Option Bool :=
  match x, y with
  | .d .nilp, .d .nilp => some true
  | .ptr _ _ _ _ _, .d .nilp | .d .nilp, .ptr _ _ _ _ _ | .d (.rp _), .d .nilp | .d .nilp, .d (.rp _) => some false
  | .ptr k v i off sz, .ptr k' v' i' off' sz' => if k = k' ∧ v = v' ∧ i * sz + off = i' * sz' + off' ∧ knownT P e = true ∧ P.cellsOf e ≠ 0 then some true else none
  | _, _ => none
/-- .. and of a nil interface value with the literal nil. -/
def opEqO (P : Program) (t : TypeId) (ox oy : Operand) (x y : AV) : Option Bool :=
  match isCst ox || isCst oy, P.underlying t, x, y with
  | true, some (.interface _), .d .nili, .d .nili => some true
  | true, some (.interface _), .d .ifc, .d .nili => some false
  | _, some (.interface _), .iv _ _, .d .nili => some false
  | _, some (.pointer e), x, y => ptrEq P e x y
  | _, _, _, _ => opEq P t x y
def opUn (op : UnOp) (x : AV) : Option AV :=
  match op, x with
  | .not, .d (.bool b) => some (.d (.bool (!b)))
  | .neg, .d (.int k n) => some (.d (.int k (k.wrap (0 - n))))
  | .xor, .d (.int k n) => some (.d (.int k (k.wrap (BitVec.ofInt k.bits (if k.signed then -1 else k.max) ^^^ BitVec.ofInt k.bits n).toNat)))
  | _, _ => none

def opConvert (P : Program) (src dst : TypeId) (x : AV) : Option AV :=
  match P.underlying src, P.underlying dst, x with
  | some (.int _), some (.int k), .d (.int _ n) => some (.d (.int k (k.wrap n)))
  | _, _, _ => none

/-- A string's bytes, as a slice of their own. -/
def opConvBytes (P : Program) (src dst : TypeId) (x : AV) : Option Out :=
  match P.underlying src, P.underlying dst, x with
  | some .string, some (.slice e), .d (.str s) => match P.underlying e with
    | some (.int .u8) => some { val := .d (.ro (s.map fun b => .int .u8 (b.toNat : Int))) }
    | _ => none
  | _, _, _ => none

def bytesD : List D → Option (List UInt8)
  | [] => some []
  | .int .u8 n :: r => (bytesD r).map (UInt8.ofNat n.toNat :: ·)
  | _ :: _ => none
/-- .. and back. -/
def opConvStr (P : Program) (src dst : TypeId) (x : AV) : Option AV :=
  match P.underlying src, P.underlying dst with
  | some (.slice e), some .string => match P.underlying e, x with
    | some (.int .u8), .d (.ro l) => (bytesD l).map fun b => .d (.str b)
    | some (.int .u8), .vec _ _ _ l => (bytesD l).map fun b => .d (.str b)
    | _, _ => none
  | _, _ => none

def zeroEl (P : Program) (e : TypeId) : Option AV :=
  match zeroOf P e with
  | some (.agg cs) => (cstCells cs).map mkAgg
  | some z => if z.oneCell' then some (cst1 z) else none
  | none => none

def opMakeSlice (P : Program) (t : TypeId) (l c : AV) (k : Nat) (h : Heap) : Option Out :=
  match P.underlying t, l, c with
  | some (.slice e), .d (.int .i64 l), .d (.int .i64 c) =>
    match zeroEl P e with
    | some z =>
      if 0 ≤ l ∧ l ≤ c ∧ c ≤ 1099511627776 ∧ P.bytesOf e ≤ 256 ∧ z.cells.length = P.cellsOf e ∧ 0 < P.cellsOf e ∧ (P.cellsOf e = 1 → z.lone = true) then
        some { val := .sl k ((h k).ver + 1) 0 l.toNat (P.cellsOf e), rd := [k], wr := [newOb h k (P.cellsOf e) (List.replicate l.toNat z)] }
      else none
    | none => none
  | _, _, _ => none

def bound (lo : Option AV) (dflt : Nat) : Option Nat :=
  match lo with
  | none => some dflt
  | some (.d (.int _ i)) => if 0 ≤ i then some i.toNat else none
  | _ => none

def opSlice (P : Program) (t : TypeId) (x : AV) (lo hi mx : Option AV) : Option Out :=
  match P.underlying t with
  | some (.slice e) =>
    if knownT P e = false then none else
    match mx with
    | none =>
      match x with
      | .d (.ro l) | .vec _ _ _ l =>
        match bound lo 0, bound hi l.length with
        | some a, some b => if a ≤ b ∧ b ≤ l.length ∧ (a = 0 ∨ l.all (fun y => y.cells.length == P.cellsOf e) = true) then some { val := .d (.ro ((l.take b).drop a)) } else none
        | _, _ => none
      | .nils =>
        match bound lo 0, bound hi 0 with
        | some 0, some 0 => some { val := .nils }
        | _, _ => none
      | .sl k v off len sz =>
        match bound lo 0, bound hi len with
        | some a, some b => if a = 0 ∧ b ≤ len then some { val := .sl k v off b sz } else none
        | _, _ => none
      | _ => none
    | some m =>
      if bound lo 0 = some 0 ∧ bound hi 0 = some 0 ∧ bound (some m) 0 = some 0 ∧ hi.isSome = true then
        match x with
        | .d (.ro _) | .vec _ _ _ _ | .sl _ _ _ _ _ | .nils => some { val := .es }
        | _ => none
      else none
  | some .string =>
    match x, mx with
    | .d (.str s), none =>
      match bound lo 0, bound hi s.length with
      | some a, some b => if a ≤ b ∧ b ≤ s.length then some { val := .d (.str ((s.take b).drop a)) } else none
      | _, _ => none
    | _, _ => none
  | _ => none

/-- A row of bytes that was made for a literal is marked (it may be one with another literal's): from here on it is read alone. -/
def opConvSame (P : Program) (src dst : TypeId) (x : AV) (h : Heap) : Option Out :=
  match P.underlying src, x with
  | some (.slice e), .vec k v 1 (y :: l) =>
    if src = dst ∧ (h k).ver = v then match P.underlying e with
      | some (.int .u8) => some { val := .d (.ro (y :: l)), rd := [k], wr := kill h [k] }
      | _ => none
    else none
  | _, _ => none
def lenSl : AV → Option Nat
  | .d (.ro l) | .vec _ _ _ l => some l.length
  | .nils | .es => some 0
  | .sl _ _ _ len _ => some len
  | _ => none
def opLen (P : Program) (t : TypeId) (x : AV) : Option Out :=
  match P.underlying t with
  | some (.slice _) => match lenSl x with
    | some n => some { val := .d (.int .i64 (n : Int)) }
    | none => none
  | some .string => match x with
    | .d (.str s) => some { val := .d (.int .i64 (s.length : Int)) }
    | _ => none
  | _ => none
def opMinMax (mx : Bool) (x y : AV) : Option Out :=
  match x, y with
  | .d (.int k a), .d (.int _ b) => some { val := .d (.int k (if mx then (if a < b then b else a) else (if b < a then b else a))) }
  | _, _ => none

/-- Where it is written down of which type a key's block is. -/
def tagK (k : Nat) : Nat := k + 4611686018427387904
def byteD (b : UInt8) : D := .int .u8 (b.toNat : Int)
/-- What is appended, as data. -/
def srcOf (h : Heap) : AV → Option (List D × List Nat)
  | .d (.str s) => some (s.map byteD, [])
  | .d (.ro l) | .vec _ _ _ l => some (l, [])
  | .nils | .es => some ([], [])
  | .sl k v off len _ =>
    match (h k).ob with
    | some (.arr _ es) => if (h k).ver = v ∧ off + len ≤ es.length then (view.go 2 h ((es.drop off).take len)).bind fun r => if r.2 = [] then some (r.1, [k]) else none else none
    | _ => none
  | _ => none

def opAppend (P : Program) (obm : Bool) (t : TypeId) (s x : AV) (k : Nat) (h : Heap) : Option Out :=
  match P.underlying t with
  | some (.slice e) =>
    match srcOf h x, zeroOf P e with
    | some (news, rs), some z =>
      if news.all (fun y => y.cells.length == P.cellsOf e) = true ∧ 0 < P.cellsOf e ∧ P.bytesOf e ≤ 256 ∧ z.cells.size = P.cellsOf e then
        match s with
        | .nils =>
          if k ∈ rs ∨ 549755813888 < news.length then none else
          if obm then if P.cellsOf e = 1 ∧ news.all D.one = false then none else some { val := .sl k ((h k).ver + 1) 0 news.length (P.cellsOf e), rd := k :: rs, wr := [newOb h k (P.cellsOf e) (news.map .d)] }
          else some { val := .vec k ((h k).ver + 1) (P.cellsOf e) news, rd := k :: rs, wr := [(k, ⟨(h k).ver + 1, none⟩)] }
        | .es => if 549755813888 < news.length then none else some { val := .d (.ro news), rd := rs }
        | .vec k v sz l =>
          if (h k).ver = v ∧ (h k).ob.isNone = true ∧ k ∉ rs ∧ sz = P.cellsOf e ∧ l.length + news.length ≤ 549755813888 then
            some { val := .vec k (v + 1) sz (l ++ news), rd := k :: rs, wr := [(k, ⟨v + 1, none⟩)] }
          else none
        | .sl k v off len _ =>
          match (h k).ob with
          | some (.arr sz es) =>
            if (h k).ver = v ∧ off = 0 ∧ len ≤ es.length ∧ sz = P.cellsOf e ∧ len + news.length ≤ 549755813888 ∧ (sz = 1 → news.all D.one = true) then
              some { val := .sl k (v + 1) 0 (len + news.length) sz, rd := k :: rs, wr := [(k, ⟨v + 1, some (.arr sz (es.take len ++ news.map .d))⟩)] }
            else none
          | _ => none
        | _ => none
      else none
    | _, _ => none
  | _ => none

/-- What may be appended to a slice of that type. -/
def appT (P : Program) (t t' : TypeId) : Bool := t == t' || match P.underlying t' with
  | some .string => true
  | _ => false
/-- The type of a key's block, where it is written down. -/
def tagOf (h : Heap) (k v : Nat) : Option (TypeId × Option Nat) := match (h (tagK k)).ob with
  | some (.typ k' v' T n) => if k' = k ∧ v' = v then some (T, n) else none
  | _ => none
/-- .. the type of the block that is made being written down. -/
def withTag (typ : Bool) (T : TypeId) (n : Option Nat) (k v : Nat) (h : Heap) (out : Out) : Out :=
  if typ = true ∧ tagK k ∉ out.wr.map (·.1) then { out with rd := tagK k :: out.rd, wr := out.wr ++ [(tagK k, ⟨(h (tagK k)).ver, some (.typ k v T n)⟩)] } else out
def AV.isVec : AV → Bool
  | .vec _ _ _ _ => true
  | _ => false
def byteSl (P : Program) (t : TypeId) : Bool := match P.underlying t with
  | some (.slice e) => match P.underlying e with
    | some (.int .u8) => true
    | _ => false
  | _ => false
def bldT (P : Program) (t : TypeId) : Bool := match P.info? t with
  | some i => match i.desc with
    | .named n _ => n == "strings.Builder"
    | _ => false
  | none => false
/-- The types whose blocks are written down: a strings.Builder, and what has one as a field. -/
def tagT (P : Program) (t : TypeId) : Bool := bldT P t || match P.underlying t with
  | some (.struct fs) => fs.toList.any fun f => bldT P f.type
  | _ => false
def opAppendT (P : Program) (obm : Bool) (t : TypeId) (s x : AV) (k : Nat) (h : Heap) : Option Out :=
  match opAppend P obm t s x k h with
  | some out => match byteSl P t, P.underlying t, out.val with
    | true, some (.slice e), .vec k' v' _ _ =>
      if v' = (h k').ver + 1 ∧ (s.isVec = false ∨ tagOf h k' (h k').ver = some (e, none)) then some (withTag true e none k' v' h { out with rd := k' :: tagK k' :: out.rd })
      else some { out with rd := k' :: tagK k' :: out.rd }
    | _, _, _ => some out
  | none => none

/-- A pointer turned to unsafe.Pointer, and back. -/
def opConvPtr (P : Program) (src dst : TypeId) (x : AV) (h : Heap) : Option Out :=
  match P.underlying src, P.underlying dst, x with
  | some (.pointer t), some .unsafePointer, .ptr k v i off sz =>
    match tagOf h k v with
    | some (_, some n) => if (h k).ver = v ∧ knownT P t = true ∧ P.cellsOf t ≠ 0 ∧ i * sz + off < n then some { val := .ptr k v i off sz, rd := [k, tagK k] } else none
    | _ => none
  | some .unsafePointer, some (.pointer u), .ptr k v i off sz =>
    match tagOf h k v with
    | some (T, some n) => if (h k).ver = v ∧ knownT P u = true ∧ liesAt P P.depth T (n / P.cellsOf T) (i * sz + off) u 1 = true then some { val := .ptr k v i off sz, rd := [k, tagK k] } else none
    | _ => none
  | _, _, _ => none
def opConv (P : Program) (src dst : TypeId) (x : AV) (h : Heap) : Option Out :=
  match opConvBytes P src dst x with
  | some out => some out
  | none => match opConvStr P src dst x with
    | some v => some { val := v }
    | none => match opConvert P src dst x with
      | some v => some { val := v }
      | none => match opConvSame P src dst x h with
        | some out => some out
        | none => opConvPtr P src dst x h

/-- A slice's first element's place. -/
def opSliceData (x : AV) : Option AV :=
  match x with
  | .vec k v sz (y :: l) => if sz = 1 then some (.vp k v (y :: l)) else none
  | .nils => some (.d .nilp)
  | _ => none
/-- Bytes, each in its range. -/
def bytesX : List D → Option (List UInt8)
  | [] => some []
  | .int .u8 n :: r => if n = ((UInt8.ofNat n.toNat).toNat : Int) then (bytesX r).map (UInt8.ofNat n.toNat :: ·) else none
  | _ :: _ => none
/-- A string that stands where a growing list stood: the list isn't written to any more. -/
def opUnsafeString (P : Program) (pt : TypeId) (x n : AV) (h : Heap) : Option Out :=
  match P.underlying pt, x, n with
  | some (.pointer u), .vp k v l, .d (.int .i64 m) =>
    match tagOf h k v, bytesX l with
    | some (T, none), some b =>
      if (h k).ver = v ∧ T = u ∧ l ≠ [] ∧ m = (l.length : Int) ∧ P.cellsOf u = 1 ∧ l.length ≤ 9223372036854775807 then some { val := .d (.str b), rd := [k, tagK k], wr := kill h [k] } else none
    | _, _ => none
  | _, _, _ => none
/-- Interface values of a known type. -/
def opMakeIface (P : Program) (t : TypeId) (x : AV) : Option AV :=
  match P.underlying t with
  | some (.interface _) => none
  | some _ => some (.iv t x)
  | none => none
def opAssert (P : Program) (asserted : TypeId) (ok : Bool) (x : AV) : Option AV :=
  match P.underlying asserted, x with
  | some (.interface _), _ => none
  | some _, .iv t y =>
    if t = asserted then some (if ok = true then .tup [y, .d (.bool true)] else y)
    else if ok = true then (zeroOf P asserted).map fun z => .tup [cst z, .d (.bool false)] else none
  | some _, .d .nili => if ok = true then (zeroOf P asserted).map fun z => .tup [cst z, .d (.bool false)] else none
  | _, _ => none

/-! ### Maps; a string's byte -/
def sameD : D → D → Option Bool
  | .int k a, .int k' b => if k = k' then some (a == b) else none
  | .str a, .str b => some (a == b)
  | .agg a, .agg b => intsEq a b
  | _, _ => none
def findD (x : D) : List (D × D × Nat) → Nat → Option (Option (Nat × D))
  | [], _ => some none
  | e :: r, i => match sameD x e.1 with
    | some true => some (some (i, e.2.1))
    | some false => findD x r (i + 1)
    | none => none
def setAtD (x y : D) : Nat → List (D × D × Nat) → List (D × D × Nat)
  | _, [] => []
  | 0, e :: r => (x, y, e.2.2) :: r
  | n + 1, e :: r => e :: setAtD x y n r
/-- Fields that are integers, one behind another. -/
def keyFields (P : Program) : List Field → Nat → List D → Bool
  | [], _, [] => true
  | f :: fs, i, .int k _ :: xs => (decide (f.name ≠ "_") && (f.offset == i && (aggT P f.type == some false && (match P.underlying f.type with
    | some (.int k') => decide (k = k')
    | _ => false)))) && keyFields P fs (i + 1) xs
  | _, _, _ => false
/-- Is it a key of the type? -/
def keyT (P : Program) (t : TypeId) (x : D) : Bool := match P.underlying t, x with
  | some (.int k), .int k' _ => decide (k = k')
  | some .string, .str _ => true
  | some (.struct fs), .agg xs => P.stoodInHeld t == false && keyFields P fs.toList 0 xs
  | _, _ => false
def opMakeMap (k : Nat) (h : Heap) : Option Out := some { val := .mp k ((h k).ver + 1), rd := [k], wr := [(k, ⟨(h k).ver + 1, some (.map [] 0)⟩)] }
def opMapUpdate (P : Program) (t : TypeId) (m key x : AV) (h : Heap) : Option Out :=
  match P.underlying t, m, key, x with
  | some (.map kt _), .mp k v, .d kd, .d xd =>
    match (h k).ob with
    | some (.map es c) =>
      if (h k).ver = v ∧ keyT P kt kd = true then
        match findD kd es 0 with
        | some (some (i, _)) => some { val := .junk, rd := [k], wr := [(k, ⟨v, some (.map (setAtD kd xd i es) c)⟩)] }
        | some none => some { val := .junk, rd := [k], wr := [(k, ⟨v, some (.map (es ++ [(kd, xd, c)]) (c + 1))⟩)] }
        | none => none
      else none
    | _ => none
  | _, _, _, _ => none
def opLookup (P : Program) (t : TypeId) (m key : AV) (ok : Bool) (h : Heap) : Option Out :=
  match P.underlying t, m, key with
  | some (.map kt et), .mp k v, .d kd =>
    match (h k).ob with
    | some (.map es _) =>
      if (h k).ver = v ∧ keyT P kt kd = true then
        match findD kd es 0 with
        | some (some (_, y)) => some { val := if ok = true then .tup [.d y, .d (.bool true)] else .d y, rd := [k] }
        | some none => match zeroOf P et with
          | some z => some { val := if ok = true then .tup [cst z, .d (.bool false)] else cst z, rd := [k] }
          | none => none
        | none => none
      else none
    | _ => none
  | _, _, _ => none
def opLenMap (P : Program) (t : TypeId) (k v : Nat) (h : Heap) : Option Out :=
  match P.underlying t with
  | some (.map _ _) => match (h k).ob with
    | some (.map es _) => if (h k).ver = v then some { val := .d (.int .i64 (es.length : Int)), rd := [k] } else none
    | _ => none
  | _ => none
def opIndex (P : Program) (t : TypeId) (x ix : AV) : Option AV :=
  match P.underlying t, x, ix with
  | some .string, .d (.str s), .d (.int _ i) => if 0 ≤ i then (s[i.toNat]?).map fun b => .d (.int .u8 (b.toNat : Int)) else none
  | _, _, _ => none

def opCall (cfg : Cfg) (i f : Nat) (args : List AV) (h : Heap) : Option Out :=
  match toDs args with
  | some ds => some { val := retAV (cfg.ret i), ob := [(f, ds, cfg.ret i)] }
  | none => match view.go 12 h args with
    | some r => if (cfg.ret i).all D.scal = true then some { val := retAV (cfg.ret i), rd := r.2, ob := [(f, r.1, cfg.ret i)] } else none
    | none => none

def firstAt (c : UInt8) : List UInt8 → Nat → Option Nat
  | [], _ => none
  | x :: r, i => if x == c then some i else firstAt c r (i + 1)
/-- What the model answers itself, on data. -/
def extD (k : ExtK) (ds : List D) : Option D :=
  match k, ds with
  | .indexByte, [.str s, .int .u8 c] => some (.int .i64 (match firstAt c.toNat.toUInt8 s 0 with
    | some i => (i : Int)
    | none => -1))
  | _, _ => none
def coreCall (P : Program) (cfg : Cfg) (i : Nat) (c : Call) (ρ : Operand → AV) (h : Heap) (k : Nat) : Option Out :=
  match c.callee with
  | .builtin .len => match c.args.toList, c.argTypes.toList with
    | [x], [t] => match ρ x with
      | .mp k v => opLenMap P t k v h
      | _ => opLen P t (ρ x)
    | _, _ => none
  | .builtin .min => match c.args.toList with
    | [x, y] => opMinMax false (ρ x) (ρ y)
    | _ => none
  | .builtin .max => match c.args.toList with
    | [x, y] => opMinMax true (ρ x) (ρ y)
    | _ => none
  | .builtin .append => match c.args.toList, c.argTypes.toList with
    | [s, x], [t, t'] => if appT P t t' = true then opAppendT P (cfg.obm i) t (ρ s) (ρ x) k h else none
    | _, _ => none
  | .builtin .unsafeSliceData => match c.args.toList with
    | [x] => (opSliceData (ρ x)).map fun v => { val := v }
    | _ => none
  | .builtin .unsafeString => match c.args.toList, c.argTypes.toList with
    | [x, n], [pt, _] => opUnsafeString P pt (ρ x) (ρ n) h
    | _, _ => none
  | .value f => match ρ f with
    | .fn g caps => match GlobTab.ext g with
      | some .same => match c.args.toList.map ρ ++ caps with
        | [x] => some { val := x }
        | _ => none
      | some k => match toDs (c.args.toList.map ρ ++ caps) with
        | some ds => (extD k ds).map fun d => { val := .d d }
        | none => none
      | none => opCall cfg i g (c.args.toList.map ρ ++ caps) h
    | _ => none
  | _ => none

def core (P : Program) (cfg : Cfg) (i : Nat) (o : Oper) (ρ : Operand → AV) (h : Heap) : Option Out :=
  match o.op with
  | .move x | .assign x => some { val := ρ x }
  | .pick c a b => match ρ c with
    | .d (.bool t) => some { val := if t = true then ρ a else ρ b }
    | _ => none
  | .alloc t => (opAlloc P t (cfg.base i + o.dst.getD 0) h).map (withTag (tagT P t) t ((zcells P t).map List.length) (cfg.base i + o.dst.getD 0) ((h (cfg.base i + o.dst.getD 0)).ver + 1) h)
  | .box t x => (opBox (ρ x) (cfg.base i + o.dst.getD 0) h).map (withTag (tagT P t) t (some (ρ x).cells.length) (cfg.base i + o.dst.getD 0) ((h (cfg.base i + o.dst.getD 0)).ver + 1) h)
  | .makeInterface t x => (opMakeIface P t (ρ x)).map fun v => { val := v }
  | .typeAssert x _ t ok => (opAssert P t ok (ρ x)).map fun v => { val := v }
  | .build t parts => opBuild P t ((parts.toList.map fun p => (p.1, ρ p.2)).map fun p => (p.1, frz p.2))
  | .buildSlice t len parts => opBuildSlice P (cfg.obm i) t len (parts.toList.map fun p => (p.1, ρ p.2)) (cfg.base i + o.dst.getD 0) h
  | .load t a => opLoad P t (ρ a) h
  | .store t a x => opStore P t (ρ a) (ρ x) h
  | .nilCheck x => match ρ x with
    | .ptr k v j off sz => some { val := .ptr k v j off sz }
    | .d (.rp cs) => some { val := .d (.rp cs) }
    | _ => none
  | .binOp op t x y _ => match opBin op (ρ x) (ρ y) with
    | some v => some { val := v }
    | none => match op with
      | .eql => (opEqO P t x y (ρ x) (ρ y)).map fun b => { val := .d (.bool b) }
      | .neq => (opEqO P t x y (ρ x) (ρ y)).map fun b => { val := .d (.bool (!b)) }
      | _ => none
  | .unOp op _ x => (opUn op (ρ x)).map fun v => { val := v }
  | .convert src dst x => opConv P src dst (ρ x) h
  | .makeFunc (.func f) first caps => if first.isEmpty then some { val := .fn f (caps.toList.map ρ) } else none
  | .makeSlice t l c => opMakeSlice P t (ρ l) (ρ c) (cfg.base i + o.dst.getD 0) h
  | .slice t x lo hi mx => opSlice P t (ρ x) (lo.map ρ) (hi.map ρ) (mx.map ρ)
  | .fieldAddr t x f => opFieldAddr P t (ρ x) f h
  | .field t x f => opField P t (ρ x) f
  | .indexAddr t x ix => opIndexAddr P t (ρ x) (ρ ix) h
  | .makeMap _ none => opMakeMap (cfg.base i + o.dst.getD 0) h
  | .mapUpdate t m k x | .insert t m k x => opMapUpdate P t (ρ m) (ρ k) (ρ x) h
  | .lookup t m k ok => opLookup P t (ρ m) (ρ k) ok h
  | .index t x ix => (opIndex P t (ρ x) (ρ ix)).map fun v => { val := v }
  | .extract t ix => match ρ t with
    | .tup vs => (vs[ix]?).map fun v => { val := v }
    | _ => none
  | .call c => coreCall P cfg i c ρ h (cfg.base i + o.dst.getD 0)
  | _ => none

/-- An abstract state. -/
structure St where
  env : Nat → AV
  heap : Heap

def updAll (h : Heap) : List (Nat × Ent) → Heap
  | [] => h
  | (k, e) :: r => updAll (upd h k e) r
/-- Some of a heap's entries. -/
def entries (post : List Nat) (h1 : Heap) : List (Nat × Ent) := post.map fun k => (k, h1 k)
/-- Heaps, a few entries laid over. -/
def ovl : List (Nat × Ent) → Heap → Heap
  | [], h => h
  | (k, e) :: r, h => upd (ovl r h) k e
/-- What is known of a few entries is so in the heap. -/
def Fits (h : Heap) (l : List (Nat × Ent)) : Prop := ∀ p ∈ l, p.2.ver = (h p.1).ver ∧ (p.2.ob = none ∨ p.2.ob = (h p.1).ob)
def putA (N : Nat) (env : Nat → AV) (dst : Option Nat) (x : AV) : Option (Nat → AV) :=
  match dst with
  | some d => if d < N then some (upd env d x) else none
  | none => some env

/-- What a step leaves behind for the look at orders: its place, the keys that it read, those that it wrote. -/
structure Foot where
  i : Nat
  rd : List Nat
  wr : List Nat
  /-- a call that may look at anything (what it may turn: wr) -/
  all : Bool

/-- Is an operation's guard met? -/
def wantedA (ops : Array Oper) (o : Oper) (env : Nat → AV) : Option Bool :=
  match o.guard with
  | none => some true
  | some (j, want) => match (ops[j]?).bind (·.dst) with
    | some t => match env t with
      | .d (.bool b) => some (b == want)
      | .tup [] => some false
      | _ => none
    | none => none

def retV : List AV → AV
  | [x] => x
  | l => .tup l
/-- The function that an operation calls, and what it hands it. -/
def callOf (o : Oper) (env : Nat → AV) : Option (Nat × List AV) :=
  match o.op with
  | .call c => match c.callee with
    | .value f => match opd env f with
      | .fn g caps => some (g, c.args.toList.map (opd env) ++ caps)
      | _ => none
    | _ => none
  | _ => none

/-- The loop whose round an operation asks for, and what it hands it. -/
def yldOf (o : Oper) (env : Nat → AV) : Option (Nat × Nat × List AV) :=
  match o.op with
  | .call c => match c.callee with
    | .value f => match opd env f with
      | .yld k v => some (k, v, c.args.toList.map (opd env))
      | _ => none
    | _ => none
  | _ => none

open Classical in
noncomputable def stepA (P : Program) (cfg : Cfg) (N : Nat) (ops : Array Oper) (i : Nat) (o : Oper) (S : St) : Option (St × List Obl × Foot) :=
  match wantedA ops o S.env with
  | some true =>
    match cfg.hc i with
    | some (.heap rs h' tk) => if (∀ k, k ∉ tk → h' k = S.heap k) then match callOf o S.env with
      | some (g, args) => (putA N S.env o.dst (retV rs)).map fun env => (⟨env, h'⟩, [.heap g args S.heap rs h'], ⟨i, [], tk, true⟩)
      | none => match yldOf o S.env with
        | some (k, v, args) => (putA N S.env o.dst (retV rs)).map fun env => (⟨env, h'⟩, [.yield k v args S.heap rs h'], ⟨i, [], tk, true⟩)
        | none => none
      else none
    | some (.frame pre rs post) => match callOf o S.env with
      | some (g, args) => if Fits S.heap pre then (putA N S.env o.dst (retV rs)).map fun env => (⟨env, updAll S.heap post.reverse⟩, [.frame g args pre rs post], ⟨i, pre.map (·.1), post.reverse.map (·.1), false⟩) else none
      | none => none
    | some (.exact pre h0 rs post h1) => match callOf o S.env with
      | some (g, args) => if (∀ k ∈ pre, S.heap k = h0 k) then (putA N S.env o.dst (retV rs)).map fun env => (⟨env, updAll S.heap (entries post h1)⟩, [.exact g args pre h0 rs post h1], ⟨i, pre, post, false⟩) else none
      | none => none
    | none =>
    match core P cfg i o (opd S.env) S.heap with
    | some out => (putA N S.env o.dst out.val).map fun env => (⟨env, updAll S.heap out.wr⟩, out.ob.map .data, ⟨i, out.rd, out.wr.map (·.1), false⟩)
    | none => none
  | some false => (putA N S.env o.dst (.tup [])).map fun env => (⟨env, S.heap⟩, [], ⟨i, [], [], false⟩)
  | none => none

noncomputable def runA (P : Program) (cfg : Cfg) (N : Nat) (ops : Array Oper) : List Nat → St → Option (St × List Obl × List Foot)
  | [], S => some (S, [], [])
  | i :: r, S =>
    match ops[i]? with
    | none => none
    | some o => match stepA P cfg N ops i o S with
      | none => none
      | some a => match runA P cfg N ops r a.1 with
        | none => none
        | some b => some (b.1, a.2.1 ++ b.2.1, a.2.2 :: b.2.2)
end Go.Avm
