import Derived.Calls
import Derived.Laws.Sem
import Derived.Below
import Derived.Laws.Strings
import Derived.Laws.StructEq
/-
  THE ABSTRACT MACHINE: a deterministic evaluator over an abstract heap without capacities and without the tape.
-/
namespace Go.Am

/-- What stands under an abstract number. -/
inductive AObj where
  | row (cells : List Value) (elem : TypeId) (fz : Nat)
  | map (es : List MapEntry) (clock : Nat)
  | siter (s : ByteArray) (pos : Nat)
  | miter (m : Option Nat) (since : Nat) (seen : List Nat) (stepped : Nat)
  deriving Inhabited

/-- A tree by a number's binary digits. -/
inductive Tri (α : Type) where
  | nil
  | node (v : Option α) (l r : Tri α)
  deriving Inhabited

/-- The way to a number in such a tree. -/
inductive Way where
  | here
  | left (p : Way)
  | right (p : Way)
  deriving DecidableEq

noncomputable def wayF (f : Nat) : Nat → Way :=
  Nat.rec (motive := fun _ => Nat → Way) (fun _ => .here)
    (fun _ ih k => Nat.rec (motive := fun _ => (Nat → Way) → Way) (fun _ => .here)
      (fun k' _ ih => Bool.rec (motive := fun _ => Way → Way) (fun p => .right p) (fun p => .left p) (Nat.beq (Nat.mod k' 2) 0) (ih (Nat.div k' 2))) k ih) f

noncomputable def wayOf (k : Nat) : Way := wayF (Nat.succ k) k

noncomputable def Tri.getW {α : Type} (p : Way) (t : Tri α) : Option α :=
  Way.rec (motive := fun _ => Tri α → Option α)
    (fun t => Tri.rec (motive := fun _ => Option α) none (fun v _ _ _ _ => v) t)
    (fun _ ih t => Tri.rec (motive := fun _ => (Tri α → Option α) → Option α) (fun _ => none) (fun _ l _ _ _ ih => ih l) t ih)
    (fun _ ih t => Tri.rec (motive := fun _ => (Tri α → Option α) → Option α) (fun _ => none) (fun _ _ r _ _ ih => ih r) t ih) p t

noncomputable def Tri.setW {α : Type} (p : Way) (t : Tri α) (x : Option α) : Tri α :=
  Way.rec (motive := fun _ => Tri α → Option α → Tri α)
    (fun t x => Tri.rec (motive := fun _ => Option α → Tri α) (fun x => .node x .nil .nil) (fun _ l r _ _ x => .node x l r) t x)
    (fun _ ih t x => Tri.rec (motive := fun _ => (Tri α → Option α → Tri α) → Option α → Tri α) (fun ih x => .node none (ih .nil x) .nil) (fun v l r _ _ ih x => .node v (ih l x) r) t ih x)
    (fun _ ih t x => Tri.rec (motive := fun _ => (Tri α → Option α → Tri α) → Option α → Tri α) (fun ih x => .node none .nil (ih .nil x)) (fun v l r _ _ ih x => .node v l (ih r x)) t ih x) p t x

noncomputable def Tri.get {α : Type} (t : Tri α) (k : Nat) : Option α := t.getW (wayOf k)
noncomputable def Tri.set {α : Type} (t : Tri α) (k : Nat) (x : Option α) : Tri α := t.setW (wayOf k) x

abbrev Tr := Tri AObj
abbrev Rs := Tri Value

mutual
/-- No address stands in it. -/
noncomputable def ground : Value → Bool
  | .pointer a => a.isNone
  | .slice a _ _ => a.isNone
  | .map r => r.isNone
  | .chan r => r.isNone
  | .func _ f c => groundA f && groundA c
  | .iface _ v => ground v
  | .agg cs => groundA cs
  | .tuple vs => groundA vs
  | _ => true
noncomputable def groundA : Array Value → Bool
  | ⟨l⟩ => groundL l
noncomputable def groundL : List Value → Bool
  | [] => true
  | v :: l => ground v && groundL l
end

/-- A Sem that asks nothing but the program. -/
noncomputable def pureRun {α : Type} (P : Program) : Sem α → Option α
  | .pure a => some a
  | .program k => pureRun P (k P)
  | .mark _ k => pureRun P k
  | _ => none

noncomputable def junk : Value := .chan (some 0)
noncomputable def bad : Value := .chan (some 1)

/-- It may stand in a cell. -/
noncomputable def oneC : Value → Bool
  | .agg _ | .tuple _ => false
  | .chan (some n) => Nat.beq n 0
  | _ => true

noncomputable def put (n : Nat) (rs : Rs) (dst : Option Tmp) (v : Value) : Rs :=
  match dst with
  | some d => bif Nat.blt d n then rs.set d (some v) else rs
  | none => rs

noncomputable def startF : Nat → List Value → Rs → Rs
  | _, [], rs => rs
  | i, v :: l, rs => startF (i + 1) l (rs.set i (some v))

/-- The memory: the heap and the next number. -/
structure Mem where
  t : Tr
  n : Nat
  deriving Inhabited

inductive OpR where
  | val (v : Value)
  | alloc (o : AObj) (v : Value)
  | step (v : Value) (t : Tr)
  | stepNew (v : Value) (t : Tr) (o : AObj)
  | enter (f : FuncId) (args : List Value)

section
variable (P : Program)

noncomputable def constOk : Value → Bool
  | .bool _ | .int _ _ | .float _ _ | .complex _ _ _ | .string _ | .pointer none | .slice none 0 0 | .map none | .nilIface | .nilFunc => true
  | _ => false

noncomputable def allL {α : Type} (f : α → Bool) : List α → Bool
  | [] => true
  | v :: l => f v && allL f l

noncomputable def goodZ : Value → Bool
  | .agg cs => allL constOk cs.toList
  | v => constOk v

noncomputable def eval (rs : Rs) : Operand → Value
  | .tmp t => (rs.get t).getD undef
  | .const v => bif constOk v then v else bad
  | .global g => bif Nat.blt g P.globals.size then .pointer (some ⟨g, 0, none⟩) else bad
  | .func f => .func (.func f) #[] #[]


noncomputable def under (t : TypeId) : Option TypeDesc := P.underlying t
noncomputable def sizeT (t : TypeId) : Option Nat := (P.info? t).map (·.size)
noncomputable def bytesT (t : TypeId) : Option Nat := (P.info? t).map (·.bytes)
noncomputable def noTuple : Option Value → Option Value
  | some (.tuple _) => none
  | z => z
noncomputable def zeroT (t : TypeId) : Option Value := bif Nat.blt t P.types.size then noTuple ((P.info? t).bind (·.zero)) else none
noncomputable def aggT (t : TypeId) : Option Bool :=
  match under P t with
  | some (.struct _) | some (.array _ _) => some true
  | some _ => some false
  | none => none

noncomputable def rowAt (h : Tr) (id : Nat) : Option (List Value × TypeId × Nat) :=
  match h.get id with
  | some (.row cs e fz) => some (cs, e, fz)
  | _ => none

noncomputable def rowFits (h : Tr) (id s : Nat) : Bool :=
  match rowAt h id with
  | some (_, t, _) => sizeT P t == some s
  | none => false

noncomputable def mapAt (h : Tr) (id : Nat) : Option (List MapEntry × Nat) :=
  match h.get id with
  | some (.map es c) => some (es, c)
  | _ => none

/-- n cells from a place on. -/
noncomputable def cellsAt (h : Tr) (id off n : Nat) : Option (List Value) :=
  match rowAt h id with
  | some (cs, _, _) => if off + n ≤ cs.length then some ((cs.drop off).take n) else none
  | none => none

/-- A list with some of its cells written anew. -/
noncomputable def splice (cs : List Value) (off : Nat) (vs : List Value) : List Value := cs.take off ++ vs ++ cs.drop (off + vs.length)

noncomputable def storeAt (h : Tr) (id off : Nat) (vs : List Value) : Option Tr :=
  match rowAt h id with
  | some (cs, e, fz) => if off + vs.length ≤ cs.length ∧ fz / 2 ≤ off ∧ allL oneC vs = true then some (h.set id (some (.row (splice cs off vs) e fz))) else none
  | none => none

noncomputable def loadT (h : Tr) (t : TypeId) (id off : Nat) : Option Value :=
  match aggT P t with
  | some true => match sizeT P t with
    | some s => (cellsAt h id off s).map fun l => .agg ⟨l⟩
    | none => none
  | some false => match rowAt h id with
    | some (cs, _, _) => cs[off]?
    | none => none
  | none => none

noncomputable def intOf : Value → Option Int
  | .int _ n => some n
  | _ => none

noncomputable def boundOf (v : Value) (top : Nat) : Option Nat :=
  match v with
  | .int _ n => if 0 ≤ n ∧ n ≤ top then some n.toNat else none
  | _ => none

/-- low, high, max of a slice expression over a slice of this length and (known) capacity. -/
noncomputable def bounds (len cap : Nat) (lo hi mx : Option Value) : Option (Nat × Nat × Nat) :=
  match (match mx with | some v => boundOf v cap | none => some cap) with
  | none => none
  | some m =>
    match (match hi, mx with | some v, some _ => boundOf v m | some v, none => boundOf v cap | none, none => some len | none, some _ => none) with
    | none => none
    | some h =>
      match (match lo with | some v => boundOf v h | none => some 0) with
      | none => none
      | some l => some (l, h, m)

/-- Of a map's keys: of one plain kind. -/
noncomputable def keySame : Value → Value → Option Bool
  | .int k a, .int j b => if k = j then some (a == b) else none
  | .string a, .string b => some (a.data.toList == b.data.toList)
  | .bool a, .bool b => some (a == b)
  | _, _ => none

noncomputable def findKey (k : Value) : List MapEntry → Nat → Option (Option (Nat × Value))
  | [], _ => some none
  | e :: es, i =>
    match keySame k e.key with
    | some true => some (some (i, e.val))
    | some false => findKey k es (i + 1)
    | none => none

noncomputable def plainKey (t : TypeId) (k : Value) : Bool :=
  match under P t, k with
  | some (.int j), .int i _ => j == i
  | some .string, .string _ => true
  | some .bool, .bool _ => true
  | _, _ => false

noncomputable def isNilV : Value → Option Bool
  | .pointer a => some a.isNone
  | .slice a _ _ => some a.isNone
  | .map r => some r.isNone
  | .nilIface => some true
  | .iface _ _ => some false
  | .nilFunc => some true
  | .func _ _ _ => some false
  | _ => none

noncomputable def nilLit : Value → Bool
  | .pointer none | .slice none _ _ | .map none | .nilIface | .nilFunc => true
  | _ => false

/-- == where an address may stand on a side: one side is nil, or two addresses in one row. -/
noncomputable def eqAddr (t : TypeId) (x y : Value) : Option Bool :=
  match under P t, x, y with
  | some (.pointer _), .pointer none, .pointer b => some b.isNone
  | some (.pointer _), .pointer a, .pointer none => some a.isNone
  | some (.pointer e), .pointer (some a), .pointer (some b) =>
    if a.block = b.block then (match sizeT P e with | some 0 => none | some _ => some (a.off == b.off) | none => none) else none
  | some (.slice _), .slice none _ _, .slice b _ _ => some b.isNone
  | some (.slice _), .slice a _ _, .slice none _ _ => some a.isNone
  | some (.map _ _), .map none, .map b => some b.isNone
  | some (.map _ _), .map a, .map none => some a.isNone
  | some (.interface _), .nilIface, .iface _ _ => some false
  | some (.interface _), .iface _ _, .nilIface => some false
  | some (.func _ _ _), .nilFunc, .func _ _ _ => some false
  | some (.func _ _ _), .func _ _ _, .nilFunc => some false
  | _, _, _ => none

noncomputable def isJunk : Value → Bool
  | .chan _ => true
  | _ => false

noncomputable def fillL (place : Nat → Option (Nat × Nat)) (cells : List Value) : List (Nat × Value) → Option (List Value)
  | [] => some cells
  | (i, v) :: rest =>
    match place i with
    | none => none
    | some (off, size) =>
      let cs := v.cells.toList
      if isJunk v || cs.length ≠ size || off + size > cells.length then none else fillL place (splice cells off cs) rest

noncomputable def repCells (zero : List Value) (n : Nat) : List Value := (List.range (n * zero.length)).map fun i => zero[i % zero.length]!

noncomputable def bytesOfCells : List Value → Option (List UInt8)
  | [] => some []
  | .int .u8 n :: l => (bytesOfCells l).map fun r => UInt8.ofNat n.toNat :: r
  | _ => none

noncomputable def cellsOfBytes (l : List UInt8) : List Value := l.map fun b => .int .u8 b.toNat

noncomputable def roomy (n : Nat) : Bool := n ≤ 140737488355328

/-- append(s, the cells): new cells behind a slice. -/
noncomputable def appendCells (h : Tr) (elem size bytes : Nat) (s : Value) (new : List Value) (k : Nat) : Option OpR :=
  match s with
  | .slice none _ _ =>
    if k = 0 then some (.val (.slice none 0 0))
    else if roomy (k * bytes) then some (.alloc (.row new elem 0) (.slice (some ⟨0, 0, none⟩) k k)) else none
  | .slice (some a) len cap =>
    let need := len + k
    if need ≤ cap then
      if rowFits P h a.block size = false then none else
      match storeAt h a.block (a.off + len * size) new with
      | some h' => some (.step (.slice (some a) need cap) h')
      | none => none
    else if roomy (need * bytes) then
      match rowAt h a.block with
      | some (cs, e, fz) =>
        if e = elem ∧ a.off + len * size ≤ cs.length ∧ fz / 2 ≤ a.off + len * size ∧ (0 < cap ∨ a.spot = some 1) then
          let cells := (cs.drop a.off).take (len * size) ++ new
          if a.spot = some 1 then some (.alloc (.row cells elem 0) (.slice (some ⟨0, 0, none⟩) need need))
          else some (.stepNew (.slice (some ⟨0, 0, none⟩) need need) (h.set a.block none) (.row cells elem (2 * (fz / 2 - a.off) + fz % 2)))
        else none
      | none => none
    else none
  | _ => none

/-- The first k elements' cells of a slice, or of a string. -/
noncomputable def headCells (h : Tr) (size k : Nat) : Value → Option (List Value)
  | .slice (some a) _ _ => cellsAt h a.block a.off (k * size)
  | .slice none _ _ => if k = 0 then some [] else none
  | .string s => some (cellsOfBytes (s.data.toList.take k))
  | _ => none

noncomputable def srcOk (d : TypeDesc) (size : Nat) : Value → Bool
  | .string _ => (d matches .string) && Nat.beq size 1
  | .slice _ _ _ => (d matches .slice _)
  | _ => false

noncomputable def lenOfV : Value → Option Nat
  | .slice _ n _ => some n
  | .string s => some s.size
  | _ => none

noncomputable def minL (mn : Bool) (k : IntKind) (x : Int) : List Value → Option Value
  | [] => some (.int k x)
  | .int j y :: l => if k = j then minL mn k (if (if mn then y < x else x < y) then y else x) l else none
  | _ => none

noncomputable def minR (mn : Bool) : List Value → Option Value
  | .int k x :: l => minL mn k x l
  | _ => none

noncomputable def builtinR (h : Tr) (b : Builtin) (argTypes : Array TypeId) (_type : TypeId) (args : List Value) : Option OpR :=
  match b with
  | .len =>
    match (argTypes[0]?).bind (under P), (args[0]? : Option Value) with
    | some .string, some (.string s) => some (.val (.int .i64 s.size))
    | some (.slice _), some (.slice _ n _) => some (.val (.int .i64 n))
    | some (.map _ _), some (.map none) => some (.val (.int .i64 0))
    | some (.map _ _), some (.map (some r)) => (mapAt h r).map fun m => .val (.int .i64 m.1.length)
    | _, _ => none
  | .cap =>
    match (argTypes[0]?).bind (under P), (args[0]? : Option Value) with
    | some (.slice _), some (.slice none _ _) => some (.val (.int .i64 0))
    | some (.slice _), some (.slice (some a) _ c) => if a.spot = some 1 then some (.val (.int .i64 c)) else none
    | _, _ => none
  | .append =>
    match argTypes.toList, args with
    | [t, tx], [s, x] =>
      match under P t, under P tx, lenOfV x with
      | some (.slice elem), some dx, some k =>
        match sizeT P elem, bytesT P elem, zeroT P elem with
        | some size, some bytes, some _ =>
          if size = 0 ∨ bytes = 0 then none else
          if srcOk dx size x = false then none else
          match headCells h size k x with
          | some new => if allL oneC new then appendCells P h elem size bytes s new k else none
          | none => none
        | _, _, _ => none
      | _, _, _ => none
    | _, _ => none
  | .copy =>
    match (argTypes[0]?).bind (under P), (args[0]? : Option Value), (args[1]? : Option Value) with
    | some (.slice elem), some (.slice base dLen _), some x =>
      match sizeT P elem, lenOfV x with
      | some size, some k =>
        let n := Nat.min k dLen
        match headCells h size n x, base with
        | some cs, some a => (storeAt h a.block a.off cs).map fun h' => .step (.int .i64 n) h'
        | some _, none => some (.val (.int .i64 n))
        | none, _ => none
      | _, _ => none
    | _, _, _ => none
  | .clear =>
    match (argTypes[0]?).bind (under P), (args[0]? : Option Value) with
    | some (.slice elem), some (.slice base n _) =>
      match base with
      | none => some (.val (.tuple #[]))
      | some a => if n = 0 then some (.val (.tuple #[])) else
        match zeroT P elem with
        | some z => (storeAt h a.block a.off (repCells z.cells.toList n)).map fun h' => .step (.tuple #[]) h'
        | none => none
    | _, _ => none
  | .delete =>
    match (argTypes[0]?).bind (under P), (args[0]? : Option Value), (args[1]? : Option Value) with
    | some (.map kt _), some m, some k =>
      if plainKey P kt k then
        match m with
        | .map none => some (.val (.tuple #[]))
        | .map (some r) =>
          match mapAt h r with
          | some (es, clock) =>
            match findKey k es 0 with
            | some (some (i, _)) => some (.step (.tuple #[]) (h.set r (some (.map (es.eraseIdx i) clock))))
            | some none => some (.step (.tuple #[]) (h.set r (some (.map es clock))))
            | none => none
          | none => none
        | _ => none
      else none
    | _, _, _ => none
  | .unsafeSliceData =>
    match args with
    | [.slice none _ _] => some (.val (.pointer none))
    | [.slice (some a) _ c] => if c ≠ 0 then some (.val (.pointer (some { a with spot := none }))) else none
    | _ => none
  | .unsafeString =>
    match args, (argTypes[0]?).bind (under P) with
    | [.pointer none, .int _ n], some _ => if n = 0 then some (.val (.string .empty)) else none
    | [.pointer (some a), .int _ n], some (.pointer u) =>
      if n < 0 ∨ n > 9223372036854775807 then none else if n = 0 then some (.val (.string .empty)) else
      match rowAt h a.block with
      | some (cs, e, fz) =>
        if e = u ∧ sizeT P e = some 1 ∧ a.off + n.toNat ≤ cs.length ∧ fz / 2 ≤ cs.length ∧ fz % 2 = 0 then
          match bytesOfCells ((cs.drop a.off).take n.toNat) with
          | some bs => some (.step (.string ⟨⟨bs⟩⟩) (h.set a.block (some (.row cs e (2 * max (fz / 2) (a.off + n.toNat))))))
          | none => none
        else none
      | none => none
    | _, _ => none
  | .min => (minR true args).map .val
  | .max => (minR false args).map .val
  | _ => none

noncomputable def cmpL : List UInt8 → List UInt8 → Int
  | [], [] => 0
  | [], _ :: _ => -1
  | _ :: _, [] => 1
  | a :: x, b :: y => if a = b then cmpL x y else if a < b then -1 else 1

/-- A function without a body: three of the library's. -/
noncomputable def externR (fn : Func) (args : List Value) : Option OpR :=
  if fn.name = "internal/abi.NoEscape" then
    match args with
    | [x] => some (.val x)
    | _ => none
  else if fn.name = "internal/bytealg.MakeNoZero" then
    match args, (fn.resultTypes[0]?).bind (under P) with
    | [.int .i64 n], some (.slice elem) =>
      if 0 ≤ n ∧ roomy n.toNat ∧ sizeT P elem = some 1 then some (.alloc (.row (List.replicate n.toNat junk) elem 0) (.slice (some ⟨0, 0, none⟩) n.toNat n.toNat)) else none
    | _, _ => none
  else if fn.name = "internal/bytealg.abigen_runtime_cmpstring" then
    match args with
    | [.string a, .string b] => some (.val (.int .i64 (cmpL a.data.toList b.data.toList)))
    | _ => none
  else none

noncomputable def callR (f : FuncId) (args : List Value) : Option OpR :=
  match P.funcs[f]? with
  | none => none
  | some fn =>
    if fn.body.isNone then externR P fn args
    else if fn.name = "runtime.NumGoroutine" then none else some (.enter f args)

noncomputable def strR (op : BinOp) (x y : List UInt8) : Option Value :=
  match op with
  | .add => if x.length + y.length ≤ 9223372036854775807 then some (.string ⟨⟨x ++ y⟩⟩) else none
  | .eql => some (.bool (x == y))
  | .neq => some (.bool (!(x == y)))
  | .lss => some (.bool (Op.bytesLess x y))
  | .leq => some (.bool (Op.bytesLess x y || x == y))
  | .gtr => some (.bool (!(Op.bytesLess x y || x == y)))
  | .geq => some (.bool (!(Op.bytesLess x y)))
  | _ => none

noncomputable def intR (op : BinOp) (k : IntKind) (a : Int) (j : IntKind) (b : Int) : Option Value :=
  match op with
  | .add => if k = j then some (.int k (k.wrap (a + b))) else none
  | .sub => if k = j then some (.int k (k.wrap (a - b))) else none
  | .mul => if k = j then some (.int k (k.wrap (a * b))) else none
  | .quo => if k = j ∧ b ≠ 0 then some (.int k (k.wrap (a.tdiv b))) else none
  | .rem => if k = j ∧ b ≠ 0 then some (.int k (a.tmod b)) else none
  | .and => if k = j then some (.int k (k.wrap (BitVec.ofInt k.bits a &&& BitVec.ofInt k.bits b).toNat)) else none
  | .or => if k = j then some (.int k (k.wrap (BitVec.ofInt k.bits a ||| BitVec.ofInt k.bits b).toNat)) else none
  | .xor => if k = j then some (.int k (k.wrap (BitVec.ofInt k.bits a ^^^ BitVec.ofInt k.bits b).toNat)) else none
  | .andNot => if k = j then some (.int k (k.wrap (BitVec.ofInt k.bits a &&& ~~~(BitVec.ofInt k.bits b)).toNat)) else none
  | .shl => if b < 0 then none else some (.int k (k.wrap (a * 2 ^ (min b.toNat k.bits))))
  | .shr => if b < 0 then none else some (.int k (a.fdiv (2 ^ (min b.toNat k.bits))))
  | .eql => if k = j then some (.bool (a == b)) else none
  | .neq => if k = j then some (.bool (a != b)) else none
  | .lss => if k = j then some (.bool (decide (a < b))) else none
  | .leq => if k = j then some (.bool (decide (a ≤ b))) else none
  | .gtr => if k = j then some (.bool (decide (a > b))) else none
  | .geq => if k = j then some (.bool (decide (a ≥ b))) else none

/-- == of two cells of a type of one plain kind. -/
noncomputable def eqPlain (d : Option TypeDesc) (x y : Value) : Option Bool :=
  match d, x, y with
  | some (.int _), .int k a, .int j b => if k = j then some (a == b) else none
  | some .string, .string a, .string b => some (a.data.toList == b.data.toList)
  | some .bool, .bool a, .bool b => some (a == b)
  | _, _, _ => none

/-- == of structs of plain fields, from the i-th one on. -/
noncomputable def eqFlds : Nat → List Field → List Value → List Value → Option Bool
  | _, [], [], [] => some true
  | i, f :: fs, x :: l, y :: k =>
    bif Nat.beq f.offset i then
      match eqPlain (under P f.type) x y, eqFlds (i + 1) fs l k with
      | some a, some b => some (a && b)
      | _, _ => none
    else none
  | _, _, _, _ => none

noncomputable def eqStruct (t : TypeId) (a b : List Value) : Option Bool :=
  match under P t with
  | some (.struct fs) => eqFlds P 0 fs.toList a b
  | _ => none

/-- == at a type. -/
noncomputable def eqR (flats : List TypeId) (t : TypeId) (x y : Value) : Option Bool :=
  match x, y with
  | .bool a, .bool b => if under P t matches some .bool then some (a == b) else none
  | .agg a, .agg b => if flats.contains t then eqStruct P t a.toList b.toList else none
  | x, y => eqAddr P t x y

noncomputable def binR (flats : List TypeId) (op : BinOp) (t : TypeId) (x y : Value) : Option Value :=
  match x, y with
  | .int k a, .int j b => intR op k a j b
  | .string a, .string b => strR op a.data.toList b.data.toList
  | x, y =>
    match op with
    | .eql => (eqR P flats t x y).map .bool
    | .neq => (eqR P flats t x y).map fun b => .bool (!b)
    | _ => none

noncomputable def pickR (rs : Rs) (c : Operand) (a : Operand) (b : Operand) : Option OpR :=
  let ρ := eval P rs
  match ρ c with
  | .bool t => some (.val (if t then ρ a else ρ b))
  | _ => none

noncomputable def boxR (rs : Rs) (e : TypeId) (x : Operand) : Option OpR :=
  let v := eval P rs x
  if isJunk v then none else if sizeT P e = some v.cells.size then some (.alloc (.row v.cells.toList e 0) (.pointer (some ⟨0, 0, none⟩))) else none

noncomputable def allocR (e : TypeId) : Option OpR := (zeroT P e).map fun z => .alloc (.row z.cells.toList e 0) (.pointer (some ⟨0, 0, none⟩))

noncomputable def buildR (rs : Rs) (t : TypeId) (parts : Array (Nat × Operand)) : Option OpR :=
  let ρ := eval P rs
  match (zeroT P t), under P t with
  | some z, some (.struct fields) =>
    (fillL (fun i => (fields[i]?).bind fun f => (sizeT P f.type).map fun s => (f.offset, s)) z.cells.toList (parts.toList.map fun (i, x) => (i, ρ x))).map fun l => .val (.agg ⟨l⟩)
  | some z, some (.array _ e) =>
    match sizeT P e with
    | some s => (fillL (fun i => some (i * s, s)) z.cells.toList (parts.toList.map fun (i, x) => (i, ρ x))).map fun l => .val (.agg ⟨l⟩)
    | none => none
  | _, _ => none

noncomputable def buildSliceR (rs : Rs) (t : TypeId) (len : Nat) (parts : Array (Nat × Operand)) : Option OpR :=
  let ρ := eval P rs
  match under P t with
  | some (.slice e) =>
    match sizeT P e, zeroT P e with
    | some s, some z =>
      if len * s > 16777216 then none else
      if roomy (len * (bytesT P e).getD 0) = false then none else
      (fillL (fun i => some (i * s, s)) (repCells z.cells.toList len) (parts.toList.map fun (i, x) => (i, ρ x))).map fun l =>
        .alloc (.row l e 0) (.slice (some ⟨0, 0, some 1⟩) len len)
    | _, _ => none
  | _ => none

noncomputable def makeSliceR (rs : Rs) (t : TypeId) (l : Operand) (c : Operand) : Option OpR :=
  let ρ := eval P rs
  match under P t, ρ l, ρ c with
  | some (.slice e), .int _ l, .int _ c =>
    match bytesT P e, zeroT P e with
    | some b, some z =>
      if 0 ≤ l ∧ l ≤ c ∧ c ≤ 9223372036854775807 ∧ roomy (c.toNat * b) then
        some (.alloc (.row (repCells z.cells.toList c.toNat) e 0) (.slice (some ⟨0, 0, some 1⟩) l.toNat c.toNat))
      else none
    | _, _ => none
  | _, _, _ => none

noncomputable def loadR (h : Tr) (rs : Rs) (t : TypeId) (a : Operand) : Option OpR :=
  let ρ := eval P rs
  match ρ a with
  | .pointer (some a) => (loadT P h t a.block a.off).map .val
  | _ => none

noncomputable def storeR (h : Tr) (rs : Rs) (t : TypeId) (a : Operand) (x : Operand) : Option OpR :=
  let ρ := eval P rs
  match ρ a with
  | .pointer (some a) =>
    if isJunk (ρ x) = false ∧ sizeT P t = some (ρ x).cells.size then (storeAt h a.block a.off (ρ x).cells.toList).map fun h' => .step undef h' else none
  | _ => none

noncomputable def nilCheckR (rs : Rs) (x : Operand) : Option OpR :=
  let ρ := eval P rs
  match ρ x with
  | .pointer none | .nilIface | .nilFunc => none
  | .func (.method _) _ _ => none
  | .chan _ => none
  | x => some (.val x)

noncomputable def fieldAddrR (rs : Rs) (s : TypeId) (x : Operand) (f : Nat) : Option OpR :=
  let ρ := eval P rs
  match under P s, ρ x with
  | some (.struct fields), .pointer (some a) =>
    match fields[f]? with
    | some fl => match sizeT P fl.type with
      | some (_ + 1) => some (.val (.pointer (some ⟨a.block, a.off + fl.offset, none⟩)))
      | _ => none
    | none => none
  | _, _ => none

noncomputable def indexAddrR (rs : Rs) (t : TypeId) (x : Operand) (ix : Operand) : Option OpR :=
  let ρ := eval P rs
  match under P t, ρ x, ρ ix with
  | some (.array len e), .pointer (some a), .int _ i =>
    match sizeT P e with
    | some s => if 0 ≤ i ∧ i < len then some (.val (.pointer (some ⟨a.block, a.off + i.toNat * s, none⟩))) else none
    | none => none
  | some (.slice e), .slice (some a) len _, .int _ i =>
    match sizeT P e with
    | some s => if 0 ≤ i ∧ i < len then some (.val (.pointer (some ⟨a.block, a.off + i.toNat * s, none⟩))) else none
    | none => none
  | _, _, _ => none

noncomputable def fieldR (rs : Rs) (t : TypeId) (x : Operand) (f : Nat) : Option OpR :=
  let ρ := eval P rs
  match under P t, ρ x with
  | some (.struct fields), .agg cs =>
    match fields[f]? with
    | some fl => match aggT P fl.type, sizeT P fl.type with
      | some true, some s => some (.val (.agg ⟨(cs.toList.drop fl.offset).take s⟩))
      | some false, _ => (cs[fl.offset]?).map .val
      | _, _ => none
    | none => none
  | _, _ => none

noncomputable def indexR (rs : Rs) (t : TypeId) (x : Operand) (ix : Operand) : Option OpR :=
  let ρ := eval P rs
  match under P t, ρ x, ρ ix with
  | some (.array len e), .agg cs, .int _ i =>
    if 0 ≤ i ∧ i < len then
      match aggT P e, sizeT P e with
      | some true, some s => some (.val (.agg ⟨(cs.toList.drop (i.toNat * s)).take s⟩))
      | some false, some s => (cs[i.toNat * s]?).map .val
      | _, _ => none
    else none
  | some .string, .string s, .int _ i => if 0 ≤ i then (s.data.toList[i.toNat]?).map fun b => .val (.int .u8 b.toNat) else none
  | _, _, _ => none

noncomputable def extractR (rs : Rs) (x : Operand) (i : Nat) : Option OpR :=
  let ρ := eval P rs
  match ρ x with
  | .tuple vs => (vs[i]?).map .val
  | _ => none

noncomputable def makeInterfaceR (rs : Rs) (t : TypeId) (x : Operand) : Option OpR :=
  let ρ := eval P rs
  match under P t with
  | some (.interface _) | none => none
  | some _ => some (.val (.iface t (ρ x)))

noncomputable def sliceR (h : Tr) (rs : Rs) (t : TypeId) (x : Operand) (lo : Option Operand) (hi : Option Operand) (mx : Option Operand) : Option OpR :=
  let ρ := eval P rs
  match ρ x with
  | .slice a len cap =>
    match under P t with
    | some (.slice e) =>
      match sizeT P e, bounds len cap (lo.map ρ) (hi.map ρ) (mx.map ρ) with
      | some s, some (l, h', m) =>
        if (match a with | none => true | some a => rowFits P h a.block s) = false then none else
        let ex := (mx.isSome || a.all fun a => a.spot == some 1)
        some (.val (.slice (a.map fun a => ⟨a.block, if m = l then a.off else a.off + l * s, if ex then some 1 else none⟩) (h' - l) (m - l)))
      | _, _ => none
    | _ => none
  | .string s =>
    if under P t matches some .string then
      match bounds s.size s.size (lo.map ρ) (hi.map ρ) none, mx with
      | some (l, h', _), none => some (.val (.string ⟨⟨(s.data.toList.drop l).take (h' - l)⟩⟩))
      | _, _ => none
    else none
  | _ => none

noncomputable def convertR (h : Tr) (rs : Rs) (src : TypeId) (dst : TypeId) (x : Operand) : Option OpR :=
  let ρ := eval P rs
  match under P src, under P dst, ρ x with
  | some (.slice e), some .string, .slice (some a) len _ =>
    if under P e matches some (.int .u8) then
      ((cellsAt h a.block a.off len).bind bytesOfCells).map fun bs => .val (.string ⟨⟨bs⟩⟩)
    else none
  | some (.slice e), some .string, .slice none _ _ => if under P e matches some (.int .u8) then some (.val (.string .empty)) else none
  | some .string, some (.slice e), .string s =>
    if under P e matches some (.int .u8) then
      if sizeT P e = some 1 then some (.alloc (.row (cellsOfBytes s.data.toList) e 1) (.slice (some ⟨0, 0, none⟩) s.size s.size)) else none
    else none
  | some (.pointer _), some .unsafePointer, .pointer none | some .unsafePointer, some (.pointer _), .pointer none => some (.val (.pointer none))
  | some (.pointer u), some .unsafePointer, .pointer (some a) =>
    match rowAt h a.block, sizeT P u with
    | some (cs, _, _), some (_ + 1) => if a.off < cs.length then some (.val (.pointer (some a))) else none
    | _, _ => none
  | some .unsafePointer, some (.pointer u), .pointer (some a) =>
    match rowAt h a.block, sizeT P u with
    | some (cs, t, _), some (s + 1) => if t = u ∧ a.off = 0 ∧ s < cs.length then some (.val (.pointer (some a))) else none
    | _, _ => none
  | some (.int _), some (.int k), .int _ n => some (.val (.int k (k.wrap n)))
  | some .string, some .string, .string s => some (.val (.string s))
  | _, _, _ => none

noncomputable def lookupR (h : Tr) (rs : Rs) (t : TypeId) (m : Operand) (k : Operand) (ok : Bool) : Option OpR :=
  let ρ := eval P rs
  match under P t, ρ m with
  | some (.map kt e), .map r =>
    if plainKey P kt (ρ k) then
      match (match r with | none => some ([], 0) | some r => mapAt h r) with
      | some (es, _) =>
        match findKey (ρ k) es 0, zeroT P e with
        | some (some (_, v)), _ => some (.val (if ok then .tuple #[v, .bool true] else v))
        | some none, some z => some (.val (if ok then .tuple #[z, .bool false] else z))
        | _, _ => none
      | none => none
    else none
  | _, _ => none

noncomputable def mapUpdateR (h : Tr) (rs : Rs) (t : TypeId) (m : Operand) (k : Operand) (x : Operand) : Option OpR :=
  let ρ := eval P rs
  match under P t, ρ m with
  | some (.map kt _), .map (some r) =>
    if plainKey P kt (ρ k) then
      match mapAt h r with
      | some (es, clock) =>
        match findKey (ρ k) es 0 with
        | some (some (i, _)) => some (.step undef (h.set r (some (.map (es.modify i fun e => { e with key := ρ k, val := ρ x }) clock))))
        | some none => some (.step undef (h.set r (some (.map (es ++ [{ key := ρ k, val := ρ x, born := clock }]) (clock + 1)))))
        | none => none
      | none => none
    else none
  | _, _ => none

noncomputable def rangeR (h : Tr) (rs : Rs) (t : TypeId) (x : Operand) : Option OpR :=
  let ρ := eval P rs
  match under P t, ρ x with
  | some .string, .string s => some (.alloc (.siter s 0) (.pointer (some ⟨0, 0, none⟩)))
  | some (.map _ _), .map none => some (.alloc (.miter none 0 [] 0) (.pointer (some ⟨0, 0, none⟩)))
  | some (.map _ _), .map (some m) => (mapAt h m).map fun x => .stepNew (.pointer (some ⟨0, 0, none⟩)) h (.miter (some m) x.2 [] x.2)
  | _, _ => none

noncomputable def nextR (h : Tr) (rs : Rs) (it : Operand) (isString : Bool) : Option OpR :=
  let ρ := eval P rs
  match ρ it with
  | .pointer (some ⟨r, 0, none⟩) =>
    match h.get r, isString with
    | some (.siter s pos), true =>
      if pos < s.size then
        let d := Utf8.decode s pos
        some (.step (.tuple #[.bool true, .int .i64 pos, .int .i32 d.1]) (h.set r (some (.siter s (pos + d.2)))))
      else some (.val (.tuple #[.bool false]))
    | some (.miter none _ _ _), false => some (.val (.tuple #[.bool false]))
    | some (.miter (some m) since seen last), false =>
      match mapAt h m with
      | some (es, clock) =>
        if clock ≠ since then none else
        if !seen.isEmpty && !es.isEmpty && es.all fun e => decide (e.born ≥ last) then none else
        match es.filter fun e => !seen.contains e.born with
        | [] => some (.val (.tuple #[.bool false]))
        | [e] => if e.born < since then some (.step (.tuple #[.bool true, e.key, e.val]) (h.set r (some (.miter (some m) since (seen ++ [e.born]) clock)))) else none
        | _ => none
      | none => none
    | _, _ => none
  | _ => none

noncomputable def entryR (h : Tr) (rs : Rs) (it : Operand) : Option OpR :=
  let ρ := eval P rs
  match ρ it with
  | .pointer (some ⟨r, 0, none⟩) =>
    match h.get r with
    | some (.miter (some m) _ seen stepped) =>
      match seen.getLast?, mapAt h m with
      | some stamp, some (es, clock) =>
        if clock = stepped then (es.find? fun e => e.born == stamp).map fun e => .val (.tuple #[e.key, e.val]) else none
      | _, _ => none
    | _ => none
  | _ => none

noncomputable def binOpR (flats : List TypeId) (rs : Rs) (op : BinOp) (t : TypeId) (x : Operand) (y : Operand) : Option OpR :=
  let ρ := eval P rs
  match ρ x, ρ y with
  | .nilIface, .nilIface =>
    if Region.isConst x || Region.isConst y then
      match under P t, op with
      | some (.interface _), .eql => some (.val (.bool true))
      | some (.interface _), .neq => some (.val (.bool false))
      | _, _ => none
    else none
  | a, b => (binR P flats op t a b).map .val

noncomputable def unOpR (rs : Rs) (op : UnOp) (x : Operand) : Option OpR :=
  let ρ := eval P rs
  match op, ρ x with
  | .not, .bool b => some (.val (.bool (!b)))
  | .neg, .int k n => some (.val (.int k (k.wrap (0 - n))))
  | .xor, .int k n => some (.val (.int k (k.wrap (BitVec.ofInt k.bits (if k.signed then -1 else k.max) ^^^ BitVec.ofInt k.bits n).toNat)))
  | _, _ => none

noncomputable def typeAssertR (rs : Rs) (x : Operand) (t : TypeId) (ok : Bool) : Option OpR :=
  let ρ := eval P rs
  match under P t, ρ x with
  | some (.interface _), _ => none
  | none, _ => none
  | _, .iface u v => if u = t then some (.val (if ok then .tuple #[v, .bool true] else v)) else if ok then (zeroT P t).map fun z => .val (.tuple #[z, .bool false]) else none
  | _, .nilIface => if ok then (zeroT P t).map fun z => .val (.tuple #[z, .bool false]) else none
  | _, _ => none

noncomputable def callOpR (h : Tr) (rs : Rs) (ty : TypeId) (c : Call) : Option OpR :=
  let ρ := eval P rs
  match c.callee with
  | .builtin b => builtinR P h b c.argTypes ty (c.args.toList.map ρ)
  | .value f => match ρ f with
    | .func (.func f) first captured => callR P f (first.toList ++ c.args.toList.map ρ ++ captured.toList)
    | _ => none
  | .invoke r name => match ρ r with
    | .iface t v =>
      match (P.info? t).bind fun i => i.methods.toList.find? (·.name == name), under P t with
      | some m, some d =>
        match m.path.toList, m.func, d with
        | [], some (f, true), .pointer _ => callR P f (v :: c.args.toList.map ρ)
        | [], some (_, _), .pointer _ => none
        | [], some (f, false), _ => callR P f (v :: c.args.toList.map ρ)
        | _, _, _ => none
      | _, _ => none
    | _ => none

noncomputable def opR (flats : List TypeId) (h : Tr) (rs : Rs) (o : Oper) : Option OpR :=
  let ρ := eval P rs
  match o.op with
  | .move x | .assign x => some (.val (ρ x))
  | .pick c a b => pickR P rs c a b
  | .alloc e => allocR P e
  | .box e x => boxR P rs e x
  | .build t parts => buildR P rs t parts
  | .buildSlice t len parts => buildSliceR P rs t len parts
  | .makeSlice t l c => makeSliceR P rs t l c
  | .makeMap _ none => some (.alloc (.map [] 0) (.map (some 0)))
  | .makeMap _ (some _) => none
  | .load t a => loadR P h rs t a
  | .store t a x => storeR P h rs t a x
  | .nilCheck x => nilCheckR P rs x
  | .fieldAddr s x f => fieldAddrR P rs s x f
  | .indexAddr t x ix => indexAddrR P rs t x ix
  | .field t x f => fieldR P rs t x f
  | .index t x ix => indexR P rs t x ix
  | .extract x i => extractR P rs x i
  | .makeInterface t x => makeInterfaceR P rs t x
  | .makeFunc fn first cap => some (.val (.func fn ⟨first.toList.map ρ⟩ ⟨cap.toList.map ρ⟩))
  | .slice t x lo hi mx => sliceR P h rs t x lo hi mx
  | .convert src dst x => convertR P h rs src dst x
  | .lookup t m k ok => lookupR P h rs t m k ok
  | .mapUpdate t m k x | .insert t m k x => mapUpdateR P h rs t m k x
  | .range t x => rangeR P h rs t x
  | .next it isString => nextR P h rs it isString
  | .entry it => entryR P h rs it
  | .binOp op t x y _ => binOpR P flats rs op t x y
  | .unOp op _ x => unOpR P rs op x
  | .typeAssert x _ t ok => typeAssertR P rs x t ok
  | .call c => callOpR P h rs o.type c
  | _ => none

/-- A number's place in what an allocation answers. -/
noncomputable def numbered (n : Nat) : Value → Value
  | .pointer (some a) => .pointer (some { a with block := n })
  | .slice (some a) l c => .slice (some { a with block := n }) l c
  | .map (some _) => .map (some n)
  | v => v

inductive AExit where
  | normal
  | exit (id : Nat)
  | ret

/-- What is known of the program beside: types whose == is cell by cell; calls that are answered at once; of the regions that draw, which loads are to be asked again beside which other operations. -/
structure Cfg where
  flats : List TypeId
  prim : FuncId → List Value → Mem → Option (Value × Mem)
  plan : FuncId → Nat → Option (Option (List Nat) × List (Nat × Nat))

structure TE where
  h : Tr
  rs : Rs
  ran : Bool
  v : Value

structure St where
  n : Nat
  rs : Rs
  m : Mem

/-- Is the operation to be run? -/
noncomputable def wantA (ops : Array Oper) (rs : Rs) (o : Oper) : Option Bool :=
  match o.guard with
  | none => some true
  | some (j, want) =>
    match (ops[j]?).bind (·.dst) with
    | none => some false
    | some d =>
      match (rs.get d).getD undef with
      | .bool b => some (b == want)
      | .tuple _ => some false
      | _ => none

noncomputable def resultL (h : Tr) (rs : Rs) : List ResultVar → Option (List Value)
  | [] => some []
  | .tmp t :: l => (resultL h rs l).map fun r => (rs.get t).getD undef :: r
  | .cell a t :: l =>
    match (rs.get a).getD undef with
    | .pointer (some a) =>
      match loadT P h t a.block a.off, resultL h rs l with
      | some v, some r => some (v :: r)
      | _, _ => none
    | _ => none

noncomputable def resultV (h : Tr) (rs : Rs) (fn : Func) : Option Value :=
  match resultL P h rs fn.results.toList with
  | some [v] => some v
  | some l => some (.tuple ⟨l⟩)
  | none => none

noncomputable def sameL (f : Value → Value → Bool) : List Value → List Value → Bool
  | [], [] => true
  | x :: l, y :: k => f x y && sameL f l k
  | _, _ => false

noncomputable def sameAddr : Option Addr → Option Addr → Bool
  | none, none => true
  | some a, some b => Nat.beq a.block b.block && Nat.beq a.off b.off && (a.spot == b.spot)
  | _, _ => false

/-- Surely the same (of plain values and addresses; of rows of these). -/
noncomputable def same0 : Value → Value → Bool
  | .int k a, .int j b => decide (k = j) && decide (a = b)
  | .string a, .string b => a.data.toList == b.data.toList
  | .bool a, .bool b => a == b
  | .pointer a, .pointer b => sameAddr a b
  | .slice a l c, .slice b k d => sameAddr a b && Nat.beq l k && Nat.beq c d
  | .map none, .map none => true
  | .map (some a), .map (some b) => Nat.beq a b
  | .nilIface, .nilIface => true
  | .nilFunc, .nilFunc => true
  | _, _ => false

noncomputable def sameV : Value → Value → Bool
  | .agg a, .agg b => sameL same0 a.toList b.toList
  | .tuple a, .tuple b => sameL same0 a.toList b.toList
  | x, y => same0 x y

section
variable (C : Cfg)

abbrev CallFn := FuncId → List Value → Mem → Option (Value × Mem)

/-- One operation, where a call is answered by what is handed in; what it leaves in its temporary. -/
noncomputable def aOper (call : CallFn) (m : Mem) (rs : Rs) (o : Oper) : Option (Value × Mem) :=
  match opR P C.flats m.t rs o with
  | some (.val v) => some (v, m)
  | some (.alloc x v) => some (numbered m.n v, ⟨m.t.set m.n (some x), m.n + 1⟩)
  | some (.step v t) => some (v, ⟨t, m.n⟩)
  | some (.stepNew v t x) => some (numbered m.n v, ⟨t.set m.n (some x), m.n + 1⟩)
  | some (.enter f args) => call f args m
  | none => none

noncomputable def aOps1 (call : CallFn) (ops : Array Oper) (o : Oper) (go : St → Option St) (s : St) : Option St :=
  match wantA ops s.rs o with
  | some true =>
    match aOper P C call s.m s.rs o with
    | some (v, m) => go ⟨s.n, put s.n s.rs o.dst v, m⟩
    | none => none
  | some false => go ⟨s.n, put s.n s.rs o.dst undef, s.m⟩
  | none => none

noncomputable def aOps (call : CallFn) (ops : Array Oper) (l : List Oper) : St → Option St :=
  List.rec (motive := fun _ => St → Option St) some (fun o _ go s => aOps1 P C call ops o go s) l

/-- Likewise, with what stood ahead of each operation. -/
noncomputable def aTrace1 (call : CallFn) (ops : Array Oper) (o : Oper) (go : List TE → St → Option (List TE × St)) (l : List TE) (s : St) : Option (List TE × St) :=
  match wantA ops s.rs o with
  | some true =>
    match aOper P C call s.m s.rs o with
    | some (v, m) => go (⟨s.m.t, s.rs, true, v⟩ :: l) ⟨s.n, put s.n s.rs o.dst v, m⟩
    | none => none
  | some false => go (⟨s.m.t, s.rs, false, undef⟩ :: l) ⟨s.n, put s.n s.rs o.dst undef, s.m⟩
  | none => none

noncomputable def aTrace (call : CallFn) (ops : Array Oper) (l : List Oper) : List TE → St → Option (List TE × St) :=
  List.rec (motive := fun _ => List TE → St → Option (List TE × St)) (fun l s => some (l, s)) (fun o _ go l s => aTrace1 P C call ops o go l s) l

/-- The operations of a region in the planned order. -/
noncomputable def planOps (ops : Array Oper) : Option (List Nat) → List Oper
  | none => ops.toList
  | some l => l.filterMap fun i => ops[i]?

/-- Operation i tells the same, if operation j comes on its other side. -/
noncomputable def pairOk (os : List Oper) (tr : List TE) (last : Tr) (p : Nat × Nat) : Bool :=
  match tr[p.1]?, tr[p.2]?, os[p.1]? with
  | some i, some j, some o =>
    if i.ran && j.ran then
      match opR P C.flats (if p.1 < p.2 then (match tr[p.2 + 1]? with | some k => k.h | none => last) else j.h) i.rs o with
      | some (.val v) => sameV v i.v
      | _ => false
    else true
  | _, _, _ => false

noncomputable def aDrawn (call : CallFn) (f : FuncId) (id : Nat) (ops : Array Oper) (s : St) : Option St :=
  match C.plan f id with
  | some (ord, []) => aOps P C call ops (planOps ops ord) s
  | some (ord, ps) =>
    match aTrace P C call ops (planOps ops ord) [] s with
    | some (tr, s') => if allL (pairOk P C (planOps ops ord) tr.reverse s'.m.t) ps then some s' else none
    | none => none
  | none => none

abbrev Run := St → Option (AExit × St)

noncomputable def thenR (b : Run) : Option (AExit × St) → Option (AExit × St)
  | some (.normal, s) => b s
  | r => r
noncomputable def condR (c : Operand) (a b : Run) (s : St) : Option (AExit × St) :=
  match eval P s.rs c with
  | .bool true => a s
  | .bool false => b s
  | _ => none
noncomputable def blockR (id : Nat) : Option (AExit × St) → Option (AExit × St)
  | some (.exit i, s) => bif Nat.beq i id then some (.normal, s) else some (.exit i, s)
  | r => r
noncomputable def regionR : Option St → Option (AExit × St)
  | some s => some (.normal, s)
  | none => none

noncomputable def aRegion (call : CallFn) (f : FuncId) (id : Nat) (ops : Array Oper) (draw : Bool) (s : St) : Option (AExit × St) :=
  bif draw then regionR (aDrawn P C call f id ops s) else regionR (aOps P C call ops ops.toList s)

noncomputable def aCode (call : CallFn) (loops : Run → Run) (f : FuncId) (c : Code) : Run :=
  Code.rec (motive := fun _ => Run)
    (fun s => some (.normal, s))
    (fun id ops draw s => aRegion P C call f id ops draw s)
    (fun _ _ a b s => thenR b (a s))
    (fun c _ _ a b s => condR P c a b s)
    (fun id _ a s => blockR id (a s))
    (fun _ a s => loops a s)
    (fun _ _ _ _ _ _ _ => none)
    (fun id s => some (.exit id, s))
    (fun _ _ _ => none)
    (fun _ _ => none)
    (fun _ _ => none)
    (fun s => some (.ret, s))
    (fun _ _ => none) c

noncomputable def aLoop (body : Run) (k : Nat) : Run :=
  Nat.rec (motive := fun _ => Run) (fun _ => none) (fun _ ih s => thenR ih (body s)) k

noncomputable def callEnd (fn : Func) : Option (AExit × St) → Option (Value × Mem)
  | some (.normal, s) | some (.ret, s) => (resultV P s.m.t s.rs fn).map fun v => (v, s.m)
  | _ => none

noncomputable def aBody (ih : CallFn) (k : Nat) (f : FuncId) (args : List Value) (m : Mem) : Option (Value × Mem) :=
  match P.funcs[f]? with
  | none => none
  | some fn =>
    match fn.body with
    | none => none
    | some c => callEnd P fn (aCode P C ih (fun body s => aLoop body k s) f c { n := max fn.ntmps args.length, rs := startF 0 args .nil, m })

noncomputable def aCall (k : Nat) : CallFn :=
  Nat.rec (motive := fun _ => CallFn) (fun _ _ _ => none)
    (fun k ih f args m =>
      match C.prim f args m with
      | some r => some r
      | none => aBody P C ih k f args m) k
end
end
end Go.Am
/-
  THE ABSTRACT MACHINE, 2: when a world is as an abstract heap says.
-/
namespace Go.Am

/-- Where an abstract number stands: block, first cell; of a row: all cells of the block, cells and bytes of an element. -/
structure Ent where
  b : Nat
  d : Nat
  size : Nat
  es : Nat
  bs : Nat

abbrev Ren := Nat → Option Ent

mutual
inductive VRel (r : Ren) : Value → Value → Prop where
  | junk (v : Value) (h : v.oneCell' = true) : VRel r (.chan (some 0)) v
  | bad (v : Value) : VRel r (.chan (some 1)) v
  | bool (b : Bool) : VRel r (.bool b) (.bool b)
  | int (k : IntKind) (n : Int) : VRel r (.int k n) (.int k n)
  | float (k : FloatKind) (n : Nat) : VRel r (.float k n) (.float k n)
  | complex (k : FloatKind) (a b : Nat) : VRel r (.complex k a b) (.complex k a b)
  | string (s : ByteArray) : VRel r (.string s) (.string s)
  | pnil : VRel r (.pointer none) (.pointer none)
  | ptr {id off : Nat} {e : Ent} (h : r id = some e) : VRel r (.pointer (some ⟨id, off, none⟩)) (.pointer (some ⟨e.b, e.d + off, none⟩))
  | snil : VRel r (.slice none 0 0) (.slice none 0 0)
  | slice {id off off' len cap cap' : Nat} {sp : Option Nat} {e : Ent} (h : r id = some e) (ho : 0 < cap → off' = e.d + off) (hc : cap ≤ cap') (hl : len ≤ cap)
      (hx : sp = some 1 → cap' = cap) (hr : off' + cap' * e.es ≤ e.size) (hb : True) (ha : off' % e.es = 0) :
      VRel r (.slice (some ⟨id, off, sp⟩) len cap) (.slice (some ⟨e.b, off', none⟩) len cap')
  | mnil : VRel r (.map none) (.map none)
  | map {id : Nat} {e : Ent} (h : r id = some e) : VRel r (.map (some id)) (.map (some e.b))
  | chnil : VRel r (.chan none) (.chan none)
  | func (fn : Fn) {a b a' b' : Array Value} (h : VRelL r a.toList a'.toList) (h' : VRelL r b.toList b'.toList) : VRel r (.func fn a b) (.func fn a' b')
  | nilFunc : VRel r .nilFunc .nilFunc
  | iface (t : TypeId) {v v' : Value} (h : VRel r v v') : VRel r (.iface t v) (.iface t v')
  | nilIface : VRel r .nilIface .nilIface
  | agg {a a' : Array Value} (h : VRelL r a.toList a'.toList) : VRel r (.agg a) (.agg a')
  | tuple {a a' : Array Value} (h : VRelL r a.toList a'.toList) : VRel r (.tuple a) (.tuple a')
inductive VRelL (r : Ren) : List Value → List Value → Prop where
  | nil : VRelL r [] []
  | cons {v v' : Value} {l l' : List Value} (h : VRel r v v') (t : VRelL r l l') : VRelL r (v :: l) (v' :: l')
end

/-- A renaming that knows more. -/
def Ext (r r' : Ren) : Prop := ∀ id e, r id = some e → r' id = some e

theorem Ext.refl (r : Ren) : Ext r r := fun _ _ h => h
theorem Ext.trans {a b c : Ren} (h : Ext a b) (k : Ext b c) : Ext a c := fun _ _ x => k _ _ (h _ _ x)

mutual
theorem VRel.mono {r r' : Ren} (hx : Ext r r') : ∀ {v v' : Value}, VRel r v v' → VRel r' v v'
  | _, _, .junk v h => .junk v h
  | _, _, .bad v => .bad v
  | _, _, .bool b => .bool b
  | _, _, .int k n => .int k n
  | _, _, .float k n => .float k n
  | _, _, .complex k a b => .complex k a b
  | _, _, .string s => .string s
  | _, _, .pnil => .pnil
  | _, _, .ptr h => .ptr (hx _ _ h)
  | _, _, .snil => .snil
  | _, _, .slice h ho hc hl hs hr hb ha => .slice (hx _ _ h) ho hc hl hs hr hb ha
  | _, _, .mnil => .mnil
  | _, _, .map h => .map (hx _ _ h)
  | _, _, .chnil => .chnil
  | _, _, .func fn h h' => .func fn (h.mono hx) (h'.mono hx)
  | _, _, .nilFunc => .nilFunc
  | _, _, .iface t h => .iface t (h.mono hx)
  | _, _, .nilIface => .nilIface
  | _, _, .agg h => .agg (h.mono hx)
  | _, _, .tuple h => .tuple (h.mono hx)
theorem VRelL.mono {r r' : Ren} (hx : Ext r r') : ∀ {l l' : List Value}, VRelL r l l' → VRelL r' l l'
  | _, _, .nil => .nil
  | _, _, .cons h t => .cons (h.mono hx) (t.mono hx)
end

/-! lists -/

theorem VRelL.length {r : Ren} {l l' : List Value} (h : VRelL r l l') : l.length = l'.length := by
  induction l generalizing l' with
  | nil => cases h; rfl
  | cons a l ih => cases h with | cons _ t => simp [ih t]

theorem VRelL.get {r : Ren} {l l' : List Value} (h : VRelL r l l') {i : Nat} {v : Value} (hv : l[i]? = some v) : ∃ v', l'[i]? = some v' ∧ VRel r v v' := by
  induction l generalizing l' i with
  | nil => simp at hv
  | cons a l ih =>
    cases h with
    | cons h t =>
      cases i with
      | zero => simp at hv; subst hv; exact ⟨_, rfl, h⟩
      | succ i => simp at hv; simpa using ih t hv

theorem VRelL.append {r : Ren} {a a' b b' : List Value} (h : VRelL r a a') (k : VRelL r b b') : VRelL r (a ++ b) (a' ++ b') := by
  induction a generalizing a' with
  | nil => cases h; simpa using k
  | cons x l ih => cases h with | cons h t => exact .cons h (ih t)

theorem VRelL.take {r : Ren} {a a' : List Value} (h : VRelL r a a') (n : Nat) : VRelL r (a.take n) (a'.take n) := by
  induction a generalizing a' n with
  | nil => cases h; simp; exact .nil
  | cons x l ih => cases h with | cons h t => cases n with | zero => exact .nil | succ n => exact .cons h (ih t n)

theorem VRelL.drop {r : Ren} {a a' : List Value} (h : VRelL r a a') (n : Nat) : VRelL r (a.drop n) (a'.drop n) := by
  induction a generalizing a' n with
  | nil => cases h; simp; exact .nil
  | cons x l ih => cases h with | cons h t => cases n with | zero => exact .cons h t | succ n => exact ih t n

theorem VRelL.of_get {r : Ren} : ∀ {l l' : List Value}, l.length = l'.length → (∀ (i : Nat) (v v' : Value), l[i]? = some v → l'[i]? = some v' → VRel r v v') → VRelL r l l'
  | [], [], _, _ => .nil
  | a :: l, b :: l', hl, h => .cons (h 0 a b rfl rfl) (VRelL.of_get (by simpa using hl) fun i v v' x y => h (i + 1) v v' (by simpa using x) (by simpa using y))
  | [], _ :: _, hl, _ => by simp at hl
  | _ :: _, [], hl, _ => by simp at hl

theorem VRelL.map {r : Ren} {α : Type} (f g : α → Value) (h : ∀ x, VRel r (f x) (g x)) : ∀ l : List α, VRelL r (l.map f) (l.map g)
  | [] => .nil
  | x :: l => .cons (h x) (VRelL.map f g h l)

theorem VRelL.replicate_junk {r : Ren} : ∀ (n : Nat) (l : List Value), l.length = n → (∀ v ∈ l, v.oneCell' = true) → VRelL r (List.replicate n junk) l
  | 0, [], _, _ => .nil
  | n + 1, v :: l, h, k => .cons (.junk v (k v (by simp))) (VRelL.replicate_junk n l (by simpa using h) (fun u hu => k u (by simp [hu])))
  | 0, _ :: _, h, _ => by simp at h
  | _ + 1, [], h, _ => by simp at h

mutual
theorem VRel.ground {r : Ren} : ∀ {v v' : Value}, ground v = true → VRel r v v' → v' = v
  | _, _, h, .junk v _ => by simp [Am.ground] at h
  | _, _, h, .bad v => by simp [Am.ground] at h
  | _, _, _, .bool b => rfl
  | _, _, _, .int k n => rfl
  | _, _, _, .float k n => rfl
  | _, _, _, .complex k a b => rfl
  | _, _, _, .string s => rfl
  | _, _, _, .pnil => rfl
  | _, _, h, .ptr _ => by simp [Am.ground] at h
  | _, _, _, .snil => rfl
  | _, _, h, .slice .. => by simp [Am.ground] at h
  | _, _, _, .mnil => rfl
  | _, _, h, .map _ => by simp [Am.ground] at h
  | _, _, _, .chnil => rfl
  | .func fn a b, .func _ a' b', h, .func _ h1 h2 => by
    simp only [Am.ground, Bool.and_eq_true] at h
    have e1 := VRelL.ground (l := a.toList) (by cases a; simpa [groundA] using h.1) h1
    have e2 := VRelL.ground (l := b.toList) (by cases b; simpa [groundA] using h.2) h2
    cases a; cases b; cases a'; cases b'; simp at e1 e2; simp [e1, e2]
  | _, _, _, .nilFunc => rfl
  | .iface t v, .iface _ v', h, .iface _ h1 => by
    simp only [Am.ground] at h
    rw [VRel.ground h h1]
  | _, _, _, .nilIface => rfl
  | .agg a, .agg a', h, .agg h1 => by
    simp only [Am.ground] at h
    have e1 := VRelL.ground (l := a.toList) (by cases a; simpa [groundA] using h) h1
    cases a; cases a'; simp at e1; simp [e1]
  | .tuple a, .tuple a', h, .tuple h1 => by
    simp only [Am.ground] at h
    have e1 := VRelL.ground (l := a.toList) (by cases a; simpa [groundA] using h) h1
    cases a; cases a'; simp at e1; simp [e1]
theorem VRelL.ground {r : Ren} : ∀ {l l' : List Value}, groundL l = true → VRelL r l l' → l' = l
  | _, _, _, .nil => rfl
  | _, _, h, .cons h1 t => by
    simp only [groundL, Bool.and_eq_true] at h
    rw [VRel.ground h.1 h1, VRelL.ground h.2 t]
end

end Go.Am
/-
  THE ABSTRACT MACHINE, 3: the heap's laws; when a world is as an abstract heap says.
-/
namespace Go.Am

section
variable {α : Type}
theorem wayF_succ (f k : Nat) : wayF (f + 1) (k + 1) = if k % 2 = 0 then .left (wayF f (k / 2)) else .right (wayF f (k / 2)) := by
  show Bool.rec (motive := fun _ => Way → Way) (fun p => .right p) (fun p => .left p) (Nat.beq (k % 2) 0) (wayF f (k / 2)) = _
  by_cases h : k % 2 = 0
  · rw [if_pos h, h]; rfl
  · rw [if_neg h, show Nat.beq (k % 2) 0 = false from by (have h1 : k % 2 = 1 := by omega); rw [h1]; rfl]

theorem wayF_enough : ∀ (f g k : Nat), k < f → k < g → wayF f k = wayF g k
  | 0, _, k, h, _ => absurd h (Nat.not_lt_zero k)
  | _, 0, k, _, h => absurd h (Nat.not_lt_zero k)
  | f + 1, g + 1, 0, _, _ => rfl
  | f + 1, g + 1, k + 1, h1, h2 => by
    rw [wayF_succ, wayF_succ, wayF_enough f g (k / 2) (by omega) (by omega)]

theorem wayOf_succ (k : Nat) : wayOf (k + 1) = if k % 2 = 0 then .left (wayOf (k / 2)) else .right (wayOf (k / 2)) := by
  show wayF (k + 1 + 1) (k + 1) = _
  rw [wayF_succ, wayF_enough (k + 1) (k / 2 + 1) (k / 2) (by omega) (by omega)]
  rfl

theorem wayOf_inj : ∀ (k j : Nat), wayOf k = wayOf j → k = j
  | 0, 0, _ => rfl
  | 0, j + 1, h => by rw [wayOf_succ] at h; split at h <;> cases h
  | k + 1, 0, h => by rw [wayOf_succ] at h; split at h <;> cases h
  | k + 1, j + 1, h => by
    rw [wayOf_succ, wayOf_succ] at h
    split at h <;> split at h
    · have := wayOf_inj (k / 2) (j / 2) (by injection h); omega
    · cases h
    · cases h
    · have := wayOf_inj (k / 2) (j / 2) (by injection h); omega

theorem Tri.getW_setW : ∀ (p q : Way) (t : Tri α) (x : Option α), (t.setW p x).getW q = if p = q then x else t.getW q := by
  have hnil : ∀ q : Way, (Tri.nil : Tri α).getW q = none := fun q => by cases q <;> rfl
  intro p
  induction p with
  | here =>
    intro q t x
    cases t <;> cases q <;> first | rfl | (rw [if_neg (by intro h; cases h)]; rfl) | (rw [if_neg (by intro h; cases h), hnil]; exact hnil _)
  | left p ih =>
    intro q t x
    cases q with
    | here => rw [if_neg (by intro h; cases h)]; cases t <;> rfl
    | right q =>
      rw [if_neg (by intro h; cases h)]
      cases t with
      | nil => exact hnil q
      | node v l r => rfl
    | left q =>
      have e : (Way.left p = Way.left q) = (p = q) := by simp
      simp only [e]
      cases t with
      | nil => exact (ih q .nil x).trans (by rw [hnil, hnil])
      | node v l r => exact ih q l x
  | right p ih =>
    intro q t x
    cases q with
    | here => rw [if_neg (by intro h; cases h)]; cases t <;> rfl
    | left q =>
      rw [if_neg (by intro h; cases h)]
      cases t with
      | nil => exact hnil q
      | node v l r => rfl
    | right q =>
      have e : (Way.right p = Way.right q) = (p = q) := by simp
      simp only [e]
      cases t with
      | nil => exact (ih q .nil x).trans (by rw [hnil, hnil])
      | node v l r => exact ih q r x

theorem Tri.get_nil (k : Nat) : (Tri.nil : Tri α).get k = none := by unfold Tri.get; cases wayOf k <;> rfl

theorem Tri.get_set (t : Tri α) (k j : Nat) (x : Option α) : (t.set k x).get j = if j = k then x else t.get j := by
  unfold Tri.get Tri.set
  rw [Tri.getW_setW]
  by_cases h : j = k
  · subst h; simp
  · rw [if_neg h, if_neg (fun e => h (wayOf_inj _ _ e.symm))]
theorem Tri.get_set_same (t : Tri α) (k : Nat) (x : Option α) : (t.set k x).get k = x := by rw [Tri.get_set, if_pos rfl]
theorem Tri.get_set_ne (t : Tri α) {k j : Nat} (x : Option α) (h : j ≠ k) : (t.set k x).get j = t.get j := by rw [Tri.get_set, if_neg h]
end

/-- It is never written. -/
def ro : AObj → Bool
  | .row cs _ fz => Nat.blt cs.length (fz / 2)
  | _ => false

structure ERel (r : Ren) (e e' : MapEntry) : Prop where
  key : VRel r e.key e'.key
  val : VRel r e.val e'.val
  born : e'.born = e.born

inductive ERelL (r : Ren) : List MapEntry → List MapEntry → Prop where
  | nil : ERelL r [] []
  | cons {e e' : MapEntry} {l l' : List MapEntry} (h : ERel r e e') (t : ERelL r l l') : ERelL r (e :: l) (e' :: l')

theorem ERel.mono {r r' : Ren} (hx : Ext r r') {e e' : MapEntry} (h : ERel r e e') : ERel r' e e' := ⟨h.key.mono hx, h.val.mono hx, h.born⟩
theorem ERelL.mono {r r' : Ren} (hx : Ext r r') {l l' : List MapEntry} (h : ERelL r l l') : ERelL r' l l' := by
  induction h with
  | nil => exact .nil
  | cons h _ ih => exact .cons (h.mono hx) ih

/-- What is frozen: no cell from the half of fz on; and of an even fz nothing behind. -/
structure FrzOk (e : Ent) (fz lo hi : Nat) : Prop where
  free : ∀ x, e.d + fz / 2 ≤ x → x < e.size → ¬ (lo ≤ x ∧ x < hi)
  even : fz % 2 = 0 → lo = hi ∨ hi ≤ e.d + fz / 2

def ORel (P : Program) (r : Ren) (e : Ent) (ob : Option Obj) : AObj → Prop
  | .row cs t fz => ∃ (c : Array Value) (lo hi : Nat), ob = some (.cells c t (lo, hi)) ∧ c.size = e.size ∧ e.d + cs.length ≤ c.size ∧
      VRelL r cs ((c.toList.drop e.d).take cs.length) ∧ FrzOk e fz lo hi ∧ sizeT P t = some e.es ∧ bytesT P t = some e.bs ∧ e.d % e.es = 0
  | .map es clock => ∃ es' : Array MapEntry, ob = some (.map es' clock) ∧ ERelL r es es'.toList
  | .siter s pos => ob = some (.stringIter s pos) ∧ e.d = 0
  | .miter m since seen stepped => e.d = 0 ∧ ∃ m', ob = some (.mapIter m' since seen.toArray stepped) ∧ VRel r (.map m) (.map m')

theorem ORel.mono {P : Program} {r r' : Ren} (hx : Ext r r') {e : Ent} {ob : Option Obj} : ∀ {o : AObj}, ORel P r e ob o → ORel P r' e ob o
  | .row _ _ _, ⟨c, lo, hi, h1, h2, h3, h4, h5⟩ => ⟨c, lo, hi, h1, h2, h3, h4.mono hx, h5⟩
  | .map _ _, ⟨es', h, h'⟩ => ⟨es', h, h'.mono hx⟩
  | .siter _ _, h => h
  | .miter _ _ _ _, ⟨hd, m', h, h'⟩ => ⟨hd, m', h, h'.mono hx⟩

/-- A world is as an abstract memory says. -/
structure HRel (P : Program) (r : Ren) (m : Mem) (w : World) : Prop where
  obj : ∀ id e o, r id = some e → m.t.get id = some o → ORel P r e w.heap[e.b]? o
  inj : ∀ i j e e' o o', i ≠ j → r i = some e → r j = some e' → m.t.get i = some o → m.t.get j = some o' → e.b ≠ e'.b
  lt : ∀ id e, r id = some e → e.b < w.heap.size
  fresh : ∀ id, m.n ≤ id → r id = none
  none_ : ∀ id, m.n ≤ id → m.t.get id = none
  glob : ∀ g, g < P.globals.size → ∃ e, r g = some e ∧ e.b = g ∧ e.d = 0

/-- A block that may be written. -/
def WB (r : Ren) (t : Tr) (b : Nat) : Prop := ∃ id e o, r id = some e ∧ t.get id = some o ∧ ro o = false ∧ e.b = b

/-- What a run does to the world. -/
structure Evo (r : Ren) (m : Mem) (w : World) (r' : Ren) (m' : Mem) (w' : World) : Prop where
  ext : Ext r r'
  num : m.n ≤ m'.n
  os : w'.os = w.os
  tape : w'.tape = w.tape
  output : w'.output = w.output
  size : w.heap.size ≤ w'.heap.size
  frame : ∀ b, b < w.heap.size → ¬ WB r m.t b → w'.heap[b]? = w.heap[b]?
  shrink : ∀ b, WB r' m'.t b → w.heap.size ≤ b ∨ WB r m.t b
  hid : ∀ id, id < m.n → r id = none → r' id = none ∧ m'.t.get id = m.t.get id

theorem Evo.refl (r : Ren) (m : Mem) (w : World) : Evo r m w r m w :=
  ⟨Ext.refl r, Nat.le_refl _, rfl, rfl, rfl, Nat.le_refl _, fun _ _ _ => rfl, fun _ h => .inr h, fun _ _ h => ⟨h, rfl⟩⟩

theorem Evo.trans {r r1 r2 : Ren} {m m1 m2 : Mem} {w w1 w2 : World} (h : Evo r m w r1 m1 w1) (k : Evo r1 m1 w1 r2 m2 w2) : Evo r m w r2 m2 w2 :=
  ⟨h.ext.trans k.ext, Nat.le_trans h.num k.num, k.os.trans h.os, k.tape.trans h.tape, k.output.trans h.output, Nat.le_trans h.size k.size,
   fun b hb hn => by
     rw [k.frame b (Nat.lt_of_lt_of_le hb h.size) (fun hw => by rcases h.shrink b hw with hh | hh; exact absurd hh (by omega); exact hn hh)]
     exact h.frame b hb hn,
   fun b hw => by
     rcases k.shrink b hw with hh | hh
     · exact .inl (Nat.le_trans h.size hh)
     · exact h.shrink b hh,
   fun id hi hn => by
     obtain ⟨h1, h2⟩ := h.hid id hi hn
     obtain ⟨h3, h4⟩ := k.hid id (Nat.lt_of_lt_of_le hi h.num) h1
     exact ⟨h3, h4.trans h2⟩⟩

/-- A draw alone. -/
theorem HRel.drawn {P : Program} {r : Ren} {m : Mem} {w : World} (h : HRel P r m w) (d : Nat) : HRel P r m { w with drawn := d } := ⟨h.obj, h.inj, h.lt, h.fresh, h.none_, h.glob⟩
theorem Evo.drawn (r : Ren) (m : Mem) (w : World) (d : Nat) : Evo r m w r m { w with drawn := d } :=
  ⟨Ext.refl r, Nat.le_refl _, rfl, rfl, rfl, Nat.le_refl _, fun _ _ _ => rfl, fun _ h => .inr h, fun _ _ h => ⟨h, rfl⟩⟩

/-- A renaming with one number more. -/
def Ren.with (r : Ren) (n : Nat) (e : Ent) : Ren := fun i => if i = n then some e else r i

theorem Ren.with_same (r : Ren) (n : Nat) (e : Ent) : r.with n e n = some e := by simp [Ren.with]
theorem Ren.with_ne (r : Ren) {n i : Nat} (e : Ent) (h : i ≠ n) : r.with n e i = r i := by simp [Ren.with, h]
theorem Ext.with {r : Ren} {n : Nat} (e : Ent) (h : r n = none) : Ext r (r.with n e) := fun i e' hi => by
  rw [Ren.with_ne]
  · exact hi
  · intro he; subst he; rw [h] at hi; cases hi

/-- A new object in a new block. -/
theorem HRel.alloc {P : Program} {r : Ren} {m : Mem} {w : World} (h : HRel P r m w) {x : AObj} {ob : Obj} {e : Ent} (d : Nat) (hb : e.b = w.heap.size)
    (ho : ORel P (r.with m.n e) e (some ob) x) :
    HRel P (r.with m.n e) ⟨m.t.set m.n (some x), m.n + 1⟩ { w with heap := w.heap.push ob, drawn := d } ∧
    Evo r m w (r.with m.n e) ⟨m.t.set m.n (some x), m.n + 1⟩ { w with heap := w.heap.push ob, drawn := d } := by
  have hx : Ext r (r.with m.n e) := Ext.with e (h.fresh _ (Nat.le_refl _))
  have hold : ∀ b, b < w.heap.size → (w.heap.push ob)[b]? = w.heap[b]? := fun b hb => by rw [Array.getElem?_push, if_neg (by omega)]
  have hnew : (w.heap.push ob)[e.b]? = some ob := by rw [hb]; simp
  refine ⟨⟨?_, ?_, ?_, ?_, ?_, ?_⟩, ⟨hx, Nat.le_succ _, rfl, rfl, rfl, by simp, fun b hb _ => hold b hb, ?_, fun id hi hn => ⟨by rw [Ren.with_ne _ _ (by omega)]; exact hn, Tri.get_set_ne _ _ (by omega)⟩⟩⟩
  · intro id e' o hr hg
    by_cases hi : id = m.n
    · subst hi
      rw [Ren.with_same] at hr; cases hr
      rw [Tri.get_set_same] at hg; cases hg
      show ORel P _ e (w.heap.push ob)[e.b]? x
      rw [hnew]; exact ho
    · rw [Ren.with_ne _ _ hi] at hr
      rw [Tri.get_set_ne _ _ hi] at hg
      show ORel P _ e' (w.heap.push ob)[e'.b]? o
      rw [hold _ (h.lt _ _ hr)]
      exact (h.obj _ _ _ hr hg).mono hx
  · intro i j e1 e2 o1 o2 hne hi hj gi gj
    by_cases ei : i = m.n
    · by_cases ej : j = m.n
      · omega
      · subst ei; rw [Ren.with_same] at hi; cases hi
        rw [Ren.with_ne _ _ ej] at hj
        have := h.lt _ _ hj; omega
    · by_cases ej : j = m.n
      · subst ej; rw [Ren.with_same] at hj; cases hj
        rw [Ren.with_ne _ _ ei] at hi
        have := h.lt _ _ hi; omega
      · rw [Ren.with_ne _ _ ei] at hi; rw [Ren.with_ne _ _ ej] at hj
        rw [Tri.get_set_ne _ _ ei] at gi; rw [Tri.get_set_ne _ _ ej] at gj
        exact h.inj _ _ _ _ _ _ hne hi hj gi gj
  · intro id e' hr
    show e'.b < (w.heap.push ob).size
    by_cases hi : id = m.n
    · subst hi; rw [Ren.with_same] at hr; cases hr; simp [hb]
    · rw [Ren.with_ne _ _ hi] at hr; have := h.lt _ _ hr; simp; omega
  · intro id hi
    have hi : m.n + 1 ≤ id := hi
    rw [Ren.with_ne _ _ (by omega)]; exact h.fresh _ (by omega)
  · intro id hi
    have hi : m.n + 1 ≤ id := hi
    show (m.t.set m.n (some x)).get id = none
    rw [Tri.get_set_ne _ _ (by omega)]; exact h.none_ _ (by omega)
  · intro g hg
    obtain ⟨e', h1, h2⟩ := h.glob g hg
    exact ⟨e', hx _ _ h1, h2⟩
  · rintro b ⟨id, e', o, hr, hg, hro, hb'⟩
    by_cases hi : id = m.n
    · subst hi; rw [Ren.with_same] at hr; cases hr; left; omega
    · rw [Ren.with_ne _ _ hi] at hr
      replace hg : (m.t.set m.n (some x)).get id = some o := hg
      rw [Tri.get_set_ne _ _ hi] at hg
      exact .inr ⟨id, e', o, hr, hg, hro, hb'⟩

/-- An object written in its block. -/
theorem HRel.write {P : Program} {r : Ren} {m : Mem} {w w' : World} (h : HRel P r m w) {id : Nat} {e : Ent} {o x : AObj} (hr : r id = some e) (hg : m.t.get id = some o) (hro : ro o = false)
    (hos : w'.os = w.os) (htape : w'.tape = w.tape) (hout : w'.output = w.output) (hsize : w'.heap.size = w.heap.size)
    (hoth : ∀ b, b ≠ e.b → w'.heap[b]? = w.heap[b]?) (ho : ORel P r e w'.heap[e.b]? x) :
    HRel P r ⟨m.t.set id (some x), m.n⟩ w' ∧ Evo r m w r ⟨m.t.set id (some x), m.n⟩ w' := by
  have hidn : id < m.n := by
    rcases Nat.lt_or_ge id m.n with hh | hh
    · exact hh
    · rw [h.fresh _ hh] at hr; cases hr
  refine ⟨⟨?_, ?_, ?_, h.fresh, ?_, h.glob⟩, ⟨Ext.refl r, Nat.le_refl _, hos, htape, hout, by omega, ?_, ?_, fun i _ hn => ⟨hn, Tri.get_set_ne _ _ (fun he => by subst he; rw [hr] at hn; cases hn)⟩⟩⟩
  · intro i e' o' hi hgi
    replace hgi : (m.t.set id (some x)).get i = some o' := hgi
    by_cases hii : i = id
    · subst hii; rw [hr] at hi; cases hi; rw [Tri.get_set_same] at hgi; cases hgi; exact ho
    · rw [Tri.get_set_ne _ _ hii] at hgi
      rw [hoth _ (h.inj _ _ _ _ _ _ hii hi hr hgi hg)]
      exact h.obj _ _ _ hi hgi
  · intro i j e1 e2 o1 o2 hne hi hj gi gj
    replace gi : (m.t.set id (some x)).get i = some o1 := gi
    replace gj : (m.t.set id (some x)).get j = some o2 := gj
    have live : ∀ k o, (m.t.set id (some x)).get k = some o → ∃ o', m.t.get k = some o' := fun k o hk => by
      by_cases e : k = id
      · subst e; exact ⟨_, hg⟩
      · rw [Tri.get_set_ne _ _ e] at hk; exact ⟨_, hk⟩
    obtain ⟨_, gi'⟩ := live _ _ gi
    obtain ⟨_, gj'⟩ := live _ _ gj
    exact h.inj _ _ _ _ _ _ hne hi hj gi' gj'
  · intro i e' hi; rw [hsize]; exact h.lt _ _ hi
  · intro i hi
    have hi : m.n ≤ i := hi
    show (m.t.set id (some x)).get i = none
    rw [Tri.get_set_ne _ _ (by omega)]; exact h.none_ _ hi
  · intro b hb hn
    exact hoth b fun he => hn ⟨id, e, o, hr, hg, hro, he.symm⟩
  · rintro b ⟨i, e', o', hi, hgi, hro', hb⟩
    replace hgi : (m.t.set id (some x)).get i = some o' := hgi
    by_cases hii : i = id
    · subst hii; rw [hr] at hi; cases hi; exact .inr ⟨i, e, o, hr, hg, hro, hb⟩
    · rw [Tri.get_set_ne _ _ hii] at hgi
      exact .inr ⟨i, e', o', hi, hgi, hro', hb⟩

/-- An object that is given up. -/
theorem HRel.kill {P : Program} {r : Ren} {m : Mem} {w : World} (h : HRel P r m w) {id : Nat} {e0 : Ent} (hr0 : r id = some e0) : HRel P r ⟨m.t.set id none, m.n⟩ w ∧ Evo r m w r ⟨m.t.set id none, m.n⟩ w := by
  have back : ∀ i o, (m.t.set id none).get i = some o → m.t.get i = some o := fun i o hi => by
    by_cases e : i = id
    · subst e; rw [Tri.get_set_same] at hi; cases hi
    · rwa [Tri.get_set_ne _ _ e] at hi
  refine ⟨⟨fun i e o hr hg => h.obj _ _ _ hr (back _ _ hg), fun i j e e' o o' hne hi hj gi gj => h.inj _ _ _ _ _ _ hne hi hj (back _ _ gi) (back _ _ gj), h.lt, h.fresh, fun i hi => ?_, h.glob⟩,
    ⟨Ext.refl r, Nat.le_refl _, rfl, rfl, rfl, Nat.le_refl _, fun _ _ _ => rfl, ?_, fun i _ hn => ⟨hn, Tri.get_set_ne _ _ (fun he => by subst he; rw [hr0] at hn; cases hn)⟩⟩⟩
  · show (m.t.set id none).get i = none
    by_cases e : i = id
    · subst e; rw [Tri.get_set_same]
    · rw [Tri.get_set_ne _ _ e]; exact h.none_ _ hi
  · rintro b ⟨i, e, o, hr, hg, hro, hb⟩
    exact .inr ⟨i, e, o, hr, back _ _ hg, hro, hb⟩

end Go.Am
/-
  THE ABSTRACT MACHINE, 4: what one operation does, there and in the world: the operations that leave memory alone.
-/
namespace Go.Am

/-- A frame's temporaries are as the abstract ones say. -/
structure RRel (r : Ren) (n : Nat) (rs : Rs) (tmps : Array Value) : Prop where
  size : tmps.size = n
  get : ∀ t, VRel r ((rs.get t).getD undef) (tmps.getD t undef)

theorem VRel.undef (r : Ren) : VRel r undef undef := .tuple .nil

theorem RRel.mono {r r' : Ren} (hx : Ext r r') {n : Nat} {rs : Rs} {tmps : Array Value} (h : RRel r n rs tmps) : RRel r' n rs tmps := ⟨h.size, fun t => (h.get t).mono hx⟩

theorem RRel.put {r : Ren} {n : Nat} {rs : Rs} {a : Act} (h : RRel r n rs a.tmps) {v v' : Value} (hv : VRel r v v') (dst : Option Tmp) : RRel r n (Am.put n rs dst v) (a.put dst v').tmps := by
  cases dst with
  | none => exact h
  | some d =>
    simp only [Am.put, Act.put]
    refine ⟨by simpa using h.size, fun t => ?_⟩
    by_cases hd : d < n
    · rw [show Nat.blt d n = true from by simpa [Nat.blt_eq] using hd]
      simp only [cond_true]
      by_cases ht : t = d
      · subst ht
        rw [Tri.get_set_same]
        have : t < a.tmps.size := by rw [h.size]; exact hd
        simp [Array.getD, this, hv]
      · rw [Tri.get_set_ne _ _ ht]
        have := h.get t
        simp only [Array.getD_eq_getD_getElem?, Array.getElem?_setIfInBounds_ne (Ne.symm ht)] at this ⊢
        exact this
    · rw [show Nat.blt d n = false from by cases hb : Nat.blt d n with | false => rfl | true => exact absurd (by simpa [Nat.blt_eq] using hb) hd]
      simp only [cond_false]
      have := h.get t
      rw [Array.setIfInBounds_eq_of_size_le (h.size ▸ Nat.le_of_not_lt hd)]
      exact this

theorem VRel.const {r : Ren} {v : Value} (h : constOk v = true) : VRel r v v := by
  unfold constOk at h
  split at h <;> first | constructor | (cases h)

theorem eval_rel {P : Program} {r : Ren} {m : Mem} {w : World} {n : Nat} {rs : Rs} {a : Act} (hm : HRel P r m w) (hr : RRel r n rs a.tmps) (x : Operand) : VRel r (eval P rs x) (a.eval x) := by
  cases x with
  | tmp t => exact hr.get t
  | const v =>
    show VRel r (bif constOk v then v else Am.bad) v
    cases h : constOk v with
    | true => exact VRel.const h
    | false => exact .bad v
  | global g =>
    show VRel r (bif Nat.blt g P.globals.size then _ else Am.bad) (.pointer (some ⟨g, 0, none⟩))
    cases h : Nat.blt g P.globals.size with
    | true =>
      obtain ⟨e, h1, h2, h3⟩ := hm.glob g (by simpa [Nat.blt_eq] using h)
      have := VRel.ptr (r := r) (id := g) (off := 0) h1
      rw [h2, h3] at this; exact this
    | false => exact .bad _
  | func f => exact .func _ .nil .nil

/-- What an operation hands on. -/
def NRel (r : Ren) (v : Value) : Next → Prop
  | .value v' => VRel r v v'
  | .skip => VRel r v undef
  | _ => False

def OpSim (P : Program) (r : Ren) (m : Mem) (w : World) (s : Sem Next) (asks : Prop) : OpR → Prop
  | .val v => ∃ nx, s.run P w = .ok nx w ∧ NRel r v nx
  | .alloc x v => asks ∨ ∃ nx w' e, s.run P w = .ok nx w' ∧ HRel P (r.with m.n e) ⟨m.t.set m.n (some x), m.n + 1⟩ w' ∧
      Evo r m w (r.with m.n e) ⟨m.t.set m.n (some x), m.n + 1⟩ w' ∧ NRel (r.with m.n e) (numbered m.n v) nx
  | .step v t => ∃ nx w', s.run P w = .ok nx w' ∧ HRel P r ⟨t, m.n⟩ w' ∧ Evo r m w r ⟨t, m.n⟩ w' ∧ NRel r v nx
  | .stepNew v t x => asks ∨ ∃ nx w' e, s.run P w = .ok nx w' ∧ HRel P (r.with m.n e) ⟨t.set m.n (some x), m.n + 1⟩ w' ∧
      Evo r m w (r.with m.n e) ⟨t.set m.n (some x), m.n + 1⟩ w' ∧ NRel (r.with m.n e) (numbered m.n v) nx
  | .enter f args => ∃ args', s.run P w = .ok (.enter f args') w ∧ VRelL r args args'.toList

section
variable {P : Program} {r : Ren} {m : Mem} {w : World} {rs : Rs} {a : Act} {o : Oper} {A : Prop} {res : OpR}

@[simp] theorem run_under {t : TypeId} {d : TypeDesc} (h : under P t = some d) : (underlying t).run P w = .ok d w := by
  unfold under at h
  simp [underlying, h]

@[simp] theorem run_sizeT {t : TypeId} {s : Nat} (h : sizeT P t = some s) : (sizeOf t).run P w = .ok s w := by
  unfold sizeT at h
  cases hi : P.info? t with
  | none => simp [hi] at h
  | some i => simp [hi] at h; simp [sizeOf, typeInfo, hi, h]

theorem zeroT_info {t : TypeId} {z : Value} (h : zeroT P t = some z) : t < P.types.size ∧ (P.info? t).bind (·.zero) = some z := by
  unfold zeroT at h
  cases hb : Nat.blt t P.types.size with
  | false => rw [hb] at h; cases h
  | true =>
    rw [hb, cond_true] at h
    refine ⟨by simpa [Nat.blt_eq] using hb, ?_⟩
    unfold noTuple at h
    split at h
    · cases h
    · exact h

theorem run_zeroT {t : TypeId} {z : Value} (h : zeroT P t = some z) : (zeroValue t).run P w = .ok z w := by
  replace h := (zeroT_info h).2
  cases hi : P.info? t with
  | none => simp [hi] at h
  | some i => simp [hi] at h; simp [zeroValue, typeInfo, hi, h]

theorem run_aggT {t : TypeId} {b : Bool} (h : aggT P t = some b) : (isAgg t).run P w = .ok b w := by
  unfold aggT at h
  cases hu : under P t with
  | none => simp [hu] at h
  | some d =>
    simp only [isAgg, Sem.run_bind, run_under hu, Result.andThen_ok]
    rw [hu] at h
    cases d <;> simp at h <;> subst h <;> rfl

theorem OpSim.mk {s : Sem Next} {v v' : Value} (hv : VRel r v v') (h : s.run P w = .ok (.value v') w) : OpSim P r m w s A (.val v) := ⟨.value v', h, hv⟩

variable (ev : ∀ x, VRel r (eval P rs x) (a.eval x))
include ev

theorem sim_move {x : Operand} (ho : o.op = .move x) : OpSim P r m w (execOp a.eval o) A (.val (eval P rs x)) :=
  ⟨.value (a.eval x), by simp [execOp, ho], ev x⟩

theorem sim_assign {x : Operand} (ho : o.op = .assign x) : OpSim P r m w (execOp a.eval o) A (.val (eval P rs x)) :=
  ⟨.value (a.eval x), by simp [execOp, ho], ev x⟩

theorem sim_pick {c x y : Operand} (ho : o.op = .pick c x y) (h : pickR P rs c x y = some res) : OpSim P r m w (execOp a.eval o) A res := by
  have hc := ev c
  unfold pickR at h
  simp only at h
  split at h <;> try (cases h; done)
  rename_i t ht
  rw [ht] at hc
  cases h
  generalize hcv : a.eval c = vc at hc
  cases hc
  refine ⟨.value (if t then a.eval x else a.eval y), by simp [execOp, ho, hcv, asBool], ?_⟩
  cases t
  · exact ev y
  · exact ev x

theorem sim_extract {x : Operand} {i : Nat} (ho : o.op = .extract x i) (h : extractR P rs x i = some res) : OpSim P r m w (execOp a.eval o) A res := by
  have hx := ev x
  unfold extractR at h
  simp only at h
  split at h <;> try (cases h; done)
  rename_i vs hv
  rw [hv] at hx
  generalize hcv : a.eval x = vc at hx
  cases hx with
  | tuple hl =>
    cases hg : vs[i]? with
    | none => simp [hg] at h
    | some v =>
      simp [hg] at h; subst h
      obtain ⟨v', h1, h2⟩ := hl.get (i := i) (v := v) (by simpa using hg)
      exact ⟨.value v', by simp [execOp, ho, hcv, Instr.extract, show _ = some v' from by simpa using h1], h2⟩

theorem sim_nilCheck {x : Operand} (ho : o.op = .nilCheck x) (h : nilCheckR P rs x = some res) : OpSim P r m w (execOp a.eval o) A res := by
  have hx := ev x
  unfold nilCheckR at h
  simp only at h
  generalize hcv : a.eval x = vc at hx
  generalize eval P rs x = v at h hx
  cases hx
  case func fn _ _ _ _ h1 h2 =>
    cases fn <;> cases h <;> exact OpSim.mk (.func _ h1 h2) (by simp only [execOp, ho, hcv]; rfl)
  all_goals cases h
  all_goals exact ⟨_, by simp only [execOp, ho, hcv]; rfl, by first | (constructor; done) | (constructor <;> assumption)⟩

theorem sim_makeInterface {t : TypeId} {x : Operand} (ho : o.op = .makeInterface t x) (h : makeInterfaceR P rs t x = some res) : OpSim P r m w (execOp a.eval o) A res := by
  have hx := ev x
  unfold makeInterfaceR at h
  simp only at h
  cases hu : under P t with
  | none => rw [hu] at h; cases h
  | some d =>
    rw [hu] at h
    have hrun : (Instr.makeInterface t (a.eval x)).run P w = .ok (.iface t (a.eval x)) w := by
      simp only [Instr.makeInterface, Sem.run_bind, run_under hu, Result.andThen_ok]
      cases d <;> first | rfl | (cases h)
    have hres : res = .val (.iface t (eval P rs x)) := by cases d <;> first | (cases h; done) | (cases h; rfl)
    subst hres
    exact OpSim.mk (.iface t hx) (by simp only [execOp, ho, Sem.run_bind, hrun, Result.andThen_ok]; rfl)

omit ev in
theorem map_rel (ev : ∀ x, VRel r (eval P rs x) (a.eval x)) : ∀ l : List Operand, VRelL r (l.map (eval P rs)) (l.map a.eval)
  | [] => .nil
  | x :: l => .cons (ev x) (map_rel ev l)

theorem sim_makeFunc {fn : Fn} {first cap : Array Operand} (ho : o.op = .makeFunc fn first cap) :
    OpSim P r m w (execOp a.eval o) A (.val (.func fn ⟨first.toList.map (eval P rs)⟩ ⟨cap.toList.map (eval P rs)⟩)) := by
  refine ⟨.value (.func fn (first.map a.eval) (cap.map a.eval)), by simp [execOp, ho, Instr.makeFunc], ?_⟩
  exact VRel.func fn (by simpa using map_rel ev first.toList) (by simpa using map_rel ev cap.toList)

theorem sim_unOp {op : UnOp} {t : TypeId} {x : Operand} (ho : o.op = .unOp op t x) (h : unOpR P rs op x = some res) : OpSim P r m w (execOp a.eval o) A res := by
  have hx := ev x
  unfold unOpR at h
  simp only at h
  generalize hcv : a.eval x = vc at hx
  generalize eval P rs x = v at h hx
  cases op <;> cases hx <;> try (cases h; done)
  · cases h
    exact OpSim.mk (.int _ _) (by simp only [execOp, ho, hcv, Op.unary, Op.intArith, Sem.run_bind, Sem.run_pure, Result.andThen_ok])
  · cases h
    exact OpSim.mk (.int _ _) (by simp only [execOp, ho, hcv, Op.unary, Op.intBits, Sem.run_bind, Sem.run_pure, Result.andThen_ok])
  · cases h
    exact OpSim.mk (.bool _) (by simp only [execOp, ho, hcv, Op.unary, Sem.run_bind, Sem.run_pure, Result.andThen_ok])

omit ev in
theorem zero_rel_ok : True := trivial

theorem sim_typeAssert {x : Operand} {xt t : TypeId} {ok : Bool} (hz : ∀ z, zeroT P t = some z → VRel r z z) (ho : o.op = .typeAssert x xt t ok) (h : typeAssertR P rs x t ok = some res) : OpSim P r m w (execOp a.eval o) A res := by
  have hx := ev x
  unfold typeAssertR at h
  simp only at h
  generalize hcv : a.eval x = vc at hx
  generalize eval P rs x = v at h hx
  cases hu : under P t with
  | none => simp [hu] at h
  | some d =>
    simp only [hu] at h
    have hd : ∀ ms, d ≠ .interface ms := fun ms e => by subst e; simp at h
    have key : ∀ q : Sem Value, (Instr.typeAssert vc xt t ok) = q → True := fun _ _ => trivial
    cases hx <;> try (cases d <;> cases h; done)
    case iface u v v' hv =>
      have h' : (if u = t then some (OpR.val (if ok then .tuple #[v, .bool true] else v)) else if ok then (zeroT P t).map fun z => .val (.tuple #[z, .bool false]) else none) = some res := by
        cases d <;> first | exact h | exact absurd rfl (hd _)
      by_cases e : u = t
      · rw [if_pos e] at h'
        cases h'
        refine ⟨.value (if ok then .tuple #[v', .bool true] else v'), ?_, ?_⟩
        · cases d <;> first | exact absurd rfl (hd _) | (simp only [execOp, ho, hcv, Instr.typeAssert, Sem.run_bind, run_under hu, Result.andThen_ok, if_pos e]; cases ok <;> rfl)
        · cases ok
          · exact hv
          · exact VRel.tuple (.cons hv (.cons (.bool _) .nil))
      · rw [if_neg e] at h'
        cases ok with
        | false => cases h'
        | true =>
          simp only [if_true] at h'
          cases hzz : zeroT P t with
          | none => simp [hzz] at h'
          | some z =>
            simp [hzz] at h'; subst h'
            refine ⟨.value (.tuple #[z, .bool false]), ?_, VRel.tuple (.cons (hz z hzz) (.cons (.bool _) .nil))⟩
            cases d <;> first | exact absurd rfl (hd _) | (simp [execOp, ho, hcv, Instr.typeAssert, run_under hu, e, run_zeroT hzz])
    case nilIface =>
      have h' : (if ok then (zeroT P t).map fun z => OpR.val (.tuple #[z, .bool false]) else none) = some res := by
        cases d <;> first | exact h | exact absurd rfl (hd _)
      cases ok with
      | false => cases h'
      | true =>
        simp only [if_true] at h'
        cases hzz : zeroT P t with
        | none => simp [hzz] at h'
        | some z =>
          simp [hzz] at h'; subst h'
          refine ⟨.value (.tuple #[z, .bool false]), ?_, VRel.tuple (.cons (hz z hzz) (.cons (.bool _) .nil))⟩
          cases d <;> first | exact absurd rfl (hd _) | (simp [execOp, ho, hcv, Instr.typeAssert, run_under hu, run_zeroT hzz])

end
end Go.Am
/-
  THE ABSTRACT MACHINE, 5: what reads memory.
-/
namespace Go.Am

/-- What is taken of the program. -/
structure PGood (P : Program) : Prop where
  zero : ∀ t z, zeroT P t = some z → goodZ z = true
  zsize : ∀ t z s, zeroT P t = some z → sizeT P t = some s → z.cells.size = s
  fsize : ∀ t fields z, zeroT P t = some z → under P t = some (.struct fields) → ∀ f ∈ fields.toList, (sizeT P f.type).isSome = true
  mixed : P.follows .mixedOrders = true
  next : ∀ (f : FuncId) (fn : Func), P.funcs[f]? = some fn → fn.body.isNone = true → (fn.name = "internal/abi.NoEscape" ∨ fn.name = "internal/bytealg.MakeNoZero" ∨ fn.name = "internal/bytealg.abigen_runtime_cmpstring") → Extern.findNext fn = none

theorem allL_rel {r : Ren} : ∀ {l : List Value}, allL constOk l = true → VRelL r l l
  | [], _ => .nil
  | v :: l, h => by
    simp only [allL, Bool.and_eq_true] at h
    exact .cons (VRel.const h.1) (allL_rel h.2)

theorem goodZ_rel {r : Ren} {z : Value} (h : goodZ z = true) : VRel r z z := by
  unfold goodZ at h
  split at h
  · exact .agg (allL_rel h)
  · exact VRel.const h

theorem goodZ_junk {z : Value} (h : goodZ z = true) : isJunk z = false := by
  cases z <;> first | rfl | (simp [goodZ, constOk] at h)

theorem VRel.cells {r : Ren} {v v' : Value} (h : VRel r v v') (hj : isJunk v = false) : VRelL r v.cells.toList v'.cells.toList := by
  cases h <;> first
    | (simp [isJunk] at hj; done)
    | (rename_i h; exact h)
    | (refine .cons ?_ .nil; constructor <;> assumption)
    | (refine .cons ?_ .nil; constructor)

section
variable {P : Program} {r : Ren} {m : Mem} {w : World} {rs : Rs} {a : Act} {o : Oper} {A : Prop} {res : OpR}

theorem add_none (b off n : Nat) : (Addr.mk b off none).add n = ⟨b, off + n, none⟩ := by
  unfold Addr.add
  split
  · rename_i h; subst h; rfl
  · rfl

theorem row_of (hm : HRel P r m w) {id : Nat} {e : Ent} {cs : List Value} {t : TypeId} {fz : Nat} (hr : r id = some e) (hg : rowAt m.t id = some (cs, t, fz)) :
    ORel P r e w.heap[e.b]? (.row cs t fz) := by
  unfold rowAt at hg
  split at hg <;> cases hg
  rename_i h
  exact hm.obj _ _ _ hr h

theorem rowAt_get {h : Tr} {id : Nat} {cs : List Value} {t : TypeId} {fz : Nat} (hg : rowAt h id = some (cs, t, fz)) : h.get id = some (.row cs t fz) := by
  unfold rowAt at hg
  split at hg <;> cases hg
  assumption

theorem mapAt_get {h : Tr} {id : Nat} {es : List MapEntry} {c : Nat} (hg : mapAt h id = some (es, c)) : h.get id = some (.map es c) := by
  unfold mapAt at hg
  split at hg <;> cases hg
  assumption

theorem cell_of (hm : HRel P r m w) {id i : Nat} {e : Ent} {cs : List Value} {t : TypeId} {fz : Nat} {v : Value} (hr : r id = some e) (hg : rowAt m.t id = some (cs, t, fz)) (hv : cs[i]? = some v) :
    ∃ v', w.cell? ⟨e.b, e.d + i, none⟩ = some v' ∧ VRel r v v' := by
  obtain ⟨c, lo, hi, h1, h2, h3, h4, _⟩ := row_of hm hr hg
  obtain ⟨v', h5, h6⟩ := h4.get hv
  refine ⟨v', ?_, h6⟩
  have hlt : i < cs.length := (List.getElem?_eq_some_iff.1 hv).1
  rw [List.getElem?_take, if_pos hlt, List.getElem?_drop] at h5
  simp only [World.cell?, h1]
  simpa using h5

/-- Some cells of a row, read one after the other. -/
theorem run_loadCellsFrom (b : Nat) : ∀ (cells : List Value) (off i : Nat) (acc : Array Value), (∀ k v, cells[k]? = some v → w.cell? ⟨b, off + (i + k), none⟩ = some v) →
    (loadCellsFrom ⟨b, off, none⟩ i cells.length acc).run P w = .ok (acc ++ cells.toArray) w
  | [], off, i, acc, _ => by simp [loadCellsFrom]
  | v :: l, off, i, acc, h => by
    have h0 := h 0 v rfl
    simp only [List.length_cons, loadCellsFrom, Sem.run_bind, add_none, run_load]
    rw [show off + i = off + (i + 0) from rfl, h0]
    simp only [Result.andThen_ok]
    rw [run_loadCellsFrom b l off (i + 1) (acc.push v) (fun k u hu => by rw [show i + 1 + k = i + (k + 1) from by omega]; exact h (k + 1) u (by simpa using hu))]
    simp

theorem run_loadCells {b off : Nat} {cells : List Value} (h : ∀ k v, cells[k]? = some v → w.cell? ⟨b, off + k, none⟩ = some v) :
    (loadCells ⟨b, off, none⟩ cells.length).run P w = .ok ⟨cells⟩ w := by
  unfold loadCells
  rw [run_loadCellsFrom (P := P) b cells off 0 #[] (fun k v hv => by simpa using h k v hv)]
  simp

/-- Cells of an abstract row: in the world as well. -/
theorem cells_of (hm : HRel P r m w) {id off n : Nat} {e : Ent} {l : List Value} (hr : r id = some e) (hg : cellsAt m.t id off n = some l) :
    ∃ l', l'.length = n ∧ VRelL r l l' ∧ ∀ k v, l'[k]? = some v → w.cell? ⟨e.b, e.d + off + k, none⟩ = some v := by
  unfold cellsAt at hg
  split at hg
  · rename_i cs t fz hrow
    split at hg <;> cases hg
    rename_i hle
    obtain ⟨c, lo, hi, h1, h2, h3, h4, _⟩ := row_of hm hr hrow
    refine ⟨((c.toList.drop (e.d + off)).take n), ?_, ?_, ?_⟩
    · have : c.toList.length = c.size := by simp
      simp only [List.length_take, List.length_drop, Array.length_toList]; omega
    · have := (h4.drop off).take n
      rw [List.drop_take, List.take_take, List.drop_drop] at this
      rwa [Nat.min_eq_left (by omega)] at this
    · intro k v hv
      rw [List.getElem?_take] at hv
      split at hv
      · rw [List.getElem?_drop] at hv
        simp only [World.cell?, h1]
        simpa using hv
      · cases hv
  · cases hg

theorem cellsAt_length {h : Tr} {id off n : Nat} {l : List Value} (hg : cellsAt h id off n = some l) : l.length = n := by
  unfold cellsAt at hg
  split at hg
  · split at hg <;> cases hg
    simp; omega
  · cases hg

theorem run_loadT (hm : HRel P r m w) {t : TypeId} {id off : Nat} {e : Ent} {v : Value} (hr : r id = some e) (h : loadT P m.t t id off = some v) :
    ∃ v', (loadVar t ⟨e.b, e.d + off, none⟩).run P w = .ok v' w ∧ VRel r v v' := by
  unfold loadT at h
  cases hagg : aggT P t with
  | none => simp [hagg] at h
  | some b =>
    cases b with
    | true =>
      simp only [hagg] at h
      cases hs : sizeT P t with
      | none => simp [hs] at h
      | some s =>
        simp only [hs] at h
        cases hc : cellsAt m.t id off s with
        | none => simp [hc] at h
        | some l =>
          simp [hc] at h; subst h
          obtain ⟨l', h1, h2, h3⟩ := cells_of hm hr hc
          refine ⟨.agg ⟨l'⟩, ?_, .agg h2⟩
          simp only [loadVar, Sem.run_bind, run_aggT hagg, Result.andThen_ok, if_true, run_sizeT hs]
          rw [← h1, run_loadCells (P := P) h3]
          rfl
    | false =>
      simp only [hagg] at h
      split at h
      · rename_i cs t' fz hrow
        obtain ⟨v', h1, h2⟩ := cell_of hm hr hrow h
        refine ⟨v', ?_, h2⟩
        simp only [loadVar, Sem.run_bind, run_aggT hagg, Result.andThen_ok, Bool.false_eq_true, if_false, run_load, h1]
      · cases h

variable (ev : ∀ x, VRel r (eval P rs x) (a.eval x))
include ev

theorem sim_load (hm : HRel P r m w) {t : TypeId} {x : Operand} (ho : o.op = .load t x) (h : loadR P m.t rs t x = some res) : OpSim P r m w (execOp a.eval o) A res := by
  have hx := ev x
  unfold loadR at h
  simp only at h
  generalize hcv : a.eval x = vc at hx
  generalize eval P rs x = v at h hx
  cases hx <;> try (cases h; done)
  case ptr id off e hr =>
    replace h : (loadT P m.t t id off).map OpR.val = some res := h
    cases hl : loadT P m.t t id off with
    | none => simp [hl] at h
    | some v =>
      simp [hl] at h; subst h
      obtain ⟨v', h1, h2⟩ := run_loadT hm hr hl
      exact OpSim.mk h2 (by simp only [execOp, ho, hcv, Instr.loadAt, Instr.sureAddr, Sem.run_bind, Sem.run_pure, Result.andThen_ok, h1])

theorem sim_fieldAddr {s : TypeId} {x : Operand} {f : Nat} (ho : o.op = .fieldAddr s x f) (h : fieldAddrR P rs s x f = some res) : OpSim P r m w (execOp a.eval o) A res := by
  have hx := ev x
  unfold fieldAddrR at h
  simp only at h
  generalize hcv : a.eval x = vc at hx
  generalize eval P rs x = v at h hx
  cases hu : under P s with
  | none => simp [hu] at h
  | some d =>
    cases d <;> try (simp [hu] at h; done)
    rename_i fields
    cases hx <;> try (simp [hu] at h; done)
    case ptr id off e hr =>
      simp only [hu] at h
      cases hf : fields[f]? with
      | none => simp [hf] at h
      | some fl =>
        simp only [hf] at h
        cases hs : sizeT P fl.type with
        | none => simp [hs] at h
        | some k =>
          cases k with
          | zero => simp [hs] at h
          | succ k =>
            simp [hs] at h; subst h
            refine OpSim.mk (v' := .pointer (some ⟨e.b, e.d + (off + fl.offset), none⟩)) (.ptr hr) ?_
            simp only [execOp, ho, hcv, Instr.fieldAt, Instr.sureAddr, Sem.run_bind, Sem.run_pure, Result.andThen_ok, run_under hu, hf, fieldPlace, run_sizeT hs]
            simp [add_none, Nat.add_assoc]

theorem sim_indexAddr {t : TypeId} {x ix : Operand} (ho : o.op = .indexAddr t x ix) (h : indexAddrR P rs t x ix = some res) : OpSim P r m w (execOp a.eval o) A res := by
  have hx := ev x
  have hi := ev ix
  unfold indexAddrR at h
  simp only at h
  generalize hcv : a.eval x = vc at hx
  generalize hci : a.eval ix = ic at hi
  generalize eval P rs x = v at h hx
  generalize eval P rs ix = iv at h hi
  cases hu : under P t with
  | none => simp [hu] at h
  | some d =>
    cases d <;> try (simp [hu] at h; done)
    case slice el =>
      cases hx <;> try (simp [hu] at h; done)
      case slice id off off' len cap cap' sp e hr hoff hc hl hs hrm hb ha =>
        cases hi <;> try (simp [hu] at h; done)
        rename_i k n
        simp only [hu] at h
        cases hz : sizeT P el with
        | none => simp [hz] at h
        | some s =>
          simp only [hz] at h
          split at h <;> cases h
          rename_i hb
          refine OpSim.mk (v' := .pointer (some ⟨e.b, e.d + (off + n.toNat * s), none⟩)) (.ptr hr) ?_
          have ho' : off' = e.d + off := hoff (by omega)
          simp only [execOp, ho, hcv, hci, Instr.indexAt, asIntOf, Sem.run_bind, Sem.run_pure, Result.andThen_ok, run_under hu]
          simp [hb, run_sizeT hz, add_none, ho', Nat.add_assoc]
    case array len el =>
      cases hx <;> try (simp [hu] at h; done)
      case ptr id off e hr =>
        cases hi <;> try (simp [hu] at h; done)
        rename_i k n
        simp only [hu] at h
        cases hz : sizeT P el with
        | none => simp [hz] at h
        | some s =>
          simp only [hz] at h
          split at h <;> cases h
          rename_i hb
          refine OpSim.mk (v' := .pointer (some ⟨e.b, e.d + (off + n.toNat * s), none⟩)) (.ptr hr) ?_
          simp only [execOp, ho, hcv, hci, Instr.indexAt, Instr.sureAddr, asIntOf, Sem.run_bind, Sem.run_pure, Result.andThen_ok, run_under hu]
          simp [hb, run_sizeT hz, add_none, Nat.add_assoc]

end
end Go.Am
/-
  THE ABSTRACT MACHINE, 6: operators.
-/
namespace Go.Am

/-- Of a type whose values are compared cell by cell. -/
structure FlatOk (P : Program) (t : TypeId) : Prop where
  stood : P.stoodInHeld t = false
  guard : P.eqGuardType P.depth t = false
  names : ∀ fs, under P t = some (.struct fs) → ∀ f ∈ fs.toList, f.name ≠ "_"

theorem eqPlain_same {r : Ren} {d : Option TypeDesc} {x y x' y' : Value} {q : Bool} (h : eqPlain d x y = some q) (hx : VRel r x x') (hy : VRel r y y') : x' = x ∧ y' = y := by
  unfold eqPlain at h
  split at h <;> first | (cases h; done) | (cases hx; cases hy; exact ⟨rfl, rfl⟩)

theorem eqFlds_same {P : Program} {r : Ren} : ∀ {fs : List Field} {i : Nat} {l k l' k' : List Value} {q : Bool}, eqFlds P i fs l k = some q → VRelL r l l' → VRelL r k k' → l' = l ∧ k' = k
  | [], _, [], [], _, _, _, _, .nil, .nil => ⟨rfl, rfl⟩
  | f :: fs, i, x :: l, y :: k, _, _, q, h, .cons hx tx, .cons hy ty => by
    unfold eqFlds at h
    cases hb : Nat.beq f.offset i with
    | false => rw [hb] at h; cases h
    | true =>
      rw [hb] at h
      simp only [cond_true] at h
      split at h
      · rename_i a b h1 h2
        obtain ⟨e1, e2⟩ := eqPlain_same h1 hx hy
        obtain ⟨e3, e4⟩ := eqFlds_same h2 tx ty
        exact ⟨by rw [e1, e3], by rw [e2, e4]⟩
      · cases h
  | [], _, _ :: _, _, _, _, _, h, _, _ => by simp [eqFlds] at h
  | [], _, [], _ :: _, _, _, _, h, _, _ => by simp [eqFlds] at h
  | _ :: _, _, [], _, _, _, _, h, _, _ => by simp [eqFlds] at h
  | _ :: _, _, _ :: _, [], _, _, _, h, _, _ => by simp [eqFlds] at h

theorem eqStruct_same {P : Program} {r : Ren} {t : TypeId} {l k l' k' : List Value} {q : Bool} (h : eqStruct P t l k = some q) (h1 : VRelL r l l') (h2 : VRelL r k k') : l' = l ∧ k' = k := by
  unfold eqStruct at h
  split at h
  · exact eqFlds_same h h1 h2
  · cases h

theorem run_eqPlain {P : Program} {w : World} {t : TypeId} {x y : Value} {q : Bool} (h : eqPlain (under P t) x y = some q) (d : Nat) : aggT P t = some false ∧ (Op.equalIn (d + 1) t x y).run P w = .ok q w := by
  cases hu : under P t with
  | none => rw [hu] at h; simp [eqPlain] at h
  | some e =>
    rw [hu] at h
    unfold eqPlain at h
    split at h
    · rename_i j k a j' b he
      cases he
      split at h <;> cases h
      rename_i hk
      subst hk
      exact ⟨by simp [aggT, hu], run_equalIn_int w d t _ _ _ _ hu⟩
    · rename_i a b he
      cases he; cases h
      refine ⟨by simp [aggT, hu], ?_⟩
      rw [run_equalIn_string w d t _ _ hu, ByteArray.toList_eq, ByteArray.toList_eq]
    · rename_i a b he
      cases he; cases h
      exact ⟨by simp [aggT, hu], run_equalIn_bool' w d t _ _ hu⟩
    · cases h

theorem run_eqFlds {P : Program} {w : World} (d : Nat) (xs ys : Array Value) : ∀ {fs : List Field} {i : Nat} {l k : List Value} {q : Bool}, eqFlds P i fs l k = some q → (∀ f ∈ fs, f.name ≠ "_") →
    xs.toList.drop i = l → ys.toList.drop i = k → (Op.eqFields (d + 1) xs ys fs).run P w = .ok q w
  | [], i, [], [], q, h, _, _, _ => by
    simp only [eqFlds, Option.some.injEq] at h
    subst h
    simp [Op.eqFields]
  | f :: fs, i, x :: l, y :: k, q, h, hn, hx, hy => by
    unfold eqFlds at h
    cases hb : Nat.beq f.offset i with
    | false => rw [hb] at h; cases h
    | true =>
      have ho := Nat.eq_of_beq_eq_true hb
      rw [hb] at h
      simp only [cond_true] at h
      split at h
      · rename_i a b h1 h2
        cases h
        obtain ⟨g1, g2⟩ := run_eqPlain (w := w) h1 d
        have ih := run_eqFlds (w := w) d xs ys h2 (fun f hf => hn f (by simp [hf])) (by rw [← List.tail_drop, hx]; rfl) (by rw [← List.tail_drop, hy]; rfl)
        have px : xs[f.offset]? = some x := by
          have : (xs.toList.drop i)[0]? = some x := by rw [hx]; rfl
          rw [ho]; simpa using this
        have py : ys[f.offset]? = some y := by
          have : (ys.toList.drop i)[0]? = some y := by rw [hy]; rfl
          rw [ho]; simpa using this
        have ex : (part f.type xs f.offset).run P w = .ok x w := by
          simp only [part, Sem.run_bind, run_aggT g1, Result.andThen_ok, Bool.false_eq_true, if_false, px, Sem.run_pure]
        have ey : (part f.type ys f.offset).run P w = .ok y w := by
          simp only [part, Sem.run_bind, run_aggT g1, Result.andThen_ok, Bool.false_eq_true, if_false, py, Sem.run_pure]
        unfold Op.eqFields
        rw [if_pos (hn f (by simp))]
        simp only [Sem.run_bind, ex, ey, Result.andThen_ok, g2]
        cases a
        · simp
        · simp only [Bool.not_true, Bool.false_eq_true, if_false, Bool.true_and]; exact ih
      · cases h
  | [], _, _ :: _, _, _, h, _, _, _ => by simp [eqFlds] at h
  | [], _, [], _ :: _, _, h, _, _, _ => by simp [eqFlds] at h
  | _ :: _, _, [], _, _, h, _, _, _ => by simp [eqFlds] at h
  | _ :: _, _, _ :: _, [], _, h, _, _, _ => by simp [eqFlds] at h

theorem run_eqStruct {P : Program} {w : World} {t : TypeId} (hf : FlatOk P t) {a b : Array Value} {q : Bool} (h : eqStruct P t a.toList b.toList = some q) (op : BinOp) (x y : Operand) :
    (eqGuard op t x y (.agg a) (.agg b)).run P w = .ok () w ∧ (Op.equal t (.agg a) (.agg b)).run P w = .ok q w := by
  refine ⟨run_eqGuard_agg w op t x y a b hf.guard, ?_⟩
  cases hu : under P t with
  | none => simp [eqStruct, hu] at h
  | some d =>
    cases d <;> try (simp [eqStruct, hu] at h; done)
    rename_i fs
    simp only [eqStruct, hu] at h
    have hfo : P.fieldsOf t = fs := by
      have : P.underlying t = some (.struct fs) := hu
      simp [Program.fieldsOf, this]
    obtain ⟨D, hD⟩ : ∃ D, Op.maxDepth = (D + 1) + 1 := ⟨9998, rfl⟩
    unfold Op.equal
    rw [hD, run_equalIn_agg w (D + 1) t a b (by rw [hfo]; exact hu) hf.stood, hfo]
    exact run_eqFlds D a b h (hf.names fs hu) rfl rfl

section
variable {P : Program} {r : Ren} {m : Mem} {w : World} {rs : Rs} {a : Act} {o : Oper} {A : Prop} {res : OpR}

/-- Two numbers. -/
theorem run_intR {op : BinOp} {k j : IntKind} {x y : Int} {v : Value} (t : TypeId) (h : intR op k x j y = some v) :
    (binOp op t (.int k x) (.int j y)).run P w = .ok v w ∧ VRel r v v := by
  cases op <;> simp only [intR] at h
  case shl =>
    split at h <;> cases h
    rename_i hy
    exact ⟨by simp [binOp, Op.shift, hy], .int _ _⟩
  case shr =>
    split at h <;> cases h
    rename_i hy
    exact ⟨by simp [binOp, Op.shift, hy], .int _ _⟩
  case quo =>
    split at h <;> cases h
    rename_i hy
    obtain ⟨rfl, hy⟩ := hy
    exact ⟨by simp [binOp, Op.intDiv, hy], .int _ _⟩
  case rem =>
    split at h <;> cases h
    rename_i hy
    obtain ⟨rfl, hy⟩ := hy
    exact ⟨by simp [binOp, Op.intDiv, hy], .int _ _⟩
  all_goals
    split at h <;> cases h
    rename_i hk
    subst hk
    exact ⟨by simp [binOp, Op.intArith, Op.intBits, Op.intCmp], by first | exact .int _ _ | exact .bool _⟩

theorem run_strR {op : BinOp} {x y : ByteArray} {v : Value} (t : TypeId) (h : strR op x.data.toList y.data.toList = some v) :
    (binOp op t (.string x) (.string y)).run P w = .ok v w ∧ VRel r v v := by
  cases op <;> simp only [strR] at h <;> try (cases h; done)
  case add =>
    split at h <;> cases h
    rename_i hs
    refine ⟨?_, .string _⟩
    have hs' : ¬ ((x.size + y.size : Nat) : Int) > IntKind.i64.max := by
      have h1 : x.size = x.data.toList.length := by simp
      have h2 : y.size = y.data.toList.length := by simp
      rw [h1, h2]
      have : IntKind.i64.max = 9223372036854775807 := by decide
      rw [this]; omega
    have he : (x ++ y) = ⟨⟨x.data.toList ++ y.data.toList⟩⟩ := by
      cases x; cases y
      rename_i a b
      cases a; cases b
      apply ByteArray.ext
      simp
    simp only [binOp, Op.stringOp, if_neg hs', Sem.run_pure, he]
  all_goals
    cases h
    exact ⟨by simp [binOp, Op.stringOp, ByteArray.toList_eq], .bool _⟩

/-- == where an address may stand. -/
theorem run_eqAddr {t : TypeId} {x y x' y' : Value} {q : Bool} (h : eqAddr P t x y = some q) (hx : VRel r x x') (hy : VRel r y y') :
    (Op.equal t x' y').run P w = .ok q w := by
  obtain ⟨D, hD⟩ : ∃ D, Op.maxDepth = D + 1 := ⟨9999, rfl⟩
  unfold Op.equal
  rw [hD]
  clear hD
  unfold eqAddr at h
  cases hu : under P t with
  | none => simp [hu] at h
  | some d =>
    rw [hu] at h
    cases d <;> try (simp at h; done)
    case pointer el =>
      cases hx <;> cases hy <;> try (simp at h; done)
      all_goals simp only [Option.isNone] at h
      · cases h; simp [Op.equalIn, run_under hu]
      · cases h; simp [Op.equalIn, run_under hu]
      · cases h; simp [Op.equalIn, run_under hu]
      · rename_i id off e he id' off' e' he'
        split at h
        · rename_i hid
          subst hid
          rw [he] at he'; cases he'
          cases hs : sizeT P el with
          | none => simp [hs] at h
          | some s =>
            cases s with
            | zero => simp [hs] at h
            | succ s =>
              simp only [hs] at h
              cases h
              simp only [Op.equalIn, Sem.run_bind, run_under hu, Result.andThen_ok, run_sizeT hs]
              by_cases hoo : off = off'
              · subst hoo; simp [Go.sameAddr]
              · have : ¬ (e.d + off = e.d + off') := by omega
                have h2 : (off == off') = false := by simpa using hoo
                have h1 : ((Addr.mk e.b (e.d + off) none) == (Addr.mk e.b (e.d + off') none)) = false := by
                  rw [beq_eq_false_iff_ne]; intro hh; injection hh with _ h3 _; exact this h3
                simp [Go.sameAddr, h1, h2]
        · cases h
    case slice el =>
      cases hx <;> cases hy <;> try (simp at h; done)
      all_goals simp only [Option.isNone] at h
      all_goals cases h; simp [Op.equalIn, run_under hu]
    case map k el =>
      cases hx <;> cases hy <;> try (simp at h; done)
      all_goals simp only [Option.isNone] at h
      all_goals cases h; simp [Op.equalIn, run_under hu]
    case interface ms =>
      cases hx <;> cases hy <;> try (simp at h; done)
      all_goals cases h; simp [Op.equalIn, run_under hu]
    case func p q s =>
      cases hx <;> cases hy <;> try (simp at h; done)
      all_goals cases h; simp [Op.equalIn, run_under hu]

theorem run_eqGuard_other {op : BinOp} {t : TypeId} {x y : Operand} {u v : Value} (h1 : ¬ (u = .nilIface ∧ v = .nilIface)) (h2 : ∀ c d, ¬ (u = .agg c ∧ v = .agg d)) :
    (eqGuard op t x y u v).run P w = .ok () w := by
  unfold eqGuard
  cases op <;> simp
  all_goals
    split
    · exact absurd ⟨rfl, rfl⟩ h1
    · exact absurd ⟨rfl, rfl⟩ (h2 _ _)
    · rfl

theorem run_eqR {fl : List TypeId} (hfl : ∀ t, fl.contains t = true → FlatOk P t) {op : BinOp} {t : TypeId} {x y : Operand} {u v u' v' : Value} {q : Bool} (h : eqR P fl t u v = some q)
    (hu : VRel r u u') (hv : VRel r v v') (hn : ¬ (u = .nilIface ∧ v = .nilIface)) :
    (eqGuard op t x y u' v').run P w = .ok () w ∧ (Op.equal t u' v').run P w = .ok q w := by
  unfold eqR at h
  split at h
  · rename_i b1 b2
    cases hu; cases hv
    refine ⟨run_eqGuard_other (by simp) (by simp), ?_⟩
    split at h <;> cases h
    rename_i hud
    cases hut : under P t with
    | none => rw [hut] at hud; simp at hud
    | some d =>
      rw [hut] at hud
      cases d <;> simp at hud
      obtain ⟨D, hD⟩ : ∃ D, Op.maxDepth = D + 1 := ⟨9999, rfl⟩
      unfold Op.equal
      rw [hD]
      simp [Op.equalIn, run_under hut]
  · rename_i c1 c2
    cases hu with
    | agg h1 =>
      cases hv with
      | agg h2 =>
        split at h
        · rename_i hc
          obtain ⟨e1, e2⟩ := eqStruct_same h h1 h2
          have := run_eqStruct (P := P) (w := w) (hfl t hc) h op x y
          rename_i a1 a2
          have ea : a1 = c1 := by cases a1; cases c1; simpa using e1
          have eb : a2 = c2 := by cases a2; cases c2; simpa using e2
          rw [ea, eb]; exact this
        · cases h
  · rename_i hb ha
    refine ⟨run_eqGuard_other ?_ ?_, run_eqAddr h hu hv⟩
    · rintro ⟨rfl, rfl⟩
      cases hu <;> cases hv <;> first | exact hn ⟨rfl, rfl⟩ | (simp [eqAddr] at h)
      all_goals (split at h <;> simp at h)
    · rintro c d ⟨rfl, rfl⟩
      cases hu <;> cases hv <;> first | exact ha _ _ rfl rfl | (simp [eqAddr] at h)
      all_goals (split at h <;> simp at h)

def eqShape : Value → Bool
  | .bool _ | .agg _ | .pointer _ | .slice _ _ _ | .map _ | .iface _ _ | .nilIface | .func _ _ _ | .nilFunc => true
  | _ => false

theorem eqR_shape {fl : List TypeId} {t : TypeId} {u v u' : Value} {q : Bool} (h : eqR P fl t u v = some q) (hu : VRel r u u') : eqShape u' = true := by
  cases hu <;> first | rfl | skip
  all_goals
    exfalso
    simp only [eqR, eqAddr] at h
    split at h <;> simp_all

theorem binOp_eql {t : TypeId} {u v : Value} (h : eqShape u = true) : binOp .eql t u v = (do pure (.bool (← Op.equal t u v))) := by
  cases u <;> first | (simp [eqShape] at h; done) | rfl
theorem binOp_neq {t : TypeId} {u v : Value} (h : eqShape u = true) : binOp .neq t u v = (do pure (.bool (!(← Op.equal t u v)))) := by
  cases u <;> first | (simp [eqShape] at h; done) | rfl

variable (ev : ∀ x, VRel r (eval P rs x) (a.eval x))
include ev

theorem nilIface_of {x : Operand} (h : eval P rs x = .nilIface) : a.eval x = .nilIface := by
  have hx := ev x
  rw [h] at hx
  generalize a.eval x = q at hx
  cases hx; rfl

theorem sim_binOp {fl : List TypeId} (hfl : ∀ t, fl.contains t = true → FlatOk P t) {op : BinOp} {t yt : TypeId} {x y : Operand} (ho : o.op = .binOp op t x y yt) (h : binOpR P fl rs op t x y = some res) :
    OpSim P r m w (execOp a.eval o) A res := by
  have hx := ev x
  have hy := ev y
  by_cases hnn : eval P rs x = .nilIface ∧ eval P rs y = .nilIface
  · have f1 := nilIface_of ev hnn.1
    have f2 := nilIface_of ev hnn.2
    simp only [binOpR, hnn.1, hnn.2] at h
    by_cases hc : (Region.isConst x || Region.isConst y) = true
    · rw [if_pos hc] at h
      have hg : ∀ op', (eqGuard op' t x y .nilIface .nilIface).run P w = .ok () w := by
        intro op'
        unfold eqGuard
        cases op' <;> simp
        all_goals (cases x <;> cases y <;> first | rfl | (simp [Region.isConst] at hc; done) | simp)
      cases hu : under P t with
      | none => rw [hu] at h; cases op <;> cases h
      | some d =>
        rw [hu] at h
        obtain ⟨D, hD⟩ : ∃ D, Op.maxDepth = D + 1 := ⟨9999, rfl⟩
        have heq : ∀ ms, d = .interface ms → (Op.equal t .nilIface .nilIface).run P w = .ok true w := by
          rintro ms rfl
          unfold Op.equal
          rw [hD]
          simp [Op.equalIn, run_under hu]
        cases d <;> cases op <;> first | (cases h; done) | skip
        · cases h
          exact OpSim.mk (.bool _) (by simp only [execOp, ho, f1, f2, Sem.run_bind, hg, Result.andThen_ok, binOp_eql (u := .nilIface) rfl, heq _ rfl, Sem.run_pure])
        · cases h
          exact OpSim.mk (.bool _) (by simp only [execOp, ho, f1, f2, Sem.run_bind, hg, Result.andThen_ok, binOp_neq (u := .nilIface) rfl, heq _ rfl, Sem.run_pure]; rfl)
    · rw [if_neg hc] at h; cases h
  · have h' : (binR P fl op t (eval P rs x) (eval P rs y)).map OpR.val = some res := by
      unfold binOpR at h
      simp only at h
      split at h
      · rename_i e1 e2; exact absurd ⟨e1, e2⟩ hnn
      · exact h
    cases hb : binR P fl op t (eval P rs x) (eval P rs y) with
    | none => rw [hb] at h'; cases h'
    | some v =>
      rw [hb] at h'; cases h'
      generalize eval P rs x = u at hx hb hnn
      generalize eval P rs y = v' at hy hb hnn
      generalize hcx : a.eval x = q at hx
      generalize hcy : a.eval y = q' at hy
      unfold binR at hb
      split at hb
      · cases hx; cases hy
        obtain ⟨h1, h2⟩ := run_intR (P := P) (w := w) (r := r) t hb
        exact OpSim.mk h2 (by simp only [execOp, ho, hcx, hcy, Sem.run_bind, run_eqGuard_other (P := P) (w := w) (op := op) (t := t) (x := x) (y := y) (u := .int _ _) (v := .int _ _) (by simp) (by simp), Result.andThen_ok, h1, Sem.run_pure])
      · cases hx; cases hy
        obtain ⟨h1, h2⟩ := run_strR (P := P) (w := w) (r := r) t hb
        exact OpSim.mk h2 (by simp only [execOp, ho, hcx, hcy, Sem.run_bind, run_eqGuard_other (P := P) (w := w) (op := op) (t := t) (x := x) (y := y) (u := .string _) (v := .string _) (by simp) (by simp), Result.andThen_ok, h1, Sem.run_pure])
      · split at hb
        · cases he : eqR P fl t u v' with
          | none => rw [he] at hb; cases hb
          | some b =>
            rw [he] at hb; cases hb
            obtain ⟨h1, h2⟩ := run_eqR (w := w) hfl (op := .eql) (x := x) (y := y) he hx hy hnn
            exact OpSim.mk (.bool _) (by simp only [execOp, ho, hcx, hcy, Sem.run_bind, h1, Result.andThen_ok, binOp_eql (eqR_shape he hx), h2, Sem.run_pure])
        · cases he : eqR P fl t u v' with
          | none => rw [he] at hb; cases hb
          | some b =>
            rw [he] at hb; cases hb
            obtain ⟨h1, h2⟩ := run_eqR (w := w) hfl (op := .neq) (x := x) (y := y) he hx hy hnn
            exact OpSim.mk (.bool _) (by simp only [execOp, ho, hcx, hcy, Sem.run_bind, h1, Result.andThen_ok, binOp_neq (eqR_shape he hx), h2, Sem.run_pure])
        · cases hb

end
end Go.Am
