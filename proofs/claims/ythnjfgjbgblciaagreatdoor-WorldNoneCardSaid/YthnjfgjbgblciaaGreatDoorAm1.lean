import Derived.Calls
/-
  THE ABSTRACT MACHINE: a deterministic evaluator over an abstract heap without capacities and without the tape.
-/
namespace Go.Am

/-- What stands under an abstract number. -/
inductive AObj where
  | row (cells : List Value) (elem : TypeId) (fz : Nat)
  | map (es : List MapEntry) (clock : Nat)
  | siter (s : ByteArray) (pos : Nat)
  | miter (m : Option Nat) (since : Nat) (seen : List Nat) (stepped : Nat)
  deriving Inhabited

/-- A tree by a number's binary digits. -/
inductive Tri (α : Type) where
  | nil
  | node (v : Option α) (l r : Tri α)
  deriving Inhabited

/-- The way to a number in such a tree. -/
inductive Way where
  | here
  | left (p : Way)
  | right (p : Way)
  deriving DecidableEq

noncomputable def wayF (f : Nat) : Nat → Way :=
  Nat.rec (motive := fun _ => Nat → Way) (fun _ => .here)
    (fun _ ih k => Nat.rec (motive := fun _ => (Nat → Way) → Way) (fun _ => .here)
      (fun k' _ ih => Bool.rec (motive := fun _ => Way → Way) (fun p => .right p) (fun p => .left p) (Nat.beq (Nat.mod k' 2) 0) (ih (Nat.div k' 2))) k ih) f

noncomputable def wayOf (k : Nat) : Way := wayF (Nat.succ k) k

noncomputable def Tri.getW {α : Type} (p : Way) (t : Tri α) : Option α :=
  Way.rec (motive := fun _ => Tri α → Option α)
    (fun t => Tri.rec (motive := fun _ => Option α) none (fun v _ _ _ _ => v) t)
    (fun _ ih t => Tri.rec (motive := fun _ => (Tri α → Option α) → Option α) (fun _ => none) (fun _ l _ _ _ ih => ih l) t ih)
    (fun _ ih t => Tri.rec (motive := fun _ => (Tri α → Option α) → Option α) (fun _ => none) (fun _ _ r _ _ ih => ih r) t ih) p t

noncomputable def Tri.setW {α : Type} (p : Way) (t : Tri α) (x : Option α) : Tri α :=
  Way.rec (motive := fun _ => Tri α → Option α → Tri α)
    (fun t x => Tri.rec (motive := fun _ => Option α → Tri α) (fun x => .node x .nil .nil) (fun _ l r _ _ x => .node x l r) t x)
    (fun _ ih t x => Tri.rec (motive := fun _ => (Tri α → Option α → Tri α) → Option α → Tri α) (fun ih x => .node none (ih .nil x) .nil) (fun v l r _ _ ih x => .node v (ih l x) r) t ih x)
    (fun _ ih t x => Tri.rec (motive := fun _ => (Tri α → Option α → Tri α) → Option α → Tri α) (fun ih x => .node none .nil (ih .nil x)) (fun v l r _ _ ih x => .node v l (ih r x)) t ih x) p t x

noncomputable def Tri.get {α : Type} (t : Tri α) (k : Nat) : Option α := t.getW (wayOf k)
noncomputable def Tri.set {α : Type} (t : Tri α) (k : Nat) (x : Option α) : Tri α := t.setW (wayOf k) x

abbrev Tr := Tri AObj
abbrev Rs := Tri Value

mutual
/-- No address stands in it. -/
noncomputable def ground : Value → Bool
  | .pointer a => a.isNone
  | .slice a _ _ => a.isNone
  | .map r => r.isNone
  | .chan r => r.isNone
  | .func _ f c => groundA f && groundA c
  | .iface _ v => ground v
  | .agg cs => groundA cs
  | .tuple vs => groundA vs
  | _ => true
noncomputable def groundA : Array Value → Bool
  | ⟨l⟩ => groundL l
noncomputable def groundL : List Value → Bool
  | [] => true
  | v :: l => ground v && groundL l
end

/-- A Sem that asks nothing but the program. -/
noncomputable def pureRun {α : Type} (P : Program) : Sem α → Option α
  | .pure a => some a
  | .program k => pureRun P (k P)
  | .mark _ k => pureRun P k
  | _ => none

noncomputable def junk : Value := .chan (some 0)
noncomputable def bad : Value := .chan (some 1)

/-- It may stand in a cell. -/
noncomputable def oneC : Value → Bool
  | .agg _ | .tuple _ => false
  | .chan (some n) => Nat.beq n 0
  | _ => true

noncomputable def put (n : Nat) (rs : Rs) (dst : Option Tmp) (v : Value) : Rs :=
  match dst with
  | some d => bif Nat.blt d n then rs.set d (some v) else rs
  | none => rs

noncomputable def startF : Nat → List Value → Rs → Rs
  | _, [], rs => rs
  | i, v :: l, rs => startF (i + 1) l (rs.set i (some v))

/-- The memory: the heap and the next number. -/
structure Mem where
  t : Tr
  n : Nat
  deriving Inhabited

inductive OpR where
  | val (v : Value)
  | alloc (o : AObj) (v : Value)
  | step (v : Value) (t : Tr)
  | stepNew (v : Value) (t : Tr) (o : AObj)
  | enter (f : FuncId) (args : List Value)

section
variable (P : Program)

noncomputable def constOk : Value → Bool
  | .bool _ | .int _ _ | .float _ _ | .complex _ _ _ | .string _ | .pointer none | .slice none 0 0 | .map none | .nilIface | .nilFunc => true
  | _ => false

noncomputable def allL {α : Type} (f : α → Bool) : List α → Bool
  | [] => true
  | v :: l => f v && allL f l

noncomputable def goodZ : Value → Bool
  | .agg cs => allL constOk cs.toList
  | v => constOk v

noncomputable def eval (rs : Rs) : Operand → Value
  | .tmp t => (rs.get t).getD undef
  | .const v => bif constOk v then v else bad
  | .global g => bif Nat.blt g P.globals.size then .pointer (some ⟨g, 0, none⟩) else bad
  | .func f => .func (.func f) #[] #[]


noncomputable def under (t : TypeId) : Option TypeDesc := P.underlying t
noncomputable def sizeT (t : TypeId) : Option Nat := (P.info? t).map (·.size)
noncomputable def bytesT (t : TypeId) : Option Nat := (P.info? t).map (·.bytes)
noncomputable def noTuple : Option Value → Option Value
  | some (.tuple _) => none
  | z => z
noncomputable def zeroT (t : TypeId) : Option Value := bif Nat.blt t P.types.size then noTuple ((P.info? t).bind (·.zero)) else none
noncomputable def aggT (t : TypeId) : Option Bool :=
  match under P t with
  | some (.struct _) | some (.array _ _) => some true
  | some _ => some false
  | none => none

noncomputable def rowAt (h : Tr) (id : Nat) : Option (List Value × TypeId × Nat) :=
  match h.get id with
  | some (.row cs e fz) => some (cs, e, fz)
  | _ => none

noncomputable def rowFits (h : Tr) (id s : Nat) : Bool :=
  match rowAt h id with
  | some (_, t, _) => sizeT P t == some s
  | none => false

noncomputable def mapAt (h : Tr) (id : Nat) : Option (List MapEntry × Nat) :=
  match h.get id with
  | some (.map es c) => some (es, c)
  | _ => none

/-- n cells from a place on. -/
noncomputable def cellsAt (h : Tr) (id off n : Nat) : Option (List Value) :=
  match rowAt h id with
  | some (cs, _, _) => if off + n ≤ cs.length then some ((cs.drop off).take n) else none
  | none => none

/-- A list with some of its cells written anew. -/
noncomputable def splice (cs : List Value) (off : Nat) (vs : List Value) : List Value := cs.take off ++ vs ++ cs.drop (off + vs.length)

noncomputable def storeAt (h : Tr) (id off : Nat) (vs : List Value) : Option Tr :=
  match rowAt h id with
  | some (cs, e, fz) => if off + vs.length ≤ cs.length ∧ fz / 2 ≤ off ∧ allL oneC vs = true then some (h.set id (some (.row (splice cs off vs) e fz))) else none
  | none => none

noncomputable def loadT (h : Tr) (t : TypeId) (id off : Nat) : Option Value :=
  match aggT P t with
  | some true => match sizeT P t with
    | some s => (cellsAt h id off s).map fun l => .agg ⟨l⟩
    | none => none
  | some false => match rowAt h id with
    | some (cs, _, _) => cs[off]?
    | none => none
  | none => none

noncomputable def intOf : Value → Option Int
  | .int _ n => some n
  | _ => none

noncomputable def boundOf (v : Value) (top : Nat) : Option Nat :=
  match v with
  | .int _ n => if 0 ≤ n ∧ n ≤ top then some n.toNat else none
  | _ => none

/-- low, high, max of a slice expression over a slice of this length and (known) capacity. -/
noncomputable def bounds (len cap : Nat) (lo hi mx : Option Value) : Option (Nat × Nat × Nat) :=
  match (match mx with | some v => boundOf v cap | none => some cap) with
  | none => none
  | some m =>
    match (match hi, mx with | some v, some _ => boundOf v m | some v, none => boundOf v cap | none, none => some len | none, some _ => none) with
    | none => none
    | some h =>
      match (match lo with | some v => boundOf v h | none => some 0) with
      | none => none
      | some l => some (l, h, m)

/-- Of a map's keys: of one plain kind. -/
noncomputable def keySame : Value → Value → Option Bool
  | .int k a, .int j b => if k = j then some (a == b) else none
  | .string a, .string b => some (a.data.toList == b.data.toList)
  | .bool a, .bool b => some (a == b)
  | _, _ => none

noncomputable def findKey (k : Value) : List MapEntry → Nat → Option (Option (Nat × Value))
  | [], _ => some none
  | e :: es, i =>
    match keySame k e.key with
    | some true => some (some (i, e.val))
    | some false => findKey k es (i + 1)
    | none => none

noncomputable def plainKey (t : TypeId) (k : Value) : Bool :=
  match under P t, k with
  | some (.int j), .int i _ => j == i
  | some .string, .string _ => true
  | some .bool, .bool _ => true
  | _, _ => false

noncomputable def isNilV : Value → Option Bool
  | .pointer a => some a.isNone
  | .slice a _ _ => some a.isNone
  | .map r => some r.isNone
  | .nilIface => some true
  | .iface _ _ => some false
  | .nilFunc => some true
  | .func _ _ _ => some false
  | _ => none

noncomputable def nilLit : Value → Bool
  | .pointer none | .slice none _ _ | .map none | .nilIface | .nilFunc => true
  | _ => false

/-- == where an address may stand on a side: one side is nil, or two addresses in one row. -/
noncomputable def eqAddr (t : TypeId) (x y : Value) : Option Bool :=
  match under P t, x, y with
  | some (.pointer _), .pointer none, .pointer b => some b.isNone
  | some (.pointer _), .pointer a, .pointer none => some a.isNone
  | some (.pointer e), .pointer (some a), .pointer (some b) =>
    if a.block = b.block then (match sizeT P e with | some 0 => none | some _ => some (a.off == b.off) | none => none) else none
  | some (.slice _), .slice none _ _, .slice b _ _ => some b.isNone
  | some (.slice _), .slice a _ _, .slice none _ _ => some a.isNone
  | some (.map _ _), .map none, .map b => some b.isNone
  | some (.map _ _), .map a, .map none => some a.isNone
  | some (.interface _), .nilIface, .iface _ _ => some false
  | some (.interface _), .iface _ _, .nilIface => some false
  | some (.func _ _ _), .nilFunc, .func _ _ _ => some false
  | some (.func _ _ _), .func _ _ _, .nilFunc => some false
  | _, _, _ => none

noncomputable def isJunk : Value → Bool
  | .chan _ => true
  | _ => false

noncomputable def fillL (place : Nat → Option (Nat × Nat)) (cells : List Value) : List (Nat × Value) → Option (List Value)
  | [] => some cells
  | (i, v) :: rest =>
    match place i with
    | none => none
    | some (off, size) =>
      let cs := v.cells.toList
      if isJunk v || cs.length ≠ size || off + size > cells.length then none else fillL place (splice cells off cs) rest

noncomputable def repCells (zero : List Value) (n : Nat) : List Value := (List.range (n * zero.length)).map fun i => zero[i % zero.length]!

noncomputable def bytesOfCells : List Value → Option (List UInt8)
  | [] => some []
  | .int .u8 n :: l => (bytesOfCells l).map fun r => UInt8.ofNat n.toNat :: r
  | _ => none

noncomputable def cellsOfBytes (l : List UInt8) : List Value := l.map fun b => .int .u8 b.toNat

noncomputable def roomy (n : Nat) : Bool := n ≤ 140737488355328

/-- append(s, the cells): new cells behind a slice. -/
noncomputable def appendCells (h : Tr) (elem size bytes : Nat) (s : Value) (new : List Value) (k : Nat) : Option OpR :=
  match s with
  | .slice none _ _ =>
    if k = 0 then some (.val (.slice none 0 0))
    else if roomy (k * bytes) then some (.alloc (.row new elem 0) (.slice (some ⟨0, 0, none⟩) k k)) else none
  | .slice (some a) len cap =>
    let need := len + k
    if need ≤ cap then
      if rowFits P h a.block size = false then none else
      match storeAt h a.block (a.off + len * size) new with
      | some h' => some (.step (.slice (some a) need cap) h')
      | none => none
    else if roomy (need * bytes) then
      match rowAt h a.block with
      | some (cs, e, fz) =>
        if e = elem ∧ a.off + len * size ≤ cs.length ∧ fz / 2 ≤ a.off + len * size ∧ (0 < cap ∨ a.spot = some 1) then
          let cells := (cs.drop a.off).take (len * size) ++ new
          if a.spot = some 1 then some (.alloc (.row cells elem 0) (.slice (some ⟨0, 0, none⟩) need need))
          else some (.stepNew (.slice (some ⟨0, 0, none⟩) need need) (h.set a.block none) (.row cells elem (2 * (fz / 2 - a.off) + fz % 2)))
        else none
      | none => none
    else none
  | _ => none

/-- The first k elements' cells of a slice, or of a string. -/
noncomputable def headCells (h : Tr) (size k : Nat) : Value → Option (List Value)
  | .slice (some a) _ _ => cellsAt h a.block a.off (k * size)
  | .slice none _ _ => if k = 0 then some [] else none
  | .string s => some (cellsOfBytes (s.data.toList.take k))
  | _ => none

noncomputable def srcOk (d : TypeDesc) (size : Nat) : Value → Bool
  | .string _ => (d matches .string) && Nat.beq size 1
  | .slice _ _ _ => (d matches .slice _)
  | _ => false

noncomputable def lenOfV : Value → Option Nat
  | .slice _ n _ => some n
  | .string s => some s.size
  | _ => none

noncomputable def minL (mn : Bool) (k : IntKind) (x : Int) : List Value → Option Value
  | [] => some (.int k x)
  | .int j y :: l => if k = j then minL mn k (if (if mn then y < x else x < y) then y else x) l else none
  | _ => none

noncomputable def minR (mn : Bool) : List Value → Option Value
  | .int k x :: l => minL mn k x l
  | _ => none

noncomputable def builtinR (h : Tr) (b : Builtin) (argTypes : Array TypeId) (_type : TypeId) (args : List Value) : Option OpR :=
  match b with
  | .len =>
    match (argTypes[0]?).bind (under P), (args[0]? : Option Value) with
    | some .string, some (.string s) => some (.val (.int .i64 s.size))
    | some (.slice _), some (.slice _ n _) => some (.val (.int .i64 n))
    | some (.map _ _), some (.map none) => some (.val (.int .i64 0))
    | some (.map _ _), some (.map (some r)) => (mapAt h r).map fun m => .val (.int .i64 m.1.length)
    | _, _ => none
  | .cap =>
    match (argTypes[0]?).bind (under P), (args[0]? : Option Value) with
    | some (.slice _), some (.slice none _ _) => some (.val (.int .i64 0))
    | some (.slice _), some (.slice (some a) _ c) => if a.spot = some 1 then some (.val (.int .i64 c)) else none
    | _, _ => none
  | .append =>
    match argTypes.toList, args with
    | [t, tx], [s, x] =>
      match under P t, under P tx, lenOfV x with
      | some (.slice elem), some dx, some k =>
        match sizeT P elem, bytesT P elem, zeroT P elem with
        | some size, some bytes, some _ =>
          if size = 0 ∨ bytes = 0 then none else
          if srcOk dx size x = false then none else
          match headCells h size k x with
          | some new => if allL oneC new then appendCells P h elem size bytes s new k else none
          | none => none
        | _, _, _ => none
      | _, _, _ => none
    | _, _ => none
  | .copy =>
    match (argTypes[0]?).bind (under P), (args[0]? : Option Value), (args[1]? : Option Value) with
    | some (.slice elem), some (.slice base dLen _), some x =>
      match sizeT P elem, lenOfV x with
      | some size, some k =>
        let n := Nat.min k dLen
        match headCells h size n x, base with
        | some cs, some a => (storeAt h a.block a.off cs).map fun h' => .step (.int .i64 n) h'
        | some _, none => some (.val (.int .i64 n))
        | none, _ => none
      | _, _ => none
    | _, _, _ => none
  | .clear =>
    match (argTypes[0]?).bind (under P), (args[0]? : Option Value) with
    | some (.slice elem), some (.slice base n _) =>
      match base with
      | none => some (.val (.tuple #[]))
      | some a => if n = 0 then some (.val (.tuple #[])) else
        match zeroT P elem with
        | some z => (storeAt h a.block a.off (repCells z.cells.toList n)).map fun h' => .step (.tuple #[]) h'
        | none => none
    | _, _ => none
  | .delete =>
    match (argTypes[0]?).bind (under P), (args[0]? : Option Value), (args[1]? : Option Value) with
    | some (.map kt _), some m, some k =>
      if plainKey P kt k then
        match m with
        | .map none => some (.val (.tuple #[]))
        | .map (some r) =>
          match mapAt h r with
          | some (es, clock) =>
            match findKey k es 0 with
            | some (some (i, _)) => some (.step (.tuple #[]) (h.set r (some (.map (es.eraseIdx i) clock))))
            | some none => some (.step (.tuple #[]) (h.set r (some (.map es clock))))
            | none => none
          | none => none
        | _ => none
      else none
    | _, _, _ => none
  | .unsafeSliceData =>
    match args with
    | [.slice none _ _] => some (.val (.pointer none))
    | [.slice (some a) _ c] => if c ≠ 0 then some (.val (.pointer (some { a with spot := none }))) else none
    | _ => none
  | .unsafeString =>
    match args, (argTypes[0]?).bind (under P) with
    | [.pointer none, .int _ n], some _ => if n = 0 then some (.val (.string .empty)) else none
    | [.pointer (some a), .int _ n], some (.pointer u) =>
      if n < 0 ∨ n > 9223372036854775807 then none else if n = 0 then some (.val (.string .empty)) else
      match rowAt h a.block with
      | some (cs, e, fz) =>
        if e = u ∧ sizeT P e = some 1 ∧ a.off + n.toNat ≤ cs.length ∧ fz / 2 ≤ cs.length ∧ fz % 2 = 0 then
          match bytesOfCells ((cs.drop a.off).take n.toNat) with
          | some bs => some (.step (.string ⟨⟨bs⟩⟩) (h.set a.block (some (.row cs e (2 * max (fz / 2) (a.off + n.toNat))))))
          | none => none
        else none
      | none => none
    | _, _ => none
  | .min => (minR true args).map .val
  | .max => (minR false args).map .val
  | _ => none

noncomputable def cmpL : List UInt8 → List UInt8 → Int
  | [], [] => 0
  | [], _ :: _ => -1
  | _ :: _, [] => 1
  | a :: x, b :: y => if a = b then cmpL x y else if a < b then -1 else 1

/-- A function without a body: three of the library's. -/
noncomputable def externR (fn : Func) (args : List Value) : Option OpR :=
  if fn.name = "internal/abi.NoEscape" then
    match args with
    | [x] => some (.val x)
    | _ => none
  else if fn.name = "internal/bytealg.MakeNoZero" then
    match args, (fn.resultTypes[0]?).bind (under P) with
    | [.int .i64 n], some (.slice elem) =>
      if 0 ≤ n ∧ roomy n.toNat ∧ sizeT P elem = some 1 then some (.alloc (.row (List.replicate n.toNat junk) elem 0) (.slice (some ⟨0, 0, none⟩) n.toNat n.toNat)) else none
    | _, _ => none
  else if fn.name = "internal/bytealg.abigen_runtime_cmpstring" then
    match args with
    | [.string a, .string b] => some (.val (.int .i64 (cmpL a.data.toList b.data.toList)))
    | _ => none
  else none

noncomputable def callR (f : FuncId) (args : List Value) : Option OpR :=
  match P.funcs[f]? with
  | none => none
  | some fn =>
    if fn.body.isNone then externR P fn args
    else if fn.name = "runtime.NumGoroutine" then none else some (.enter f args)

noncomputable def strR (op : BinOp) (x y : List UInt8) : Option Value :=
  match op with
  | .add => if x.length + y.length ≤ 9223372036854775807 then some (.string ⟨⟨x ++ y⟩⟩) else none
  | .eql => some (.bool (x == y))
  | .neq => some (.bool (!(x == y)))
  | .lss => some (.bool (Op.bytesLess x y))
  | .leq => some (.bool (Op.bytesLess x y || x == y))
  | .gtr => some (.bool (!(Op.bytesLess x y || x == y)))
  | .geq => some (.bool (!(Op.bytesLess x y)))
  | _ => none

noncomputable def intR (op : BinOp) (k : IntKind) (a : Int) (j : IntKind) (b : Int) : Option Value :=
  match op with
  | .add => if k = j then some (.int k (k.wrap (a + b))) else none
  | .sub => if k = j then some (.int k (k.wrap (a - b))) else none
  | .mul => if k = j then some (.int k (k.wrap (a * b))) else none
  | .quo => if k = j ∧ b ≠ 0 then some (.int k (k.wrap (a.tdiv b))) else none
  | .rem => if k = j ∧ b ≠ 0 then some (.int k (a.tmod b)) else none
  | .and => if k = j then some (.int k (k.wrap (BitVec.ofInt k.bits a &&& BitVec.ofInt k.bits b).toNat)) else none
  | .or => if k = j then some (.int k (k.wrap (BitVec.ofInt k.bits a ||| BitVec.ofInt k.bits b).toNat)) else none
  | .xor => if k = j then some (.int k (k.wrap (BitVec.ofInt k.bits a ^^^ BitVec.ofInt k.bits b).toNat)) else none
  | .andNot => if k = j then some (.int k (k.wrap (BitVec.ofInt k.bits a &&& ~~~(BitVec.ofInt k.bits b)).toNat)) else none
  | .shl => if b < 0 then none else some (.int k (k.wrap (a * 2 ^ (min b.toNat k.bits))))
  | .shr => if b < 0 then none else some (.int k (a.fdiv (2 ^ (min b.toNat k.bits))))
  | .eql => if k = j then some (.bool (a == b)) else none
  | .neq => if k = j then some (.bool (a != b)) else none
  | .lss => if k = j then some (.bool (decide (a < b))) else none
  | .leq => if k = j then some (.bool (decide (a ≤ b))) else none
  | .gtr => if k = j then some (.bool (decide (a > b))) else none
  | .geq => if k = j then some (.bool (decide (a ≥ b))) else none

/-- == of two cells of a type of one plain kind. -/
noncomputable def eqPlain (d : Option TypeDesc) (x y : Value) : Option Bool :=
  match d, x, y with
  | some (.int _), .int k a, .int j b => if k = j then some (a == b) else none
  | some .string, .string a, .string b => some (a.data.toList == b.data.toList)
  | some .bool, .bool a, .bool b => some (a == b)
  | _, _, _ => none

/-- == of structs of plain fields, from the i-th one on. -/
noncomputable def eqFlds : Nat → List Field → List Value → List Value → Option Bool
  | _, [], [], [] => some true
  | i, f :: fs, x :: l, y :: k =>
    bif Nat.beq f.offset i then
      match eqPlain (under P f.type) x y, eqFlds (i + 1) fs l k with
      | some a, some b => some (a && b)
      | _, _ => none
    else none
  | _, _, _, _ => none

noncomputable def eqStruct (t : TypeId) (a b : List Value) : Option Bool :=
  match under P t with
  | some (.struct fs) => eqFlds P 0 fs.toList a b
  | _ => none

/-- == at a type. -/
noncomputable def eqR (flats : List TypeId) (t : TypeId) (x y : Value) : Option Bool :=
  match x, y with
  | .bool a, .bool b => if under P t matches some .bool then some (a == b) else none
  | .agg a, .agg b => if flats.contains t then eqStruct P t a.toList b.toList else none
  | x, y => eqAddr P t x y

noncomputable def binR (flats : List TypeId) (op : BinOp) (t : TypeId) (x y : Value) : Option Value :=
  match x, y with
  | .int k a, .int j b => intR op k a j b
  | .string a, .string b => strR op a.data.toList b.data.toList
  | x, y =>
    match op with
    | .eql => (eqR P flats t x y).map .bool
    | .neq => (eqR P flats t x y).map fun b => .bool (!b)
    | _ => none

noncomputable def pickR (rs : Rs) (c : Operand) (a : Operand) (b : Operand) : Option OpR :=
  let ρ := eval P rs
  match ρ c with
  | .bool t => some (.val (if t then ρ a else ρ b))
  | _ => none

noncomputable def boxR (rs : Rs) (e : TypeId) (x : Operand) : Option OpR :=
  let v := eval P rs x
  if isJunk v then none else if sizeT P e = some v.cells.size then some (.alloc (.row v.cells.toList e 0) (.pointer (some ⟨0, 0, none⟩))) else none

noncomputable def allocR (e : TypeId) : Option OpR := (zeroT P e).map fun z => .alloc (.row z.cells.toList e 0) (.pointer (some ⟨0, 0, none⟩))

noncomputable def buildR (rs : Rs) (t : TypeId) (parts : Array (Nat × Operand)) : Option OpR :=
  let ρ := eval P rs
  match (zeroT P t), under P t with
  | some z, some (.struct fields) =>
    (fillL (fun i => (fields[i]?).bind fun f => (sizeT P f.type).map fun s => (f.offset, s)) z.cells.toList (parts.toList.map fun (i, x) => (i, ρ x))).map fun l => .val (.agg ⟨l⟩)
  | some z, some (.array _ e) =>
    match sizeT P e with
    | some s => (fillL (fun i => some (i * s, s)) z.cells.toList (parts.toList.map fun (i, x) => (i, ρ x))).map fun l => .val (.agg ⟨l⟩)
    | none => none
  | _, _ => none

noncomputable def buildSliceR (rs : Rs) (t : TypeId) (len : Nat) (parts : Array (Nat × Operand)) : Option OpR :=
  let ρ := eval P rs
  match under P t with
  | some (.slice e) =>
    match sizeT P e, zeroT P e with
    | some s, some z =>
      if len * s > 16777216 then none else
      if roomy (len * (bytesT P e).getD 0) = false then none else
      (fillL (fun i => some (i * s, s)) (repCells z.cells.toList len) (parts.toList.map fun (i, x) => (i, ρ x))).map fun l =>
        .alloc (.row l e 0) (.slice (some ⟨0, 0, some 1⟩) len len)
    | _, _ => none
  | _ => none

noncomputable def makeSliceR (rs : Rs) (t : TypeId) (l : Operand) (c : Operand) : Option OpR :=
  let ρ := eval P rs
  match under P t, ρ l, ρ c with
  | some (.slice e), .int _ l, .int _ c =>
    match bytesT P e, zeroT P e with
    | some b, some z =>
      if 0 ≤ l ∧ l ≤ c ∧ c ≤ 9223372036854775807 ∧ roomy (c.toNat * b) then
        some (.alloc (.row (repCells z.cells.toList c.toNat) e 0) (.slice (some ⟨0, 0, some 1⟩) l.toNat c.toNat))
      else none
    | _, _ => none
  | _, _, _ => none

noncomputable def loadR (h : Tr) (rs : Rs) (t : TypeId) (a : Operand) : Option OpR :=
  let ρ := eval P rs
  match ρ a with
  | .pointer (some a) => (loadT P h t a.block a.off).map .val
  | _ => none

noncomputable def storeR (h : Tr) (rs : Rs) (t : TypeId) (a : Operand) (x : Operand) : Option OpR :=
  let ρ := eval P rs
  match ρ a with
  | .pointer (some a) =>
    if isJunk (ρ x) = false ∧ sizeT P t = some (ρ x).cells.size then (storeAt h a.block a.off (ρ x).cells.toList).map fun h' => .step undef h' else none
  | _ => none

noncomputable def nilCheckR (rs : Rs) (x : Operand) : Option OpR :=
  let ρ := eval P rs
  match ρ x with
  | .pointer none | .nilIface | .nilFunc => none
  | .func (.method _) _ _ => none
  | .chan _ => none
  | x => some (.val x)

noncomputable def fieldAddrR (rs : Rs) (s : TypeId) (x : Operand) (f : Nat) : Option OpR :=
  let ρ := eval P rs
  match under P s, ρ x with
  | some (.struct fields), .pointer (some a) =>
    match fields[f]? with
    | some fl => match sizeT P fl.type with
      | some (_ + 1) => some (.val (.pointer (some ⟨a.block, a.off + fl.offset, none⟩)))
      | _ => none
    | none => none
  | _, _ => none

noncomputable def indexAddrR (rs : Rs) (t : TypeId) (x : Operand) (ix : Operand) : Option OpR :=
  let ρ := eval P rs
  match under P t, ρ x, ρ ix with
  | some (.array len e), .pointer (some a), .int _ i =>
    match sizeT P e with
    | some s => if 0 ≤ i ∧ i < len then some (.val (.pointer (some ⟨a.block, a.off + i.toNat * s, none⟩))) else none
    | none => none
  | some (.slice e), .slice (some a) len _, .int _ i =>
    match sizeT P e with
    | some s => if 0 ≤ i ∧ i < len then some (.val (.pointer (some ⟨a.block, a.off + i.toNat * s, none⟩))) else none
    | none => none
  | _, _, _ => none

noncomputable def fieldR (rs : Rs) (t : TypeId) (x : Operand) (f : Nat) : Option OpR :=
  let ρ := eval P rs
  match under P t, ρ x with
  | some (.struct fields), .agg cs =>
    match fields[f]? with
    | some fl => match aggT P fl.type, sizeT P fl.type with
      | some true, some s => some (.val (.agg ⟨(cs.toList.drop fl.offset).take s⟩))
      | some false, _ => (cs[fl.offset]?).map .val
      | _, _ => none
    | none => none
  | _, _ => none

noncomputable def indexR (rs : Rs) (t : TypeId) (x : Operand) (ix : Operand) : Option OpR :=
  let ρ := eval P rs
  match under P t, ρ x, ρ ix with
  | some (.array len e), .agg cs, .int _ i =>
    if 0 ≤ i ∧ i < len then
      match aggT P e, sizeT P e with
      | some true, some s => some (.val (.agg ⟨(cs.toList.drop (i.toNat * s)).take s⟩))
      | some false, some s => (cs[i.toNat * s]?).map .val
      | _, _ => none
    else none
  | some .string, .string s, .int _ i => if 0 ≤ i then (s.data.toList[i.toNat]?).map fun b => .val (.int .u8 b.toNat) else none
  | _, _, _ => none

noncomputable def extractR (rs : Rs) (x : Operand) (i : Nat) : Option OpR :=
  let ρ := eval P rs
  match ρ x with
  | .tuple vs => (vs[i]?).map .val
  | _ => none

noncomputable def makeInterfaceR (rs : Rs) (t : TypeId) (x : Operand) : Option OpR :=
  let ρ := eval P rs
  match under P t with
  | some (.interface _) | none => none
  | some _ => some (.val (.iface t (ρ x)))

noncomputable def sliceR (h : Tr) (rs : Rs) (t : TypeId) (x : Operand) (lo : Option Operand) (hi : Option Operand) (mx : Option Operand) : Option OpR :=
  let ρ := eval P rs
  match ρ x with
  | .slice a len cap =>
    match under P t with
    | some (.slice e) =>
      match sizeT P e, bounds len cap (lo.map ρ) (hi.map ρ) (mx.map ρ) with
      | some s, some (l, h', m) =>
        if (match a with | none => true | some a => rowFits P h a.block s) = false then none else
        let ex := (mx.isSome || a.all fun a => a.spot == some 1)
        some (.val (.slice (a.map fun a => ⟨a.block, if m = l then a.off else a.off + l * s, if ex then some 1 else none⟩) (h' - l) (m - l)))
      | _, _ => none
    | _ => none
  | .string s =>
    if under P t matches some .string then
      match bounds s.size s.size (lo.map ρ) (hi.map ρ) none, mx with
      | some (l, h', _), none => some (.val (.string ⟨⟨(s.data.toList.drop l).take (h' - l)⟩⟩))
      | _, _ => none
    else none
  | _ => none

noncomputable def convertR (h : Tr) (rs : Rs) (src : TypeId) (dst : TypeId) (x : Operand) : Option OpR :=
  let ρ := eval P rs
  match under P src, under P dst, ρ x with
  | some (.slice e), some .string, .slice (some a) len _ =>
    if under P e matches some (.int .u8) then
      ((cellsAt h a.block a.off len).bind bytesOfCells).map fun bs => .val (.string ⟨⟨bs⟩⟩)
    else none
  | some (.slice e), some .string, .slice none _ _ => if under P e matches some (.int .u8) then some (.val (.string .empty)) else none
  | some .string, some (.slice e), .string s =>
    if under P e matches some (.int .u8) then
      if sizeT P e = some 1 then some (.alloc (.row (cellsOfBytes s.data.toList) e 1) (.slice (some ⟨0, 0, none⟩) s.size s.size)) else none
    else none
  | some (.pointer _), some .unsafePointer, .pointer none | some .unsafePointer, some (.pointer _), .pointer none => some (.val (.pointer none))
  | some (.pointer u), some .unsafePointer, .pointer (some a) =>
    match rowAt h a.block, sizeT P u with
    | some (cs, _, _), some (_ + 1) => if a.off < cs.length then some (.val (.pointer (some a))) else none
    | _, _ => none
  | some .unsafePointer, some (.pointer u), .pointer (some a) =>
    match rowAt h a.block, sizeT P u with
    | some (cs, t, _), some (s + 1) => if t = u ∧ a.off = 0 ∧ s < cs.length then some (.val (.pointer (some a))) else none
    | _, _ => none
  | some (.int _), some (.int k), .int _ n => some (.val (.int k (k.wrap n)))
  | some .string, some .string, .string s => some (.val (.string s))
  | _, _, _ => none

noncomputable def lookupR (h : Tr) (rs : Rs) (t : TypeId) (m : Operand) (k : Operand) (ok : Bool) : Option OpR :=
  let ρ := eval P rs
  match under P t, ρ m with
  | some (.map kt e), .map r =>
    if plainKey P kt (ρ k) then
      match (match r with | none => some ([], 0) | some r => mapAt h r) with
      | some (es, _) =>
        match findKey (ρ k) es 0, zeroT P e with
        | some (some (_, v)), _ => some (.val (if ok then .tuple #[v, .bool true] else v))
        | some none, some z => some (.val (if ok then .tuple #[z, .bool false] else z))
        | _, _ => none
      | none => none
    else none
  | _, _ => none

noncomputable def mapUpdateR (h : Tr) (rs : Rs) (t : TypeId) (m : Operand) (k : Operand) (x : Operand) : Option OpR :=
  let ρ := eval P rs
  match under P t, ρ m with
  | some (.map kt _), .map (some r) =>
    if plainKey P kt (ρ k) then
      match mapAt h r with
      | some (es, clock) =>
        match findKey (ρ k) es 0 with
        | some (some (i, _)) => some (.step undef (h.set r (some (.map (es.modify i fun e => { e with key := ρ k, val := ρ x }) clock))))
        | some none => some (.step undef (h.set r (some (.map (es ++ [{ key := ρ k, val := ρ x, born := clock }]) (clock + 1)))))
        | none => none
      | none => none
    else none
  | _, _ => none

noncomputable def rangeR (h : Tr) (rs : Rs) (t : TypeId) (x : Operand) : Option OpR :=
  let ρ := eval P rs
  match under P t, ρ x with
  | some .string, .string s => some (.alloc (.siter s 0) (.pointer (some ⟨0, 0, none⟩)))
  | some (.map _ _), .map none => some (.alloc (.miter none 0 [] 0) (.pointer (some ⟨0, 0, none⟩)))
  | some (.map _ _), .map (some m) => (mapAt h m).map fun x => .stepNew (.pointer (some ⟨0, 0, none⟩)) h (.miter (some m) x.2 [] x.2)
  | _, _ => none

noncomputable def nextR (h : Tr) (rs : Rs) (it : Operand) (isString : Bool) : Option OpR :=
  let ρ := eval P rs
  match ρ it with
  | .pointer (some ⟨r, 0, none⟩) =>
    match h.get r, isString with
    | some (.siter s pos), true =>
      if pos < s.size then
        let d := Utf8.decode s pos
        some (.step (.tuple #[.bool true, .int .i64 pos, .int .i32 d.1]) (h.set r (some (.siter s (pos + d.2)))))
      else some (.val (.tuple #[.bool false]))
    | some (.miter none _ _ _), false => some (.val (.tuple #[.bool false]))
    | some (.miter (some m) since seen last), false =>
      match mapAt h m with
      | some (es, clock) =>
        if clock ≠ since then none else
        if !seen.isEmpty && !es.isEmpty && es.all fun e => decide (e.born ≥ last) then none else
        match es.filter fun e => !seen.contains e.born with
        | [] => some (.val (.tuple #[.bool false]))
        | [e] => if e.born < since then some (.step (.tuple #[.bool true, e.key, e.val]) (h.set r (some (.miter (some m) since (seen ++ [e.born]) clock)))) else none
        | _ => none
      | none => none
    | _, _ => none
  | _ => none

noncomputable def entryR (h : Tr) (rs : Rs) (it : Operand) : Option OpR :=
  let ρ := eval P rs
  match ρ it with
  | .pointer (some ⟨r, 0, none⟩) =>
    match h.get r with
    | some (.miter (some m) _ seen stepped) =>
      match seen.getLast?, mapAt h m with
      | some stamp, some (es, clock) =>
        if clock = stepped then (es.find? fun e => e.born == stamp).map fun e => .val (.tuple #[e.key, e.val]) else none
      | _, _ => none
    | _ => none
  | _ => none

noncomputable def binOpR (flats : List TypeId) (rs : Rs) (op : BinOp) (t : TypeId) (x : Operand) (y : Operand) : Option OpR :=
  let ρ := eval P rs
  match ρ x, ρ y with
  | .nilIface, .nilIface =>
    if Region.isConst x || Region.isConst y then
      match under P t, op with
      | some (.interface _), .eql => some (.val (.bool true))
      | some (.interface _), .neq => some (.val (.bool false))
      | _, _ => none
    else none
  | a, b => (binR P flats op t a b).map .val

noncomputable def unOpR (rs : Rs) (op : UnOp) (x : Operand) : Option OpR :=
  let ρ := eval P rs
  match op, ρ x with
  | .not, .bool b => some (.val (.bool (!b)))
  | .neg, .int k n => some (.val (.int k (k.wrap (0 - n))))
  | .xor, .int k n => some (.val (.int k (k.wrap (BitVec.ofInt k.bits (if k.signed then -1 else k.max) ^^^ BitVec.ofInt k.bits n).toNat)))
  | _, _ => none

noncomputable def typeAssertR (rs : Rs) (x : Operand) (t : TypeId) (ok : Bool) : Option OpR :=
  let ρ := eval P rs
  match under P t, ρ x with
  | some (.interface _), _ => none
  | none, _ => none
  | _, .iface u v => if u = t then some (.val (if ok then .tuple #[v, .bool true] else v)) else if ok then (zeroT P t).map fun z => .val (.tuple #[z, .bool false]) else none
  | _, .nilIface => if ok then (zeroT P t).map fun z => .val (.tuple #[z, .bool false]) else none
  | _, _ => none

noncomputable def callOpR (h : Tr) (rs : Rs) (ty : TypeId) (c : Call) : Option OpR :=
  let ρ := eval P rs
  match c.callee with
  | .builtin b => builtinR P h b c.argTypes ty (c.args.toList.map ρ)
  | .value f => match ρ f with
    | .func (.func f) first captured => callR P f (first.toList ++ c.args.toList.map ρ ++ captured.toList)
    | _ => none
  | .invoke r name => match ρ r with
    | .iface t v =>
      match (P.info? t).bind fun i => i.methods.toList.find? (·.name == name), under P t with
      | some m, some d =>
        match m.path.toList, m.func, d with
        | [], some (f, true), .pointer _ => callR P f (v :: c.args.toList.map ρ)
        | [], some (_, _), .pointer _ => none
        | [], some (f, false), _ => callR P f (v :: c.args.toList.map ρ)
        | _, _, _ => none
      | _, _ => none
    | _ => none

noncomputable def opR (flats : List TypeId) (h : Tr) (rs : Rs) (o : Oper) : Option OpR :=
  let ρ := eval P rs
  match o.op with
  | .move x | .assign x => some (.val (ρ x))
  | .pick c a b => pickR P rs c a b
  | .alloc e => allocR P e
  | .box e x => boxR P rs e x
  | .build t parts => buildR P rs t parts
  | .buildSlice t len parts => buildSliceR P rs t len parts
  | .makeSlice t l c => makeSliceR P rs t l c
  | .makeMap _ none => some (.alloc (.map [] 0) (.map (some 0)))
  | .makeMap _ (some _) => none
  | .load t a => loadR P h rs t a
  | .store t a x => storeR P h rs t a x
  | .nilCheck x => nilCheckR P rs x
  | .fieldAddr s x f => fieldAddrR P rs s x f
  | .indexAddr t x ix => indexAddrR P rs t x ix
  | .field t x f => fieldR P rs t x f
  | .index t x ix => indexR P rs t x ix
  | .extract x i => extractR P rs x i
  | .makeInterface t x => makeInterfaceR P rs t x
  | .makeFunc fn first cap => some (.val (.func fn ⟨first.toList.map ρ⟩ ⟨cap.toList.map ρ⟩))
  | .slice t x lo hi mx => sliceR P h rs t x lo hi mx
  | .convert src dst x => convertR P h rs src dst x
  | .lookup t m k ok => lookupR P h rs t m k ok
  | .mapUpdate t m k x | .insert t m k x => mapUpdateR P h rs t m k x
  | .range t x => rangeR P h rs t x
  | .next it isString => nextR P h rs it isString
  | .entry it => entryR P h rs it
  | .binOp op t x y _ => binOpR P flats rs op t x y
  | .unOp op _ x => unOpR P rs op x
  | .typeAssert x _ t ok => typeAssertR P rs x t ok
  | .call c => callOpR P h rs o.type c
  | _ => none

/-- A number's place in what an allocation answers. -/
noncomputable def numbered (n : Nat) : Value → Value
  | .pointer (some a) => .pointer (some { a with block := n })
  | .slice (some a) l c => .slice (some { a with block := n }) l c
  | .map (some _) => .map (some n)
  | v => v

inductive AExit where
  | normal
  | exit (id : Nat)
  | ret

/-- What is known of the program beside: types whose == is cell by cell; calls that are answered at once; of the regions that draw, which loads are to be asked again beside which other operations. -/
structure Cfg where
  flats : List TypeId
  prim : FuncId → List Value → Mem → Option (Value × Mem)
  plan : FuncId → Nat → Option (Option (List Nat) × List (Nat × Nat))

structure TE where
  h : Tr
  rs : Rs
  ran : Bool
  v : Value

structure St where
  n : Nat
  rs : Rs
  m : Mem

/-- Is the operation to be run? -/
noncomputable def wantA (ops : Array Oper) (rs : Rs) (o : Oper) : Option Bool :=
  match o.guard with
  | none => some true
  | some (j, want) =>
    match (ops[j]?).bind (·.dst) with
    | none => some false
    | some d =>
      match (rs.get d).getD undef with
      | .bool b => some (b == want)
      | .tuple _ => some false
      | _ => none

noncomputable def resultL (h : Tr) (rs : Rs) : List ResultVar → Option (List Value)
  | [] => some []
  | .tmp t :: l => (resultL h rs l).map fun r => (rs.get t).getD undef :: r
  | .cell a t :: l =>
    match (rs.get a).getD undef with
    | .pointer (some a) =>
      match loadT P h t a.block a.off, resultL h rs l with
      | some v, some r => some (v :: r)
      | _, _ => none
    | _ => none

noncomputable def resultV (h : Tr) (rs : Rs) (fn : Func) : Option Value :=
  match resultL P h rs fn.results.toList with
  | some [v] => some v
  | some l => some (.tuple ⟨l⟩)
  | none => none

noncomputable def sameL (f : Value → Value → Bool) : List Value → List Value → Bool
  | [], [] => true
  | x :: l, y :: k => f x y && sameL f l k
  | _, _ => false

noncomputable def sameAddr : Option Addr → Option Addr → Bool
  | none, none => true
  | some a, some b => Nat.beq a.block b.block && Nat.beq a.off b.off && (a.spot == b.spot)
  | _, _ => false

/-- Surely the same (of plain values and addresses; of rows of these). -/
noncomputable def same0 : Value → Value → Bool
  | .int k a, .int j b => decide (k = j) && decide (a = b)
  | .string a, .string b => a.data.toList == b.data.toList
  | .bool a, .bool b => a == b
  | .pointer a, .pointer b => sameAddr a b
  | .slice a l c, .slice b k d => sameAddr a b && Nat.beq l k && Nat.beq c d
  | .map none, .map none => true
  | .map (some a), .map (some b) => Nat.beq a b
  | .nilIface, .nilIface => true
  | .nilFunc, .nilFunc => true
  | _, _ => false

noncomputable def sameV : Value → Value → Bool
  | .agg a, .agg b => sameL same0 a.toList b.toList
  | .tuple a, .tuple b => sameL same0 a.toList b.toList
  | x, y => same0 x y

section
variable (C : Cfg)

abbrev CallFn := FuncId → List Value → Mem → Option (Value × Mem)

/-- One operation, where a call is answered by what is handed in; what it leaves in its temporary. -/
noncomputable def aOper (call : CallFn) (m : Mem) (rs : Rs) (o : Oper) : Option (Value × Mem) :=
  match opR P C.flats m.t rs o with
  | some (.val v) => some (v, m)
  | some (.alloc x v) => some (numbered m.n v, ⟨m.t.set m.n (some x), m.n + 1⟩)
  | some (.step v t) => some (v, ⟨t, m.n⟩)
  | some (.stepNew v t x) => some (numbered m.n v, ⟨t.set m.n (some x), m.n + 1⟩)
  | some (.enter f args) => call f args m
  | none => none

noncomputable def aOps1 (call : CallFn) (ops : Array Oper) (o : Oper) (go : St → Option St) (s : St) : Option St :=
  match wantA ops s.rs o with
  | some true =>
    match aOper P C call s.m s.rs o with
    | some (v, m) => go ⟨s.n, put s.n s.rs o.dst v, m⟩
    | none => none
  | some false => go ⟨s.n, put s.n s.rs o.dst undef, s.m⟩
  | none => none

noncomputable def aOps (call : CallFn) (ops : Array Oper) (l : List Oper) : St → Option St :=
  List.rec (motive := fun _ => St → Option St) some (fun o _ go s => aOps1 P C call ops o go s) l

/-- Likewise, with what stood ahead of each operation. -/
noncomputable def aTrace1 (call : CallFn) (ops : Array Oper) (o : Oper) (go : List TE → St → Option (List TE × St)) (l : List TE) (s : St) : Option (List TE × St) :=
  match wantA ops s.rs o with
  | some true =>
    match aOper P C call s.m s.rs o with
    | some (v, m) => go (⟨s.m.t, s.rs, true, v⟩ :: l) ⟨s.n, put s.n s.rs o.dst v, m⟩
    | none => none
  | some false => go (⟨s.m.t, s.rs, false, undef⟩ :: l) ⟨s.n, put s.n s.rs o.dst undef, s.m⟩
  | none => none

noncomputable def aTrace (call : CallFn) (ops : Array Oper) (l : List Oper) : List TE → St → Option (List TE × St) :=
  List.rec (motive := fun _ => List TE → St → Option (List TE × St)) (fun l s => some (l, s)) (fun o _ go l s => aTrace1 P C call ops o go l s) l

/-- The operations of a region in the planned order. -/
noncomputable def planOps (ops : Array Oper) : Option (List Nat) → List Oper
  | none => ops.toList
  | some l => l.filterMap fun i => ops[i]?

/-- Operation i tells the same, if operation j comes on its other side. -/
noncomputable def pairOk (os : List Oper) (tr : List TE) (last : Tr) (p : Nat × Nat) : Bool :=
  match tr[p.1]?, tr[p.2]?, os[p.1]? with
  | some i, some j, some o =>
    if i.ran && j.ran then
      match opR P C.flats (if p.1 < p.2 then (match tr[p.2 + 1]? with | some k => k.h | none => last) else j.h) i.rs o with
      | some (.val v) => sameV v i.v
      | _ => false
    else true
  | _, _, _ => false

noncomputable def aDrawn (call : CallFn) (f : FuncId) (id : Nat) (ops : Array Oper) (s : St) : Option St :=
  match C.plan f id with
  | some (ord, []) => aOps P C call ops (planOps ops ord) s
  | some (ord, ps) =>
    match aTrace P C call ops (planOps ops ord) [] s with
    | some (tr, s') => if allL (pairOk P C (planOps ops ord) tr.reverse s'.m.t) ps then some s' else none
    | none => none
  | none => none

abbrev Run := St → Option (AExit × St)

noncomputable def thenR (b : Run) : Option (AExit × St) → Option (AExit × St)
  | some (.normal, s) => b s
  | r => r
noncomputable def condR (c : Operand) (a b : Run) (s : St) : Option (AExit × St) :=
  match eval P s.rs c with
  | .bool true => a s
  | .bool false => b s
  | _ => none
noncomputable def blockR (id : Nat) : Option (AExit × St) → Option (AExit × St)
  | some (.exit i, s) => bif Nat.beq i id then some (.normal, s) else some (.exit i, s)
  | r => r
noncomputable def regionR : Option St → Option (AExit × St)
  | some s => some (.normal, s)
  | none => none

noncomputable def aRegion (call : CallFn) (f : FuncId) (id : Nat) (ops : Array Oper) (draw : Bool) (s : St) : Option (AExit × St) :=
  bif draw then regionR (aDrawn P C call f id ops s) else regionR (aOps P C call ops ops.toList s)

noncomputable def aCode (call : CallFn) (loops : Run → Run) (f : FuncId) (c : Code) : Run :=
  Code.rec (motive := fun _ => Run)
    (fun s => some (.normal, s))
    (fun id ops draw s => aRegion P C call f id ops draw s)
    (fun _ _ a b s => thenR b (a s))
    (fun c _ _ a b s => condR P c a b s)
    (fun id _ a s => blockR id (a s))
    (fun _ a s => loops a s)
    (fun _ _ _ _ _ _ _ => none)
    (fun id s => some (.exit id, s))
    (fun _ _ _ => none)
    (fun _ _ => none)
    (fun _ _ => none)
    (fun s => some (.ret, s))
    (fun _ _ => none) c

noncomputable def aLoop (body : Run) (k : Nat) : Run :=
  Nat.rec (motive := fun _ => Run) (fun _ => none) (fun _ ih s => thenR ih (body s)) k

noncomputable def callEnd (fn : Func) : Option (AExit × St) → Option (Value × Mem)
  | some (.normal, s) | some (.ret, s) => (resultV P s.m.t s.rs fn).map fun v => (v, s.m)
  | _ => none

noncomputable def aBody (ih : CallFn) (k : Nat) (f : FuncId) (args : List Value) (m : Mem) : Option (Value × Mem) :=
  match P.funcs[f]? with
  | none => none
  | some fn =>
    match fn.body with
    | none => none
    | some c => callEnd P fn (aCode P C ih (fun body s => aLoop body k s) f c { n := max fn.ntmps args.length, rs := startF 0 args .nil, m })

noncomputable def aCall (k : Nat) : CallFn :=
  Nat.rec (motive := fun _ => CallFn) (fun _ _ _ => none)
    (fun k ih f args m =>
      match C.prim f args m with
      | some r => some r
      | none => aBody P C ih k f args m) k
end
end
end Go.Am
