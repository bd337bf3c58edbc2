import Derived.Test.YtikphefllmemjaaGreatDoorAm1
/-
The engine, part 2: the small language that the model's code is brought into, and how the abstract machine runs it.
-/
namespace Go.Am
open Go
set_option linter.unusedVariables false

inductive IOp
  | bad
  | move (x : Operand)
  | pick (c a b : Operand)
  | build (zero : List Value) (parts : List (Nat × Nat × Operand))
  | load1 (x : Operand)
  | loadN (n : Nat) (x : Operand)
  | nilCheck (x : Operand)
  | bin (op : BinOp) (x y : Operand)
  | eqB (neg : Bool) (x y : Operand)
  | nilEq (neg : Bool) (kind : Nat) (x y : Operand)
  | eqC (neg : Bool) (t : TypeId) (x y : Operand)
  | un (op : UnOp) (x : Operand)
  | conv (k : IntKind) (x : Operand)
  | same (x : Operand)
  | bytesToStr (x : Operand)
  | ptrTo (x : Operand)
  | ptrFrom (u : TypeId) (n : Nat) (x : Operand)
  | unsafeData (x : Operand)
  | mkIface (t : TypeId) (x : Operand)
  | mkFunc (fn : Fn) (first cap : List Operand)
  | sliceStr (x : Operand) (lo hi : Option Operand)
  | sliceSl (size : Nat) (x : Operand) (lo hi : Option Operand)
  | sliceArr (n size : Nat) (x : Operand) (lo hi : Option Operand)
  | fieldAddr (off : Nat) (x : Operand)
  | field (agg : Option Nat) (off : Nat) (x : Operand)
  | indexSl (size : Nat) (x i : Operand)
  | indexArrA (len size : Nat) (x i : Operand)
  | indexStr (x i : Operand)
  | indexArr (len size : Nat) (agg : Option Nat) (x i : Operand)
  | lookup (zero : Value) (ok : Bool) (x i : Operand)
  | extract (x : Operand) (i : Nat)
  | len (kind : Nat) (x : Operand)
  | lenC (n : Nat)
  | minmax (mx : Bool) (x y : Operand)
  | new (cs : List Value) (elem : TypeId)
  | box (elem : TypeId) (x : Operand)
  | buildSlice (elem len : Nat) (zero : List Value) (parts : List (Nat × Nat × Operand))
  | makeSlice (elem bytes : Nat) (zero : Value) (l c : Operand)
  | store (n : Nat) (a x : Operand)
  | append (elem size bytes : Nat) (s x : Operand)
  | strToBytes (elem : TypeId) (x : Operand)
  | unsafeStr (elem : TypeId) (p n : Operand)
  | makeMap
  | mapUpdate (m k x : Operand)
  | call (f : FuncId) (args : List Operand)
  | callv (f : Operand) (args : List Operand)
  | defer (f : Operand) (args : List Operand)

/-! ### values -/
def intBin (op : BinOp) (k : IntKind) (a b : Int) : Option Value :=
  match op with
  | .add => some (.int k (k.wrap (a + b)))
  | .sub => some (.int k (k.wrap (a - b)))
  | .mul => some (.int k (k.wrap (a * b)))
  | .quo => if b = 0 then none else some (.int k (k.wrap (a.tdiv b)))
  | .rem => if b = 0 then none else some (.int k (a.tmod b))
  | .and => some (.int k (k.wrap ((BitVec.ofInt k.bits a &&& BitVec.ofInt k.bits b).toNat)))
  | .or => some (.int k (k.wrap ((BitVec.ofInt k.bits a ||| BitVec.ofInt k.bits b).toNat)))
  | .xor => some (.int k (k.wrap ((BitVec.ofInt k.bits a ^^^ BitVec.ofInt k.bits b).toNat)))
  | .andNot => some (.int k (k.wrap ((BitVec.ofInt k.bits a &&& ~~~ BitVec.ofInt k.bits b).toNat)))
  | .eql => some (.bool (a == b))
  | .neq => some (.bool (a != b))
  | .lss => some (.bool (decide (a < b)))
  | .leq => some (.bool (decide (a ≤ b)))
  | .gtr => some (.bool (decide (a > b)))
  | .geq => some (.bool (decide (a ≥ b)))
  | _ => none

def strBin (op : BinOp) (x y : ByteArray) : Option Value :=
  match op with
  | .add => if x.size + y.size ≤ 9223372036854775807 then some (.string (x ++ y)) else none
  | .eql => some (.bool (x.toList == y.toList))
  | .neq => some (.bool (!(x.toList == y.toList)))
  | .lss => some (.bool (Op.bytesLess x.toList y.toList))
  | .leq => some (.bool (Op.bytesLess x.toList y.toList || x.toList == y.toList))
  | .gtr => some (.bool (!(Op.bytesLess x.toList y.toList || x.toList == y.toList)))
  | .geq => some (.bool (!Op.bytesLess x.toList y.toList))
  | _ => none

def binV (op : BinOp) : Value → Value → Option Value
  | .int k a, .int k' b =>
    match op with
    | .shl => if b < 0 then none else some (.int k (k.wrap (a * 2 ^ (min b.toNat k.bits))))
    | .shr => if b < 0 then none else some (.int k (a.fdiv (2 ^ (min b.toNat k.bits))))
    | _ => if k = k' then intBin op k a b else none
  | .string a, .string b => strBin op a b
  | _, _ => none

/-- kinds: 0 pointer, 1 slice, 2 map, 3 func, 4 interface -/
def eqNil : Nat → Value → Value → Option Bool
  | 0, .pointer none, .pointer b => some b.isNone
  | 0, .pointer (some _), .pointer none => some false
  | 0, .pointer (some a), .pointer (some b) => if a.block = b.block then some (decide (a = b)) else none
  | 1, .slice none _ _, .slice b _ _ => some b.isNone
  | 1, .slice (some _) _ _, .slice none _ _ => some false
  | 2, .map none, .map b => some b.isNone
  | 2, .map (some _), .map none => some false
  | 3, .nilFunc, .nilFunc => some true
  | 3, .nilFunc, .func .. => some false
  | 3, .func .., .nilFunc => some false
  | 4, .nilIface, .nilIface => some true
  | 4, .nilIface, .iface .. => some false
  | 4, .iface .., .nilIface => some false
  | _, _, _ => none

/-- a piece of the model's own meaning that looks at nothing but the program -/
def pureRun {α : Type} (p : Program) : Sem α → Option α
  | .pure a => some a
  | .program k => pureRun p (k p)
  | _ => none

def sliceB (d : Nat) (y : Nat) : Option Value → Option Nat
  | none => some d
  | some (.int _ i) => if 0 ≤ i ∧ i ≤ y then some i.toNat else none
  | _ => none

def fillL (cs : List Value) : List (Nat × Nat × Value) → Option (List Value)
  | [] => some cs
  | (off, size, v) :: rest =>
    if (vcells v).length ≠ size ∨ off + size > cs.length then none
    else fillL (cs.take off ++ vcells v ++ cs.drop (off + size)) rest

def bytesOf : List Value → Option (List UInt8)
  | [] => some []
  | .int .u8 n :: rest => (bytesOf rest).map (UInt8.ofNat n.toNat :: ·)
  | _ => none

def bytes8 : List Value → Option (List UInt8)
  | [] => some []
  | .int .u8 n :: rest => if 0 ≤ n ∧ n < 256 then (bytes8 rest).map (UInt8.ofNat n.toNat :: ·) else none
  | _ => none

def cellsIn (g : VH) (b o n : Nat) : Option (List Value) :=
  match g b with
  | some (.cells cs _ _ _) => if o + n ≤ cs.length then some ((cs.drop o).take n) else none
  | _ => none

def findE (k : Value) : List MapEntry → Option Value
  | [] => none
  | e :: es => match k, e.key with
    | .string a, .string b => if a == b then some e.val else findE k es
    | _, _ => none
def keysOk : List MapEntry → Bool
  | [] => true
  | e :: es => match e.key with | .string _ => keysOk es | _ => false

/-- operations that leave the world as it is -/
def evalQ (P : Program) (ev : Operand → Value) (g : VH) : IOp → Option Value
  | .move x => some (ev x)
  | .pick c a b => match ev c with | .bool t => some (if t then ev a else ev b) | _ => none
  | .build zero parts => (fillL zero (parts.map fun (o, s, x) => (o, s, ev x))).map fun cs => .agg ⟨cs⟩
  | .load1 x => match ev x with
    | .pointer (some ⟨b, o, none⟩) => match g b with | some (.cells cs _ _ _) => cs[o]? | _ => none
    | _ => none
  | .loadN n x => match ev x with
    | .pointer (some ⟨b, o, none⟩) => (cellsIn g b o n).map fun cs => .agg ⟨cs⟩
    | _ => none
  | .nilCheck x => match ev x with
    | .pointer none | .nilIface | .nilFunc => none
    | .func (.method _) _ _ => none
    | v => some v
  | .bin op x y => binV op (ev x) (ev y)
  | .eqB neg x y => match ev x, ev y with | .bool a, .bool b => some (.bool ((a == b) != neg)) | _, _ => none
  | .nilEq neg k x y => (eqNil k (ev x) (ev y)).map fun b => .bool (b != neg)
  | .eqC neg t x y =>
    if closed (ev x) && closed (ev y) then (pureRun P (Op.equal t (ev x) (ev y))).map fun b => .bool (b != neg) else none
  | .un op x => match op, ev x with
    | .neg, .int k n => some (.int k (k.wrap (0 - n)))
    | .not, .bool b => some (.bool (!b))
    | _, _ => none
  | .conv k x => match ev x with | .int _ n => some (.int k (k.wrap n)) | _ => none
  | .same x => match ev x with | .string s => some (.string s) | _ => none
  | .bytesToStr x => match ev x with
    | .slice none _ _ => some (.string .empty)
    | .slice (some ⟨b, o, none⟩) n _ => ((cellsIn g b o n).bind bytesOf).map fun l => .string ⟨⟨l⟩⟩
    | _ => none
  | .ptrTo x => match ev x with
    | .pointer (some ⟨b, o, none⟩) => match g b with
      | some (.cells cs _ _ _) => if o < cs.length then some (.pointer (some ⟨b, o, none⟩)) else none
      | _ => none
    | _ => none
  | .ptrFrom u n x => match ev x with
    | .pointer (some ⟨b, 0, none⟩) => match g b with
      | some (.cells cs e none _) => if e = u ∧ cs.length = n then some (.pointer (some ⟨b, 0, none⟩)) else none
      | _ => none
    | _ => none
  | .unsafeData x => match ev x with
    | .slice none _ _ => some (.pointer none)
    | .slice (some ⟨b, o, none⟩) _ c => if c = 0 then none else some (.pointer (some ⟨b, o, none⟩))
    | _ => none
  | .mkIface t x => some (.iface t (ev x))
  | .mkFunc fn first cap => some (.func fn ⟨first.map ev⟩ ⟨cap.map ev⟩)
  | .sliceStr x lo hi => match ev x with
    | .string s => do
      let h ← sliceB s.size s.size (hi.map ev)
      let l ← sliceB 0 h (lo.map ev)
      some (.string (s.extract l h))
    | _ => none
  | .sliceSl size x lo hi => match ev x with
    | .slice a len cap => do
      let h ← sliceB len cap (hi.map ev)
      let l ← sliceB 0 h (lo.map ev)
      match a with
      | none => if l = 0 then some (.slice none (h - l) (cap - l)) else none
      | some ⟨b, o, none⟩ => if l = 0 then some (.slice (some ⟨b, o, none⟩) h cap) else if l < cap then some (.slice (some ⟨b, o + l * size, none⟩) (h - l) (cap - l)) else none
      | _ => none
    | _ => none
  | .sliceArr n size x lo hi => match ev x with
    | .pointer (some ⟨b, o, none⟩) => do
      let h ← sliceB n n (hi.map ev)
      let l ← sliceB 0 h (lo.map ev)
      match g b with
      | some (.cells _ _ none _) => some (.slice (some ⟨b, if n = l then o else o + l * size, none⟩) (h - l) (n - l))
      | _ => none
    | _ => none
  | .fieldAddr off x => match ev x with | .pointer (some ⟨b, o, none⟩) => some (.pointer (some ⟨b, o + off, none⟩)) | _ => none
  | .field agg off x => match ev x with
    | .agg cs => match agg with
      | some n => if off + n ≤ cs.toList.length then some (.agg ⟨(cs.toList.drop off).take n⟩) else none
      | none => cs.toList[off]?
    | _ => none
  | .indexSl size x i => match ev x, ev i with
    | .slice (some ⟨b, o, none⟩) len _, .int _ i => if 0 ≤ i ∧ i < len then some (.pointer (some ⟨b, o + i.toNat * size, none⟩)) else none
    | _, _ => none
  | .indexArrA len size x i => match ev x, ev i with
    | .pointer (some ⟨b, o, none⟩), .int _ i => if 0 ≤ i ∧ i < len then some (.pointer (some ⟨b, o + i.toNat * size, none⟩)) else none
    | _, _ => none
  | .indexStr x i => match ev x, ev i with
    | .string s, .int _ i => if 0 ≤ i then (s.data.toList[i.toNat]?).map fun b => .int .u8 b.toNat else none
    | _, _ => none
  | .indexArr len size agg x i => match ev x, ev i with
    | .agg cs, .int _ i => if 0 ≤ i ∧ i < len then (match agg with
        | some n => if i.toNat * size + n ≤ cs.toList.length then some (.agg ⟨(cs.toList.drop (i.toNat * size)).take n⟩) else none
        | none => cs.toList[i.toNat * size]?) else none
    | _, _ => none
  | .lookup zero ok x i => match ev x, ev i with
    | .map none, .string _ => some (if ok then .tuple #[zero, .bool false] else zero)
    | .map (some r), .string k => match g r with
      | some (.map es _) => if keysOk es then (match findE (.string k) es with
          | some v => some (if ok then .tuple #[v, .bool true] else v)
          | none => some (if ok then .tuple #[zero, .bool false] else zero)) else none
      | _ => none
    | _, _ => none
  | .extract x i => match ev x with | .tuple vs => vs.toList[i]? | _ => none
  | .len k x => match k, ev x with
    | 0, .string s => some (.int .i64 s.size)
    | 1, .slice _ n _ => some (.int .i64 n)
    | 2, .map none => some (.int .i64 0)
    | 2, .map (some r) => match g r with | some (.map es _) => some (.int .i64 es.length) | _ => none
    | _, _ => none
  | .lenC n => some (.int .i64 n)
  | .minmax mx x y => match ev x, ev y with
    | .int k a, .int _ b => some (.int k (if mx then (if b > a then b else a) else (if b < a then b else a)))
    | _, _ => none
  | _ => none

/-- operations that lay one block: its cells, its element type, and the value, given the block's number -/
def evalA (ev : Operand → Value) : IOp → Option (List Value × TypeId × (Nat → Value))
  | .new cs elem => some (cs, elem, fun b => .pointer (some ⟨b, 0, none⟩))
  | .box elem x => some (vcells (ev x), elem, fun b => .pointer (some ⟨b, 0, none⟩))
  | .buildSlice elem len zero parts => (fillL zero (parts.map fun (o, s, x) => (o, s, ev x))).map fun cs => (cs, elem, fun b => .slice (some ⟨b, 0, none⟩) len len)
  | .makeSlice elem bytes zero l c => match ev l, ev c with
    | .int _ l, .int _ c => if 0 ≤ l ∧ l ≤ c ∧ c * bytes ≤ 281474976710656 ∧ c ≤ 281474976710656 then some (List.replicate c.toNat zero, elem, fun b => .slice (some ⟨b, 0, none⟩) l.toNat c.toNat) else none
    | _, _ => none
  | _ => none

def storeL (cs : List Value) (o : Nat) : List Value → List Value
  | [] => cs
  | v :: vs => storeL (cs.set o v) (o + 1) vs

def newCells (g : VH) (size : Nat) : Value → Option (Nat × List Value)
  | .slice none n _ => if n = 0 then some (0, []) else none
  | .slice (some ⟨b, o, none⟩) n _ => (cellsIn g b o (n * size)).map fun cs => (n, cs)
  | .string s => if size = 1 then some (s.size, s.data.toList.map fun b => .int .u8 b.toNat) else none
  | _ => none

def doAppend (elem size bytes : Nat) (h : AH) (s x : Value) : Option (Value × AH) :=
  match s, newCells h.get size x with
  | .slice none len cap, some (n, news) =>
    if len = 0 ∧ cap = 0 then
      if n = 0 then some (.slice none 0 0, h)
      else if news.all oneC ∧ (2 * n + 768) * bytes ≤ 281474976710656 then some (.slice (some ⟨h.next, 0, none⟩) n n, h.add (.cells news elem (some size) 0)) else none
    else none
  | .slice (some ⟨b, o, none⟩) len cap, some (n, news) =>
    match h.get b with
    | some (.cells cs e spare fz) =>
      if news.all oneC then
        if len + n ≤ cap then
          if o + (len + n) * size ≤ cs.length ∧ fz ≤ o + len * size then some (.slice (some ⟨b, o, none⟩) (len + n) cap, h.put b (some (.cells (storeL cs (o + len * size) news) e spare fz))) else none
        else if (2 * (len + n) + 768) * bytes ≤ 281474976710656 ∧ o + len * size ≤ cs.length then
          match spare with
          | none => some (.slice (some ⟨h.next, 0, none⟩) (len + n) (len + n), h.add (.cells ((cs.drop o).take (len * size) ++ news) elem (some size) 0))
          | some s =>
            if o = 0 ∧ s = size ∧ e = elem ∧ cs.length = cap * size ∧ fz ≤ len * size ∧ len ≤ cap then
              some (.slice (some ⟨h.next, 0, none⟩) (len + n) (len + n), (h.put b none).add (.cells (cs.take (len * size) ++ news) elem (some size) fz))
            else none
        else none
      else none
    | _ => none
  | _, _ => none

def modifyE (k : Value) (v : Value) : List MapEntry → Option (List MapEntry)
  | [] => none
  | e :: es => match k, e.key with
    | .string a, .string b => if a == b then some ({ e with key := k, val := v } :: es) else (modifyE k v es).map (e :: ·)
    | _, _ => none

/-- the other operations, but calls -/
def evalE (ev : Operand → Value) (h : AH) : IOp → Option (Value × AH)
  | .store n a x => match ev a with
    | .pointer (some ⟨b, o, none⟩) => match h.get b with
      | some (.cells cs e spare fz) =>
        if (vcells (ev x)).length = n ∧ (vcells (ev x)).all oneC ∧ o + n ≤ cs.length ∧ fz ≤ o then some (undef, h.put b (some (.cells (storeL cs o (vcells (ev x))) e spare fz))) else none
      | _ => none
    | _ => none
  | .append elem size bytes s x => doAppend elem size bytes h (ev s) (ev x)
  | .strToBytes elem x => match ev x with
    | .string s => some (.slice (some ⟨h.next, 0, none⟩) s.size s.size, h.add (.cells (s.data.toList.map fun b => .int .u8 b.toNat) elem (some 1) 0))
    | _ => none
  | .unsafeStr elem p n => match ev p, ev n with
    | .pointer q, .int .i64 m =>
      if m = 0 then some (.string .empty, h) else
      match q with
      | some ⟨b, 0, none⟩ => match h.get b with
        | some (.cells cs e _ _) =>
          if e = elem ∧ 0 < m ∧ m ≤ cs.length ∧ m ≤ 9223372036854775807 then
            match bytes8 (cs.take m.toNat) with
            | some l => some (.string ⟨⟨l⟩⟩, h.put b none)
            | none => none
          else none
        | _ => none
      | _ => none
    | _, _ => none
  | .makeMap => some (.map (some h.next), h.add (.map [] 0))
  | .mapUpdate m k x => match ev m, ev k with
    | .map (some r), .string s => match h.get r with
      | some (.map es clock) =>
        if keysOk es then
          match modifyE (.string s) (ev x) es with
          | some es' => some (undef, h.put r (some (.map es' clock)))
          | none => some (undef, h.put r (some (.map (es ++ [{ key := .string s, val := ev x, born := clock }]) (clock + 1))))
        else none
      | _ => none
    | _, _ => none
  | _ => none

/-- the function and the arguments of a call -/
def evalC (ev : Operand → Value) : IOp → Option (FuncId × List Value)
  | .call f args => some (f, args.map ev)
  | .callv f args => match ev f with
    | .func (.func f) first cap => some (f, first.toList ++ args.map ev ++ cap.toList)
    | _ => none
  | _ => none

/-! ### operations in a row -/
structure IOper where
  dst : Option Nat
  op : IOp
  guard : Option (Option Nat × Bool)

/-- of a region that draws: of each operation, those ahead of it that need not run first and lay a block; pairs of a reader and an act in either order -/
structure IDraw where
  masks : List (Nat × List Nat)
  twice : List (Nat × Nat)

inductive ICode
  | skip
  | bad
  | region (ops : List IOper) (draw : Option IDraw)
  | seq (a b : ICode)
  | cond (c : Operand) (thn els : ICode)
  | block (id : Nat) (body : ICode)
  | loop (body : ICode)
  | exit (id : Nat)
  | within (body rest : ICode)      -- in a scope: what is left to run in it
  | label (l : Nat)
  | goto (l : Nat)
  | ret

structure IFn where
  ntmps : Nat
  results : List (Sum Nat (Nat × Option Nat))
  body : ICode

structure St where
  tmps : List Value
  h : AH
  ds : List (FuncId × List Value)

def evT (tmps : List Value) : Operand → Value
  | .tmp t => tmps.getD t undef
  | .const v => v
  | .global g => .pointer (some ⟨g, 0, none⟩)
  | .func f => .func (.func f) #[] #[]

def wantedT (tmps : List Value) : Option (Option Nat × Bool) → Bool
  | none => true
  | some (g, want) => match g.bind (tmps[·]?) with | some (.bool b) => b == want | _ => false

def putT (tmps : List Value) (dst : Option Nat) (v : Value) : List Value :=
  match dst with | some d => tmps.set d v | none => tmps

abbrev CallF := FuncId → List Value → AH → Option (Value × AH)

def deferV (ev : Operand → Value) : IOp → Option (FuncId × List Value)
  | .defer f args => match ev f with
    | .func (.func f) first cap => some (f, first.toList ++ args.map ev ++ cap.toList)
    | _ => none
  | _ => none

/-- an operation that changes the heap otherwise than by one new block -/
def act (P : Program) (call : CallF) (ev : Operand → Value) (h : AH) (op : IOp) : Option (Value × AH) :=
  match evalC ev op with
  | some (f, args) => call f args h
  | none => evalE ev h op

def IOp.kind : IOp → Nat      -- 0 quiet, 1 lays a block, 2 acts, 3 defers
  | .new .. | .box .. | .buildSlice .. | .makeSlice .. => 1
  | .store .. | .append .. | .strToBytes .. | .unsafeStr .. | .makeMap | .mapUpdate .. | .call .. | .callv .. => 2
  | .defer .. => 3
  | _ => 0

def stepOp (P : Program) (call : CallF) (st : St) (o : IOper) : Option St :=
  if wantedT st.tmps o.guard then
    match o.op.kind with
    | 0 => match evalQ P (evT st.tmps) st.h.get o.op with | some v => some { st with tmps := putT st.tmps o.dst v } | none => none
    | 1 => match evalA (evT st.tmps) o.op with
      | some (cs, elem, mk) => some { st with tmps := putT st.tmps o.dst (mk st.h.next), h := st.h.add (.cells cs elem none 0) }
      | none => none
    | 2 => match act P call (evT st.tmps) st.h o.op with
      | some (v, h) => some { st with tmps := putT st.tmps o.dst v, h := h }
      | none => none
    | _ => match deferV (evT st.tmps) o.op with
      | some d => some { st with tmps := putT st.tmps o.dst undef, ds := d :: st.ds }
      | none => none
  else some { st with tmps := putT st.tmps o.dst undef }

def runOps (P : Program) (call : CallF) : List IOper → St → Option St
  | [], st => some st
  | o :: rest, st => match stepOp P call st o with | some st' => runOps P call rest st' | none => none

/-! ### a region that draws its order -/
def hide (h : AH) : List Nat → AH
  | [] => h
  | b :: bs => hide (h.put b none) bs
def show' (h h0 : AH) : List Nat → AH      -- puts back what was hidden of h0
  | [] => h
  | b :: bs => show' (h.put b (h0.get b)) h0 bs
def idsOf (ids : List (Nat × Nat)) (m : List Nat) : List Nat := (ids.filter fun p => m.contains p.1).map (·.2)
def maskOf (ms : List (Nat × List Nat)) (j : Nat) : List Nat := ((ms.find? fun p => p.1 == j).map (·.2)).getD []

structure DSt where
  st : St
  ids : List (Nat × Nat)
  snaps : List (Nat × AH × AH)

def stepD (P : Program) (call : CallF) (dr : IDraw) (d : DSt) (j : Nat) (o : IOper) : Option DSt :=
  let hid := idsOf d.ids (maskOf dr.masks j)
  if wantedT d.st.tmps o.guard then
    match o.op.kind with
    | 0 => match evalQ P (evT d.st.tmps) (hide d.st.h hid).get o.op with | some v => some { d with st := { d.st with tmps := putT d.st.tmps o.dst v } } | none => none
    | 1 => match evalA (evT d.st.tmps) o.op with
      | some (cs, elem, mk) => some { d with st := { d.st with tmps := putT d.st.tmps o.dst (mk d.st.h.next), h := d.st.h.add (.cells cs elem none 0) }, ids := (j, d.st.h.next) :: d.ids }
      | none => none
    | 2 => match act P call (evT d.st.tmps) (hide d.st.h hid) o.op with
      | some (v, h) => some { d with st := { d.st with tmps := putT d.st.tmps o.dst v, h := show' h d.st.h hid }, snaps := (j, d.st.h, show' h d.st.h hid) :: d.snaps }
      | none => none
    | _ => none
  else some { d with st := { d.st with tmps := putT d.st.tmps o.dst undef } }

def runD (P : Program) (call : CallF) (dr : IDraw) : List IOper → Nat → DSt → Option DSt
  | [], _, d => some d
  | o :: rest, j, d => match stepD P call dr d j o with | some d' => runD P call dr rest (j + 1) d' | none => none

def eqV : Nat → Value → Value → Bool
  | 0, _, _ => false
  | n + 1, x, y => match x, y with
    | .bool a, .bool b => a == b
    | .int k a, .int j b => decide (k = j) && decide (a = b)
    | .string a, .string b => a.data.toList == b.data.toList
    | .pointer a, .pointer b => decide (a = b)
    | .slice a l c, .slice b m d => decide (a = b) && decide (l = m) && decide (c = d)
    | .map a, .map b => decide (a = b)
    | .nilFunc, .nilFunc => true
    | .nilIface, .nilIface => true
    | .agg a, .agg b => decide (a.toList.length = b.toList.length) && (a.toList.zip b.toList).all fun (x, y) => eqV n x y
    | .tuple a, .tuple b => decide (a.toList.length = b.toList.length) && (a.toList.zip b.toList).all fun (x, y) => eqV n x y
    | _, _ => false

def idsTwice (ids : List (Nat × Nat)) (m : List Nat) (r : Nat) : List Nat := (ids.filter fun p => m.contains p.1 || decide (r < p.1)).map (·.2)

/-- blocks that were laid between e and r, and no act behind them -/
def idsLaid (d : DSt) (m : List Nat) (r e : Nat) : List Nat := (d.ids.filter fun p => decide (e < p.1) && decide (p.1 < r) && !m.contains p.1 && d.snaps.all (fun s => decide (s.1 < p.1))).map (·.2)
/-- what a reader r sees beside an act e -/
def twiceHeap (d : DSt) (m : List Nat) (r e : Nat) (before after : AH) : AH := show' (hide (if r < e then after else before) (idsTwice d.ids m r)) d.st.h (idsLaid d m r e)

def twiceOk (P : Program) (dr : IDraw) (ops : List IOper) (d : DSt) : Bool :=
  dr.twice.all fun (r, e) =>
    match ops[r]?, d.snaps.find? (fun s => s.1 == e) with
    | some o, some (_, before, after) =>
      (match o.dst with | some t => decide (t < d.st.tmps.length) | none => false) &&
      if wantedT d.st.tmps o.guard then
        match evalQ P (evT d.st.tmps) (twiceHeap d (maskOf dr.masks r) r e before after).get o.op with
        | some v => eqV 8 v (match o.dst with | some t => d.st.tmps.getD t undef | none => undef)
        | none => false
      else true
    | some o, none => true
    | _, _ => false

def runRegion (P : Program) (call : CallF) (ops : List IOper) (dr : Option IDraw) (st : St) : Option St :=
  match dr with
  | none => runOps P call ops st
  | some dr => match runD P call dr ops 0 ⟨st, [], []⟩ with
    | some d => if twiceOk P dr ops d then some d.st else none
    | none => none

/-! ### code -/
inductive IEx
  | normal
  | exit (id : Nat)
  | goto (l : Nat)
  | ret

def findI : ICode → Nat → Option ICode
  | .seq a b, l => match findI a l with | some rest => some (.seq rest b) | none => findI b l
  | .label l', l => if l' == l then some .skip else none
  | _, _ => none

def exec (P : Program) (call : CallF) : Nat → ICode → St → Option (IEx × St)
  | 0, _, _ => none
  | n + 1, c, st => match c with
    | .skip => some (.normal, st)
    | .bad => none
    | .region ops dr => (runRegion P call ops dr st).map fun st => (.normal, st)
    | .seq a b => match exec P call n a st with
      | some (.normal, st') => exec P call n b st'
      | r => r
    | .cond c a b => match evT st.tmps c with
      | .bool t => exec P call n (if t then a else b) st
      | _ => none
    | .block id b => match exec P call n b st with
      | some (.exit i, st') => some (if i = id then .normal else .exit i, st')
      | r => r
    | .loop b => match exec P call n b st with
      | some (.normal, st') => exec P call n (.loop b) st'
      | r => r
    | .exit id => some (.exit id, st)
    | .within b c => match exec P call n c st with
      | some (.goto l, st') => match findI b l with
        | some rest => exec P call n (.within b rest) st'
        | none => some (.goto l, st')
      | r => r
    | .label _ => some (.normal, st)
    | .goto l => some (.goto l, st)
    | .ret => some (.ret, st)

def resV (h : AH) (tmps : List Value) : Sum Nat (Nat × Option Nat) → Option Value
  | .inl t => some (tmps.getD t undef)
  | .inr (t, agg) => match tmps.getD t undef with
    | .pointer (some ⟨b, o, none⟩) => match agg with
      | some n => (cellsIn h.get b o n).map fun cs => .agg ⟨cs⟩
      | none => match h.get b with | some (.cells cs _ _ _) => cs[o]? | _ => none
    | _ => none
def resVs (h : AH) (tmps : List Value) : List (Sum Nat (Nat × Option Nat)) → Option (List Value)
  | [] => some []
  | r :: rs => match resV h tmps r, resVs h tmps rs with | some v, some vs => some (v :: vs) | _, _ => none
def packV : List Value → Value
  | [v] => v
  | vs => .tuple ⟨vs⟩

/-- a deferred function that asks first whether there is a panic: of its first row the operation 'recover' is struck -/
structure IDf where
  ntmps : Nat
  dst : Option Nat
  ops : List IOper
  rest : ICode

structure Tbl where
  fn : FuncId → Option IFn
  df : FuncId → Option IDf
  prim : CallF

def startT (args : List Value) (ntmps : Nat) : List Value := args ++ List.replicate (ntmps - args.length) undef

def runDefers (P : Program) (T : Tbl) (call : CallF) (n : Nat) : List (FuncId × List Value) → AH → Option AH
  | [], h => some h
  | (f, args) :: ds, h => match T.df f with
    | some d =>
      match runOps P call d.ops ⟨putT (startT args d.ntmps) d.dst .nilIface, h, []⟩ with
      | some st => match exec P call n d.rest st with
        | some (.normal, st) => if st.ds.isEmpty then runDefers P T call n ds st.h else none
        | some (.ret, st) => if st.ds.isEmpty then runDefers P T call n ds st.h else none
        | _ => none
      | none => none
    | none => none

def finishFn (P : Program) (T : Tbl) (call : CallF) (n : Nat) (fn : IFn) (st : St) : Option (Value × AH) :=
  match runDefers P T call n st.ds st.h with
  | some h => match resVs h st.tmps fn.results with
    | some vs => some (packV vs, h)
    | none => none
  | none => none

def runFn (P : Program) (T : Tbl) : Nat → CallF
  | 0, _, _, _ => none
  | n + 1, f, args, h => match T.fn f with
    | some fn => match exec P (runFn P T n) n fn.body ⟨startT args fn.ntmps, h, []⟩ with
      | some (.normal, st) => finishFn P T (runFn P T n) n fn st
      | some (.ret, st) => finishFn P T (runFn P T n) n fn st
      | _ => none
    | none => T.prim f args h

end Go.Am
