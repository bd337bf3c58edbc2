import Derived.Test.YtikphefllmemjaaGreatDoorAm2
/-
The engine, part 3: the model's code brought into the small language.
-/
namespace Go.Am
open Go
set_option linter.unusedVariables false

def okO : Operand → Bool
  | .const v => closed v
  | .global _ => false
  | _ => true

def cZero (P : Program) (t : TypeId) : Option Value :=
  match P.info? t with
  | some i => match i.zero with
    | some z => if closed z && (vcells z).all closed then some z else none
    | none => none
  | none => none
def cSize (P : Program) (t : TypeId) : Option Nat := (P.info? t).map (·.size)
/-- some n: a struct or an array of n cells; none: one cell -/
def cAgg (P : Program) (t : TypeId) : Option (Option Nat) :=
  match P.underlying t with
  | some (.struct _) => (cSize P t).map some
  | some (.array ..) => (cSize P t).map some
  | some _ => some none
  | none => none

def cPlaces (P : Program) (fs : List Field) : Option (List (Nat × Nat)) :=
  match fs with
  | [] => some []
  | f :: fs => match cSize P f.type, cPlaces P fs with
    | some s, some r => some ((f.offset, s) :: r)
    | _, _ => none
def cParts (place : Nat → Option (Nat × Nat)) : List (Nat × Operand) → Option (List (Nat × Nat × Operand))
  | [] => some []
  | (i, x) :: r => match place i, cParts place r with
    | some (o, s), some r => some ((o, s, x) :: r)
    | _, _ => none

def negOf (op : BinOp) : Bool := match op with | .neq => true | _ => false

def cBin (P : Program) (op : BinOp) (t : TypeId) (x y : Operand) : IOp :=
  match P.underlying t with
  | some (.int _) => .bin op x y
  | some .string => .bin op x y
  | some d =>
    let neg := negOf op
    if op = .eql ∨ op = .neq then
      match d with
      | .bool => .eqB neg x y
      | .pointer e => match cSize P e with | some s => if s ≠ 0 then .nilEq neg 0 x y else .bad | none => .bad
      | .slice _ => .nilEq neg 1 x y
      | .map .. => .nilEq neg 2 x y
      | .func .. => .nilEq neg 3 x y
      | .interface _ => (match x, y with | .const _, _ => .nilEq neg 4 x y | _, .const _ => .nilEq neg 4 x y | _, _ => .bad)
      | .struct _ => if P.eqGuardType P.depth t then .bad else .eqC neg t x y
      | _ => .bad
    else .bad
  | none => .bad

def isSrc : TypeDesc → Bool
  | .slice _ => true
  | .string => true
  | _ => false

def cCall (P : Program) (c : Call) : IOp :=
  match c.callee with
  | .value (.func f) => .call f c.args.toList
  | .value f => .callv f c.args.toList
  | .builtin .len => match c.argTypes.toList, c.args.toList with
    | [t], [x] => (match P.underlying t with
      | some .string => .len 0 x
      | some (.slice _) => .len 1 x
      | some (.map ..) => .len 2 x
      | some (.array n _) => .lenC n
      | _ => .bad)
    | _, _ => .bad
  | .builtin .append => match c.argTypes.toList, c.args.toList with
    | [t, u], [s, x] => (match P.underlying t, P.underlying u with
      | some (.slice e), some d => (match P.info? e with
        | some i => if ((i.zero.any fun z => z.cells.size == i.size) && decide (0 < i.bytes)) && isSrc d then .append e i.size i.bytes s x else .bad
        | none => .bad)
      | _, _ => .bad)
    | _, _ => .bad
  | .builtin .unsafeSliceData => (match c.args.toList with | [x] => .unsafeData x | _ => .bad)
  | .builtin .unsafeString => match c.argTypes.toList, c.args.toList with
    | [pt, _], [p, n] => (match P.underlying pt with
      | some (.pointer e) => if P.cellsOf e = 1 then .unsafeStr e p n else .bad
      | _ => .bad)
    | _, _ => .bad
  | .builtin .min => (match c.args.toList with | [x, y] => .minmax false x y | _ => .bad)
  | .builtin .max => (match c.args.toList with | [x, y] => .minmax true x y | _ => .bad)
  | _ => .bad

def cOp' (P : Program) : Op → IOp
  | .move x => .move x
  | .assign x => .move x
  | .pick c a b => .pick c a b
  | .alloc t => match cZero P t with | some z => .new (vcells z) t | none => .bad
  | .box t x => .box t x
  | .build t parts => match cZero P t, P.underlying t with
    | some z, some (.struct fs) => (match cPlaces P fs.toList with
      | some ps => (match cParts (ps[·]?) parts.toList with | some l => .build (vcells z) l | none => .bad)
      | none => .bad)
    | some z, some (.array _ e) => (match cSize P e with
      | some s => (match cParts (fun i => some (i * s, s)) parts.toList with | some l => .build (vcells z) l | none => .bad)
      | none => .bad)
    | _, _ => .bad
  | .buildSlice t len parts => match P.underlying t with
    | some (.slice e) => (match cSize P e, cZero P e with
      | some s, some z =>
        if len * s ≤ 16777216 ∧ 0 < len * s then
          (match cParts (fun i => some (i * s, s)) parts.toList with
          | some l => .buildSlice e len ((Array.range (len * s)).map (z.cells[· % z.cells.size]!)).toList l
          | none => .bad)
        else .bad
      | _, _ => .bad)
    | _ => .bad
  | .load t x => match cAgg P t with | some (some n) => .loadN n x | some none => .load1 x | none => .bad
  | .store t a x => match cSize P t with | some n => .store n a x | none => .bad
  | .nilCheck x => .nilCheck x
  | .binOp op t x y _ => cBin P op t x y
  | .unOp op _ x => .un op x
  | .convert src dst x => match P.underlying src, P.underlying dst with
    | some _, some (.int k) => .conv k x
    | some .string, some .string => .same x
    | some (.slice e), some .string => (match P.underlying e with | some (.int .u8) => .bytesToStr x | _ => .bad)
    | some .string, some (.slice e) => (match P.underlying e with | some (.int .u8) => .strToBytes e x | _ => .bad)
    | some (.pointer t), some .unsafePointer => (match cSize P t with | some n => if n = 0 then .bad else .ptrTo x | none => .bad)
    | some .unsafePointer, some (.pointer u) => (match cSize P u with
      | some n => if n ≠ 0 ∧ liesAt P P.depth u (n / P.cellsOf u) 0 u 1 = true then .ptrFrom u n x else .bad
      | none => .bad)
    | _, _ => .bad
  | .makeInterface t x => match P.underlying t with | some (.interface _) => .bad | some _ => .mkIface t x | none => .bad
  | .makeFunc fn first cap => .mkFunc fn first.toList cap.toList
  | .makeMap _ none => .makeMap
  | .makeSlice t l c => match P.underlying t with
    | some (.slice e) => (match P.info? e, cZero P e with
      | some i, some z => if oneC z && decide (i.size = 1) && decide (0 < i.bytes) then .makeSlice e i.bytes z l c else .bad
      | _, _ => .bad)
    | _ => .bad
  | .slice t x lo hi none => match P.underlying t with
    | some .string => .sliceStr x lo hi
    | some (.slice e) => (match cSize P e with | some s => .sliceSl s x lo hi | none => .bad)
    | some (.array n e) => (match cSize P e with | some s => .sliceArr n s x lo hi | none => .bad)
    | _ => .bad
  | .fieldAddr s x f => match P.underlying s with
    | some (.struct fs) => (match fs.toList[f]? with
      | some fl => (match cSize P fl.type with | some n => if n = 0 then .bad else .fieldAddr fl.offset x | none => .bad)
      | none => .bad)
    | _ => .bad
  | .field s x f => match P.underlying s with
    | some (.struct fs) => (match fs.toList[f]? with
      | some fl => (match cAgg P fl.type with | some agg => .field agg fl.offset x | none => .bad)
      | none => .bad)
    | _ => .bad
  | .indexAddr t x i => match P.underlying t with
    | some (.slice e) => (match cSize P e with | some s => .indexSl s x i | none => .bad)
    | some (.array n e) => (match cSize P e with | some s => .indexArrA n s x i | none => .bad)
    | _ => .bad
  | .index t x i => match P.underlying t with
    | some .string => .indexStr x i
    | some (.array n e) => (match cSize P e, cAgg P e with | some s, some agg => .indexArr n s agg x i | _, _ => .bad)
    | _ => .bad
  | .lookup t x i ok => match P.underlying t with
    | some (.map k e) => (match P.underlying k, cZero P e with | some .string, some z => .lookup z ok x i | _, _ => .bad)
    | _ => .bad
  | .mapUpdate t m k x => match P.underlying t with
    | some (.map kt _) => (match P.underlying kt with | some .string => .mapUpdate m k x | _ => .bad)
    | _ => .bad
  | .extract x i => .extract x i
  | .call c => cCall P c
  | .defer c => match c.callee with | .value f => .defer f c.args.toList | _ => .bad
  | _ => .bad

def cOp (P : Program) (op : Op) : IOp := if op.operands.toList.all okO then cOp' P op else .bad

def cOper (P : Program) (ops : Array Oper) (o : Oper) : IOper :=
  { dst := o.dst, op := cOp P o.op, guard := o.guard.map fun (j, want) => ((ops[j]?).bind (·.dst), want) }

/-! ### regions that draw -/
def readsOp : IOp → Bool
  | .load1 _ | .loadN .. | .bytesToStr _ | .ptrTo _ | .ptrFrom .. | .sliceArr .. | .lookup .. => true
  | .len 2 _ => true
  | _ => false
def depB (ops : Array Oper) (i j : Nat) : Bool := ((Region.before ops).getD j 0).testBit i

/-- what is asked of a region that draws -/
def okDraw (ops : Array Oper) (is : List IOper) (dr : IDraw) : Bool :=
  let n := ops.size
  let bf := Region.before ops
  let dep (i j : Nat) : Bool := (bf.getD j 0).testBit i
  let ns := List.range n
  let kd (i : Nat) : Nat := match is[i]? with | some o => o.op.kind | none => 0
  let rd (i : Nat) : Bool := match is[i]? with | some o => readsOp o.op | none => false
  let dst (i : Nat) : Option Nat := (ops[i]?).bind (·.dst)
  Region.noSelect ops && decide (is.length = n) &&
  (dr.twice.all fun p => match ops[p.1]? with | some o => ns.all fun i => dep i p.1 || (match dst i with | some d => !(o.looksAt ops).contains d | none => true) | none => false) &&
  ns.all fun j =>
    decide (kd j ≤ 2) &&
    (match ops[j]? with
     | some o =>
       -- edges go back; what must run first is told by them
       (o.after.toList.all fun e => !Region.binds .any e || (decide (e.on < j) && dep e.on j)) &&
       (ns.all fun i => !dep i j || (decide (i < j) && o.after.toList.any fun e => Region.binds .any e && (e.on == i || dep i e.on))) &&
       -- temporaries
       (ns.all fun i => (i == j) || (match dst i with
         | some d => !(o.looksAt ops).contains d && o.dst != some d || dep i j || dep j i
         | none => true)) &&
       (ns.all fun i => (i == j) || (match dst i with | some d => o.dst != some d | none => true)) &&
       -- acts, readers, new blocks
       (ns.all fun i => !decide (i < j) || dep i j ||
         (!(decide (kd i = 2) && decide (kd j = 2)) &&
          !(decide (kd i = 2) && rd j && !dr.twice.contains (j, i)) &&
          !(rd i && decide (kd j = 2) && !dr.twice.contains (i, j)) &&
          !(decide (kd i = 1) && (decide (kd j = 2) || rd j) && !(maskOf dr.masks j).contains i)))
     | none => false)

def drawOf (ops : Array Oper) (is : List IOper) : IDraw :=
  let n := ops.size
  let bf := Region.before ops
  let dep (i j : Nat) : Bool := (bf.getD j 0).testBit i
  let ns := List.range n
  let kd (i : Nat) : Nat := match is[i]? with | some o => o.op.kind | none => 0
  let rd (i : Nat) : Bool := match is[i]? with | some o => readsOp o.op | none => false
  { masks := (ns.map fun j => (j, if kd j = 2 || rd j then ns.filter fun i => decide (i < j) && decide (kd i = 1) && !dep i j else [])).filter fun p => !p.2.isEmpty
    twice := ns.flatMap fun r => if rd r then (ns.filter fun e => kd e = 2 && !(dep r e) && !(dep e r) && e ≠ r).map fun e => (r, e) else [] }

def cRegion (P : Program) (ops : Array Oper) (draw : Bool) : ICode :=
  let is := ops.toList.map (cOper P ops)
  if draw then
    let dr := drawOf ops is
    if okDraw ops is dr then .region is (some dr) else .bad
  else .region is none

def cCode (P : Program) : Code → ICode
  | .skip => .skip
  | .region _ ops draw => cRegion P ops draw
  | .seq a b => .seq (cCode P a) (cCode P b)
  | .cond c a b => if okO c then .cond c (cCode P a) (cCode P b) else .bad
  | .block id b => .block id (cCode P b)
  | .loop b => .loop (cCode P b)
  | .exit id => .exit id
  | .scope b => .within (cCode P b) (cCode P b)
  | .label l => .label l
  | .goto l => .goto l
  | .ret => .ret
  | _ => .bad

def cRes (P : Program) : List ResultVar → Option (List (Sum Nat (Nat × Option Nat)))
  | [] => some []
  | .tmp t :: r => (cRes P r).map (.inl t :: ·)
  | .cell a t :: r => match cAgg P t, cRes P r with
    | some agg, some r => some (.inr (a, agg) :: r)
    | _, _ => none

def cFn (P : Program) (fn : Func) : Option IFn :=
  match fn.body, cRes P fn.results.toList with
  | some c, some rs => if fn.name == "runtime.NumGoroutine" then none else some { ntmps := fn.ntmps, results := rs, body := cCode P c }
  | _, _ => none

def cDf (P : Program) (fn : Func) : Option IDf :=
  match fn.body with
  | some (.seq (.region _ ops false) rest) =>
    match ops.toList with
    | o :: os =>
      (match o.op, o.guard with
       | .call c, none => (match c.callee, c.args.toList with
          | .builtin .recover, [] => if fn.results.toList.isEmpty && !(fn.name == "runtime.NumGoroutine") then some { ntmps := fn.ntmps, dst := o.dst, ops := os.map (cOper P ops), rest := cCode P rest } else none
          | _, _ => none)
       | _, _ => none)
    | [] => none
  | _ => none

end Go.Am
