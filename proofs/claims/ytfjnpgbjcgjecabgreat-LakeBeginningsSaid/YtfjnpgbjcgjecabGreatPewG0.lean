/- THE EVALUATOR: Go code over plain values: what a function hands back, without memory. No theorem stands here. -/
/- WHAT A PLAIN VALUE STANDS FOR in a world, and that it stays so while memory that stays is not written. -/
/- WHAT FOLLOWS AN OPERATION IS ONLY HANDED ITS EFFECT: the evaluator's steps as plain functions, and forced steps as the plain ones. -/
/- A FRAME OF THE MACHINE AND A PLAIN STATE: what they have in common, and that the effects of operations keep it. -/
/- NEW VARIABLES AND STORES: the frame and the plain state behind them. -/
/- THE MACHINE'S OPERATIONS, RUN: over types that the tables tell rightly. -/
/- EACH OPERATION OF THE MACHINE DOES WHAT THE EVALUATOR TELLS: those that make no call and append nothing. -/
import GoSem.Dispatch
import Derived.Below
import Derived.Laws.Rows
import Derived.Laws.Cells
import Derived.Calls
import Derived.Laws.Tables
import Derived.Laws.Entries

namespace Go.Pew
set_option linter.unusedSimpArgs false
set_option linter.unusedVariables false
set_option linter.unusedVariables false

/-- What a cell is known to hold. -/
inductive LK where
  | int (k : IntKind)
  | bool
  | str
  | sl (e : List LK)
  | any
  deriving Inhabited

/-- Plain values. -/
inductive PV where
  | undef
  | bool (b : Bool)
  | int (k : IntKind) (n : Int)
  | str (s : ByteArray)
  | nilp
  | ptr (d off : Nat)
  | rp (cells : List PV) (off : Nat)
  | sl (tag : Option (Nat × Nat)) (ls : List LK) (xs : List (List PV))
  | row (d : Nat)
  | rowp (d i off : Nat)
  | agg (cells : List PV)
  | tup (vs : List PV)
  | fn (f : Nat) (caps : List PV)
  | yld
  deriving Inhabited

def asI : PV → Int | .int _ n => n | _ => 0
def asB : PV → Bool | .bool b => b | _ => false
def asS : PV → ByteArray | .str s => s | _ => ByteArray.empty
def asL : PV → List (List PV) | .sl _ _ xs => xs | _ => []
def asA : PV → List PV | .agg cs => cs | v => [v]
def asT : PV → List PV | .tup vs => vs | _ => []

/-- A value of which the kind is known, written by its constructor. -/
def eta : LK → PV → PV
  | .int k, p => .int k (asI p)
  | .bool, p => .bool (asB p)
  | .str, p => .str (asS p)
  | .sl ls, p => .sl none ls (asL p)
  | .any, p => p

def nth (l : List PV) (i : Nat) : PV := l.getD i .undef
def nths (l : List (List PV)) (i : Nat) : List PV := l.getD i []

/-- The cells of a row's element, each written by its constructor. -/
def etas : List LK → Nat → List PV → List PV
  | [], _, _ => []
  | l :: ls, i, cs => eta l (nth cs i) :: etas ls (i + 1) cs

mutual
def sameL : LK → LK → Bool
  | .int k, .int k' => k == k'
  | .bool, .bool => true
  | .str, .str => true
  | .sl a, .sl b => sameLK a b
  | _, _ => false
termination_by structural x => x
def sameLK : List LK → List LK → Bool
  | [], [] => true
  | x :: a, y :: b => sameL x y && sameLK a b
  | _, _ => false
termination_by structural x => x
end
def conf : LK → PV → Bool
  | .int k, .int k' _ => k == k'
  | .bool, .bool _ => true
  | .str, .str _ => true
  | .sl ls, .sl tag ls' _ => tag.isNone && sameLK ls ls'
  | _, _ => false
def confs : List LK → List PV → Bool
  | [], [] => true
  | l :: ls, v :: vs => conf l v && confs ls vs
  | _, _ => false
structure TI where
  size : Nat
  bytes : Nat
  agg : Bool
  desc : TypeDesc
  zero : List PV
  lk : List LK
  deriving Inhabited

inductive Box where
  | cells (cs : List PV) (frozen : Bool)
  | row (ls : List LK) (xs : List (List PV)) (frozen : Bool)
  deriving Inhabited

/-- What is laid down at a loop's head: the slots that are forgotten, the boxes that are dropped, the tags that stay. -/
structure Hd where
  forget : List Nat
  drop : List Nat
  keep : List Nat
  deriving Inhabited

/-- A table by numbers. -/
inductive Tab (α : Type) where
  | nil
  | node (k : Nat) (v : α) (l r : Tab α)

def Tab.find {α : Type} (n : Nat) : Tab α → Option α
  | .nil => none
  | .node k v l r => match Nat.beq n k with
    | true => some v
    | false => match Nat.ble n k with
      | true => l.find n
      | false => r.find n

/-- The tables; 'ext': what a function of the program gives, told from outside (a contract). -/
structure Env where
  fn : Nat → Option Func
  ty : Nat → Option TI
  own : Nat → Bool
  eq : Nat → Bool
  ext : Nat → Option (List PV → Option PV)
  /-- Of a function's loop, by the number of its first region. -/
  loops : Nat → Nat → Hd
  /-- What makes a function value: which function, what it has captured: variables that are written no more, the cells of one that is, others. -/
  maker : Nat → Option (List PV → Option (Nat × List PV × Option (List PV) × List PV))
  /-- In which region, by which operation, an iterator yields. -/
  ys : Nat → Nat → Option Nat
  fuel : Nat

structure St where
  slots : List PV
  boxes : List (Option Box)
  vers : List Nat

def St.get (s : St) (t : Nat) : PV := s.slots.getD t .undef
def St.box (s : St) (d : Nat) : Option Box := (s.boxes.getD d none)
def St.ver (s : St) (d : Nat) : Nat := s.vers.getD d 0

/-- What an operation does. -/
inductive Eff where
  | val (v : PV)
  | load (d : Nat) (v : PV)
  | skip
  | alloc (cs : List PV)
  | store (d off : Nat) (vs : List PV)
  | rstore (d i off : Nat) (vs : List PV)
  | mk (ls : List LK) (xs : List (List PV))
  | app (tag : Nat) (ls : List LK) (xs : List (List PV))
  | row (ls : List LK) (xs : List (List PV))
  | froze (ds : List Nat) (v : PV)
  | frozeOwn (ds : List Nat) (ls : List LK) (xs : List (List PV))
  | clo (g : Nat) (pre cells post : List PV)

/-- Cells put over others. -/
def over : List PV → Nat → List PV → List PV
  | cs, _, [] => cs
  | cs, off, v :: vs => over (cs.set off v) (off + 1) vs

def freezeBox : Option Box → Option Box
  | some (.cells cs _) => some (.cells cs true)
  | some (.row ls xs _) => some (.row ls xs true)
  | none => none
def storeBox (off : Nat) (vs : List PV) : Option Box → Option Box
  | some (.cells cs f) => some (.cells (over cs off vs) f)
  | b => b
def rstoreBox (i off : Nat) (vs : List PV) : Option Box → Option Box
  | some (.row ls xs f) => some (.row ls (xs.set i (over (nths xs i) off vs)) f)
  | b => b

/-- What becomes of boxes. -/
def edits (dst : Option Nat) : Eff → List (Nat × (Option Box → Option Box))
  | .alloc cs => match dst with | some d => [(d, fun _ => some (.cells cs false))] | none => []
  | .row ls xs => match dst with | some d => [(d, fun _ => some (.row ls xs false))] | none => []
  | .clo _ _ cs _ => match dst with | some d => [(d, fun _ => some (.cells cs false))] | none => []
  | .store d off vs => [(d, storeBox off vs)]
  | .rstore d i off vs => [(d, rstoreBox i off vs)]
  | .froze ds _ => ds.map fun d => (d, freezeBox)
  | .frozeOwn ds _ _ => ds.map fun d => (d, freezeBox)
  | _ => []
def edit (bs : List (Option Box)) : List (Nat × (Option Box → Option Box)) → List (Option Box)
  | [] => bs
  | (d, f) :: es => edit (bs.set d (f (bs.getD d none))) es
/-- Which version goes up. -/
def bump (dst : Option Nat) : Eff → Option Nat
  | .mk .. => dst
  | .frozeOwn .. => dst
  | .app tag .. => some tag
  | _ => none
def bumped (vs : List Nat) : Option Nat → List Nat
  | some d => vs.set d (vs.getD d 0 + 1)
  | none => vs
def valOf (s : St) (dst : Option Nat) : Eff → PV
  | .val v => v
  | .load _ v => v
  | .froze _ v => v
  | .skip => .tup []
  | .store .. => .tup []
  | .rstore .. => .tup []
  | .alloc _ => match dst with | some d => .ptr d 0 | none => .undef
  | .row .. => match dst with | some d => .row d | none => .undef
  | .clo g pre _ post => match dst with | some d => .fn g (pre ++ .ptr d 0 :: post) | none => .undef
  | .mk ls xs => match dst with | some d => .sl (some (d, s.ver d + 1)) ls xs | none => .undef
  | .app tag ls xs => .sl (some (tag, s.ver tag + 1)) ls xs
  | .frozeOwn _ ls xs => match dst with | some d => .sl (some (d, s.ver d + 1)) ls xs | none => .undef

def putD (l : List PV) (dst : Option Nat) (v : PV) : List PV := match dst with | some d => l.set d v | none => l

def upd (s : St) (dst : Option Nat) (e : Eff) : St :=
  { slots := putD s.slots dst (valOf s dst e), boxes := edit s.boxes (edits dst e), vers := bumped s.vers (bump dst e) }

/-- May the effect stand? A new variable's box must be free. -/
def okEff (s : St) (dst : Option Nat) : Eff → Bool
  | .alloc _ => match dst with | some d => (s.box d).isNone && Nat.blt d s.slots.length | none => false
  | .row .. => match dst with | some d => (s.box d).isNone && Nat.blt d s.slots.length | none => false
  | .clo .. => match dst with | some d => (s.box d).isNone && Nat.blt d s.slots.length | none => false
  | .mk .. => match dst with | some d => Nat.blt d s.slots.length | none => false
  | .app tag .. => dst.isSome && Nat.blt tag s.slots.length
  | .frozeOwn .. => match dst with | some d => Nat.blt d s.slots.length | none => false
  | _ => true

/-! The same, step by step, so that no update is carried along unmade (the kernel's sake). -/
def forceL {α R : Type} : List α → (List α → R) → R
  | [], κ => κ []
  | x :: xs, κ => forceL xs fun ys => κ (x :: ys)

def forceV {R : Type} (v : PV) (κ : PV → R) : R := match v with
  | .undef => κ .undef
  | .bool b => κ (.bool b)
  | .int k n => κ (.int k n)
  | .str s => κ (.str s)
  | .nilp => κ .nilp
  | .ptr d off => κ (.ptr d off)
  | .rp cs off => κ (.rp cs off)
  | .sl tag ls xs => κ (.sl tag ls xs)
  | .row d => κ (.row d)
  | .rowp d i off => κ (.rowp d i off)
  | .agg cs => forceL cs fun cs => κ (.agg cs)
  | .tup vs => forceL vs fun vs => κ (.tup vs)
  | .fn f caps => κ (.fn f caps)
  | .yld => κ .yld

def forceVs {R : Type} : List PV → (List PV → R) → R
  | [], κ => κ []
  | x :: xs, κ => forceV x fun x => forceVs xs fun ys => κ (x :: ys)

def forceSt {R : Type} (s : St) (κ : St → R) : R := forceVs s.slots fun sl => forceL s.boxes fun bs => forceL s.vers fun vs => κ { slots := sl, boxes := bs, vers := vs }

def updK {R : Type} (s : St) (dst : Option Nat) (e : Eff) (κ : St → R) : R := match e with
  | .val v => forceV v fun v => forceL (putD s.slots dst v) fun sl => κ { s with slots := sl }
  | .load _ v => forceV v fun v => forceL (putD s.slots dst v) fun sl => κ { s with slots := sl }
  | .skip => forceL (putD s.slots dst (.tup [])) fun sl => κ { s with slots := sl }
  | e => forceV (valOf s dst e) fun v => forceL (putD s.slots dst v) fun sl => forceL (edit s.boxes (edits dst e)) fun bs => forceL (bumped s.vers (bump dst e)) fun vs => κ { slots := sl, boxes := bs, vers := vs }

/-- Which boxes an operation reads, and which boxes and versions it writes (box d: 2 d; its version: 2 d + 1). -/
def Eff.reads : Eff → List Nat
  | .load d _ => [2 * d]
  | _ => []
def Eff.writes (dst : Option Nat) (e : Eff) : List Nat := (edits dst e).map (fun x => 2 * x.1) ++ match bump dst e with | some d => [2 * d + 1] | none => []

/-- A constant of the code. -/
def constPV : Value → PV
  | .bool b => .bool b
  | .int k n => .int k n
  | .string s => .str s
  | .pointer none => .nilp
  | _ => .undef

def operand (s : St) : Operand → PV
  | .tmp t => s.get t
  | .const v => constPV v
  | .func f => .fn f []
  | .global _ => .undef

-- What is handed on: rows without their tags.
mutual
def strip : PV → PV
  | .sl _ ls xs => .sl none ls xs
  | .agg cs => .agg (strips cs)
  | .tup vs => .tup (strips vs)
  | v => v
termination_by structural x => x
def strips : List PV → List PV
  | [] => []
  | v :: vs => strip v :: strips vs
termination_by structural x => x
end

-- Is it told without boxes and tags?
mutual
def plain : PV → Bool
  | .undef => false
  | .ptr .. => false
  | .row .. => false
  | .rowp .. => false
  | .tup _ => false
  | .yld => false
  | .sl tag _ _ => tag.isNone
  | .agg cs => plains cs
  | .rp cs _ => plains cs
  | .fn _ cs => plains cs
  | _ => true
termination_by structural x => x
def plains : List PV → Bool
  | [] => true
  | v :: vs => plain v && plains vs
termination_by structural x => x
end

def leaf : PV → Bool
  | .undef => false
  | .agg _ => false
  | .tup _ => false
  | _ => true

variable {R : Type}

def condK (c : PV) (x y : Option R) : Option R := match c with | .bool b => cond b x y | _ => none

def guardK (b : Bool) (x : Option R) : Option R := cond b x none

/-- An index, if it lies below n. -/
def indexK (i : PV) (n : Nat) (κ : Nat → Option R) : Option R :=
  match i with
  | .int _ i => guardK (decide (0 ≤ i)) (guardK (decide (i < (n : Int))) (κ i.toNat))
  | _ => none

def intOp (op : BinOp) (k : IntKind) (a b : Int) (κ : PV → Option R) : Option R :=
  match op with
  | .add => κ (.int k (k.wrap (a + b)))
  | .sub => κ (.int k (k.wrap (a - b)))
  | .mul => κ (.int k (k.wrap (a * b)))
  | .quo => guardK (!decide (b = 0)) (κ (.int k (k.wrap (a.tdiv b))))
  | .rem => guardK (!decide (b = 0)) (κ (.int k (a.tmod b)))
  | .eql => κ (.bool (decide (a = b)))
  | .neq => κ (.bool (!decide (a = b)))
  | .lss => κ (.bool (decide (a < b)))
  | .leq => κ (.bool (decide (a ≤ b)))
  | .gtr => κ (.bool (decide (b < a)))
  | .geq => κ (.bool (decide (b ≤ a)))
  | .shl => guardK (decide (0 ≤ b)) (κ (.int k (k.wrap (a * 2 ^ (min b.toNat k.bits)))))
  | .shr => guardK (decide (0 ≤ b)) (κ (.int k (a.fdiv (2 ^ (min b.toNat k.bits)))))
  | .and => κ (.int k (k.wrap (BitVec.ofInt k.bits a &&& BitVec.ofInt k.bits b).toNat))
  | .or => κ (.int k (k.wrap (BitVec.ofInt k.bits a ||| BitVec.ofInt k.bits b).toNat))
  | _ => none

def eqLeaf : PV → PV → Option Bool
  | .int k a, .int k' b => if k = k' then some (decide (a = b)) else none
  | .bool a, .bool b => some (a == b)
  | .str a, .str b => some (a == b)
  | _, _ => none

def eqCells : List PV → List PV → Option Bool
  | [], [] => some true
  | [x], [y] => eqLeaf x y
  | x :: xs, y :: ys => match eqLeaf x y, eqCells xs ys with | some a, some b => some (a && b) | _, _ => none
  | _, _ => none

/-- Is a pointer nil? -/
def isNil : PV → Option Bool
  | .nilp => some true
  | .ptr .. => some false
  | .rp .. => some false
  | _ => none

def binK (E : Env) (op : BinOp) (t : Nat) (x y : PV) (κ : PV → Option R) : Option R :=
  match x, y with
  | .int k a, .int k' b => match op with
    | .shl | .shr => intOp op k a b κ
    | _ => if k = k' then intOp op k a b κ else none
  | .bool a, .bool b => match E.ty t with
    | some ti => match ti.desc, op with | .bool, .eql => κ (.bool (a == b)) | .bool, .neq => κ (.bool (!(a == b))) | _, _ => none
    | none => none
  | .str a, .str b => match op with | .eql => κ (.bool (a.data.toList == b.data.toList)) | .neq => κ (.bool (!(a.data.toList == b.data.toList))) | _ => none
  | .agg xs, .agg ys => match E.ty t with
    | some ti => guardK (E.eq t) (guardK (confs ti.lk xs) (guardK (confs ti.lk ys) (match op, eqCells xs ys with | .eql, some b => κ (.bool b) | .neq, some b => κ (.bool (!b)) | _, _ => none)))
    | none => none
  | p, .nilp => match E.ty t with
    | some ti => match ti.desc, isNil p, op with
      | .pointer _, some b, .eql => κ (.bool b)
      | .pointer _, some b, .neq => κ (.bool (!b))
      | _, _, _ => none
    | none => none
  | _, _ => none

def unK (op : UnOp) (x : PV) (κ : PV → Option R) : Option R :=
  match op, x with
  | .neg, .int k n => κ (.int k (k.wrap (0 - n)))
  | .not, .bool b => κ (.bool (!b))
  | _, _ => none

/-- Part of some cells, as a value of type ti. -/
def partPV (ti : TI) (cs : List PV) (off : Nat) : PV := if ti.agg then .agg ((cs.drop off).take ti.size) else nth cs off

def partFits (ti : TI) (cs : List PV) (off : Nat) : Bool := if ti.agg then decide (off + ti.size ≤ cs.length) else decide (off < cs.length)

def fieldOff (ti : TI) (f : Nat) : Option (Nat × Nat) := match ti.desc with
  | .struct fs => (fs[f]?).map fun x => (x.offset, x.type)
  | _ => none

def isUndef : PV → Bool
  | .undef => true
  | _ => false

def fillParts (place : Nat → Option (Nat × Nat)) (cells : List PV) : List (Nat × PV) → Option (List PV)
  | [] => some cells
  | (i, v) :: rest => match isUndef v, place i with
    | true, _ => none
    | _, none => none
    | false, some (off, size) => if (asA v).length = size ∧ off + size ≤ cells.length then fillParts place (over cells off (asA v)) rest else none

def elemOf (ti : TI) : Option Nat := match ti.desc with | .slice e => some e | _ => none

/-- Several arguments, and the row boxes that they hand on. -/
def argsK (s : St) (os : List Operand) (ds : List Nat) (acc : List PV) (κ : List PV → List Nat → Option R) : Option R :=
  match os with
  | [] => κ acc.reverse ds
  | o :: os => match operand s o with
    | .row d => match s.box d with
      | some (.row ls xs _) => argsK s os (d :: ds) (.sl none ls xs :: acc) κ
      | _ => none
    | v => argsK s os ds (strip v :: acc) κ

/-- A call's result, written by its constructors. -/
def etaT (E : Env) (t : Nat) (r : PV) : Option PV := match E.ty t with
  | some ti => if ti.agg then some (.agg (etas ti.lk 0 (asA r))) else match ti.lk with | [l] => some (eta l r) | _ => none
  | none => none
def etaTs (E : Env) : List Nat → Nat → List PV → Option (List PV)
  | [], _, _ => some []
  | t :: ts, i, vs => match etaT E t (nth vs i), etaTs E ts (i + 1) vs with | some a, some b => some (a :: b) | _, _ => none
def etaR (E : Env) (fn : Func) (r : PV) : Option PV := match fn.resultTypes.toList with
  | [t] => etaT E t r
  | ts => match etaTs E ts 0 (asT r) with | some vs => some (.tup vs) | none => none

/-- A call that makes a function value. -/
def mkK (m : List PV → Option (Nat × List PV × Option (List PV) × List PV)) (args : List PV) (ds : List Nat) (κ : Eff → Option R) : Option R :=
  match ds, m args with
  | [], some (g, pre, none, post) => κ (.val (.fn g (pre ++ post)))
  | [], some (g, pre, some cs, post) => κ (.clo g pre cs post)
  | _, _ => none

/-- A call of function f. -/
def callK (E : Env) (call : Nat → List PV → Option PV) (f : Nat) (args : List PV) (ds : List Nat) (κ : Eff → Option R) : Option R :=
  match E.maker f with
  | some m => mkK m args ds κ
  | none => match E.fn f with
  | none => none
  | some fn => (call f args).bind fun r => match etaR E fn r with
    | none => none
    | some v => if E.own f then match v with
        | .sl _ ls xs => κ (.frozeOwn ds ls xs)
        | _ => none
      else κ (.froze ds v)

def lenK (E : Env) (s : St) (t : Nat) (x : PV) (κ : Eff → Option R) : Option R :=
  match E.ty t with
  | none => none
  | some ti => match ti.desc, x with
    | .slice _, .sl _ _ xs => κ (.val (.int .i64 xs.length))
    | .slice _, .row d => match s.box d with | some (.row _ xs _) => κ (.load d (.int .i64 xs.length)) | _ => none
    | .string, .str s => κ (.val (.int .i64 s.size))
    | .array n _, _ => κ (.val (.int .i64 n))
    | _, _ => none

def imax (a b : Int) : Int := if b > a then b else a
def imin (a b : Int) : Int := if b < a then b else a
def minmaxFrom (op : Bool) (k : IntKind) (a : Int) : List PV → Option PV
  | [] => some (.int k a)
  | .int _ b :: rest => minmaxFrom op k (cond op (imax a b) (imin a b)) rest
  | _ => none
def minmax (op : Bool) : List PV → Option PV
  | .int k a :: rest => minmaxFrom op k a rest
  | _ => none

def room (xs ys : List (List PV)) (bytes : Nat) : Bool := decide ((xs.length + ys.length) * bytes ≤ 140737488355328)

def appK (E : Env) (s : St) (t u : Nat) (x y : PV) (κ : Eff → Option R) : Option R :=
  match E.ty t, E.ty u with
  | some ti, some tu => match ti.desc, tu.desc with
    | .slice e, .slice _ => match E.ty e with
      | none => none
      | some te => match x, y with
        | .sl (some (d, v)) ls xs, .sl _ ls' ys => if v = s.ver d ∧ te.bytes ≠ 0 ∧ te.size = ls.length ∧ sameLK ls ls' = true then guardK (room xs ys te.bytes) (κ (.app d ls (xs ++ ys))) else none
        | _, _ => none
    | _, _ => none
  | _, _ => none

def actMove (E : Env) (call : Nat → List PV → Option PV) (s : St) (ty : Nat) (x : Operand) (κ : Eff → Option R) : Option R :=
  match x with
    | .const (.slice none 0 0) => match E.ty ty with
      | some ti => match ti.lk with | [.sl ls] => κ (.mk ls []) | _ => none
      | none => none
    | _ => κ (.val (operand s x))

def actPick (E : Env) (call : Nat → List PV → Option PV) (s : St) (c a b : Operand) (κ : Eff → Option R) : Option R :=
  condK (operand s c) (κ (.val (operand s a))) (κ (.val (operand s b)))

def actAlloc (E : Env) (call : Nat → List PV → Option PV) (s : St) (t : Nat) (κ : Eff → Option R) : Option R :=
  match E.ty t with | some ti => κ (.alloc ti.zero) | none => none

def actBox (E : Env) (call : Nat → List PV → Option PV) (s : St) (v : Operand) (κ : Eff → Option R) : Option R :=
  match operand s v with
  | .undef => none
  | p => κ (.alloc (asA p))

def actBuild (E : Env) (call : Nat → List PV → Option PV) (s : St) (t : Nat) (parts : Array (Nat × Operand)) (κ : Eff → Option R) : Option R :=
  match E.ty t with
    | none => none
    | some ti => match ti.desc with
      | .struct fs => if (fs.toList.all fun f => (E.ty f.type).isSome) = false then none else match fillParts (fun i => (fs[i]?).bind fun f => (E.ty f.type).map fun tf => (f.offset, tf.size)) ti.zero (parts.toList.map fun p => (p.1, operand s p.2)) with
        | some cs => κ (.val (.agg cs))
        | none => none
      | .array _ e => match E.ty e with
        | none => none
        | some te => match fillParts (fun i => some (i * te.size, te.size)) ti.zero (parts.toList.map fun p => (p.1, operand s p.2)) with
          | some cs => κ (.val (.agg cs))
          | none => none
      | _ => none

/-- Cells in rows of a size. -/
def chunks (size : Nat) (cs : List PV) (len : Nat) : List (List PV) := (List.range len).map fun i => (cs.drop (i * size)).take size

def actBuildSlice (E : Env) (call : Nat → List PV → Option PV) (s : St) (t len : Nat) (parts : Array (Nat × Operand)) (κ : Eff → Option R) : Option R :=
  match E.ty t with
  | none => none
  | some ti => match elemOf ti with
    | none => none
    | some e => match E.ty e with
      | none => none
      | some te => match fillParts (fun i => some (i * te.size, te.size)) (List.replicate len te.zero).flatten (parts.toList.map fun p => (p.1, operand s p.2)) with
        | none => none
        | some cs => if ((chunks te.size (strips cs) len).all fun x => confs te.lk x) ∧ Nat.ble (len * te.size) 16777216 = true then κ (.mk te.lk (chunks te.size (strips cs) len)) else none

def actLoad (E : Env) (call : Nat → List PV → Option PV) (s : St) (t : Nat) (a : Operand) (κ : Eff → Option R) : Option R :=
  match E.ty t with
    | none => none
    | some ti => match operand s a with
      | .ptr d off => match s.box d with
        | some (.cells cs _) => if partFits ti cs off then κ (.load d (partPV ti cs off)) else none
        | _ => none
      | .rp cs off => if partFits ti cs off then κ (.val (partPV ti cs off)) else none
      | .rowp d i off => match s.box d with
        | some (.row ls xs _) => if partFits ti (etas ls 0 (nths xs i)) off then κ (.load d (partPV ti (etas ls 0 (nths xs i)) off)) else none
        | _ => none
      | _ => none

def actStore (E : Env) (call : Nat → List PV → Option PV) (s : St) (t : Nat) (a v : Operand) (κ : Eff → Option R) : Option R :=
  match E.ty t with
    | none => none
    | some ti => if (asA (operand s v)).length = ti.size ∧ (asA (operand s v)).all leaf = true then match operand s a with
      | .ptr d off => match s.box d with
        | some (.cells cs false) => if off + ti.size ≤ cs.length then κ (.store d off (asA (operand s v))) else none
        | _ => none
      | .rowp d i off => match s.box d with
        | some (.row ls _ false) => if off + ti.size ≤ ls.length ∧ confs ((ls.drop off).take ti.size) (asA (operand s v)) = true then κ (.rstore d i off (asA (operand s v))) else none
        | _ => none
      | _ => none
      else none

def actBinOp (E : Env) (call : Nat → List PV → Option PV) (s : St) (op : BinOp) (t : Nat) (x y : Operand) (κ : Eff → Option R) : Option R :=
  binK E op t (operand s x) (operand s y) fun v => κ (.val v)

def actUnOp (E : Env) (call : Nat → List PV → Option PV) (s : St) (op : UnOp) (x : Operand) (κ : Eff → Option R) : Option R :=
  unK op (operand s x) fun v => κ (.val v)

def actConvert (E : Env) (call : Nat → List PV → Option PV) (s : St) (src dst : Nat) (x : Operand) (κ : Eff → Option R) : Option R :=
  match E.ty src, E.ty dst with
    | some a, some b => match a.desc, b.desc, operand s x with
      | .int _, .int k, .int _ n => κ (.val (.int k (k.wrap n)))
      | _, _, _ => none
    | _, _ => none

/-- A captured variable, as what it holds. -/
def capPV (s : St) : PV → PV
  | .ptr d off => match s.box d with | some (.cells cs _) => .rp (strips cs) off | _ => .undef
  | p => p
def capBox : PV → Option Nat
  | .ptr d _ => some d
  | _ => none

def actMakeFunc (E : Env) (call : Nat → List PV → Option PV) (s : St) (f : Nat) (first caps : Array Operand) (κ : Eff → Option R) : Option R :=
  if first.isEmpty ∧ plains ((caps.toList.map (operand s)).map (capPV s)) = true then κ (.froze ((caps.toList.map (operand s)).filterMap capBox) (.fn f ((caps.toList.map (operand s)).map (capPV s)))) else none

def actMakeSlice (E : Env) (call : Nat → List PV → Option PV) (s : St) (t : Nat) (l c : Operand) (κ : Eff → Option R) : Option R :=
  match E.ty t with
    | none => none
    | some ti => match elemOf ti with
      | none => none
      | some e => match E.ty e with
        | none => none
        | some te => match operand s l, operand s c with
          | .int k a, .int k' b => if k = .i64 ∧ k' = .i64 ∧ te.bytes ≠ 0 then guardK (decide (a = b)) (guardK (decide (0 ≤ a)) (guardK (decide (a * te.bytes ≤ 140737488355328)) (guardK (confs te.lk te.zero) (κ (.row te.lk (List.replicate a.toNat te.zero)))))) else none
          | _, _ => none

def highK (s : St) (hi : Option Operand) (n : Nat) (κ : Nat → Option R) : Option R := match hi with
  | none => κ n
  | some h => match operand s h with
    | .int _ h => guardK (decide (0 ≤ h)) (guardK (decide (h ≤ (n : Int))) (κ h.toNat))
    | _ => none
def lowK (s : St) (lo : Option Operand) (h : Nat) (κ : Nat → Option R) : Option R := match lo with
  | none => κ 0
  | some l => match operand s l with
    | .int _ l => guardK (decide (0 ≤ l)) (guardK (decide (l ≤ (h : Int))) (κ l.toNat))
    | _ => none

def actSlice (E : Env) (call : Nat → List PV → Option PV) (s : St) (t : Nat) (x : Operand) (lo hi : Option Operand) (κ : Eff → Option R) : Option R :=
  match E.ty t with
  | none => none
  | some ti => match ti.desc, operand s x with
    | .slice e, .sl _ ls xs => match E.ty e with
      | none => none
      | some te => if te.size = ls.length then highK s hi xs.length fun h => lowK s lo h fun l => κ (.val (.sl none ls ((xs.take h).drop l))) else none
    | .array n e, .ptr d off => match E.ty e, s.box d, lo, hi with   -- a whole array that is a variable
      | some te, some (.cells cs _), none, none => if off = 0 ∧ te.size = 1 ∧ te.lk.length = 1 ∧ cs.length = n ∧ (cs.all fun c => confs te.lk [strip c]) = true then κ (.froze [d] (.sl none te.lk ((strips cs).map fun c => [c]))) else none
      | _, _, _, _ => none
    | _, _ => none

def actFieldAddr (E : Env) (call : Nat → List PV → Option PV) (s : St) (t : Nat) (x : Operand) (f : Nat) (κ : Eff → Option R) : Option R :=
  match E.ty t with
  | none => none
  | some ti => match fieldOff ti f with
    | none => none
    | some (o, tf) => match E.ty tf with
      | none => none
      | some tif => if tif.size = 0 then none else match operand s x with
        | .ptr d off => κ (.val (.ptr d (off + o)))
        | .rp cs off => κ (.val (.rp cs (off + o)))
        | .rowp d i off => κ (.val (.rowp d i (off + o)))
        | _ => none

def actField (E : Env) (call : Nat → List PV → Option PV) (s : St) (t : Nat) (x : Operand) (f : Nat) (κ : Eff → Option R) : Option R :=
  match E.ty t with
    | none => none
    | some ti => match fieldOff ti f with
      | none => none
      | some (o, tf) => match E.ty tf, operand s x with
        | some tif, .agg cs => if partFits tif cs o then κ (.val (partPV tif cs o)) else none
        | _, _ => none

def actIndexAddr (E : Env) (call : Nat → List PV → Option PV) (s : St) (t : Nat) (x i : Operand) (κ : Eff → Option R) : Option R :=
  match E.ty t with
    | none => none
    | some ti => match ti.desc, operand s x with
      | .slice e, .sl _ ls xs => match E.ty e with
        | some te => if te.size = ls.length then indexK (operand s i) xs.length fun j => κ (.val (.rp (etas ls 0 (nths xs j)) 0)) else none
        | none => none
      | .slice e, .row d => match E.ty e, s.box d with
        | some te, some (.row ls xs _) => if te.size = ls.length then indexK (operand s i) xs.length fun j => κ (.load d (.rowp d j 0)) else none
        | _, _ => none
      | .array n e, .ptr d off => match E.ty e with
        | some te => indexK (operand s i) n fun j => κ (.val (.ptr d (off + j * te.size)))
        | none => none
      | .array n e, .rp cs off => match E.ty e with
        | some te => indexK (operand s i) n fun j => κ (.val (.rp cs (off + j * te.size)))
        | none => none
      | _, _ => none

def actIndex (E : Env) (call : Nat → List PV → Option PV) (s : St) (t : Nat) (x i : Operand) (κ : Eff → Option R) : Option R :=
  match E.ty t with
    | none => none
    | some ti => match ti.desc, operand s x with
      | .array n e, .agg cs => match E.ty e with
        | some te => indexK (operand s i) n fun j => if partFits te cs (j * te.size) then κ (.val (partPV te cs (j * te.size))) else none
        | none => none
      | .string, .str b => indexK (operand s i) b.size fun j => κ (.val (.int .u8 ((b.data.toList.getD j 0).toNat : Int)))
      | _, _ => none

def actExtract (E : Env) (call : Nat → List PV → Option PV) (s : St) (x : Operand) (i : Nat) (κ : Eff → Option R) : Option R :=
  match operand s x with
    | .tup vs => if i < vs.length then κ (.val (nth vs i)) else none
    | _ => none

def actNilCheck (E : Env) (call : Nat → List PV → Option PV) (s : St) (x : Operand) (κ : Eff → Option R) : Option R :=
  match operand s x with
    | .ptr d off => κ (.val (.ptr d off))
    | .rp cs off => κ (.val (.rp cs off))
    | _ => none

def actCall (E : Env) (call : Nat → List PV → Option PV) (s : St) (c : Call) (κ : Eff → Option R) : Option R :=
  match c.callee with
    | .value f => match operand s f with
      | .fn g caps => argsK s c.args.toList [] [] fun args ds => if plains (args ++ caps) then callK E call g (args ++ caps) ds κ else none
      | _ => none
    | .builtin .len => match c.args.toList, c.argTypes.toList with
      | [x], t :: _ => lenK E s t (operand s x) κ
      | _, _ => none
    | .builtin .max => match minmax true (c.args.toList.map (operand s)) with | some v => κ (.val v) | none => none
    | .builtin .min => match minmax false (c.args.toList.map (operand s)) with | some v => κ (.val v) | none => none
    | .builtin .append => match c.args.toList, c.argTypes.toList with
      | [x, y], [t, u] => appK E s t u (operand s x) (operand s y) κ
      | _, _ => none
    | _ => none

def actK (E : Env) (call : Nat → List PV → Option PV) (s : St) (o : Oper) (κ : Eff → Option R) : Option R :=
  match o.op with
  | .move x | .assign x => actMove E call s o.type x κ
  | .pick c a b => actPick E call s c a b κ
  | .alloc t => actAlloc E call s t κ
  | .box _ v => actBox E call s v κ
  | .build t parts => actBuild E call s t parts κ
  | .buildSlice t len parts => actBuildSlice E call s t len parts κ
  | .load t a => actLoad E call s t a κ
  | .store t a v => actStore E call s t a v κ
  | .binOp op t x y _ => actBinOp E call s op t x y κ
  | .unOp op _ x => actUnOp E call s op x κ
  | .convert src dst x => actConvert E call s src dst x κ
  | .makeFunc (.func f) first caps => actMakeFunc E call s f first caps κ
  | .makeSlice t l c => actMakeSlice E call s t l c κ
  | .slice t x lo hi none => actSlice E call s t x lo hi κ
  | .fieldAddr t x f => actFieldAddr E call s t x f κ
  | .field t x f => actField E call s t x f κ
  | .indexAddr t x i => actIndexAddr E call s t x i κ
  | .index t x i => actIndex E call s t x i κ
  | .extract x i => actExtract E call s x i κ
  | .nilCheck x => actNilCheck E call s x κ
  | .call c => actCall E call s c κ
  | _ => none

def refine (s : St) (t : Nat) (b : Bool) : St := { s with slots := s.slots.set t (.bool b) }

/-- A test on a slot: on each way the slot's value is known. -/
def splitK (s : St) (t : Nat) (κ : Bool → St → Option R) : Option R := match s.get t with
  | .bool b => cond b (forceL (refine s t true).slots fun sl => κ true { s with slots := sl }) (forceL (refine s t false).slots fun sl => κ false { s with slots := sl })
  | _ => none

/-- Is the operation carried out? -/
def wantK (ops : Array Oper) (s : St) (o : Oper) (κ : Bool → St → Option R) : Option R :=
  match o.guard with
  | none => κ true s
  | some (j, want) => match (ops[j]?).bind (·.dst) with
    | none => none
    | some t => match s.get t with
      | .tup [] => κ false s
      | _ => splitK s t fun b s => κ (b == want) s

def opsK (E : Env) (call : Nat → List PV → Option PV) (ops : Array Oper) : List Oper → St → (St → Option R) → Option R
  | [], s, κ => κ s
  | o :: rest, s, κ => wantK ops s o fun b s => match b with
    | true => actK E call s o fun e => match okEff s o.dst e with
      | true => updK s o.dst e fun s => opsK E call ops rest s κ
      | false => none
    | false => updK s o.dst .skip fun s => opsK E call ops rest s κ

/-- Of each operation, the earlier ones that must come before it. -/
def masks (ops : List Oper) : List Nat :=
  ops.foldl (fun acc o => acc ++ [o.after.toList.foldl (fun m e => if Region.binds .any e then m ||| 2 ^ e.on ||| acc.getD e.on 0 else m) 0]) []

def meets (a b : List Nat) : Bool := a.any fun x => b.contains x

/-- Two operations of which either may come first must not touch the same box, but for reading. -/
def clash (mask : Nat) (r w : List Nat) (tr : List (Nat × List Nat × List Nat)) : Bool :=
  tr.any fun x => !(mask.testBit x.1) && (meets x.2.2 r || meets x.2.2 w || meets x.2.1 w)

def opsD (E : Env) (call : Nat → List PV → Option PV) (ops : Array Oper) (ms : List Nat) : Nat → List Oper → List (Nat × List Nat × List Nat) → St → (St → Option R) → Option R
  | _, [], _, s, κ => κ s
  | i, o :: rest, tr, s, κ => wantK ops s o fun b s => match b with
    | true => actK E call s o fun e => match okEff s o.dst e && !clash (ms.getD i 0) e.reads (e.writes o.dst) tr with
      | true => updK s o.dst e fun s => opsD E call ops ms (i + 1) rest ((i, e.reads, e.writes o.dst) :: tr) s κ
      | false => none
    | false => updK s o.dst .skip fun s => opsD E call ops ms (i + 1) rest tr s κ

inductive Ex where
  | normal | ret
  | exit (id : Nat)

-- At a loop's head: tags begin anew, what points into a dropped box is forgotten.
mutual
def scrub (h : Hd) (vers : List Nat) : PV → PV
  | .sl tag ls xs => .sl (match tag with | some (d, v) => if v = vers.getD d 0 ∧ h.keep.contains d then some (d, 0) else none | none => none) ls xs
  | .ptr d off => if h.drop.contains d then .undef else .ptr d off
  | .row d => if h.drop.contains d then .undef else .row d
  | .rowp d i off => if h.drop.contains d then .undef else .rowp d i off
  | .agg cs => .agg (scrubs h vers cs)
  | .tup vs => .tup (scrubs h vers vs)
  | .rp cs off => if plains cs then .rp cs off else .undef
  | .fn f cs => if plains cs then .fn f cs else .undef
  | v => v
termination_by structural x => x
def scrubs (h : Hd) (vers : List Nat) : List PV → List PV
  | [] => []
  | v :: vs => scrub h vers v :: scrubs h vers vs
termination_by structural x => x
end
def scrubBox (h : Hd) (vers : List Nat) : Nat → List (Option Box) → List (Option Box)
  | _, [] => []
  | i, b :: bs => (if h.drop.contains i then none else match b with
      | some (.cells cs f) => some (.cells (scrubs h vers cs) f)
      | b => b) :: scrubBox h vers (i + 1) bs

def forget (l : List PV) : List Nat → List PV
  | [] => l
  | d :: ds => forget (l.set d .undef) ds

def St.head (s : St) (h : Hd) : St :=
  { slots := scrubs h s.vers (forget s.slots h.forget), boxes := scrubBox h s.vers 0 s.boxes, vers := s.vers.map fun _ => 0 }

/-- The number of the first region: a loop is known by it. -/
def firstRegion : Code → Nat
  | .region id _ _ => id
  | .seq a _ => firstRegion a
  | .block _ a => firstRegion a
  | .loop a => firstRegion a
  | _ => 0

/-- The rounds of a loop; each begins with a state that has gone through the head. -/
def loopJ (round : St → (Ex → St → Option R) → Option R) (h : Hd) (κ : Ex → St → Option R) : Nat → St → Option R
  | 0, _ => none
  | n + 1, s => round s fun e s' => match e with
    | .normal => forceSt (s'.head h) fun s => loopJ round h κ n s
    | e => κ e s'

/-- What an iterator gives, and what a yield does. -/
structure Io (R : Type) where
  it : Nat → List PV → Option (List PV) → List PV → Option (List (List PV))
  emit : List PV → Option R → Option R → Option R

def St.frz (s : St) (ds : List Nat) : St := { s with boxes := edit s.boxes (ds.map fun d => (d, freezeBox)) }

/-- A call of yield: what it hands on is written no more. -/
def yieldK (io : Io R) (s : St) (o : Oper) (κ : St → Option R) : Option R :=
  match o.guard, o.op with
  | none, .call c => match c.callee with
    | .value f => match operand s f with
      | .yld => guardK (plains (c.args.toList.map fun x => capPV s (strip (operand s x)))) (io.emit (c.args.toList.map fun x => capPV s (strip (operand s x)))
          (updK (s.frz ((c.args.toList.map (operand s)).filterMap capBox)) o.dst (.val (.bool true)) κ)
          (updK (s.frz ((c.args.toList.map (operand s)).filterMap capBox)) o.dst (.val (.bool false)) κ))
      | _ => none
    | _ => none
  | _, _ => none

/-- What a function value has captured: what is written no more, a variable that is, what is written no more. -/
def cutCaps : List PV → List PV × Option Nat × List PV
  | [] => ([], none, [])
  | .ptr d 0 :: post => ([], some d, post)
  | p :: post => (p :: (cutCaps post).1, (cutCaps post).2)

-- Between the rounds of a loop over an iterator: what a slot still tells.
mutual
def pinV : PV → PV
  | .sl _ ls xs => .sl none ls xs
  | .row _ => .undef
  | .rowp .. => .undef
  | .agg cs => .agg (pinVs cs)
  | .tup vs => .tup (pinVs vs)
  | .rp cs off => if plains cs then .rp cs off else .undef
  | .fn f cs => if plains cs then .fn f cs else .undef
  | v => v
termination_by structural x => x
def pinVs : List PV → List PV
  | [] => []
  | v :: vs => pinV v :: pinVs vs
termination_by structural x => x
end

/-- Which boxes are dropped within. -/
def dropsOf (hs : Nat → Hd) : Code → List Nat
  | .seq a b => dropsOf hs a ++ dropsOf hs b
  | .cond _ a b => dropsOf hs a ++ dropsOf hs b
  | .block _ a => dropsOf hs a
  | .loop a => (hs (firstRegion a)).drop ++ dropsOf hs a
  | .rangeFunc _ _ a b => (hs (firstRegion b)).drop ++ (dropsOf hs a ++ dropsOf hs b)
  | _ => []

/-- The head of the rounds of a loop over an iterator. -/
def rangeHd (hs : Nat → Hd) (ds : List Nat) (a b : Code) : Hd :=
  { forget := (hs (firstRegion b)).forget, drop := ds ++ ((hs (firstRegion b)).drop ++ (dropsOf hs a ++ dropsOf hs b)), keep := (hs (firstRegion b)).keep }

def setPs (l : List PV) : List Nat → List PV → List PV
  | p :: ps, x :: xs => setPs (l.set p x) ps xs
  | _, _ => l

def rangeJ (round : List PV → St → (Ex → St → Option R) → Option R) (h : Hd) (κ : Ex → St → Option R) : List (List PV) → St → Option R
  | [], s => κ .normal s
  | x :: xs, s => round x s fun e s' => match e with
    | .normal => forceSt { s'.head h with slots := s.slots } fun s => rangeJ round h κ xs s
    | e => κ e { s' with slots := s.slots }

/-- One round: the loop's variables, the body. -/
def roundK (asg body : St → (Ex → St → Option R) → Option R) (ps : List Nat) (x : List PV) (s : St) (k : Ex → St → Option R) : Option R :=
  guardK (Nat.beq x.length ps.length) (forceSt { s with slots := setPs s.slots ps x } fun s1 => asg s1 fun e s2 => match e with
    | .normal => body s2 k
    | _ => none)

def rangeK (io : Io R) (asg body : St → (Ex → St → Option R) → Option R) (hd : List Nat → Hd) (ps : List Nat) (s : St) (t : Nat) (κ : Ex → St → Option R) : Option R :=
  match s.get t with
  | .fn g caps => match cutCaps caps with
    | (pre, md, post) => guardK (plains pre && plains post) (match md with
      | none => (io.it g pre none post).bind fun xs => forceSt { s.head (hd []) with slots := pinVs (s.head (hd [])).slots } fun s => rangeJ (roundK asg body ps) (hd []) κ xs s
      | some d => match s.box d with
        | some (.cells cs false) => guardK (plains (strips cs)) ((io.it g pre (some (strips cs)) post).bind fun xs => forceSt { s.head (hd [d]) with slots := pinVs (s.head (hd [d])).slots } fun s => rangeJ (roundK asg body ps) (hd [d]) κ xs s)
        | _ => none)
  | _ => none

def codeK (E : Env) (call : Nat → List PV → Option PV) (io : Io R) (rd : Bool) (hs : Nat → Hd) (ys : Nat → Option Nat) : Code → St → (Ex → St → Option R) → Option R
  | .skip, s, κ => κ .normal s
  | .region id ops draw, s, κ => match ys id with
    | none => (match draw with
      | true => forceL (masks ops.toList) fun ms => opsD E call ops ms 0 ops.toList [] s fun s' => κ .normal s'
      | false => opsK E call ops ops.toList s fun s' => κ .normal s')
    | some j => (match draw, ops[j]? with
      | false, some o => opsK E call ops (ops.toList.take j) s fun s1 => yieldK io s1 o fun s2 => opsK E call ops (ops.toList.drop (j + 1)) s2 fun s' => κ .normal s'
      | _, _ => none)
  | .seq a b, s, κ => codeK E call io rd hs ys a s fun e s' => match e with
    | .normal => codeK E call io rd hs ys b s' κ
    | e => κ e s'
  | .cond (.tmp t) a b, s, κ => splitK s t fun x s => match x with
    | true => codeK E call io rd hs ys a s κ
    | false => codeK E call io rd hs ys b s κ
  | .block id c, s, κ => codeK E call io rd hs ys c s fun e s' => match e with
    | .exit j => if j = id then κ .normal s' else κ (.exit j) s'
    | e => κ e s'
  | .loop c, s, κ => forceSt (s.head (hs (firstRegion c))) fun s => loopJ (codeK E call io rd hs ys c) (hs (firstRegion c)) κ E.fuel s
  | .exit id, s, κ => κ (.exit id) s
  | .ret, s, κ => κ .ret s
  | .rangeFunc (.tmp t) ps a b, s, κ => match rd with
    | true => none
    | false => rangeK io (codeK E call io true hs ys a) (codeK E call io true hs ys b) (fun ds => rangeHd hs ds a b) ps.toList s t κ
  | _, _, _ => none

def resultOf (E : Env) (s : St) : ResultVar → Nat → Option PV
  | .tmp t, _ => some (s.get t)
  | .cell a t, _ => match E.ty t, s.get a with
    | some ti, .ptr d off => match s.box d with
      | some (.cells cs _) => if partFits ti cs off then some (partPV ti cs off) else none
      | _ => none
    | _, _ => none
def results (E : Env) (s : St) : List ResultVar → Option (List PV)
  | [] => some []
  | r :: rs => match resultOf E s r 0, results E s rs with
    | some v, some vs => some (v :: vs)
    | _, _ => none
/-- What is handed back of it: a row is told as what it holds. -/
def handed (s : St) : PV → PV
  | .row d => match s.box d with | some (.row ls xs _) => .sl none ls xs | _ => .undef
  | v => strip v

def confT (E : Env) (t : Nat) (v : PV) : Bool := match E.ty t with
  | some ti => if ti.agg then (match v with | .agg cs => confs ti.lk cs | _ => false) else (match ti.lk with | [l] => conf l v | _ => false)
  | none => false
def confTs (E : Env) : List Nat → List PV → Bool
  | [], [] => true
  | t :: ts, v :: vs => confT E t v && confTs E ts vs
  | _, _ => false

def giveBack (E : Env) (f : Nat) (fn : Func) (s : St) : Option PV :=
  match results E s fn.results.toList with
  | none => none
  | some vs =>
    let rs := vs.map (handed s)
    if confTs E fn.resultTypes.toList rs then
      (match rs, vs with
      | [v], [u] => if E.own f then (match u with
          | .sl (some (d, k)) _ _ => if k = s.ver d then forceV v some else none
          | _ => none) else forceV v some
      | vs, _ => if E.own f then none else forceVs vs fun vs => some (.tup vs))
    else none

def bodyK (E : Env) (call : Nat → List PV → Option PV) (it : Nat → List PV → Option (List PV) → List PV → Option (List (List PV))) (f : Nat) (fn : Func) (args : List PV) : Option PV :=
  match fn.body with
  | none => none
  | some c => match Nat.ble args.length fn.ntmps with
    | false => none
    | true => forceSt { slots := args ++ List.replicate (fn.ntmps - args.length) .undef, boxes := List.replicate fn.ntmps none, vers := List.replicate fn.ntmps 0 } fun s =>
      codeK E call { it := it, emit := fun _ _ _ => none } false (E.loops f) (fun _ => none) c s fun e s => match e with
      | .normal | .ret => giveBack E f fn s
      | _ => none

/-- The slots of an iterator's call, and its boxes. -/
def itSlots (n : Nat) (pre : List PV) (m : Option (List PV)) (post : List PV) : List PV :=
  match m with
  | none => .yld :: (pre ++ post ++ List.replicate (n - (pre.length + post.length + 1)) .undef)
  | some _ => .yld :: (pre ++ (.ptr (pre.length + 1) 0 :: post) ++ List.replicate (n - (pre.length + post.length + 2)) .undef)
def itBoxes (n : Nat) (pre : List PV) (m : Option (List PV)) : List (Option Box) :=
  match m with
  | none => List.replicate n none
  | some cs => (List.replicate n none).set (pre.length + 1) (some (.cells cs false))

def emitI (x : List PV) : Option (List (List PV)) → Option (List (List PV)) → Option (List (List PV))
  | some tr, some [] => some (x :: tr)
  | _, _ => none

/-- What an iterator yields, as long as yield says 'true'. -/
def bodyI (E : Env) (call : Nat → List PV → Option PV) (it : Nat → List PV → Option (List PV) → List PV → Option (List (List PV))) (g : Nat) (fn : Func) (pre : List PV) (m : Option (List PV)) (post : List PV) : Option (List (List PV)) :=
  match fn.body with
  | none => none
  | some c => match Nat.ble (pre.length + post.length + 2) fn.ntmps && fn.results.isEmpty with
    | false => none
    | true => forceSt { slots := itSlots fn.ntmps pre m post, boxes := itBoxes fn.ntmps pre m, vers := List.replicate fn.ntmps 0 } fun s =>
      codeK E call { it := it, emit := emitI } false (E.loops g) (E.ys g) c s fun e _ => match e with
      | .normal | .ret => some []
      | _ => none

mutual
def ev (E : Env) : Nat → Nat → List PV → Option PV
  | 0, _, _ => none
  | k + 1, f, args => match E.ext f with
    | some g => g args
    | none => match E.fn f with
      | none => none
      | some fn => bodyK E (ev E k) (evI E k) f fn args
termination_by structural k => k
def evI (E : Env) : Nat → Nat → List PV → Option (List PV) → List PV → Option (List (List PV))
  | 0, _, _, _, _ => none
  | k + 1, g, pre, m, post => match E.fn g with
    | none => none
    | some fn => bodyI E (ev E k) (evI E k) g fn pre m post
termination_by structural k => k
end

end Go.Pew

namespace Go.Pew
set_option linter.unusedSimpArgs false
set_option linter.unusedVariables false
open Go.RowKit
set_option linter.unusedVariables false
set_option linter.unusedSimpArgs false

structure Ctx where
  w : World
  st : Nat → Nat → Prop
  bx : Nat → Option Nat
  tg : Nat → Nat → Nat → Value → Prop
  rs : Nat → Nat
  rl : Nat → Nat
  yl : Option Nat

def Ctx.reads (C : Ctx) (B o : Nat) (us : List Value) : Prop :=
  ∀ j u, us[j]? = some u → C.w.cell? ⟨B, o + j, none⟩ = some u ∧ C.st B (o + j)

mutual
def Rep (C : Ctx) : PV → Value → Prop
  | .undef, _ => True
  | .bool b, v => v = .bool b
  | .int k n, v => v = .int k n
  | .str s, v => v = .string s
  | .nilp, v => v = .pointer none
  | .ptr d off, v => ∃ B, C.bx d = some B ∧ v = .pointer (some ⟨B, off, none⟩)
  | .rp cells off, v => ∃ B o us, v = .pointer (some ⟨B, o + off, none⟩) ∧ Reps C cells us ∧ C.reads B o us
  | .sl tag ls xs, v => ∃ A cap rows, v = .slice A (List.length rows) cap ∧ List.length rows ≤ cap ∧ RepRows C xs rows ∧ (∀ r ∈ rows, List.length r = List.length ls) ∧
      (rows = [] ∨ ∃ B o, A = some ⟨B, o, none⟩ ∧ C.reads B o rows.flatten) ∧ (∀ x ∈ xs, confs ls x = true) ∧ (∀ d k, tag = some (d, k) → C.tg d k (List.length ls) v)
  | .row d, v => ∃ B, C.bx d = some B ∧ v = .slice (some ⟨B, 0, none⟩) (C.rl d) (C.rl d)
  | .rowp d i off, v => ∃ B, C.bx d = some B ∧ v = .pointer (some ⟨B, i * C.rs d + off, none⟩) ∧ i < C.rl d
  | .agg cells, v => ∃ us, v = .agg us ∧ Reps C cells us.toList
  | .tup vs, v => ∃ us, v = .tuple us ∧ Reps C vs us.toList
  | .fn f caps, v => ∃ us, v = .func (.func f) #[] us ∧ Reps C caps us.toList
  | .yld, v => ∃ l, C.yl = some l ∧ v = .func (.yield l) #[] #[]
termination_by structural x => x
def Reps (C : Ctx) : List PV → List Value → Prop
  | [], us => us = []
  | p :: ps, us => ∃ u ws, us = u :: ws ∧ Rep C p u ∧ Reps C ps ws
termination_by structural x => x
def RepRows (C : Ctx) : List (List PV) → List (List Value) → Prop
  | [], rs => rs = []
  | p :: ps, rs => ∃ r ws, rs = r :: ws ∧ Reps C p r ∧ RepRows C ps ws
termination_by structural x => x
end

structure Ctx.Le (C C' : Ctx) : Prop where
  st : ∀ B o, C.st B o → C'.st B o
  cell : ∀ B o, C.st B o → C'.w.cell? ⟨B, o, none⟩ = C.w.cell? ⟨B, o, none⟩
  bx : ∀ d B, C.bx d = some B → C'.bx d = some B
  tg : ∀ d k z v, C.tg d k z v → C'.tg d k z v
  rs : ∀ d B, C.bx d = some B → C'.rs d = C.rs d
  rl : ∀ d B, C.bx d = some B → C'.rl d = C.rl d
  yl : ∀ l, C.yl = some l → C'.yl = some l

theorem Ctx.Le.refl (C : Ctx) : C.Le C := ⟨fun _ _ h => h, fun _ _ _ => rfl, fun _ _ h => h, fun _ _ _ _ h => h, fun _ _ _ => rfl, fun _ _ _ => rfl, fun _ h => h⟩
theorem Ctx.Le.trans {C D F : Ctx} (h : C.Le D) (k : D.Le F) : C.Le F :=
  ⟨fun B o x => k.st _ _ (h.st _ _ x), fun B o x => (k.cell _ _ (h.st _ _ x)).trans (h.cell _ _ x), fun d B x => k.bx _ _ (h.bx _ _ x), fun d n z v x => k.tg _ _ _ _ (h.tg _ _ _ _ x),
    fun d B x => (k.rs _ _ (h.bx _ _ x)).trans (h.rs _ _ x), fun d B x => (k.rl _ _ (h.bx _ _ x)).trans (h.rl _ _ x), fun l x => k.yl _ (h.yl _ x)⟩

theorem Ctx.Le.reads {C C' : Ctx} (h : C.Le C') {B o : Nat} {us : List Value} (r : C.reads B o us) : C'.reads B o us := fun j u hj => by
  obtain ⟨h1, h2⟩ := r j u hj
  exact ⟨(h.cell _ _ h2).trans h1, h.st _ _ h2⟩

mutual
theorem Rep.mono {C C' : Ctx} (h : C.Le C') : (p : PV) → (v : Value) → Rep C p v → Rep C' p v
  | .undef, v, r => trivial
  | .bool b, v, r => r
  | .int k n, v, r => r
  | .str s, v, r => r
  | .nilp, v, r => r
  | .ptr d off, v, r => by
    obtain ⟨B, h1, h2⟩ := r
    exact ⟨B, h.bx _ _ h1, h2⟩
  | .rp cells off, v, r => by
    obtain ⟨B, o, us, h1, h2, h3⟩ := r
    exact ⟨B, o, us, h1, Reps.mono h cells us h2, h.reads h3⟩
  | .sl tag ls xs, v, r => by
    obtain ⟨A, cap, rows, h1, h2, h3, h4, h5, h6, h7⟩ := r
    refine ⟨A, cap, rows, h1, h2, RepRows.mono h xs rows h3, h4, ?_, h6, fun d k e => h.tg _ _ _ _ (h7 d k e)⟩
    rcases h5 with h5 | ⟨B, o, h5, h8⟩
    · exact .inl h5
    · exact .inr ⟨B, o, h5, h.reads h8⟩
  | .row d, v, r => by
    obtain ⟨B, h1, h2⟩ := r
    exact ⟨B, h.bx _ _ h1, by rw [h.rl _ _ h1]; exact h2⟩
  | .rowp d i off, v, r => by
    obtain ⟨B, h1, h2, h3⟩ := r
    exact ⟨B, h.bx _ _ h1, by rw [h.rs _ _ h1]; exact h2, by rw [h.rl _ _ h1]; exact h3⟩
  | .agg cells, v, r => by
    obtain ⟨us, h1, h2⟩ := r
    exact ⟨us, h1, Reps.mono h cells _ h2⟩
  | .tup vs, v, r => by
    obtain ⟨us, h1, h2⟩ := r
    exact ⟨us, h1, Reps.mono h vs _ h2⟩
  | .fn f caps, v, r => by
    obtain ⟨us, h1, h2⟩ := r
    exact ⟨us, h1, Reps.mono h caps _ h2⟩
  | .yld, v, r => by
    obtain ⟨l, h1, h2⟩ := r
    exact ⟨l, h.yl _ h1, h2⟩
termination_by structural p => p
theorem Reps.mono {C C' : Ctx} (h : C.Le C') : (ps : List PV) → (us : List Value) → Reps C ps us → Reps C' ps us
  | [], us, r => r
  | p :: ps, us, r => by
    obtain ⟨u, ws, h1, h2, h3⟩ := r
    exact ⟨u, ws, h1, Rep.mono h p u h2, Reps.mono h ps ws h3⟩
termination_by structural ps => ps
theorem RepRows.mono {C C' : Ctx} (h : C.Le C') : (ps : List (List PV)) → (us : List (List Value)) → RepRows C ps us → RepRows C' ps us
  | [], us, r => r
  | p :: ps, us, r => by
    obtain ⟨u, ws, h1, h2, h3⟩ := r
    exact ⟨u, ws, h1, Reps.mono h p u h2, RepRows.mono h ps ws h3⟩
termination_by structural ps => ps
end

/-! ### lists -/
theorem Reps.length {C : Ctx} : ∀ {ps : List PV} {us : List Value}, Reps C ps us → us.length = ps.length
  | [], us, h => by rw [Reps] at h; subst h; rfl
  | p :: ps, us, h => by
    rw [Reps] at h
    obtain ⟨u, ws, rfl, _, h⟩ := h
    simp [Reps.length h]

theorem Reps.get {C : Ctx} : ∀ {ps : List PV} {us : List Value}, Reps C ps us → ∀ i u, us[i]? = some u → Rep C (nth ps i) u
  | [], us, h, i, u, hu => by rw [Reps] at h; subst h; simp at hu
  | p :: ps, us, h, i, u, hu => by
    rw [Reps] at h
    obtain ⟨v, ws, rfl, h1, h2⟩ := h
    cases i with
    | zero => simp at hu; subst hu; simpa [nth] using h1
    | succ i => simp at hu; have := Reps.get h2 i u hu; simpa [nth] using this

theorem Reps.of_get {C : Ctx} : ∀ {ps : List PV} {us : List Value}, us.length = ps.length → (∀ i u, us[i]? = some u → Rep C (nth ps i) u) → Reps C ps us
  | [], us, h, _ => by simp at h; rw [Reps]; exact h
  | p :: ps, [], h, _ => by simp at h
  | p :: ps, u :: us, h, g => by
    rw [Reps]
    refine ⟨u, us, rfl, by simpa [nth] using g 0 u (by simp), Reps.of_get (by simpa using h) fun i v hv => ?_⟩
    have := g (i + 1) v (by simpa using hv)
    simpa [nth] using this

theorem Reps.append {C : Ctx} : ∀ {ps qs : List PV} {us ws : List Value}, Reps C ps us → Reps C qs ws → Reps C (ps ++ qs) (us ++ ws)
  | [], qs, us, ws, h, k => by rw [Reps] at h; subst h; exact k
  | p :: ps, qs, us, ws, h, k => by
    rw [Reps] at h
    obtain ⟨u, vs, rfl, h1, h2⟩ := h
    show Reps C (p :: (ps ++ qs)) _
    rw [Reps]
    exact ⟨u, vs ++ ws, rfl, h1, Reps.append h2 k⟩

theorem Reps.drop {C : Ctx} {ps : List PV} {us : List Value} (h : Reps C ps us) (n : Nat) : Reps C (ps.drop n) (us.drop n) := by
  refine Reps.of_get (by simp [h.length]) fun i u hu => ?_
  have := h.get (n + i) u (by simpa [List.getElem?_drop] using hu)
  simpa [nth, List.getD_eq_getElem?_getD, List.getElem?_drop] using this

theorem Reps.take {C : Ctx} {ps : List PV} {us : List Value} (h : Reps C ps us) (n : Nat) : Reps C (ps.take n) (us.take n) := by
  refine Reps.of_get (by simp [h.length]) fun i u hu => ?_
  simp only [List.getElem?_take] at hu
  split at hu
  · rename_i hi
    have := h.get i u hu
    simpa [nth, List.getD_eq_getElem?_getD, List.getElem?_take, hi] using this
  · cases hu

theorem Reps.set {C : Ctx} {ps : List PV} {us : List Value} (h : Reps C ps us) {p : PV} {u : Value} (hp : Rep C p u) (i : Nat) : Reps C (ps.set i p) (us.set i u) := by
  refine Reps.of_get (by simp [h.length]) fun j v hv => ?_
  simp only [List.getElem?_set] at hv
  split at hv
  · rename_i e
    subst e
    split at hv
    · rename_i hl
      simp at hv; subst hv
      simpa [nth, List.getD_eq_getElem?_getD, h.length ▸ hl] using hp
    · cases hv
  · rename_i e
    have := h.get j v hv
    simpa [nth, List.getD_eq_getElem?_getD, List.getElem?_set_ne e] using this

theorem RepRows.length {C : Ctx} : ∀ {ps : List (List PV)} {us : List (List Value)}, RepRows C ps us → us.length = ps.length
  | [], us, h => by rw [RepRows] at h; subst h; rfl
  | p :: ps, us, h => by
    rw [RepRows] at h
    obtain ⟨u, ws, rfl, _, h⟩ := h
    simp [RepRows.length h]

theorem RepRows.get {C : Ctx} : ∀ {ps : List (List PV)} {us : List (List Value)}, RepRows C ps us → ∀ i u, us[i]? = some u → Reps C (nths ps i) u
  | [], us, h, i, u, hu => by rw [RepRows] at h; subst h; simp at hu
  | p :: ps, us, h, i, u, hu => by
    rw [RepRows] at h
    obtain ⟨v, ws, rfl, h1, h2⟩ := h
    cases i with
    | zero => simp at hu; subst hu; simpa [nths] using h1
    | succ i => simp at hu; have := RepRows.get h2 i u hu; simpa [nths] using this

theorem RepRows.of_get {C : Ctx} : ∀ {ps : List (List PV)} {us : List (List Value)}, us.length = ps.length → (∀ i u, us[i]? = some u → Reps C (nths ps i) u) → RepRows C ps us
  | [], us, h, _ => by simp at h; rw [RepRows]; exact h
  | p :: ps, [], h, _ => by simp at h
  | p :: ps, u :: us, h, g => by
    rw [RepRows]
    refine ⟨u, us, rfl, by simpa [nths] using g 0 u (by simp), RepRows.of_get (by simpa using h) fun i v hv => ?_⟩
    have := g (i + 1) v (by simpa using hv)
    simpa [nths] using this

theorem RepRows.append {C : Ctx} : ∀ {ps qs : List (List PV)} {us ws : List (List Value)}, RepRows C ps us → RepRows C qs ws → RepRows C (ps ++ qs) (us ++ ws)
  | [], qs, us, ws, h, k => by rw [RepRows] at h; subst h; exact k
  | p :: ps, qs, us, ws, h, k => by
    rw [RepRows] at h
    obtain ⟨u, vs, rfl, h1, h2⟩ := h
    show RepRows C (p :: (ps ++ qs)) _
    rw [RepRows]
    exact ⟨u, vs ++ ws, rfl, h1, RepRows.append h2 k⟩

theorem RepRows.drop {C : Ctx} {ps : List (List PV)} {us : List (List Value)} (h : RepRows C ps us) (n : Nat) : RepRows C (ps.drop n) (us.drop n) := by
  refine RepRows.of_get (by simp [h.length]) fun i u hu => ?_
  have := h.get (n + i) u (by simpa [List.getElem?_drop] using hu)
  simpa [nths, List.getD_eq_getElem?_getD, List.getElem?_drop] using this

theorem RepRows.take {C : Ctx} {ps : List (List PV)} {us : List (List Value)} (h : RepRows C ps us) (n : Nat) : RepRows C (ps.take n) (us.take n) := by
  refine RepRows.of_get (by simp [h.length]) fun i u hu => ?_
  simp only [List.getElem?_take] at hu
  split at hu
  · rename_i hi
    have := h.get i u hu
    simpa [nths, List.getD_eq_getElem?_getD, List.getElem?_take, hi] using this
  · cases hu

/-! ### kinds -/
mutual
theorem sameL_eq : (a b : LK) → sameL a b = true → a = b
  | .int k, b, h => by cases b <;> simp_all [sameL]
  | .bool, b, h => by cases b <;> simp_all [sameL]
  | .str, b, h => by cases b <;> simp_all [sameL]
  | .sl x, .sl y, h => by
    simp only [sameL] at h
    rw [sameLK_eq x y h]
  | .sl x, .int _, h => by simp [sameL] at h
  | .sl x, .bool, h => by simp [sameL] at h
  | .sl x, .str, h => by simp [sameL] at h
  | .sl x, .any, h => by simp [sameL] at h
  | .any, b, h => by cases b <;> simp [sameL] at h
termination_by structural a => a
theorem sameLK_eq : (a b : List LK) → sameLK a b = true → a = b
  | [], [], _ => rfl
  | [], _ :: _, h => by simp [sameLK] at h
  | _ :: _, [], h => by simp [sameLK] at h
  | x :: a, y :: b, h => by
    simp only [sameLK, Bool.and_eq_true] at h
    rw [sameL_eq x y h.1, sameLK_eq a b h.2]
termination_by structural a => a
end

theorem Rep.strip_tag {C : Ctx} {tag : Option (Nat × Nat)} {ls : List LK} {xs : List (List PV)} {v : Value} (h : Rep C (.sl tag ls xs) v) : Rep C (.sl none ls xs) v := by
  obtain ⟨A, cap, rows, h1, h2, h3, h4, h5, h6, h7⟩ := h
  exact ⟨A, cap, rows, h1, h2, h3, h4, h5, h6, fun d k e => by cases e⟩

theorem Rep.eta {C : Ctx} {l : LK} {p : PV} {v : Value} (hc : conf l p = true) (h : Rep C p v) : Rep C (eta l p) v := by
  cases l with
  | int k => cases p <;> simp_all [conf, Pew.eta, Rep, asI]
  | bool => cases p <;> simp_all [conf, Pew.eta, Rep, asB]
  | str => cases p <;> simp_all [conf, Pew.eta, Rep, asS]
  | any => cases p <;> simp_all [conf]
  | sl ls =>
    cases p with
    | sl tag ls' xs =>
      simp only [conf, Bool.and_eq_true] at hc
      have := sameLK_eq _ _ hc.2
      subst this
      exact Rep.strip_tag h
    | _ => simp [conf] at hc

theorem confs_length : ∀ {ls : List LK} {cs : List PV}, confs ls cs = true → cs.length = ls.length
  | [], [], _ => rfl
  | [], _ :: _, h => by simp [confs] at h
  | _ :: _, [], h => by simp [confs] at h
  | l :: ls, c :: cs, h => by simp only [confs, Bool.and_eq_true] at h; simp [confs_length h.2]

theorem etas_length : ∀ (ls : List LK) (i : Nat) (cs : List PV), (etas ls i cs).length = ls.length
  | [], _, _ => rfl
  | l :: ls, i, cs => by simp [etas, etas_length ls (i + 1) cs]

theorem Reps.etas_from {C : Ctx} : ∀ (ls : List LK) (i : Nat) (cs : List PV) (us : List Value), confs ls (cs.drop i) = true → Reps C (cs.drop i) us → Reps C (etas ls i cs) us
  | [], i, cs, us, hc, h => by
    have := confs_length hc
    have h0 : cs.drop i = [] := List.eq_nil_of_length_eq_zero this
    rw [h0] at h
    exact h
  | l :: ls, i, cs, us, hc, h => by
    cases hd : cs.drop i with
    | nil => rw [hd] at hc; simp [confs] at hc
    | cons c rest =>
      have hi : cs[i]? = some c := by
        have := congrArg (·[0]?) hd
        simpa [List.getElem?_drop] using this
      have hrest : cs.drop (i + 1) = rest := by
        have := congrArg (List.drop 1) hd
        simpa [List.drop_drop] using this
      rw [hd] at hc h
      simp only [confs, Bool.and_eq_true] at hc
      rw [Reps] at h
      obtain ⟨u, ws, rfl, h1, h2⟩ := h
      show Reps C (Pew.eta l (nth cs i) :: etas ls (i + 1) cs) _
      rw [Reps]
      have hn : nth cs i = c := by simp [nth, List.getD_eq_getElem?_getD, hi]
      refine ⟨u, ws, rfl, by rw [hn]; exact Rep.eta hc.1 h1, Reps.etas_from ls (i + 1) cs ws (by rw [hrest]; exact hc.2) (by rw [hrest]; exact h2)⟩

theorem Reps.etas {C : Ctx} {ls : List LK} {cs : List PV} {us : List Value} (hc : confs ls cs = true) (h : Reps C cs us) : Reps C (etas ls 0 cs) us :=
  Reps.etas_from ls 0 cs us (by simpa using hc) (by simpa using h)

mutual
theorem Rep.strip {C : Ctx} : (p : PV) → (v : Value) → Rep C p v → Rep C (strip p) v
  | .sl tag ls xs, v, h => Rep.strip_tag h
  | .agg cs, v, h => by
    obtain ⟨us, h1, h2⟩ := h
    exact ⟨us, h1, Reps.strips cs _ h2⟩
  | .tup cs, v, h => by
    obtain ⟨us, h1, h2⟩ := h
    exact ⟨us, h1, Reps.strips cs _ h2⟩
  | .undef, v, h => h
  | .bool _, v, h => h
  | .int _ _, v, h => h
  | .str _, v, h => h
  | .nilp, v, h => h
  | .ptr _ _, v, h => h
  | .rp _ _, v, h => h
  | .row _, v, h => h
  | .rowp _ _ _, v, h => h
  | .fn _ _, v, h => h
  | .yld, v, h => h
termination_by structural p => p
theorem Reps.strips {C : Ctx} : (ps : List PV) → (us : List Value) → Reps C ps us → Reps C (strips ps) us
  | [], us, h => h
  | p :: ps, us, h => by
    obtain ⟨u, ws, h1, h2, h3⟩ := h
    exact ⟨u, ws, h1, Rep.strip p u h2, Reps.strips ps ws h3⟩
termination_by structural ps => ps
end
end Go.Pew

namespace Go.Pew
set_option linter.unusedSimpArgs false
set_option linter.unusedVariables false
set_option linter.unusedVariables false
set_option linter.unusedSimpArgs false
variable {R : Type}

theorem forceL_eq {α : Type} : ∀ (l : List α) (κ : List α → R), forceL l κ = κ l
  | [], κ => rfl
  | x :: xs, κ => forceL_eq xs fun ys => κ (x :: ys)

theorem forceV_eq (v : PV) (κ : PV → R) : forceV v κ = κ v := by
  cases v <;> simp [forceV, forceL_eq]

theorem forceVs_eq : ∀ (l : List PV) (κ : List PV → R), forceVs l κ = κ l
  | [], κ => rfl
  | x :: xs, κ => by simp [forceVs, forceV_eq, forceVs_eq xs]

theorem forceSt_eq (s : St) (κ : St → R) : forceSt s κ = κ s := by simp [forceSt, forceVs_eq, forceL_eq]

theorem updK_eq (s : St) (dst : Option Nat) (e : Eff) (κ : St → R) : updK s dst e κ = κ (upd s dst e) := by
  cases e <;> simp [updK, forceV_eq, forceL_eq] <;> simp [upd, valOf, edits, edit, bumped, bump]

theorem guardK_bind {R' : Type} (b : Bool) (x : Option R) (f : R → Option R') : (guardK b x).bind f = guardK b (x.bind f) := by cases b <;> rfl

theorem indexK_nat {R' : Type} (i : PV) (n : Nat) (κ : Nat → Option R) (f : R → Option R') : (indexK i n κ).bind f = indexK i n fun j => (κ j).bind f := by
  cases i <;> simp [indexK, guardK_bind]

theorem intOp_nat {R' : Type} (op : BinOp) (k : IntKind) (a b : Int) (κ : PV → Option R) (f : R → Option R') : (intOp op k a b κ).bind f = intOp op k a b fun v => (κ v).bind f := by
  cases op <;> simp [intOp, guardK_bind]

theorem binK_nat {R' : Type} (E : Env) (op : BinOp) (t : Nat) (x y : PV) (κ : PV → Option R) (f : R → Option R') : (binK E op t x y κ).bind f = binK E op t x y fun v => (κ v).bind f := by
  unfold binK
  split
  · split
    · exact intOp_nat ..
    · exact intOp_nat ..
    · split
      · exact intOp_nat ..
      · rfl
  · split
    · split <;> rfl
    · rfl
  · split <;> rfl
  · split
    · rw [guardK_bind, guardK_bind, guardK_bind]
      congr 3
      split <;> rfl
    · rfl
  · split
    · split <;> rfl
    · rfl
  · rfl

theorem unK_nat {R' : Type} (op : UnOp) (x : PV) (κ : PV → Option R) (f : R → Option R') : (unK op x κ).bind f = unK op x fun v => (κ v).bind f := by
  unfold unK; split <;> rfl

theorem lenK_nat {R' : Type} (E : Env) (s : St) (t : Nat) (x : PV) (κ : Eff → Option R) (f : R → Option R') : (lenK E s t x κ).bind f = lenK E s t x fun v => (κ v).bind f := by
  unfold lenK
  split
  · rfl
  · split
    · rfl
    · split <;> rfl
    · rfl
    · rfl
    · rfl

theorem highK_nat {R' : Type} (s : St) (hi : Option Operand) (n : Nat) (κ : Nat → Option R) (f : R → Option R') : (highK s hi n κ).bind f = highK s hi n fun v => (κ v).bind f := by
  unfold highK
  split
  · rfl
  · split
    · simp only [guardK_bind]
    · rfl
theorem lowK_nat {R' : Type} (s : St) (hi : Option Operand) (n : Nat) (κ : Nat → Option R) (f : R → Option R') : (lowK s hi n κ).bind f = lowK s hi n fun v => (κ v).bind f := by
  unfold lowK
  split
  · rfl
  · split
    · simp only [guardK_bind]
    · rfl

theorem argsK_nat {R' : Type} (s : St) (f : R → Option R') : ∀ (os : List Operand) (ds : List Nat) (acc : List PV) (κ : List PV → List Nat → Option R),
    (argsK s os ds acc κ).bind f = argsK s os ds acc fun x y => (κ x y).bind f
  | [], ds, acc, κ => rfl
  | o :: os, ds, acc, κ => by
    unfold argsK
    split
    · split
      · exact argsK_nat s f os _ _ κ
      · rfl
    · exact argsK_nat s f os _ _ κ

theorem mkK_nat {R' : Type} (m : List PV → Option (Nat × List PV × Option (List PV) × List PV)) (args : List PV) (ds : List Nat) (κ : Eff → Option R) (f : R → Option R') :
    (mkK m args ds κ).bind f = mkK m args ds fun e => (κ e).bind f := by
  unfold mkK; split <;> rfl

theorem callK_nat {R' : Type} (E : Env) (call : Nat → List PV → Option PV) (g : Nat) (args : List PV) (ds : List Nat) (κ : Eff → Option R) (f : R → Option R') :
    (callK E call g args ds κ).bind f = callK E call g args ds fun e => (κ e).bind f := by
  unfold callK
  split
  · exact mkK_nat ..
  · split
    · rfl
    · rename_i fn _
      cases call g args with
      | none => rfl
      | some r =>
        simp only [Option.bind_some]
        split
        · rfl
        · split
          · split <;> rfl
          · rfl

theorem appK_nat {R' : Type} (E : Env) (s : St) (t u : Nat) (x y : PV) (κ : Eff → Option R) (f : R → Option R') :
    (appK E s t u x y κ).bind f = appK E s t u x y fun e => (κ e).bind f := by
  unfold appK
  split
  · split
    · split
      · rfl
      · split
        · split
          · exact guardK_bind _ _ _
          · rfl
        · rfl
    · rfl
  · rfl

theorem condK_bind {R' : Type} (c : PV) (x y : Option R) (f : R → Option R') : (condK c x y).bind f = condK c (x.bind f) (y.bind f) := by
  unfold condK; split
  · rename_i b; cases b <;> rfl
  · rfl

theorem actK_nat {R' : Type} (E : Env) (call : Nat → List PV → Option PV) (s : St) (o : Oper) (κ : Eff → Option R) (f : R → Option R') :
    (actK E call s o κ).bind f = actK E call s o fun e => (κ e).bind f := by
  unfold actK
  split
  · unfold actMove; repeat' (first | rfl | split)
  · unfold actMove; repeat' (first | rfl | split)
  · unfold actPick; exact condK_bind ..
  · unfold actAlloc; repeat' (first | rfl | split)
  · unfold actBox; repeat' (first | rfl | split)
  · unfold actBuild; repeat' (first | rfl | split)
  · unfold actBuildSlice; repeat' (first | rfl | split)
  · unfold actLoad; repeat' (first | rfl | split)
  · unfold actStore; repeat' (first | rfl | split)
  · unfold actBinOp; exact binK_nat ..
  · unfold actUnOp; exact unK_nat ..
  · unfold actConvert; repeat' (first | rfl | split)
  · unfold actMakeFunc; repeat' (first | rfl | split)
  · unfold actMakeSlice; repeat' (first | rfl | (simp only [guardK_bind]; done) | split)
  · unfold actSlice
    split
    · rfl
    · split
      · split
        · rfl
        · split
          · rw [highK_nat]; congr 1; funext h; exact lowK_nat ..
          · rfl
      · split
        · split <;> rfl
        · rfl
      · rfl
  · unfold actFieldAddr; repeat' (first | rfl | split)
  · unfold actField; repeat' (first | rfl | split)
  · unfold actIndexAddr
    split
    · rfl
    · split
      · split
        · split
          · exact indexK_nat ..
          · rfl
        · rfl
      · split
        · split
          · exact indexK_nat ..
          · rfl
        · rfl
      · split
        · exact indexK_nat ..
        · rfl
      · split
        · exact indexK_nat ..
        · rfl
      · rfl
  · unfold actIndex
    split
    · rfl
    · split
      · split
        · rw [indexK_nat]; congr 1; funext j; split <;> rfl
        · rfl
      · exact indexK_nat ..
      · rfl
  · unfold actExtract; repeat' (first | rfl | split)
  · unfold actNilCheck; repeat' (first | rfl | split)
  · unfold actCall
    split
    · split
      · rw [argsK_nat]; congr 1; funext x y; split
        · exact callK_nat ..
        · rfl
      · rfl
    · split
      · exact lenK_nat ..
      · rfl
    · split <;> rfl
    · split <;> rfl
    · split
      · exact appK_nat ..
      · rfl
    · rfl
  · rfl

/-- The effect of an operation. -/
def act (E : Env) (call : Nat → List PV → Option PV) (s : St) (o : Oper) : Option Eff := actK E call s o some

theorem actK_eq (E : Env) (call : Nat → List PV → Option PV) (s : St) (o : Oper) (κ : Eff → Option R) : actK E call s o κ = (act E call s o).bind κ := by
  unfold act; rw [actK_nat]; rfl

/-! ### a region, as steps -/

/-- Is the operation carried out? -/
def want (ops : Array Oper) (s : St) (o : Oper) : Option Bool :=
  match o.guard with
  | none => some true
  | some (j, want) => match (ops[j]?).bind (·.dst) with
    | none => none
    | some t => match s.get t with
      | .tup [] => some false
      | .bool b => some (b == want)
      | _ => none

theorem refine_self {s : St} {t : Nat} {b : Bool} (h : s.get t = .bool b) : refine s t b = s := by
  have : s.slots.set t (.bool b) = s.slots := by
    apply List.ext_getElem?
    intro i
    rw [List.getElem?_set]
    split
    · rename_i e
      subst e
      unfold St.get at h
      rw [List.getD_eq_getElem?_getD] at h
      split
      · rename_i hl
        rw [List.getElem?_eq_getElem hl] at h ⊢
        simp at h
        rw [h]
      · rename_i hl
        rw [List.getElem?_eq_none (by omega)]
    · rfl
  unfold refine
  rw [this]

theorem splitK_eq (s : St) (t : Nat) (κ : Bool → St → Option R) : splitK s t κ = match s.get t with | .bool b => κ b s | _ => none := by
  unfold splitK
  cases h : s.get t with
  | bool b =>
    simp only [forceL_eq]
    cases b
    · show κ false (refine s t false) = _
      rw [refine_self h]
    · show κ true (refine s t true) = _
      rw [refine_self h]
  | _ => rfl

theorem wantK_eq (ops : Array Oper) (s : St) (o : Oper) (κ : Bool → St → Option R) : wantK ops s o κ = (want ops s o).bind fun b => κ b s := by
  unfold wantK want
  cases hg : o.guard with
  | none => rfl
  | some g =>
    obtain ⟨j, want⟩ := g
    dsimp only
    cases hd : (ops[j]?).bind (·.dst) with
    | none => rfl
    | some t =>
      dsimp only
      cases h : s.get t with
      | tup vs =>
        cases vs with
        | nil => rfl
        | cons v vs => simp [splitK_eq, h]
      | bool b => simp [splitK_eq, h]
      | _ => simp [splitK_eq, h]

/-- The effect of an operation in its region. -/
def eff (E : Env) (call : Nat → List PV → Option PV) (ops : Array Oper) (s : St) (o : Oper) : Option Eff :=
  match want ops s o with
  | some true => (act E call s o).bind fun e => if okEff s o.dst e = true then some e else none
  | some false => some .skip
  | none => none

inductive Run (E : Env) (call : Nat → List PV → Option PV) (ops : Array Oper) : List (Nat × Oper) → St → List (Nat × Oper × Eff) → St → Prop
  | nil (s : St) : Run E call ops [] s [] s
  | cons {i : Nat} {o : Oper} {rest : List (Nat × Oper)} {s s' : St} {e : Eff} {tr : List (Nat × Oper × Eff)} :
    eff E call ops s o = some e → Run E call ops rest (upd s o.dst e) tr s' → Run E call ops ((i, o) :: rest) s ((i, o, e) :: tr) s'

theorem opsK_run (E : Env) (call : Nat → List PV → Option PV) (ops : Array Oper) : ∀ (l : List Oper) (n : Nat) (s : St) (κ : St → Option R) (r : R),
    opsK E call ops l s κ = some r → ∃ tr s', Run E call ops (l.zipIdx n |>.map fun x => (x.2, x.1)) s tr s' ∧ κ s' = some r
  | [], n, s, κ, r, h => ⟨[], s, .nil s, h⟩
  | o :: rest, n, s, κ, r, h => by
    unfold opsK at h
    rw [wantK_eq] at h
    obtain ⟨b, hb, h⟩ := Option.bind_eq_some_iff.1 h
    cases b with
    | true =>
      simp only [actK_eq] at h
      obtain ⟨e, he, h⟩ := Option.bind_eq_some_iff.1 h
      split at h
      · rename_i hok
        rw [updK_eq] at h
        obtain ⟨tr, s', h1, h2⟩ := opsK_run E call ops rest (n + 1) _ κ r h
        refine ⟨(n, o, e) :: tr, s', ?_, h2⟩
        simp only [List.zipIdx_cons, List.map_cons]
        exact .cons (by simp [eff, hb, he, hok]) h1
      · cases h
    | false =>
      simp only [updK_eq] at h
      obtain ⟨tr, s', h1, h2⟩ := opsK_run E call ops rest (n + 1) _ κ r h
      refine ⟨(n, o, .skip) :: tr, s', ?_, h2⟩
      simp only [List.zipIdx_cons, List.map_cons]
      exact .cons (by simp [eff, hb]) h1

theorem writes_skip (dst : Option Nat) : Eff.writes dst .skip = [] := rfl

/-- What a drawn region's check has found of its trace. -/
def Apart (ms : List Nat) (x y : Nat × Oper × Eff) : Prop :=
  (ms.getD y.1 0).testBit x.1 = true ∨ (meets (x.2.2.writes x.2.1.dst) y.2.2.reads = false ∧ meets (x.2.2.writes x.2.1.dst) (y.2.2.writes y.2.1.dst) = false ∧ meets x.2.2.reads (y.2.2.writes y.2.1.dst) = false)

theorem meets_nil_left (l : List Nat) : meets [] l = false := rfl
theorem meets_nil_right (l : List Nat) : meets l [] = false := by simp [meets]

theorem opsD_run (E : Env) (call : Nat → List PV → Option PV) (ops : Array Oper) (ms : List Nat) : ∀ (l : List Oper) (n : Nat) (tr0 : List (Nat × Oper × Eff)) (tr1 : List (Nat × List Nat × List Nat)) (s : St) (κ : St → Option R) (r : R),
    (∀ x ∈ tr0, x.2.2 matches .skip ∨ (x.1, x.2.2.reads, x.2.2.writes x.2.1.dst) ∈ tr1) →
    opsD E call ops ms n l tr1 s κ = some r → ∃ tr s', Run E call ops (l.zipIdx n |>.map fun x => (x.2, x.1)) s tr s' ∧ κ s' = some r ∧
      (∀ x ∈ tr0, ∀ y ∈ tr, Apart ms x y) ∧ tr.Pairwise (Apart ms)
  | [], n, tr0, tr1, s, κ, r, h0, h => ⟨[], s, .nil s, h, by simp, .nil⟩
  | o :: rest, n, tr0, tr1, s, κ, r, h0, h => by
    unfold opsD at h
    rw [wantK_eq] at h
    obtain ⟨b, hb, h⟩ := Option.bind_eq_some_iff.1 h
    cases b with
    | true =>
      simp only [actK_eq] at h
      obtain ⟨e, he, h⟩ := Option.bind_eq_some_iff.1 h
      split at h
      · rename_i hok
        simp only [Bool.and_eq_true, Bool.not_eq_true'] at hok
        rw [updK_eq] at h
        have hnew : ∀ x ∈ tr0, Apart ms x (n, o, e) := by
          intro x hx
          rcases h0 x hx with hs | hm
          · right
            have : x.2.2 = .skip := by
              cases hq : x.2.2 <;> simp_all
            simp [this, writes_skip, Eff.reads, meets]
          · have hc := hok.2
            unfold clash at hc
            rw [List.any_eq_false] at hc
            have := hc _ hm
            unfold Apart
            revert this
            cases (ms.getD n 0).testBit x.1 <;> cases meets (x.2.2.writes x.2.1.dst) e.reads <;> cases meets (x.2.2.writes x.2.1.dst) (e.writes o.dst) <;> cases meets x.2.2.reads (e.writes o.dst) <;> simp
        obtain ⟨tr, s', h1, h2, h3, h4⟩ := opsD_run E call ops ms rest (n + 1) ((n, o, e) :: tr0) ((n, e.reads, e.writes o.dst) :: tr1) _ κ r (by
          intro x hx
          rcases List.mem_cons.1 hx with rfl | hx
          · exact .inr (List.mem_cons_self ..)
          · exact (h0 x hx).imp id (List.mem_cons_of_mem _)) h
        refine ⟨(n, o, e) :: tr, s', ?_, h2, ?_, ?_⟩
        · simp only [List.zipIdx_cons, List.map_cons]
          exact .cons (by simp [eff, hb, he, hok.1]) h1
        · intro x hx y hy
          rcases List.mem_cons.1 hy with rfl | hy
          · exact hnew x hx
          · exact h3 x (List.mem_cons_of_mem _ hx) y hy
        · exact .cons (fun y hy => h3 _ (List.mem_cons_self ..) y hy) h4
      · cases h
    | false =>
      simp only [updK_eq] at h
      obtain ⟨tr, s', h1, h2, h3, h4⟩ := opsD_run E call ops ms rest (n + 1) ((n, o, .skip) :: tr0) tr1 _ κ r (by
        intro x hx
        rcases List.mem_cons.1 hx with rfl | hx
        · exact .inl rfl
        · exact h0 x hx) h
      refine ⟨(n, o, .skip) :: tr, s', ?_, h2, ?_, ?_⟩
      · simp only [List.zipIdx_cons, List.map_cons]
        exact .cons (by simp [eff, hb]) h1
      · intro x hx y hy
        rcases List.mem_cons.1 hy with rfl | hy
        · right; simp [writes_skip, Eff.reads, meets_nil_right]
        · exact h3 x (List.mem_cons_of_mem _ hx) y hy
      · exact .cons (fun y hy => h3 _ (List.mem_cons_self ..) y hy) h4

end Go.Pew

namespace Go.Pew
set_option linter.unusedSimpArgs false
set_option linter.unusedVariables false
open Go.RowKit
set_option linter.unusedVariables false
set_option linter.unusedSimpArgs false

def rowSize : Option Box → Nat
  | some (.row ls _ _) => ls.length
  | _ => 0
def rowLen : Option Box → Nat
  | some (.row _ xs _) => xs.length
  | _ => 0

/-- What nobody computes: where variables lie, which rows are the call's own, which cells stay. -/
structure Gh where
  st : Nat → Nat → Prop
  bx : Nat → Option Nat
  own : Nat → Value
  osz : Nat → Nat
  yl : Option Nat

def ctx (s : St) (w : World) (g : Gh) : Ctx :=
  { w := w, st := g.st, bx := g.bx, tg := fun d k z v => k ≤ s.ver d ∧ (k = s.ver d → v = g.own d ∧ z = g.osz d), rs := fun d => rowSize (s.box d), rl := fun d => rowLen (s.box d), yl := g.yl }

def ownBlock : Value → Option Nat
  | .slice (some a) _ _ => some a.block
  | _ => none

/-- A row of the call's own: behind its end nothing stays. -/
def OwnOk (g : Gh) (base : Nat) (w : World) (v : Value) (z : Nat) : Prop :=
  v = .slice none 0 0 ∨ ∃ B o len cap us T, v = .slice (some ⟨B, o, none⟩) len cap ∧ base ≤ B ∧ w.heap[B]? = some (.cells us T (0, 0)) ∧ o + cap * z ≤ us.size ∧ len ≤ cap ∧
    (∀ j, o + len * z ≤ j → ¬ g.st B j) ∧ (∀ d, g.bx d ≠ some B)

/-- The world at the call, and what stays in it. -/
structure Start extends World where
  keep : Nat → Nat → Prop
  /-- Where variables lie that are dropped nowhere. -/
  pin : Nat → Option Nat
  /-- Blocks that those turn to whom we yield. -/
  far : Nat → Prop
  /-- Blocks that nobody turns meanwhile. -/
  fix : Nat → Prop
  yl : Option Nat
  ap : ∀ B, fix B → ¬ far B

/-- The mark of a loop over an iterator. -/
def mark (D : Nat) : Deferred := { target := .collected D, args := #[] }

structure SimG (base : Nat) (w0 : Start) (n : Nat) (g : Gh) (s : St) (a : Act) (w : World) : Prop where
  ns : s.slots.length = n
  nb : s.boxes.length = n
  nv : s.vers.length = n
  slots : Reps (ctx s w g) s.slots a.tmps.toList
  marks : ∃ Ds : List Nat, a.defers = Ds.map mark ∧ Ds.Nodup ∧ ∀ D ∈ Ds, w0.fix D ∧ base ≤ D ∧ w0.heap[D]? = some (.deferred (some []))
  base_le : base ≤ w0.heap.size
  below : Below base w0.toWorld w
  nobox : ∀ d, s.box d = none → g.bx d = none
  cells : ∀ d cs fz, s.box d = some (.cells cs fz) → ∃ B us T, g.bx d = some B ∧ w.heap[B]? = some (.cells us T (0, 0)) ∧ base ≤ B ∧ Reps (ctx s w g) cs us.toList ∧
    (fz = true → ∀ o, o < us.size → g.st B o) ∧ (fz = false → ∀ o, ¬ g.st B o)
  rows : ∀ d ls xs fz, s.box d = some (.row ls xs fz) → ∃ B us T rws, g.bx d = some B ∧ w.heap[B]? = some (.cells us T (0, 0)) ∧ base ≤ B ∧ us.toList = rws.flatten ∧
    RepRows (ctx s w g) xs rws ∧ (∀ r ∈ rws, r.length = ls.length) ∧ (∀ x ∈ xs, confs ls x = true) ∧ (fz = true → ∀ o, o < us.size → g.st B o) ∧ (fz = false → ∀ o, ¬ g.st B o)
  inj : ∀ d d' B, g.bx d = some B → g.bx d' = some B → d = d'
  own : ∀ d, OwnOk g base w (g.own d) (g.osz d)
  apart : ∀ d d' B, d ≠ d' → ownBlock (g.own d) = some B → ownBlock (g.own d') ≠ some B
  stlt : ∀ B o, g.st B o → ∃ us T fr, w.heap[B]? = some (.cells us T fr) ∧ o < us.size
  news : ∀ B o, g.st B o → w0.keep B o ∨ base ≤ B
  kept : ∀ B o, w0.keep B o → g.st B o ∧ w.cell? ⟨B, o, none⟩ = w0.cell? ⟨B, o, none⟩
  pinned : ∀ d B, w0.pin d = some B → g.bx d = some B
  quiet : ∀ B, (w0.far B ∨ w0.fix B) → B < w0.heap.size ∧ w.heap[B]? = w0.heap[B]? ∧ (∀ d, g.bx d ≠ some B) ∧ ∀ d, ownBlock (g.own d) ≠ some B
  yld : g.yl = w0.yl
  newsq : ∀ B o, g.st B o → w0.keep B o ∨ ¬ (w0.far B ∨ w0.fix B)

def Sim (base : Nat) (w0 : Start) (n : Nat) (s : St) (a : Act) (w : World) : Prop := ∃ g, SimG base w0 n g s a w

/-! ### reading and writing the state -/
theorem get_set (l : List (Option Box)) (d e : Nat) (b : Option Box) : (l.set d b).getD e none = if d = e ∧ d < l.length then b else l.getD e none := by
  simp only [List.getD_eq_getElem?_getD, List.getElem?_set]
  by_cases h : d = e
  · subst h
    by_cases hl : d < l.length
    · simp [hl]
    · simp [hl]
  · simp [h]

theorem ver_set (l : List Nat) (d e : Nat) (b : Nat) : (l.set d b).getD e 0 = if d = e ∧ d < l.length then b else l.getD e 0 := by
  simp only [List.getD_eq_getElem?_getD, List.getElem?_set]
  by_cases h : d = e
  · subst h
    by_cases hl : d < l.length
    · simp [hl]
    · simp [hl]
  · simp [h]

theorem putD_length (l : List PV) (dst : Option Nat) (v : PV) : (putD l dst v).length = l.length := by cases dst <;> simp [putD]

theorem Reps.putD {C : Ctx} {ps : List PV} {a : Act} (h : Reps C ps a.tmps.toList) {p : PV} {u : Value} (hp : Rep C p u) (dst : Option Nat) :
    Reps C (Pew.putD ps dst p) (a.put dst u).tmps.toList := by
  cases dst with
  | none => exact h
  | some d => simpa [Pew.putD, Act.put] using h.set hp d

theorem eval_rep {base n : Nat} {w0 : Start} {g : Gh} {s : St} {a : Act} {w : World} (h : SimG base w0 n g s a w) (t : Nat) (ht : t < n ∨ True) : Rep (ctx s w g) (s.get t) (a.eval (.tmp t)) := by
  by_cases hl : t < a.tmps.size
  · have := h.slots.get t a.tmps[t] (by simp [hl])
    simpa [Act.eval, St.get, nth, hl] using this
  · have hlen : s.slots.length ≤ t := by
      have := h.slots.length
      simp at this
      omega
    have : s.get t = .undef := by simp [St.get, List.getD_eq_getElem?_getD, List.getElem?_eq_none hlen]
    rw [this]
    trivial

/-- Only slots turn. -/
theorem SimG.val {base n : Nat} {w0 : Start} {g : Gh} {s : St} {a : Act} {w : World} (h : SimG base w0 n g s a w) {p : PV} {v : Value} (hp : Rep (ctx s w g) p v) (dst : Option Nat) :
    SimG base w0 n g { s with slots := putD s.slots dst p } (a.put dst v) w where
  ns := by rw [putD_length]; exact h.ns
  nb := h.nb
  nv := h.nv
  slots := Reps.putD (C := ctx s w g) h.slots hp dst
  marks := by cases dst <;> exact h.marks
  base_le := h.base_le
  below := h.below
  nobox := h.nobox
  cells := h.cells
  rows := h.rows
  inj := h.inj
  own := h.own
  apart := h.apart
  stlt := h.stlt
  news := h.news
  kept := h.kept
  pinned := h.pinned
  quiet := h.quiet
  yld := h.yld
  newsq := h.newsq

theorem upd_val (s : St) (dst : Option Nat) (p : PV) : upd s dst (.val p) = { s with slots := putD s.slots dst p } := rfl
theorem upd_load (s : St) (dst : Option Nat) (d : Nat) (p : PV) : upd s dst (.load d p) = { s with slots := putD s.slots dst p } := rfl
theorem upd_clo (s : St) (d : Nat) (g : Nat) (pre cs post : List PV) : upd s (some d) (.clo g pre cs post) = { s with slots := putD s.slots (some d) (.fn g (pre ++ .ptr d 0 :: post)), boxes := s.boxes.set d (some (.cells cs false)) } := rfl
theorem upd_skip (s : St) (dst : Option Nat) : upd s dst .skip = { s with slots := putD s.slots dst (.tup []) } := rfl

theorem rep_undef (C : Ctx) : Rep C (.tup []) undef := ⟨#[], rfl, rfl⟩

theorem OwnOk.mono {g g' : Gh} {base : Nat} {w w' : World} {v : Value} {z : Nat} (h : OwnOk g base w v z)
    (hw : ∀ B, ownBlock v = some B → w'.heap[B]? = w.heap[B]?) (hs : ∀ B o, ownBlock v = some B → g'.st B o → g.st B o)
    (hb : ∀ d B, ownBlock v = some B → g'.bx d = some B → g.bx d = some B) : OwnOk g' base w' v z := by
  rcases h with h | ⟨B, o, len, cap, us, T, rfl, h2, h3, h4, h5, h6, h7⟩
  · exact .inl h
  · exact .inr ⟨B, o, len, cap, us, T, rfl, h2, by rw [hw B rfl]; exact h3, h4, h5, fun j hj hq => h6 j hj (hs B j rfl hq), fun d hd => h7 d (hb d B rfl hd)⟩

theorem SimG.old {base n : Nat} {w0 : Start} {g : Gh} {s : St} {a : Act} {w : World} (h : SimG base w0 n g s a w) {B : Nat} (hB : w.heap.size ≤ B) : ¬ (w0.far B ∨ w0.fix B) := fun hq => by
  have := Nat.lt_of_lt_of_le (h.quiet B hq).1 h.below.size
  omega

/-- The world turns, and no box, no row of the call's own and nothing that stays. -/
theorem SimG.world {base n : Nat} {w0 : Start} {g : Gh} {s : St} {a : Act} {w w' : World} (h : SimG base w0 n g s a w) (hb : Below w.heap.size w w') (st' : Nat → Nat → Prop)
    (hst : ∀ B o, g.st B o → st' B o) (hnew : ∀ B o, st' B o → g.st B o ∨ w.heap.size ≤ B) (hlt : ∀ B o, st' B o → ∃ us T fr, w'.heap[B]? = some (.cells us T fr) ∧ o < us.size) :
    SimG base w0 n { g with st := st' } s a w' ∧ (ctx s w g).Le (ctx s w' { g with st := st' }) := by
  have hlt' : ∀ B us T fr, w.heap[B]? = some (Obj.cells us T fr) → B < w.heap.size := fun B us T fr e => by
    rcases Nat.lt_or_ge B w.heap.size with h | h
    · exact h
    · rw [Array.getElem?_eq_none h] at e; cases e
  have hle : (ctx s w g).Le (ctx s w' { g with st := st' }) := by
    refine ⟨hst, fun B o hq => ?_, fun _ _ h => h, fun _ _ _ _ h => h, fun _ _ _ => rfl, fun _ _ _ => rfl, fun _ h => h⟩
    obtain ⟨us, T, fr, e, _⟩ := h.stlt B o hq
    exact World.cell?_of_block (w := w) (hb.block B (hlt' _ _ _ _ e))
  refine ⟨?_, hle⟩
  exact
  { ns := h.ns, nb := h.nb, nv := h.nv, slots := h.slots.mono hle, marks := h.marks, base_le := h.base_le
    below := h.below.trans (hb.mono (Nat.le_trans h.base_le (Nat.le_trans h.below.size (Nat.le_refl _))))
    nobox := h.nobox
    cells := fun d cs fz e => by
      obtain ⟨B, us, T, h1, h2, h3, h4, h5, h6⟩ := h.cells d cs fz e
      have hB := hlt' _ _ _ _ h2
      refine ⟨B, us, T, h1, by rw [hb.block B hB]; exact h2, h3, h4.mono hle, fun e o ho => hst _ _ (h5 e o ho), fun e o ho => ?_⟩
      rcases hnew B o ho with hq | hq
      · exact h6 e o hq
      · omega
    rows := fun d ls xs fz e => by
      obtain ⟨B, us, T, rws, h1, h2, h3, h4, h5, h6, h7, h8, h9⟩ := h.rows d ls xs fz e
      have hB := hlt' _ _ _ _ h2
      refine ⟨B, us, T, rws, h1, by rw [hb.block B hB]; exact h2, h3, h4, h5.mono hle, h6, h7, fun e o ho => hst _ _ (h8 e o ho), fun e o ho => ?_⟩
      rcases hnew B o ho with hq | hq
      · exact h9 e o hq
      · omega
    inj := h.inj
    own := fun d => by
      rcases h.own d with hq | ⟨B, o, len, cap, us, T, h1, h2, h3, h4, h5, h6, h7⟩
      · exact .inl hq
      · have hB := hlt' _ _ _ _ h3
        refine .inr ⟨B, o, len, cap, us, T, h1, h2, by rw [hb.block B hB]; exact h3, h4, h5, fun j hj hq => ?_, h7⟩
        rcases hnew B j hq with hq | hq
        · exact h6 j hj hq
        · omega
    apart := h.apart
    stlt := hlt
    news := fun B o ho => (hnew B o ho).elim (h.news B o) fun hq => .inr (Nat.le_trans (Nat.le_trans h.base_le h.below.size) hq)
    kept := fun B o ho => ⟨hst _ _ (h.kept B o ho).1, (hle.cell B o (h.kept B o ho).1).trans (h.kept B o ho).2⟩
    pinned := h.pinned
    quiet := fun B hB => by
      obtain ⟨h1, h2, h3, h4⟩ := h.quiet B hB
      exact ⟨h1, (hb.block B (Nat.lt_of_lt_of_le h1 h.below.size)).trans h2, h3, h4⟩
    yld := h.yld
    newsq := fun B o ho => (hnew B o ho).elim (h.newsq B o) fun hq => .inr (h.old hq) }

theorem block_lt {w : World} {B : Nat} {o : Obj} (e : w.heap[B]? = some o) : B < w.heap.size := by
  rcases Nat.lt_or_ge B w.heap.size with h | h
  · exact h
  · rw [Array.getElem?_eq_none h] at e; cases e

theorem SimG.bx_lt {base n : Nat} {w0 : Start} {g : Gh} {s : St} {a : Act} {w : World} (h : SimG base w0 n g s a w) {d B : Nat} (hB : g.bx d = some B) :
    B < w.heap.size ∧ base ≤ B ∧ ∃ us T, w.heap[B]? = some (.cells us T (0, 0)) := by
  cases hb : s.box d with
  | none => rw [h.nobox d hb] at hB; cases hB
  | some b =>
    cases b with
    | cells cs fz =>
      obtain ⟨B', us, T, h1, h2, h3, _⟩ := h.cells d cs fz hb
      rw [h1] at hB; cases hB
      exact ⟨block_lt h2, h3, us, T, h2⟩
    | row ls xs fz =>
      obtain ⟨B', us, T, rws, h1, h2, h3, _⟩ := h.rows d ls xs fz hb
      rw [h1] at hB; cases hB
      exact ⟨block_lt h2, h3, us, T, h2⟩

theorem SimG.own_lt {base n : Nat} {w0 : Start} {g : Gh} {s : St} {a : Act} {w : World} (h : SimG base w0 n g s a w) {d B : Nat} (hB : ownBlock (g.own d) = some B) :
    B < w.heap.size ∧ base ≤ B ∧ (∀ d', g.bx d' ≠ some B) := by
  rcases h.own d with hq | ⟨B', o, len, cap, us, T, h1, h2, h3, h4, h5, h6, h7⟩
  · rw [hq] at hB; simp [ownBlock] at hB
  · rw [h1] at hB
    simp [ownBlock] at hB
    subst hB
    exact ⟨block_lt h3, h2, h7⟩

/-- A new row of the call's own, or one that has grown: what it was before is told no more as the newest. -/
theorem SimG.tag {base n : Nat} {w0 : Start} {g : Gh} {s : St} {a : Act} {w : World} (h : SimG base w0 n g s a w) {d : Nat} (hd : d < n) {w' : World} {st' : Nat → Nat → Prop} {v : Value} {ls : List LK} {xs : List (List PV)}
    (hb0 : Below base w w') (hblk : ∀ k, k < w.heap.size → ownBlock (g.own d) ≠ some k → w'.heap[k]? = w.heap[k]?)
    (hcell : ∀ B o, g.st B o → w'.cell? ⟨B, o, none⟩ = w.cell? ⟨B, o, none⟩) (hst : ∀ B o, g.st B o → st' B o)
    (hnew : ∀ B o, st' B o → g.st B o ∨ ownBlock (g.own d) = some B ∨ w.heap.size ≤ B)
    (hlt : ∀ B o, st' B o → ∃ us T fr, w'.heap[B]? = some (.cells us T fr) ∧ o < us.size)
    (hown : OwnOk { g with st := st' } base w' v ls.length) (hap : ∀ d' B, d' ≠ d → ownBlock v = some B → ownBlock (g.own d') ≠ some B)
    (hown1 : ∀ B, ownBlock v = some B → ¬ (w0.far B ∨ w0.fix B))
    (hrep : Rep (ctx s w' { g with st := st' }) (.sl none ls xs) v) (dst : Option Nat) :
    SimG base w0 n { g with st := st', own := fun e => if e = d then v else g.own e, osz := fun e => if e = d then ls.length else g.osz e }
      { s with slots := putD s.slots dst (.sl (some (d, s.ver d + 1)) ls xs), vers := s.vers.set d (s.ver d + 1) } (a.put dst v) w' := by
  let g' : Gh := { g with st := st', own := fun e => if e = d then v else g.own e, osz := fun e => if e = d then ls.length else g.osz e }
  let s' : St := { s with slots := putD s.slots dst (.sl (some (d, s.ver d + 1)) ls xs), vers := s.vers.set d (s.ver d + 1) }
  have hver : ∀ e, s'.ver e = if d = e ∧ d < s.vers.length then s.ver d + 1 else s.ver e := fun e => ver_set _ _ _ _
  have htg : ∀ e k z u, (ctx s w g).tg e k z u → (ctx s' w' g').tg e k z u := by
    rintro e k z u ⟨h1, h2⟩
    show k ≤ s'.ver e ∧ (k = s'.ver e → u = (if e = d then v else g.own e) ∧ z = (if e = d then ls.length else g.osz e))
    rw [hver e]
    by_cases he : d = e
    · subst he
      rw [if_pos ⟨rfl, by rw [h.nv]; exact hd⟩]
      exact ⟨by omega, fun hk => by omega⟩
    · rw [if_neg (fun x => he x.1), if_neg (fun x => he x.symm), if_neg (fun x => he x.symm)]
      exact ⟨h1, h2⟩
  have hle : (ctx s w g).Le (ctx s' w' g') := ⟨hst, hcell, fun _ _ h => h, htg, fun _ _ _ => rfl, fun _ _ _ => rfl, fun _ h => h⟩
  have hle' : (ctx s w' { g with st := st' }).Le (ctx s' w' g') := ⟨fun _ _ h => h, fun _ _ _ => rfl, fun _ _ h => h, htg, fun _ _ _ => rfl, fun _ _ _ => rfl, fun _ h => h⟩
  have hvrep : Rep (ctx s' w' g') (.sl (some (d, s.ver d + 1)) ls xs) v := by
    obtain ⟨A, cap, rows, h1, h2, h3, h4, h5, h6, _⟩ := Rep.mono hle' _ _ hrep
    refine ⟨A, cap, rows, h1, h2, h3, h4, h5, h6, fun d' k e => ?_⟩
    cases e
    show s.ver d + 1 ≤ s'.ver d ∧ (s.ver d + 1 = s'.ver d → v = (if d = d then v else g.own d) ∧ ls.length = (if d = d then ls.length else g.osz d))
    rw [hver d, if_pos ⟨rfl, by rw [h.nv]; exact hd⟩, if_pos rfl, if_pos rfl]
    exact ⟨Nat.le_refl _, fun _ => ⟨rfl, rfl⟩⟩
  have hbxne : ∀ e B, g.bx e = some B → ownBlock (g.own d) ≠ some B := fun e B hB hq => (h.own_lt hq).2.2 e hB
  exact
  { ns := by show (putD _ _ _).length = n; rw [putD_length]; exact h.ns
    nb := h.nb
    nv := by show (s.vers.set _ _).length = n; rw [List.length_set]; exact h.nv
    slots := Reps.putD (Reps.mono hle _ _ h.slots) hvrep dst
    marks := by cases dst <;> exact h.marks
    base_le := h.base_le
    below := h.below.trans hb0
    nobox := h.nobox
    cells := fun e cs fz he => by
      obtain ⟨B, us, T, h1, h2, h3, h4, h5, h6⟩ := h.cells e cs fz he
      have hB := block_lt h2
      refine ⟨B, us, T, h1, by rw [hblk B hB (hbxne e B h1)]; exact h2, h3, Reps.mono hle _ _ h4, fun e o ho => hst _ _ (h5 e o ho), fun hf o ho => ?_⟩
      rcases hnew B o ho with hq | hq | hq
      · exact h6 hf o hq
      · exact hbxne e B h1 hq
      · omega
    rows := fun e ls xs fz he => by
      obtain ⟨B, us, T, rws, h1, h2, h3, h4, h5, h6, h7, h8, h9⟩ := h.rows e ls xs fz he
      have hB := block_lt h2
      refine ⟨B, us, T, rws, h1, by rw [hblk B hB (hbxne e B h1)]; exact h2, h3, h4, RepRows.mono hle _ _ h5, h6, h7, fun e o ho => hst _ _ (h8 e o ho), fun hf o ho => ?_⟩
      rcases hnew B o ho with hq | hq | hq
      · exact h9 hf o hq
      · exact hbxne e B h1 hq
      · omega
    inj := h.inj
    own := fun e => by
      show OwnOk g' base w' (if e = d then v else g.own e) (if e = d then ls.length else g.osz e)
      by_cases he : e = d
      · rw [if_pos he, if_pos he]
        exact hown
      · rw [if_neg he, if_neg he]
        refine (h.own e).mono (fun B hB => hblk B (h.own_lt hB).1 fun hq => h.apart e d B he hB hq) (fun B o hB ho => ?_) (fun _ _ _ h => h)
        rcases hnew B o ho with hq | hq | hq
        · exact hq
        · exact absurd hq (h.apart e d B he hB)
        · have := (h.own_lt hB).1
          omega
    apart := fun e e' B hne hB hq => by
      have hB : ownBlock (if e = d then v else g.own e) = some B := hB
      have hq : ownBlock (if e' = d then v else g.own e') = some B := hq
      by_cases he : e = d
      · by_cases he' : e' = d
        · exact hne (he.trans he'.symm)
        · rw [if_pos he] at hB
          rw [if_neg he'] at hq
          exact hap e' B he' hB hq
      · rw [if_neg he] at hB
        by_cases he' : e' = d
        · rw [if_pos he'] at hq
          exact hap e B he hq hB
        · rw [if_neg he'] at hq
          exact h.apart e e' B hne hB hq
    stlt := hlt
    news := fun B o ho => (hnew B o ho).elim (h.news B o) fun hq => hq.elim (fun hq => .inr (h.own_lt hq).2.1) fun hq => .inr (Nat.le_trans (Nat.le_trans h.base_le h.below.size) hq)
    kept := fun B o ho => ⟨hst _ _ (h.kept B o ho).1, (hcell B o (h.kept B o ho).1).trans (h.kept B o ho).2⟩
    pinned := h.pinned
    quiet := fun B hB => by
      obtain ⟨h1, h2, h3, h4⟩ := h.quiet B hB
      have h1' := Nat.lt_of_lt_of_le h1 h.below.size
      refine ⟨h1, (hblk B h1' (h4 d)).trans h2, h3, fun e => ?_⟩
      show ownBlock (if e = d then v else g.own e) ≠ some B
      by_cases he : e = d
      · rw [if_pos he]
        intro hq
        exact hown1 B hq hB
      · rw [if_neg he]; exact h4 e
    yld := h.yld
    newsq := fun B o ho => (hnew B o ho).elim (h.newsq B o) fun hq => hq.elim (fun hq => .inr fun hQ => (h.quiet B hQ).2.2.2 d hq) fun hq => .inr (h.old hq) }

theorem rowSize_freeze (b : Option Box) : rowSize (freezeBox b) = rowSize b := by
  cases b with
  | none => rfl
  | some b => cases b <;> rfl
theorem rowLen_freeze (b : Option Box) : rowLen (freezeBox b) = rowLen b := by
  cases b with
  | none => rfl
  | some b => cases b <;> rfl

/-- A variable that is written no more: its cells stay. -/
theorem SimG.freeze1 {base n : Nat} {w0 : Start} {g : Gh} {s : St} {a : Act} {w : World} (h : SimG base w0 n g s a w) (d : Nat) :
    ∃ g', SimG base w0 n g' { s with boxes := s.boxes.set d (freezeBox (s.box d)) } a w ∧ (ctx s w g).Le (ctx { s with boxes := s.boxes.set d (freezeBox (s.box d)) } w g') ∧ g'.bx = g.bx ∧
      ∀ B, g.bx d = some B → ∀ us T fr, w.heap[B]? = some (.cells us T fr) → ∀ o, o < us.size → g'.st B o := by
  let s' : St := { s with boxes := s.boxes.set d (freezeBox (s.box d)) }
  let g' : Gh := { g with st := fun B o => g.st B o ∨ (g.bx d = some B ∧ ∃ us T fr, w.heap[B]? = some (.cells us T fr) ∧ o < us.size) }
  have hbox : ∀ e, s'.box e = if d = e ∧ d < s.boxes.length then freezeBox (s.box d) else s.box e := fun e => get_set _ _ _ _
  have hbox' : ∀ e, s'.box e = s.box e ∨ (e = d ∧ s'.box e = freezeBox (s.box e)) := fun e => by
    rw [hbox e]
    split
    · rename_i q
      rw [← q.1]
      exact .inr ⟨rfl, rfl⟩
    · exact .inl rfl
  have hle : (ctx s w g).Le (ctx s' w g') := by
    refine ⟨fun _ _ h => .inl h, fun _ _ _ => rfl, fun _ _ h => h, fun _ _ _ _ h => h, fun e _ _ => ?_, fun e _ _ => ?_, fun _ h => h⟩
    · show rowSize (s'.box e) = rowSize (s.box e)
      rcases hbox' e with hq | ⟨_, hq⟩
      · rw [hq]
      · rw [hq, rowSize_freeze]
    · show rowLen (s'.box e) = rowLen (s.box e)
      rcases hbox' e with hq | ⟨_, hq⟩
      · rw [hq]
      · rw [hq, rowLen_freeze]
  refine ⟨g', ?_, hle, rfl, fun B hB us T fr hh o ho => .inr ⟨hB, us, T, fr, hh, ho⟩⟩
  exact
  { ns := h.ns
    nb := by show (s.boxes.set _ _).length = n; rw [List.length_set]; exact h.nb
    nv := h.nv
    slots := Reps.mono hle _ _ h.slots
    marks := h.marks
    base_le := h.base_le
    below := h.below
    nobox := fun e he => by
      refine h.nobox e ?_
      rcases hbox' e with hq | ⟨_, hq⟩
      · rw [← hq]; exact he
      · rw [hq] at he
        cases hs : s.box e with
        | none => rfl
        | some b => rw [hs] at he; cases b <;> simp [freezeBox] at he
    cells := fun e cs fz he => by
      have key : ∃ fz0, s.box e = some (.cells cs fz0) ∧ (fz = fz0 ∨ (e = d ∧ fz = true)) := by
        rcases hbox' e with hq | ⟨hed, hq⟩
        · exact ⟨fz, by rw [← hq]; exact he, .inl rfl⟩
        · rw [hq] at he
          cases hs : s.box e with
          | none => rw [hs] at he; cases he
          | some b =>
            rw [hs] at he
            cases b with
            | cells cs' f' =>
              simp only [freezeBox, Option.some.injEq, Box.cells.injEq] at he
              exact ⟨f', by rw [he.1], .inr ⟨hed, he.2.symm⟩⟩
            | row ls xs f => simp [freezeBox] at he
      obtain ⟨fz0, hs, hfz⟩ := key
      obtain ⟨B, us, T, h1, h2, h3, h4, h5, h6⟩ := h.cells e cs fz0 hs
      refine ⟨B, us, T, h1, h2, h3, Reps.mono hle _ _ h4, fun hf o ho => ?_, fun hf o ho => ?_⟩
      · rcases hfz with hfz | ⟨hed, _⟩
        · exact .inl (h5 (hfz ▸ hf) o ho)
        · exact .inr ⟨hed ▸ h1, us, T, _, h2, ho⟩
      · rcases hfz with hfz | ⟨_, hfz⟩
        · rcases ho with ho | ⟨ho, us', T', fr', h2', ho'⟩
          · exact h6 (hfz ▸ hf) o ho
          · have hed : d = e := h.inj d e B ho h1
            -- box d was frozen just now, but this one is not
            rcases hbox' e with hq | ⟨_, hq⟩
            · have := hbox e
              by_cases hl : d < s.boxes.length
              · rw [if_pos ⟨hed, hl⟩, hed, hs] at this
                rw [this] at he
                simp only [freezeBox, Option.some.injEq, Box.cells.injEq] at he
                rw [hf] at he
                cases he.2
              · have hnone : s.box e = none := by
                  unfold St.box
                  rw [List.getD_eq_getElem?_getD, List.getElem?_eq_none (by omega)]
                  rfl
                rw [hnone] at hs; cases hs
            · rw [hq, hs] at he
              simp only [freezeBox, Option.some.injEq, Box.cells.injEq] at he
              rw [hf] at he
              cases he.2
        · rw [hf] at hfz; cases hfz
    rows := fun e ls xs fz he => by
      have key : ∃ fz0, s.box e = some (.row ls xs fz0) ∧ (fz = fz0 ∨ (e = d ∧ fz = true)) := by
        rcases hbox' e with hq | ⟨hed, hq⟩
        · exact ⟨fz, by rw [← hq]; exact he, .inl rfl⟩
        · rw [hq] at he
          cases hs : s.box e with
          | none => rw [hs] at he; cases he
          | some b =>
            rw [hs] at he
            cases b with
            | cells cs' f' => simp [freezeBox] at he
            | row ls' xs' f =>
              simp only [freezeBox, Option.some.injEq, Box.row.injEq] at he
              exact ⟨f, by rw [he.1, he.2.1], .inr ⟨hed, he.2.2.symm⟩⟩
      obtain ⟨fz0, hs, hfz⟩ := key
      obtain ⟨B, us, T, rws, h1, h2, h3, h4, h5, h6, h7, h8, h9⟩ := h.rows e ls xs fz0 hs
      refine ⟨B, us, T, rws, h1, h2, h3, h4, RepRows.mono hle _ _ h5, h6, h7, fun hf o ho => ?_, fun hf o ho => ?_⟩
      · rcases hfz with hfz | ⟨hed, _⟩
        · exact .inl (h8 (hfz ▸ hf) o ho)
        · exact .inr ⟨hed ▸ h1, us, T, _, h2, ho⟩
      · rcases hfz with hfz | ⟨_, hfz⟩
        · rcases ho with ho | ⟨ho, us', T', fr', h2', ho'⟩
          · exact h9 (hfz ▸ hf) o ho
          · have hed : d = e := h.inj d e B ho h1
            have := hbox e
            by_cases hl : d < s.boxes.length
            · rw [if_pos ⟨hed, hl⟩, hed, hs] at this
              rw [this] at he
              simp only [freezeBox, Option.some.injEq, Box.row.injEq] at he
              rw [hf] at he
              cases he.2.2
            · have hnone : s.box e = none := by
                unfold St.box
                rw [List.getD_eq_getElem?_getD, List.getElem?_eq_none (by omega)]
                rfl
              rw [hnone] at hs; cases hs
        · rw [hf] at hfz; cases hfz
    inj := h.inj
    own := fun e => (h.own e).mono (fun _ _ => rfl) (fun B o hB ho => by
      rcases ho with ho | ⟨ho, _⟩
      · exact ho
      · exact absurd ho ((h.own_lt hB).2.2 d)) (fun _ _ _ h => h)
    apart := h.apart
    news := fun B o ho => ho.elim (h.news B o) fun hq => .inr (h.bx_lt hq.1).2.1
    stlt := fun B o ho => by
      rcases ho with ho | ⟨_, us, T, fr, h1, h2⟩
      · exact h.stlt B o ho
      · exact ⟨us, T, fr, h1, h2⟩
    kept := fun B o ho => ⟨.inl (h.kept B o ho).1, (h.kept B o ho).2⟩
    pinned := h.pinned
    quiet := h.quiet
    yld := h.yld
    newsq := fun B o ho => ho.elim (h.newsq B o) fun hq => .inr fun hQ => (h.quiet B hQ).2.2.1 d hq.1 }

theorem SimG.freeze {base n : Nat} {w0 : Start} {a : Act} {w : World} : ∀ (ds : List Nat) {g : Gh} {s : St} (h : SimG base w0 n g s a w),
    ∃ g', SimG base w0 n g' { s with boxes := edit s.boxes (ds.map fun d => (d, freezeBox)) } a w ∧ (ctx s w g).Le (ctx { s with boxes := edit s.boxes (ds.map fun d => (d, freezeBox)) } w g') ∧ g'.bx = g.bx ∧
      ∀ d, d ∈ ds → ∀ B, g.bx d = some B → ∀ us T fr, w.heap[B]? = some (.cells us T fr) → ∀ o, o < us.size → g'.st B o
  | [], g, s, h => ⟨g, h, Ctx.Le.refl _, rfl, fun d hd => by cases hd⟩
  | d :: ds, g, s, h => by
    obtain ⟨g1, h1, l1, b1, c1⟩ := h.freeze1 d
    obtain ⟨g2, h2, l2, b2, c2⟩ := SimG.freeze ds h1
    refine ⟨g2, h2, l1.trans l2, b2.trans b1, fun e he B hB us T fr hh o ho => ?_⟩
    rcases List.mem_cons.1 he with rfl | he
    · exact l2.st _ _ (c1 B hB us T fr hh o ho)
    · exact c2 e he B (by rw [b1]; exact hB) us T fr hh o ho

end Go.Pew

namespace Go.Pew
set_option linter.unusedSimpArgs false
set_option linter.unusedVariables false
open Go.RowKit
set_option linter.unusedVariables false
set_option linter.unusedSimpArgs false

/-- A block that nobody else writes becomes variable d, or row d. -/
theorem SimG.adopt {base n : Nat} {w0 : Start} {g : Gh} {s : St} {a : Act} {w : World} (h : SimG base w0 n g s a w) {d : Nat} (hd : d < n) (hfree : s.box d = none) {us : Array Value} {T : TypeId} {b : Box} {p : PV} {v : Value} {BN : Nat}
    (hnewb : w.heap[BN]? = some (.cells us T (0, 0))) (hbase : base ≤ BN) (hnbx : ∀ e, g.bx e ≠ some BN) (hnown : ∀ e, ownBlock (g.own e) ≠ some BN) (hnst : ∀ o, ¬ g.st BN o) (hnq : ¬ (w0.far BN ∨ w0.fix BN))
    (hb : (∃ cs, b = .cells cs false ∧ Reps (ctx s w g) cs us.toList) ∨
      (∃ ls xs rws, b = .row ls xs false ∧ us.toList = rws.flatten ∧ RepRows (ctx s w g) xs rws ∧ (∀ r ∈ rws, r.length = ls.length) ∧ (∀ x ∈ xs, confs ls x = true)))
    (hp : ∀ C' : Ctx, (ctx s w g).Le C' → C'.bx d = some BN → C'.rl d = rowLen (some b) → Rep C' p v) (dst : Option Nat) :
    SimG base w0 n { g with bx := fun e => if e = d then some BN else g.bx e }
      { s with slots := putD s.slots dst p, boxes := s.boxes.set d (some b) } (a.put dst v) w := by
  let g' : Gh := { g with bx := fun e => if e = d then some BN else g.bx e }
  let s' : St := { s with slots := putD s.slots dst p, boxes := s.boxes.set d (some b) }
  have hnone : g.bx d = none := h.nobox d hfree
  have hdl : d < s.boxes.length := by rw [h.nb]; exact hd
  have hbox : ∀ e, s'.box e = if d = e then some b else s.box e := fun e => by
    have : s'.box e = if d = e ∧ d < s.boxes.length then some b else s.box e := get_set _ _ _ _
    rw [this]
    by_cases q : d = e
    · rw [if_pos ⟨q, hdl⟩, if_pos q]
    · rw [if_neg (fun x => q x.1), if_neg q]
  have hle : (ctx s w g).Le (ctx s' w g') := by
    refine ⟨fun _ _ h => h, fun B o ho => rfl, fun e B he => ?_, fun _ _ _ _ h => h, fun e B he => ?_, fun e B he => ?_, fun _ h => h⟩
    · show (if e = d then some BN else g.bx e) = some B
      have he : g.bx e = some B := he
      by_cases q : e = d
      · rw [q, hnone] at he; cases he
      · rw [if_neg q]; exact he
    · show rowSize (s'.box e) = rowSize (s.box e)
      have he : g.bx e = some B := he
      rw [hbox e, if_neg (fun q => by rw [← q, hnone] at he; cases he)]
    · show rowLen (s'.box e) = rowLen (s.box e)
      have he : g.bx e = some B := he
      rw [hbox e, if_neg (fun q => by rw [← q, hnone] at he; cases he)]
  have hprep : Rep (ctx s' w g') p v := hp _ hle (if_pos rfl) (by
    show rowLen (s'.box d) = _
    rw [hbox d, if_pos rfl])
  exact
  { ns := by show (putD _ _ _).length = n; rw [putD_length]; exact h.ns
    nb := by show (s.boxes.set _ _).length = n; rw [List.length_set]; exact h.nb
    nv := h.nv
    slots := Reps.putD (Reps.mono hle _ _ h.slots) hprep dst
    marks := by cases dst <;> exact h.marks
    base_le := h.base_le
    below := h.below
    nobox := fun e he => by
      rw [hbox e] at he
      show (if e = d then some BN else g.bx e) = none
      by_cases q : d = e
      · rw [if_pos q] at he; cases he
      · rw [if_neg q] at he
        rw [if_neg (fun x => q x.symm)]
        exact h.nobox e he
    cells := fun e cs fz he => by
      rw [hbox e] at he
      by_cases q : d = e
      · rw [if_pos q] at he
        rcases hb with ⟨cs', rfl, hr⟩ | ⟨ls, xs, rws, rfl, _⟩
        · cases he
          exact ⟨BN, us, T, if_pos q.symm, hnewb, hbase, Reps.mono hle _ _ hr, (fun hf => by cases hf), fun _ => hnst⟩
        · cases he
      · rw [if_neg q] at he
        obtain ⟨B, us', T', h1, h2, h3, h4, h5, h6⟩ := h.cells e cs fz he
        exact ⟨B, us', T', (if_neg (fun x => q x.symm)).trans h1, h2, h3, Reps.mono hle _ _ h4, h5, h6⟩
    rows := fun e ls xs fz he => by
      rw [hbox e] at he
      by_cases q : d = e
      · rw [if_pos q] at he
        rcases hb with ⟨cs', rfl, hr⟩ | ⟨ls', xs', rws, rfl, e1, e2, e3, e4⟩
        · cases he
        · cases he
          exact ⟨BN, us, T, rws, if_pos q.symm, hnewb, hbase, e1, RepRows.mono hle _ _ e2, e3, e4, (fun hf => by cases hf), fun _ => hnst⟩
      · rw [if_neg q] at he
        obtain ⟨B, us', T', rws, h1, h2, h3, h4, h5, h6, h7, h8, h9⟩ := h.rows e ls xs fz he
        exact ⟨B, us', T', rws, (if_neg (fun x => q x.symm)).trans h1, h2, h3, h4, RepRows.mono hle _ _ h5, h6, h7, h8, h9⟩
    inj := fun e e' B he he' => by
      have he : (if e = d then some BN else g.bx e) = some B := he
      have he' : (if e' = d then some BN else g.bx e') = some B := he'
      by_cases q : e = d
      · by_cases q' : e' = d
        · exact q.trans q'.symm
        · rw [if_pos q] at he; rw [if_neg q'] at he'
          cases he
          exact absurd he' (hnbx e')
      · rw [if_neg q] at he
        by_cases q' : e' = d
        · rw [if_pos q'] at he'
          cases he'
          exact absurd he (hnbx e)
        · rw [if_neg q'] at he'
          exact h.inj e e' B he he'
    own := fun e => (h.own e).mono (fun B hB => rfl) (fun _ _ _ h => h) (fun e' B hB he' => by
      have he' : (if e' = d then some BN else g.bx e') = some B := he'
      by_cases q : e' = d
      · rw [if_pos q] at he'
        cases he'
        exact absurd hB (hnown e)
      · rw [if_neg q] at he'; exact he')
    apart := h.apart
    news := h.news
    stlt := h.stlt
    kept := h.kept
    pinned := fun e B he => hle.bx e B (h.pinned e B he)
    quiet := fun B hB => by
      obtain ⟨h1, h2, h3, h4⟩ := h.quiet B hB
      refine ⟨h1, h2, fun e => ?_, h4⟩
      show (if e = d then some BN else g.bx e) ≠ some B
      by_cases q : e = d
      · rw [if_pos q]; intro r; cases r; exact hnq hB
      · rw [if_neg q]; exact h3 e
    yld := h.yld
    newsq := h.newsq }

/-- A new block. -/
theorem SimG.newBlk {base n : Nat} {w0 : Start} {g : Gh} {s : St} {a : Act} {w : World} (h : SimG base w0 n g s a w) (us : Array Value) (T : TypeId) :
    SimG base w0 n g s a (w.alloc (.cells us T)) ∧ (ctx s w g).Le (ctx s (w.alloc (.cells us T)) g) := by
  have := h.world (w' := w.alloc (.cells us T)) ((Below.refl _ _).alloc (Nat.le_refl _) _) g.st (fun _ _ h => h) (fun _ _ h => .inl h) fun B o ho => by
    obtain ⟨us', T', fr, e, hl⟩ := h.stlt B o ho
    exact ⟨us', T', fr, by rw [Below.heap_alloc w _ B (block_lt e)]; exact e, hl⟩
  exact this

/-- A new variable, or a new row of the call's own that is stored into: box d. -/
theorem SimG.newBox {base n : Nat} {w0 : Start} {g : Gh} {s : St} {a : Act} {w : World} (h : SimG base w0 n g s a w) {d : Nat} (hd : d < n) (hfree : s.box d = none) {us : Array Value} {T : TypeId} {b : Box} {p : PV} {v : Value}
    (hv : v = .pointer (some ⟨w.heap.size, 0, none⟩) ∨ v = .slice (some ⟨w.heap.size, 0, none⟩) (rowLen (some b)) (rowLen (some b)))
    (hb : (∃ cs, b = .cells cs false ∧ p = .ptr d 0 ∧ v = .pointer (some ⟨w.heap.size, 0, none⟩) ∧ Reps (ctx s w g) cs us.toList) ∨
      (∃ ls xs rws, b = .row ls xs false ∧ p = .row d ∧ v = .slice (some ⟨w.heap.size, 0, none⟩) xs.length xs.length ∧ us.toList = rws.flatten ∧ RepRows (ctx s w g) xs rws ∧ (∀ r ∈ rws, r.length = ls.length) ∧ (∀ x ∈ xs, confs ls x = true))) (dst : Option Nat) :
    SimG base w0 n { g with bx := fun e => if e = d then some w.heap.size else g.bx e }
      { s with slots := putD s.slots dst p, boxes := s.boxes.set d (some b) } (a.put dst v) (w.alloc (.cells us T)) := by
  obtain ⟨h1, l1⟩ := h.newBlk us T
  refine h1.adopt hd hfree (heap_alloc_new w _) (Nat.le_trans h.base_le h.below.size) (fun e q => absurd (h.bx_lt q).1 (Nat.lt_irrefl _)) (fun e q => absurd (h.own_lt q).1 (Nat.lt_irrefl _))
    (fun o ho => by
      obtain ⟨us, T, fr, e, _⟩ := h.stlt _ o ho
      exact absurd (block_lt e) (Nat.lt_irrefl _))
    (fun q => absurd (Nat.lt_of_lt_of_le (h.quiet _ q).1 h.below.size) (Nat.lt_irrefl _)) ?_ ?_ dst
  · rcases hb with ⟨cs, rfl, rfl, rfl, h1⟩ | ⟨ls, xs, rws, rfl, rfl, rfl, h1, h2, h3, h4⟩
    · exact .inl ⟨cs, rfl, Reps.mono l1 _ _ h1⟩
    · exact .inr ⟨ls, xs, rws, rfl, h1, RepRows.mono l1 _ _ h2, h3, h4⟩
  · intro C' hl hbx hrl
    rcases hb with ⟨cs, rfl, rfl, rfl, _⟩ | ⟨ls, xs, rws, rfl, rfl, rfl, _⟩
    · exact ⟨w.heap.size, hbx, rfl⟩
    · refine ⟨w.heap.size, hbx, ?_⟩
      rw [hrl]
      rfl

/-- A store into a variable: its block is written anew. -/
theorem SimG.store {base n : Nat} {w0 : Start} {g : Gh} {s : St} {a : Act} {w : World} (h : SimG base w0 n g s a w) {d B : Nat} (hB : g.bx d = some B) {us us' : Array Value} {T : TypeId} (hh : w.heap[B]? = some (.cells us T (0, 0)))
    {b b' : Box} (hs : s.box d = some b) (hsz : us'.size = us.size)
    (hb : (∃ cs cs', b = .cells cs false ∧ b' = .cells cs' false ∧ Reps (ctx s w g) cs' us'.toList) ∨
      (∃ ls xs xs' rws, b = .row ls xs false ∧ b' = .row ls xs' false ∧ xs'.length = xs.length ∧ us'.toList = rws.flatten ∧ RepRows (ctx s w g) xs' rws ∧ (∀ r ∈ rws, r.length = ls.length) ∧ (∀ x ∈ xs', confs ls x = true))) :
    SimG base w0 n g { s with boxes := s.boxes.set d (some b') } a (w.setRow B us') := by
  let s' : St := { s with boxes := s.boxes.set d (some b') }
  let w' : World := w.setRow B us'
  have hdl : d < s.boxes.length := by
    rcases Nat.lt_or_ge d s.boxes.length with q | q
    · exact q
    · have : s.box d = none := by unfold St.box; rw [List.getD_eq_getElem?_getD, List.getElem?_eq_none q]; rfl
      rw [this] at hs; cases hs
  have hbox : ∀ e, s'.box e = if d = e then some b' else s.box e := fun e => by
    have : s'.box e = if d = e ∧ d < s.boxes.length then some b' else s.box e := get_set _ _ _ _
    rw [this]
    by_cases q : d = e
    · rw [if_pos ⟨q, hdl⟩, if_pos q]
    · rw [if_neg (fun x => q x.1), if_neg q]
  have hnew : w'.heap[B]? = some (.cells us' T (0, 0)) := setRow_heap w B us us' T (0, 0) hh
  have hold : ∀ k, k ≠ B → w'.heap[k]? = w.heap[k]? := fun k hk => setRow_other w B k us' hk
  have hnst : ∀ o, ¬ g.st B o := by
    rcases hb with ⟨cs, cs', rfl, _⟩ | ⟨ls, xs, xs', rws, rfl, _⟩
    · obtain ⟨B', us1, T1, h1, h2, h3, h4, h5, h6⟩ := h.cells d cs false hs
      rw [h1] at hB; cases hB
      exact h6 rfl
    · obtain ⟨B', us1, T1, rws1, h1, h2, h3, h4, h5, h6, h7, h8, h9⟩ := h.rows d ls xs false hs
      rw [h1] at hB; cases hB
      exact h9 rfl
  have hrs : rowSize (some b') = rowSize (some b) ∧ rowLen (some b') = rowLen (some b) := by
    rcases hb with ⟨cs, cs', rfl, rfl, _⟩ | ⟨ls, xs, xs', rws, rfl, rfl, hl, _⟩
    · exact ⟨rfl, rfl⟩
    · exact ⟨rfl, hl⟩
  have hle : (ctx s w g).Le (ctx s' w' g) := by
    refine ⟨fun _ _ h => h, fun B' o ho => World.cell?_of_block (w := w) (hold B' (fun q => hnst o (q ▸ ho))), fun _ _ h => h, fun _ _ _ _ h => h, fun e B' he => ?_, fun e B' he => ?_, fun _ h => h⟩
    · show rowSize (s'.box e) = rowSize (s.box e)
      rw [hbox e]
      split
      · rename_i q; rw [← q, hs]; exact hrs.1
      · rfl
    · show rowLen (s'.box e) = rowLen (s.box e)
      rw [hbox e]
      split
      · rename_i q; rw [← q, hs]; exact hrs.2
      · rfl
  have hne : ∀ e B', d ≠ e → g.bx e = some B' → B' ≠ B := fun e B' q he r => q (h.inj d e B hB (r ▸ he))
  exact
  { ns := h.ns
    nb := by show (s.boxes.set _ _).length = n; rw [List.length_set]; exact h.nb
    nv := h.nv
    slots := Reps.mono hle _ _ h.slots
    marks := h.marks
    base_le := h.base_le
    below := h.below.trans ⟨rfl, rfl, rfl, by simp [World.setRow], fun k hk => hold k (by have := (h.bx_lt hB).2.1; omega)⟩
    nobox := fun e he => by
      rw [hbox e] at he
      by_cases q : d = e
      · rw [if_pos q] at he; cases he
      · rw [if_neg q] at he; exact h.nobox e he
    cells := fun e cs fz he => by
      rw [hbox e] at he
      by_cases q : d = e
      · rw [if_pos q] at he
        rcases hb with ⟨cs0, cs', rfl, rfl, hr⟩ | ⟨ls, xs, xs', rws, rfl, rfl, _⟩
        · cases he
          exact ⟨B, us', T, q ▸ hB, hnew, (h.bx_lt hB).2.1, Reps.mono hle _ _ hr, (fun hf => by cases hf), fun _ => hnst⟩
        · cases he
      · rw [if_neg q] at he
        obtain ⟨B', us1, T', h1, h2, h3, h4, h5, h6⟩ := h.cells e cs fz he
        exact ⟨B', us1, T', h1, by rw [hold B' (hne e B' q h1)]; exact h2, h3, Reps.mono hle _ _ h4, h5, h6⟩
    rows := fun e ls xs fz he => by
      rw [hbox e] at he
      by_cases q : d = e
      · rw [if_pos q] at he
        rcases hb with ⟨cs0, cs', rfl, rfl, hr⟩ | ⟨ls', xs0, xs', rws, rfl, rfl, hl, e1, e2, e3, e4⟩
        · cases he
        · cases he
          exact ⟨B, us', T, rws, q ▸ hB, hnew, (h.bx_lt hB).2.1, e1, RepRows.mono hle _ _ e2, e3, e4, (fun hf => by cases hf), fun _ => hnst⟩
      · rw [if_neg q] at he
        obtain ⟨B', us1, T', rws, h1, h2, h3, h4, h5, h6, h7, h8, h9⟩ := h.rows e ls xs fz he
        exact ⟨B', us1, T', rws, h1, by rw [hold B' (hne e B' q h1)]; exact h2, h3, h4, RepRows.mono hle _ _ h5, h6, h7, h8, h9⟩
    inj := h.inj
    own := fun e => (h.own e).mono (fun B' hB' => hold B' (fun q => (h.own_lt hB').2.2 d (q ▸ hB))) (fun _ _ _ h => h) (fun _ _ _ h => h)
    apart := h.apart
    news := h.news
    stlt := fun B' o ho => by
      obtain ⟨us1, T', fr, e, hl⟩ := h.stlt B' o ho
      exact ⟨us1, T', fr, by rw [hold B' (fun q => hnst o (q ▸ ho))]; exact e, hl⟩
    kept := fun B' o ho => ⟨(h.kept B' o ho).1, (hle.cell B' o (h.kept B' o ho).1).trans (h.kept B' o ho).2⟩
    pinned := h.pinned
    quiet := fun B' hB' => by
      obtain ⟨h1, h2, h3, h4⟩ := h.quiet B' hB'
      exact ⟨h1, (hold B' (fun q => h3 d (q ▸ hB))).trans h2, h3, h4⟩
    yld := h.yld
    newsq := h.newsq }

/-! ### cells put over others -/
theorem Reps.over {C : Ctx} : ∀ {vs : List PV} {us : List Value} {cs : List PV} {ws : List Value} (off : Nat), Reps C cs ws → Reps C vs us → off + vs.length ≤ cs.length →
    Reps C (Pew.over cs off vs) (ws.take off ++ us ++ ws.drop (off + us.length))
  | [], us, cs, ws, off, hc, hv, hl => by
    rw [Reps] at hv; subst hv
    simpa [Pew.over] using hc
  | v :: vs, us, cs, ws, off, hc, hv, hl => by
    rw [Reps] at hv
    obtain ⟨u, us, rfl, h1, h2⟩ := hv
    have hlen := hc.length
    simp only [List.length_cons] at hl
    have ih := Reps.over (off + 1) (hc.set h1 off) h2 (by rw [List.length_set]; omega)
    show Reps C (Pew.over (cs.set off v) (off + 1) vs) _
    have e : (ws.set off u).take (off + 1) ++ us ++ (ws.set off u).drop (off + 1 + us.length) = ws.take off ++ (u :: us) ++ ws.drop (off + (u :: us).length) := by
      have hoff : off < ws.length := by omega
      rw [List.take_set, List.drop_set]
      rw [if_pos (by omega)]
      have : (ws.take (off + 1)).set off u = ws.take off ++ [u] := by
        rw [List.take_succ_eq_append_getElem hoff, List.set_append, if_neg (by simp; omega)]
        simp [List.length_take, Nat.min_eq_left (Nat.le_of_lt hoff)]
      rw [this]
      simp [Nat.add_assoc, Nat.add_comm 1]
    rw [← e]
    exact ih

theorem over_length : ∀ (vs : List PV) (cs : List PV) (off : Nat), (over cs off vs).length = cs.length
  | [], cs, off => rfl
  | v :: vs, cs, off => by
    show (over (cs.set off v) (off + 1) vs).length = _
    rw [over_length, List.length_set]

end Go.Pew

namespace Go.Pew
set_option linter.unusedSimpArgs false
set_option linter.unusedVariables false
open Go.RowKit
set_option linter.unusedVariables false
set_option linter.unusedSimpArgs false

def aggDesc : TypeDesc → Bool
  | .struct _ => true
  | .array _ _ => true
  | _ => false

structure TyOk (P : Program) (t : Nat) (ti : TI) : Prop where
  info : ∃ i z, P.info? t = some i ∧ i.size = ti.size ∧ i.bytes = ti.bytes ∧ i.zero = some z ∧ ∀ C, Reps C ti.zero z.cells.toList
  und : P.underlying t = some ti.desc
  agg : ti.agg = aggDesc ti.desc
  lk : ti.lk.length = ti.size
  zl : ti.zero.length = ti.size

section
variable {P : Program} {t : Nat} {ti : TI}

theorem TyOk.run_sizeOf (h : TyOk P t ti) (w : World) : (sizeOf t).run P w = .ok ti.size w := by
  obtain ⟨i, z, h1, h2, _⟩ := h.info
  simp [sizeOf, typeInfo, h1, h2]

theorem TyOk.run_und (h : TyOk P t ti) (w : World) : (underlying t).run P w = .ok ti.desc w := Go.run_underlying h.und w

theorem TyOk.run_isAgg (h : TyOk P t ti) (w : World) : (isAgg t).run P w = .ok ti.agg w := by
  unfold isAgg
  rw [Sem.run_bind, h.run_und w, h.agg]
  cases ti.desc <;> rfl

theorem TyOk.run_bytes (h : TyOk P t ti) (w : World) : ((fun i => i.bytes) <$> typeInfo t).run P w = .ok ti.bytes w := by
  obtain ⟨i, z, h1, h2, h3, _⟩ := h.info
  simp [typeInfo, h1, h3]

theorem addr_add (B o j : Nat) : (⟨B, o, none⟩ : Addr).add j = ⟨B, o + j, none⟩ := by
  unfold Addr.add
  split
  · rename_i h; simp [h]
  · rfl

/-- Part of some cells, as the machine's value. -/
def partVal (ti : TI) (us : List Value) (off : Nat) : Value := if ti.agg then .agg ((us.drop off).take ti.size).toArray else us.getD off undef

theorem TyOk.run_loadVar (h : TyOk P t ti) {w : World} {B o off : Nat} {us : List Value} (hu : ∀ j u, us[j]? = some u → w.cell? ⟨B, o + j, none⟩ = some u)
    (hf : if ti.agg then off + ti.size ≤ us.length else off < us.length) : (loadVar t ⟨B, o + off, none⟩).run P w = .ok (partVal ti us off) w := by
  unfold loadVar
  rw [Sem.run_bind, h.run_isAgg w]
  simp only [Result.andThen_ok]
  cases hq : ti.agg with
  | true =>
    rw [hq] at hf
    simp only [if_true] at hf
    simp only [if_true, Sem.run_bind, h.run_sizeOf w, Result.andThen_ok]
    have hl : ((us.drop off).take ti.size).length = ti.size := by simp; omega
    have := run_loadCells_list (P := P) w ⟨B, o + off, none⟩ ((us.drop off).take ti.size) (fun j v hv => by
      rw [addr_add, Nat.add_assoc]
      simp only [List.getElem?_take, List.getElem?_drop] at hv
      split at hv
      · exact hu _ _ hv
      · cases hv)
    rw [hl] at this
    rw [this]
    simp [partVal, hq]
  | false =>
    rw [hq] at hf
    simp only [Bool.false_eq_true, if_false] at hf
    have hc := hu off us[off] (by simp [hf])
    simp [hc, partVal, hq, hf]

theorem Rep.part {C : Ctx} {cs : List PV} {us : List Value} (hr : Reps C cs us) {off : Nat} (hf : partFits ti cs off = true) : Rep C (partPV ti cs off) (partVal ti us off) := by
  have hl := hr.length
  unfold partPV partVal
  unfold partFits at hf
  cases hq : ti.agg with
  | true =>
    simp only [if_true]
    exact ⟨_, rfl, by simpa using (hr.drop off).take ti.size⟩
  | false =>
    rw [hq] at hf
    simp at hf
    simp only [Bool.false_eq_true, if_false]
    have : us[off]? = some us[off] := by simp [hl, hf]
    have := hr.get off _ this
    simpa [hl, hf] using this

theorem partFits_us {C : Ctx} {cs : List PV} {us : List Value} (hr : Reps C cs us) {off : Nat} (hf : partFits ti cs off = true) : if ti.agg then off + ti.size ≤ us.length else off < us.length := by
  have hl := hr.length
  unfold partFits at hf
  cases hq : ti.agg <;> simp [hq] at hf ⊢ <;> omega

theorem TyOk.run_part (h : TyOk P t ti) {w : World} {us : Array Value} {off : Nat} (hf : if ti.agg then off + ti.size ≤ us.toList.length else off < us.toList.length) :
    (part t us off).run P w = .ok (partVal ti us.toList off) w := by
  unfold part
  rw [Sem.run_bind, h.run_isAgg w]
  simp only [Result.andThen_ok]
  cases hq : ti.agg with
  | true =>
    simp only [if_true, Sem.run_bind, h.run_sizeOf w, Result.andThen_ok, Sem.run_pure, partVal, hq]
    congr 2
    apply Array.ext'
    simp [Array.toList_extract, List.extract_eq_take_drop, Nat.add_sub_cancel_left]
  | false =>
    rw [hq] at hf
    simp at hf
    simp [partVal, hq, hf]

end

/-! ### what does not lean on variables -/
structure Ctx.Le0 (C C' : Ctx) : Prop where
  st : ∀ B o, C.st B o → C'.st B o
  cell : ∀ B o, C.st B o → C'.w.cell? ⟨B, o, none⟩ = C.w.cell? ⟨B, o, none⟩

theorem Ctx.Le0.reads {C C' : Ctx} (h : C.Le0 C') {B o : Nat} {us : List Value} (r : C.reads B o us) : C'.reads B o us := fun j u hj => by
  obtain ⟨h1, h2⟩ := r j u hj
  exact ⟨(h.cell _ _ h2).trans h1, h.st _ _ h2⟩

theorem conf_plain {l : LK} {p : PV} (h : conf l p = true) : plain p = true := by
  cases l <;> cases p <;> simp_all [conf, plain]

theorem confs_plains : ∀ {ls : List LK} {cs : List PV}, confs ls cs = true → plains cs = true
  | [], [], _ => rfl
  | [], _ :: _, h => by simp [confs] at h
  | _ :: _, [], h => by simp [confs] at h
  | l :: ls, c :: cs, h => by
    simp only [confs, Bool.and_eq_true] at h
    simp [plains, conf_plain h.1, confs_plains h.2]

mutual
theorem Rep.mono0 {C C' : Ctx} (h : C.Le0 C') : (p : PV) → (v : Value) → plain p = true → Rep C p v → Rep C' p v
  | .undef, v, hp, r => by simp [plain] at hp
  | .bool b, v, hp, r => r
  | .int k n, v, hp, r => r
  | .str s, v, hp, r => r
  | .nilp, v, hp, r => r
  | .ptr d off, v, hp, r => by simp [plain] at hp
  | .rp cells off, v, hp, r => by
    obtain ⟨B, o, us, h1, h2, h3⟩ := r
    exact ⟨B, o, us, h1, Reps.mono0 h cells us (by simpa [plain] using hp) h2, h.reads h3⟩
  | .sl tag ls xs, v, hp, r => by
    obtain ⟨A, cap, rows, h1, h2, h3, h4, h5, h6, h7⟩ := r
    refine ⟨A, cap, rows, h1, h2, RepRows.mono0 h xs rows (fun x hx => confs_plains (h6 x hx)) h3, h4, ?_, h6, fun d k e => ?_⟩
    · rcases h5 with h5 | ⟨B, o, h5, h8⟩
      · exact .inl h5
      · exact .inr ⟨B, o, h5, h.reads h8⟩
    · rw [e] at hp; simp [plain] at hp
  | .row d, v, hp, r => by simp [plain] at hp
  | .rowp d i off, v, hp, r => by simp [plain] at hp
  | .agg cells, v, hp, r => by
    obtain ⟨us, h1, h2⟩ := r
    exact ⟨us, h1, Reps.mono0 h cells _ (by simpa [plain] using hp) h2⟩
  | .tup vs, v, hp, r => by simp [plain] at hp
  | .fn f caps, v, hp, r => by
    obtain ⟨us, h1, h2⟩ := r
    exact ⟨us, h1, Reps.mono0 h caps _ (by simpa [plain] using hp) h2⟩
termination_by structural p => p
theorem Reps.mono0 {C C' : Ctx} (h : C.Le0 C') : (ps : List PV) → (us : List Value) → plains ps = true → Reps C ps us → Reps C' ps us
  | [], us, hp, r => r
  | p :: ps, us, hp, r => by
    simp only [plains, Bool.and_eq_true] at hp
    obtain ⟨u, ws, h1, h2, h3⟩ := r
    exact ⟨u, ws, h1, Rep.mono0 h p u hp.1 h2, Reps.mono0 h ps ws hp.2 h3⟩
termination_by structural ps => ps
theorem RepRows.mono0 {C C' : Ctx} (h : C.Le0 C') : (ps : List (List PV)) → (us : List (List Value)) → (∀ x ∈ ps, plains x = true) → RepRows C ps us → RepRows C' ps us
  | [], us, hp, r => r
  | p :: ps, us, hp, r => by
    obtain ⟨u, ws, h1, h2, h3⟩ := r
    exact ⟨u, ws, h1, Reps.mono0 h p u (hp p (List.mem_cons_self ..)) h2, RepRows.mono0 h ps ws (fun x hx => hp x (List.mem_cons_of_mem _ hx)) h3⟩
termination_by structural ps => ps
end

end Go.Pew

namespace Go.Pew
set_option linter.unusedSimpArgs false
set_option linter.unusedVariables false
open Go.RowKit
set_option linter.unusedVariables false
set_option linter.unusedSimpArgs false

/-- An operation goes through, and what it leaves is told by S. -/
def Good (P : Program) (o : Oper) (a : Act) (w : World) (S : Act → World → Prop) : Prop :=
  ∀ (K : Act → World → Prop) (Q : Exit → Act → World → Prop), (∀ a' w', S a' w' → K a' w') → o.wp P a w K Q

section
variable {P : Program} {E : Env} {call : Nat → List PV → Option PV} {base n : Nat} {w0 : Start} {g : Gh} {s : St} {a : Act} {w : World} {o : Oper} {e : Eff}

theorem good_value {S : Act → World → Prop} {v : Value} {w' : World} (hr : (execOp a.eval o).run P w = .ok (.value v) w') (h : S (a.put o.dst v) w') : Good P o a w S := by
  intro K Q hK
  unfold Oper.wp
  rw [hr]
  exact hK _ _ h

theorem good_skip {S : Act → World → Prop} {w' : World} (hr : (execOp a.eval o).run P w = .ok .skip w') (h : S (a.put o.dst undef) w') : Good P o a w S := by
  intro K Q hK
  unfold Oper.wp
  rw [hr]
  exact hK _ _ h

theorem constPV_rep (C : Ctx) (v : Value) : Rep C (constPV v) v := by
  cases v with
  | bool b => rfl
  | int k n => rfl
  | string s => rfl
  | pointer a => cases a <;> trivial
  | _ => trivial

theorem operand_rep (h : SimG base w0 n g s a w) (x : Operand) : Rep (ctx s w g) (operand s x) (a.eval x) := by
  cases x with
  | tmp t => exact eval_rep h t (.inr trivial)
  | const v => exact constPV_rep _ v
  | global q => trivial
  | func f => exact ⟨#[], rfl, rfl⟩

theorem good_val (h : SimG base w0 n g s a w) {p : PV} {v : Value} (hr : (execOp a.eval o).run P w = .ok (.value v) w) (hp : Rep (ctx s w g) p v) :
    Good P o a w (Sim base w0 n (upd s o.dst (.val p))) := good_value hr ⟨g, h.val hp o.dst⟩

theorem good_load (h : SimG base w0 n g s a w) {p : PV} {v : Value} {d : Nat} (hr : (execOp a.eval o).run P w = .ok (.value v) w) (hp : Rep (ctx s w g) p v) :
    Good P o a w (Sim base w0 n (upd s o.dst (.load d p))) := good_value hr ⟨g, h.val hp o.dst⟩

theorem rep_nil (C : Ctx) (ls : List LK) : Rep C (.sl none ls []) (.slice none 0 0) :=
  ⟨none, 0, [], rfl, Nat.le_refl _, rfl, by simp, .inl rfl, by simp, fun d k e => by cases e⟩

/-- A nil row is a new row. -/
theorem SimG.mkNil (h : SimG base w0 n g s a w) {d : Nat} (hd : d < n) (ls : List LK) : Sim base w0 n (upd s (some d) (.mk ls [])) (a.put (some d) (.slice none 0 0)) w :=
  ⟨_, h.tag hd (w' := w) (st' := g.st) (v := .slice none 0 0) (ls := ls) (xs := []) (Below.refl _ _) (fun _ _ _ => rfl) (fun _ _ _ => rfl) (fun _ _ h => h) (fun _ _ h => .inl h) h.stlt (.inl rfl)
    (fun _ _ _ e => by cases e) (fun B hq => by simp [ownBlock] at hq) (rep_nil _ _) (some d)⟩

theorem blt_lt {a b : Nat} (h : Nat.blt a b = true) : a < b := by
  unfold Nat.blt at h
  exact Nat.le_of_ble_eq_true h

theorem act_move (h : SimG base w0 n g s a w) {x : Operand} (ho : (execOp a.eval o) = pure (.value (a.eval x))) (ha : actMove E call s o.type x some = some e) (hok : okEff s o.dst e = true) :
    Good P o a w (Sim base w0 n (upd s o.dst e)) := by
  have hr : (execOp a.eval o).run P w = .ok (.value (a.eval x)) w := by rw [ho]; rfl
  unfold actMove at ha
  split at ha
  · split at ha
    · split at ha
      · cases ha
        unfold okEff at hok
        cases hd : o.dst with
        | none => rw [hd] at hok; cases hok
        | some d =>
          rw [hd] at hok
          refine good_value hr ?_
          rw [hd]
          exact h.mkNil (by rw [← h.ns]; exact blt_lt hok) _
      · cases ha
    · cases ha
  · cases ha
    exact good_val h hr (operand_rep h x)

theorem act_pick (h : SimG base w0 n g s a w) {c x y : Operand} (ho : o.op = .pick c x y) (ha : actPick E call s c x y some = some e) : Good P o a w (Sim base w0 n (upd s o.dst e)) := by
  unfold actPick condK at ha
  have hc := operand_rep h c
  split at ha
  · rename_i b hb
    rw [hb] at hc
    have hc : a.eval c = .bool b := hc
    have hr : (execOp a.eval o).run P w = .ok (.value (if b = true then a.eval x else a.eval y)) w := by simp [execOp, ho, hc, asBool]
    cases b with
    | true => cases ha; exact good_val h hr (operand_rep h x)
    | false => cases ha; exact good_val h hr (operand_rep h y)
  · cases ha

theorem Rep.cells {C : Ctx} {p : PV} {v : Value} (hp : Rep C p v) (hu : p ≠ .undef) : Reps C (asA p) v.cells.toList := by
  have one : ∀ {p : PV} {v : Value}, asA p = [p] → v.cells = #[v] → Rep C p v → Reps C (asA p) v.cells.toList := fun h1 h2 h3 => by
    rw [h1, h2]
    exact ⟨_, [], rfl, h3, rfl⟩
  cases p with
  | undef => exact absurd rfl hu
  | agg cs => obtain ⟨us, rfl, h⟩ := hp; exact h
  | bool b => have hp' : v = .bool b := hp; subst hp'; exact one rfl rfl rfl
  | int k m => have hp' : v = .int k m := hp; subst hp'; exact one rfl rfl rfl
  | str b => have hp' : v = .string b := hp; subst hp'; exact one rfl rfl rfl
  | nilp => have hp' : v = .pointer none := hp; subst hp'; exact one rfl rfl rfl
  | ptr d off => have hp0 := hp; obtain ⟨B, _, rfl⟩ := hp; exact one rfl rfl hp0
  | rp cs off => have hp0 := hp; obtain ⟨B, m, us, rfl, _⟩ := hp; exact one rfl rfl hp0
  | sl tag ls xs => have hp0 := hp; obtain ⟨A, cap, rows, rfl, _⟩ := hp; exact one rfl rfl hp0
  | row d => have hp0 := hp; obtain ⟨B, _, rfl⟩ := hp; exact one rfl rfl hp0
  | rowp d i off => have hp0 := hp; obtain ⟨B, _, rfl, _⟩ := hp; exact one rfl rfl hp0
  | tup vs => have hp0 := hp; obtain ⟨us, rfl, _⟩ := hp; exact one rfl rfl hp0
  | fn f caps => have hp0 := hp; obtain ⟨us, rfl, _⟩ := hp; exact one rfl rfl hp0
  | yld => have hp0 := hp; obtain ⟨l, _, rfl⟩ := hp; exact one rfl rfl hp0

theorem run_newVar (t : Nat) (v : Value) (w : World) : (newVar t v).run P w = .ok ⟨w.heap.size, 0, none⟩ (w.alloc (.cells v.cells t)) := rfl

theorem alloc_ok {cs : List PV} (hok : okEff s o.dst (.alloc cs) = true) (h : SimG base w0 n g s a w) : ∃ d, o.dst = some d ∧ d < n ∧ s.box d = none := by
  unfold okEff at hok
  cases hd : o.dst with
  | none => rw [hd] at hok; cases hok
  | some d =>
    rw [hd] at hok
    simp only [Bool.and_eq_true, Option.isNone_iff_eq_none] at hok
    exact ⟨d, rfl, by rw [← h.ns]; exact blt_lt hok.2, hok.1⟩

theorem good_alloc (h : SimG base w0 n g s a w) {cs : List PV} {v : Value} {t : Nat} (hok : okEff s o.dst (.alloc cs) = true) (hc : Reps (ctx s w g) cs v.cells.toList)
    (hr : (execOp a.eval o).run P w = .ok (.value (.pointer (some ⟨w.heap.size, 0, none⟩))) (w.alloc (.cells v.cells t))) : Good P o a w (Sim base w0 n (upd s o.dst (.alloc cs))) := by
  obtain ⟨d, hd, hdn, hfree⟩ := alloc_ok hok h
  refine good_value hr ?_
  rw [hd]
  exact ⟨_, h.newBox hdn hfree (b := .cells cs false) (p := .ptr d 0) (.inl rfl) (.inl ⟨cs, rfl, rfl, rfl, hc⟩) (some d)⟩

theorem act_alloc (T : ∀ t ti, E.ty t = some ti → TyOk P t ti) (h : SimG base w0 n g s a w) {t : Nat} (ho : o.op = .alloc t) (ha : actAlloc E call s t some = some e) (hok : okEff s o.dst e = true) :
    Good P o a w (Sim base w0 n (upd s o.dst e)) := by
  unfold actAlloc at ha
  split at ha
  · rename_i ti hti
    cases ha
    obtain ⟨i, z, h1, h2, h3, h4, h5⟩ := (T t ti hti).info
    refine good_alloc h (v := z) (t := t) hok (h5 _) ?_
    simp [execOp, ho, Instr.alloc, zeroValue, typeInfo, h1, h4, run_newVar]
  · cases ha

theorem act_box (h : SimG base w0 n g s a w) {t : Nat} {x : Operand} (ho : o.op = .box t x) (ha : actBox E call s x some = some e) (hok : okEff s o.dst e = true) :
    Good P o a w (Sim base w0 n (upd s o.dst e)) := by
  have hne : operand s x ≠ .undef ∧ e = .alloc (asA (operand s x)) := by
    unfold actBox at ha
    split at ha
    · cases ha
    · rename_i hx
      cases ha
      exact ⟨fun q => hx q, rfl⟩
  obtain ⟨hne, rfl⟩ := hne
  refine good_alloc h (v := a.eval x) (t := t) hok ((operand_rep h x).cells hne) ?_
  simp [execOp, ho, Instr.box, run_newVar]

theorem flatten_get {rws : List (List Value)} {m i j : Nat} {u : Value} (h : ∀ r ∈ rws, r.length = m) (hi : i < rws.length) (hj : j < m) (hu : rws[i][j]? = some u) : rws.flatten[i * m + j]? = some u := by
  induction rws generalizing i with
  | nil => simp at hi
  | cons r rs ih =>
    have hr := h r (List.mem_cons_self ..)
    cases i with
    | zero =>
      simp at hu
      rw [List.flatten_cons, Nat.zero_mul, Nat.zero_add, List.getElem?_append_left (by omega)]
      exact hu
    | succ i =>
      rw [List.flatten_cons, List.getElem?_append_right (by rw [hr, Nat.succ_mul]; omega), hr]
      have : (i + 1) * m + j - m = i * m + j := by rw [Nat.succ_mul]; omega
      rw [this]
      exact ih (fun r hr => h r (List.mem_cons_of_mem _ hr)) (by simpa using hi) (by simpa using hu)

theorem act_load (T : ∀ t ti, E.ty t = some ti → TyOk P t ti) (h : SimG base w0 n g s a w) {t : Nat} {x : Operand} (ho : o.op = .load t x) (ha : actLoad E call s t x some = some e) :
    Good P o a w (Sim base w0 n (upd s o.dst e)) := by
  unfold actLoad at ha
  split at ha
  · cases ha
  · rename_i ti hti
    have ht := T t ti hti
    have hx := operand_rep h x
    have hrun : ∀ {B q off : Nat} {us : List Value}, a.eval x = .pointer (some ⟨B, q + off, none⟩) → (∀ j u, us[j]? = some u → w.cell? ⟨B, q + j, none⟩ = some u) →
        (if ti.agg then off + ti.size ≤ us.length else off < us.length) → (execOp a.eval o).run P w = .ok (.value (partVal ti us off)) w := by
      intro B q off us h1 h2 h3
      simp [execOp, ho, h1, Instr.loadAt, Instr.sureAddr, ht.run_loadVar h2 h3]
    split at ha
    · rename_i d off hd
      rw [hd] at hx
      obtain ⟨B, hB, hv⟩ := hx
      split at ha
      · rename_i cs fz hb
        split at ha
        · rename_i hf
          cases ha
          obtain ⟨B', us, T', h1, h2, h3, h4, _⟩ := h.cells d cs fz hb
          have : B' = B := by have hB : g.bx d = some B := hB; rw [h1] at hB; cases hB; rfl
          subst this
          refine good_load h (hrun (B := B') (q := 0) (off := off) (us := us.toList) (by rw [hv]; simp) (fun j u hj => ?_) (partFits_us h4 hf)) (Rep.part h4 hf)
          simpa [World.cell?, h2] using hj
        · cases ha
      · cases ha
    · rename_i cs off hd
      rw [hd] at hx
      obtain ⟨B, q, us, hv, hr, hc⟩ := hx
      split at ha
      · rename_i hf
        cases ha
        exact good_val h (hrun hv (fun j u hj => (hc j u hj).1) (partFits_us hr hf)) (Rep.part hr hf)
      · cases ha
    · rename_i d i off hd
      rw [hd] at hx
      obtain ⟨B, hB, hv, hil⟩ := hx
      split at ha
      · rename_i ls xs fz hb
        split at ha
        · rename_i hf
          cases ha
          obtain ⟨B', us, T', rws, h1, h2, h3, h4, h5, h6, h7, _⟩ := h.rows d ls xs fz hb
          have : B' = B := by have hB : g.bx d = some B := hB; rw [h1] at hB; cases hB; rfl
          subst this
          have hsz : (ctx s w g).rs d = ls.length := by show rowSize (s.box d) = _; rw [hb]; rfl
          rw [hsz] at hv
          have hi : i < rws.length := by
            have : i < (ctx s w g).rl d := hil
            have hl : (ctx s w g).rl d = xs.length := by show rowLen (s.box d) = _; rw [hb]; rfl
            rw [h5.length, ← hl]
            exact this
          have hget : rws[i]? = some rws[i] := by simp [hi]
          have hci : confs ls (nths xs i) = true := by
            have hix : i < xs.length := by rw [← h5.length]; exact hi
            have : nths xs i = xs[i] := by simp [nths, hix]
            rw [this]
            exact h7 _ (List.getElem_mem _)
          have hre : Reps (ctx s w g) (etas ls 0 (nths xs i)) rws[i] := Reps.etas hci (h5.get i _ hget)
          refine good_load h (hrun (B := B') (q := i * ls.length) (us := rws[i]) hv (fun j u hj => ?_) (partFits_us hre hf)) (Rep.part hre hf)
          have hfl : rws.flatten[i * ls.length + j]? = some u := by
            have hjl : j < ls.length := by
              have := (List.getElem?_eq_some_iff.1 hj).1
              rw [h6 _ (List.getElem_mem _)] at this
              exact this
            exact flatten_get h6 hi hjl hj
          rw [← h4] at hfl
          simpa [World.cell?, h2] using hfl
        · cases ha
      · cases ha
    · cases ha

end
end Go.Pew
