/- THE EVALUATOR: Go code over plain values: what a function hands back, without memory. No theorem stands here. -/
import GoSem.Dispatch
namespace Go.Pev
set_option linter.unusedVariables false

/-- What a cell is known to hold. -/
inductive LK where
  | int (k : IntKind)
  | bool
  | str
  | sl (e : List LK)
  | any
  deriving Inhabited

/-- Plain values. -/
inductive PV where
  | undef
  | bool (b : Bool)
  | int (k : IntKind) (n : Int)
  | str (s : ByteArray)
  | nilp
  | ptr (d off : Nat)
  | rp (cells : List PV) (off : Nat)
  | sl (tag : Option (Nat × Nat)) (ls : List LK) (xs : List (List PV))
  | row (d : Nat)
  | rowp (d i off : Nat)
  | agg (cells : List PV)
  | tup (vs : List PV)
  | fn (f : Nat) (caps : List PV)
  deriving Inhabited

def asI : PV → Int | .int _ n => n | _ => 0
def asB : PV → Bool | .bool b => b | _ => false
def asS : PV → ByteArray | .str s => s | _ => ByteArray.empty
def asL : PV → List (List PV) | .sl _ _ xs => xs | _ => []
def asA : PV → List PV | .agg cs => cs | v => [v]
def asT : PV → List PV | .tup vs => vs | _ => []

/-- A value of which the kind is known, written by its constructor. -/
def eta : LK → PV → PV
  | .int k, p => .int k (asI p)
  | .bool, p => .bool (asB p)
  | .str, p => .str (asS p)
  | .sl ls, p => .sl none ls (asL p)
  | .any, p => p

def nth (l : List PV) (i : Nat) : PV := l.getD i .undef
def nths (l : List (List PV)) (i : Nat) : List PV := l.getD i []

/-- The cells of a row's element, each written by its constructor. -/
def etas : List LK → Nat → List PV → List PV
  | [], _, _ => []
  | l :: ls, i, cs => eta l (nth cs i) :: etas ls (i + 1) cs

mutual
def sameL : LK → LK → Bool
  | .int k, .int k' => k == k'
  | .bool, .bool => true
  | .str, .str => true
  | .sl a, .sl b => sameLK a b
  | _, _ => false
termination_by structural x => x
def sameLK : List LK → List LK → Bool
  | [], [] => true
  | x :: a, y :: b => sameL x y && sameLK a b
  | _, _ => false
termination_by structural x => x
end
def conf : LK → PV → Bool
  | .int k, .int k' _ => k == k'
  | .bool, .bool _ => true
  | .str, .str _ => true
  | .sl ls, .sl tag ls' _ => tag.isNone && sameLK ls ls'
  | _, _ => false
def confs : List LK → List PV → Bool
  | [], [] => true
  | l :: ls, v :: vs => conf l v && confs ls vs
  | _, _ => false
structure TI where
  size : Nat
  bytes : Nat
  agg : Bool
  desc : TypeDesc
  zero : List PV
  lk : List LK
  deriving Inhabited

inductive Box where
  | cells (cs : List PV) (frozen : Bool)
  | row (ls : List LK) (xs : List (List PV)) (frozen : Bool)
  deriving Inhabited

/-- What is laid down at a loop's head: the slots that are forgotten, the boxes that are dropped, the tags that stay. -/
structure Hd where
  forget : List Nat
  drop : List Nat
  keep : List Nat
  deriving Inhabited

/-- A table by numbers. -/
inductive Tab (α : Type) where
  | nil
  | node (k : Nat) (v : α) (l r : Tab α)

def Tab.find {α : Type} (n : Nat) : Tab α → Option α
  | .nil => none
  | .node k v l r => match Nat.beq n k with
    | true => some v
    | false => match Nat.ble n k with
      | true => l.find n
      | false => r.find n

/-- The tables; 'ext': what a function of the program gives, told from outside (a contract). -/
structure Env where
  fn : Nat → Option Func
  ty : Nat → Option TI
  own : Nat → Bool
  eq : Nat → Bool
  ext : Nat → Option (List PV → Option PV)
  /-- Of a function's loop, by the number of its first region. -/
  loops : Nat → Nat → Hd
  fuel : Nat

structure St where
  slots : List PV
  boxes : List (Option Box)
  vers : List Nat

def St.get (s : St) (t : Nat) : PV := s.slots.getD t .undef
def St.box (s : St) (d : Nat) : Option Box := (s.boxes.getD d none)
def St.ver (s : St) (d : Nat) : Nat := s.vers.getD d 0

/-- What an operation does. -/
inductive Eff where
  | val (v : PV)
  | load (d : Nat) (v : PV)
  | skip
  | alloc (cs : List PV)
  | store (d off : Nat) (vs : List PV)
  | rstore (d i off : Nat) (vs : List PV)
  | mk (ls : List LK) (xs : List (List PV))
  | app (tag : Nat) (ls : List LK) (xs : List (List PV))
  | row (ls : List LK) (xs : List (List PV))
  | froze (ds : List Nat) (v : PV)
  | frozeOwn (ds : List Nat) (ls : List LK) (xs : List (List PV))

/-- Cells put over others. -/
def over : List PV → Nat → List PV → List PV
  | cs, _, [] => cs
  | cs, off, v :: vs => over (cs.set off v) (off + 1) vs

def freezeBox : Option Box → Option Box
  | some (.cells cs _) => some (.cells cs true)
  | some (.row ls xs _) => some (.row ls xs true)
  | none => none
def storeBox (off : Nat) (vs : List PV) : Option Box → Option Box
  | some (.cells cs f) => some (.cells (over cs off vs) f)
  | b => b
def rstoreBox (i off : Nat) (vs : List PV) : Option Box → Option Box
  | some (.row ls xs f) => some (.row ls (xs.set i (over (nths xs i) off vs)) f)
  | b => b

/-- What becomes of boxes. -/
def edits (dst : Option Nat) : Eff → List (Nat × (Option Box → Option Box))
  | .alloc cs => match dst with | some d => [(d, fun _ => some (.cells cs false))] | none => []
  | .row ls xs => match dst with | some d => [(d, fun _ => some (.row ls xs false))] | none => []
  | .store d off vs => [(d, storeBox off vs)]
  | .rstore d i off vs => [(d, rstoreBox i off vs)]
  | .froze ds _ => ds.map fun d => (d, freezeBox)
  | .frozeOwn ds _ _ => ds.map fun d => (d, freezeBox)
  | _ => []
def edit (bs : List (Option Box)) : List (Nat × (Option Box → Option Box)) → List (Option Box)
  | [] => bs
  | (d, f) :: es => edit (bs.set d (f (bs.getD d none))) es
/-- Which version goes up. -/
def bump (dst : Option Nat) : Eff → Option Nat
  | .mk .. => dst
  | .frozeOwn .. => dst
  | .app tag .. => some tag
  | _ => none
def bumped (vs : List Nat) : Option Nat → List Nat
  | some d => vs.set d (vs.getD d 0 + 1)
  | none => vs
def valOf (s : St) (dst : Option Nat) : Eff → PV
  | .val v => v
  | .load _ v => v
  | .froze _ v => v
  | .skip => .tup []
  | .store .. => .tup []
  | .rstore .. => .tup []
  | .alloc _ => match dst with | some d => .ptr d 0 | none => .undef
  | .row .. => match dst with | some d => .row d | none => .undef
  | .mk ls xs => match dst with | some d => .sl (some (d, s.ver d + 1)) ls xs | none => .undef
  | .app tag ls xs => .sl (some (tag, s.ver tag + 1)) ls xs
  | .frozeOwn _ ls xs => match dst with | some d => .sl (some (d, s.ver d + 1)) ls xs | none => .undef

def putD (l : List PV) (dst : Option Nat) (v : PV) : List PV := match dst with | some d => l.set d v | none => l

def upd (s : St) (dst : Option Nat) (e : Eff) : St :=
  { slots := putD s.slots dst (valOf s dst e), boxes := edit s.boxes (edits dst e), vers := bumped s.vers (bump dst e) }

/-- May the effect stand? A new variable's box must be free. -/
def okEff (s : St) (dst : Option Nat) : Eff → Bool
  | .alloc _ => match dst with | some d => (s.box d).isNone && Nat.blt d s.slots.length | none => false
  | .row .. => match dst with | some d => (s.box d).isNone && Nat.blt d s.slots.length | none => false
  | .mk .. => match dst with | some d => Nat.blt d s.slots.length | none => false
  | .app tag .. => dst.isSome && Nat.blt tag s.slots.length
  | .frozeOwn .. => match dst with | some d => Nat.blt d s.slots.length | none => false
  | _ => true

/-! The same, step by step, so that no update is carried along unmade (the kernel's sake). -/
def forceL {α R : Type} : List α → (List α → R) → R
  | [], κ => κ []
  | x :: xs, κ => forceL xs fun ys => κ (x :: ys)

def forceV {R : Type} (v : PV) (κ : PV → R) : R := match v with
  | .undef => κ .undef
  | .bool b => κ (.bool b)
  | .int k n => κ (.int k n)
  | .str s => κ (.str s)
  | .nilp => κ .nilp
  | .ptr d off => κ (.ptr d off)
  | .rp cs off => κ (.rp cs off)
  | .sl tag ls xs => κ (.sl tag ls xs)
  | .row d => κ (.row d)
  | .rowp d i off => κ (.rowp d i off)
  | .agg cs => forceL cs fun cs => κ (.agg cs)
  | .tup vs => forceL vs fun vs => κ (.tup vs)
  | .fn f caps => κ (.fn f caps)

def forceVs {R : Type} : List PV → (List PV → R) → R
  | [], κ => κ []
  | x :: xs, κ => forceV x fun x => forceVs xs fun ys => κ (x :: ys)

def forceSt {R : Type} (s : St) (κ : St → R) : R := forceVs s.slots fun sl => forceL s.boxes fun bs => forceL s.vers fun vs => κ { slots := sl, boxes := bs, vers := vs }

def updK {R : Type} (s : St) (dst : Option Nat) (e : Eff) (κ : St → R) : R := match e with
  | .val v => forceV v fun v => forceL (putD s.slots dst v) fun sl => κ { s with slots := sl }
  | .load _ v => forceV v fun v => forceL (putD s.slots dst v) fun sl => κ { s with slots := sl }
  | .skip => forceL (putD s.slots dst (.tup [])) fun sl => κ { s with slots := sl }
  | e => forceV (valOf s dst e) fun v => forceL (putD s.slots dst v) fun sl => forceL (edit s.boxes (edits dst e)) fun bs => forceL (bumped s.vers (bump dst e)) fun vs => κ { slots := sl, boxes := bs, vers := vs }

/-- Which boxes an operation reads, and which boxes and versions it writes (box d: 2 d; its version: 2 d + 1). -/
def Eff.reads : Eff → List Nat
  | .load d _ => [2 * d]
  | _ => []
def Eff.writes (dst : Option Nat) (e : Eff) : List Nat := (edits dst e).map (fun x => 2 * x.1) ++ match bump dst e with | some d => [2 * d + 1] | none => []

/-- A constant of the code. -/
def constPV : Value → PV
  | .bool b => .bool b
  | .int k n => .int k n
  | .string s => .str s
  | .pointer none => .nilp
  | _ => .undef

def operand (s : St) : Operand → PV
  | .tmp t => s.get t
  | .const v => constPV v
  | .func f => .fn f []
  | .global _ => .undef

-- What is handed on: rows without their tags.
mutual
def strip : PV → PV
  | .sl _ ls xs => .sl none ls xs
  | .agg cs => .agg (strips cs)
  | .tup vs => .tup (strips vs)
  | v => v
termination_by structural x => x
def strips : List PV → List PV
  | [] => []
  | v :: vs => strip v :: strips vs
termination_by structural x => x
end

-- Is it told without boxes and tags?
mutual
def plain : PV → Bool
  | .undef => false
  | .ptr .. => false
  | .row .. => false
  | .rowp .. => false
  | .tup _ => false
  | .sl tag _ _ => tag.isNone
  | .agg cs => plains cs
  | .rp cs _ => plains cs
  | .fn _ cs => plains cs
  | _ => true
termination_by structural x => x
def plains : List PV → Bool
  | [] => true
  | v :: vs => plain v && plains vs
termination_by structural x => x
end

def leaf : PV → Bool
  | .undef => false
  | .agg _ => false
  | .tup _ => false
  | _ => true

variable {R : Type}

def condK (c : PV) (x y : Option R) : Option R := match c with | .bool b => cond b x y | _ => none

def guardK (b : Bool) (x : Option R) : Option R := cond b x none

/-- An index, if it lies below n. -/
def indexK (i : PV) (n : Nat) (κ : Nat → Option R) : Option R :=
  match i with
  | .int _ i => guardK (decide (0 ≤ i)) (guardK (decide (i < (n : Int))) (κ i.toNat))
  | _ => none

def intOp (op : BinOp) (k : IntKind) (a b : Int) (κ : PV → Option R) : Option R :=
  match op with
  | .add => κ (.int k (k.wrap (a + b)))
  | .sub => κ (.int k (k.wrap (a - b)))
  | .mul => κ (.int k (k.wrap (a * b)))
  | .quo => guardK (!decide (b = 0)) (κ (.int k (k.wrap (a.tdiv b))))
  | .rem => guardK (!decide (b = 0)) (κ (.int k (a.tmod b)))
  | .eql => κ (.bool (decide (a = b)))
  | .neq => κ (.bool (!decide (a = b)))
  | .lss => κ (.bool (decide (a < b)))
  | .leq => κ (.bool (decide (a ≤ b)))
  | .gtr => κ (.bool (decide (b < a)))
  | .geq => κ (.bool (decide (b ≤ a)))
  | .shl => guardK (decide (0 ≤ b)) (κ (.int k (k.wrap (a * 2 ^ (min b.toNat k.bits)))))
  | .shr => guardK (decide (0 ≤ b)) (κ (.int k (a.fdiv (2 ^ (min b.toNat k.bits)))))
  | .and => κ (.int k (k.wrap (BitVec.ofInt k.bits a &&& BitVec.ofInt k.bits b).toNat))
  | .or => κ (.int k (k.wrap (BitVec.ofInt k.bits a ||| BitVec.ofInt k.bits b).toNat))
  | _ => none

def eqLeaf : PV → PV → Option Bool
  | .int k a, .int k' b => if k = k' then some (decide (a = b)) else none
  | .bool a, .bool b => some (a == b)
  | .str a, .str b => some (a == b)
  | _, _ => none

def eqCells : List PV → List PV → Option Bool
  | [], [] => some true
  | [x], [y] => eqLeaf x y
  | x :: xs, y :: ys => match eqLeaf x y, eqCells xs ys with | some a, some b => some (a && b) | _, _ => none
  | _, _ => none

def binK (E : Env) (op : BinOp) (t : Nat) (x y : PV) (κ : PV → Option R) : Option R :=
  match x, y with
  | .int k a, .int k' b => match op with
    | .shl | .shr => intOp op k a b κ
    | _ => if k = k' then intOp op k a b κ else none
  | .bool a, .bool b => match E.ty t with
    | some ti => match ti.desc, op with | .bool, .eql => κ (.bool (a == b)) | .bool, .neq => κ (.bool (!(a == b))) | _, _ => none
    | none => none
  | .str a, .str b => match op with | .eql => κ (.bool (a.data.toList == b.data.toList)) | .neq => κ (.bool (!(a.data.toList == b.data.toList))) | _ => none
  | .agg xs, .agg ys => match E.ty t with
    | some ti => guardK (E.eq t) (guardK (confs ti.lk xs) (guardK (confs ti.lk ys) (match op, eqCells xs ys with | .eql, some b => κ (.bool b) | .neq, some b => κ (.bool (!b)) | _, _ => none)))
    | none => none
  | _, _ => none

def unK (op : UnOp) (x : PV) (κ : PV → Option R) : Option R :=
  match op, x with
  | .neg, .int k n => κ (.int k (k.wrap (0 - n)))
  | .not, .bool b => κ (.bool (!b))
  | _, _ => none

/-- Part of some cells, as a value of type ti. -/
def partPV (ti : TI) (cs : List PV) (off : Nat) : PV := if ti.agg then .agg ((cs.drop off).take ti.size) else nth cs off

def partFits (ti : TI) (cs : List PV) (off : Nat) : Bool := if ti.agg then decide (off + ti.size ≤ cs.length) else decide (off < cs.length)

def fieldOff (ti : TI) (f : Nat) : Option (Nat × Nat) := match ti.desc with
  | .struct fs => (fs[f]?).map fun x => (x.offset, x.type)
  | _ => none

def isUndef : PV → Bool
  | .undef => true
  | _ => false

def fillParts (place : Nat → Option (Nat × Nat)) (cells : List PV) : List (Nat × PV) → Option (List PV)
  | [] => some cells
  | (i, v) :: rest => match isUndef v, place i with
    | true, _ => none
    | _, none => none
    | false, some (off, size) => if (asA v).length = size ∧ off + size ≤ cells.length then fillParts place (over cells off (asA v)) rest else none

def elemOf (ti : TI) : Option Nat := match ti.desc with | .slice e => some e | _ => none

/-- Several arguments, and the row boxes that they hand on. -/
def argsK (s : St) (os : List Operand) (ds : List Nat) (acc : List PV) (κ : List PV → List Nat → Option R) : Option R :=
  match os with
  | [] => κ acc.reverse ds
  | o :: os => match operand s o with
    | .row d => match s.box d with
      | some (.row ls xs _) => argsK s os (d :: ds) (.sl none ls xs :: acc) κ
      | _ => none
    | v => argsK s os ds (strip v :: acc) κ

/-- A call's result, written by its constructors. -/
def etaT (E : Env) (t : Nat) (r : PV) : Option PV := match E.ty t with
  | some ti => if ti.agg then some (.agg (etas ti.lk 0 (asA r))) else match ti.lk with | [l] => some (eta l r) | _ => none
  | none => none
def etaTs (E : Env) : List Nat → Nat → List PV → Option (List PV)
  | [], _, _ => some []
  | t :: ts, i, vs => match etaT E t (nth vs i), etaTs E ts (i + 1) vs with | some a, some b => some (a :: b) | _, _ => none
def etaR (E : Env) (fn : Func) (r : PV) : Option PV := match fn.resultTypes.toList with
  | [t] => etaT E t r
  | ts => match etaTs E ts 0 (asT r) with | some vs => some (.tup vs) | none => none

/-- A call of function f. -/
def callK (E : Env) (call : Nat → List PV → Option PV) (f : Nat) (args : List PV) (ds : List Nat) (κ : Eff → Option R) : Option R :=
  match E.fn f with
  | none => none
  | some fn => (call f args).bind fun r => match etaR E fn r with
    | none => none
    | some v => if E.own f then match v with
        | .sl _ ls xs => κ (.frozeOwn ds ls xs)
        | _ => none
      else κ (.froze ds v)

def lenK (E : Env) (s : St) (t : Nat) (x : PV) (κ : Eff → Option R) : Option R :=
  match E.ty t with
  | none => none
  | some ti => match ti.desc, x with
    | .slice _, .sl _ _ xs => κ (.val (.int .i64 xs.length))
    | .slice _, .row d => match s.box d with | some (.row _ xs _) => κ (.load d (.int .i64 xs.length)) | _ => none
    | .string, .str s => κ (.val (.int .i64 s.size))
    | .array n _, _ => κ (.val (.int .i64 n))
    | _, _ => none

def imax (a b : Int) : Int := if b > a then b else a
def imin (a b : Int) : Int := if b < a then b else a
def minmaxFrom (op : Bool) (k : IntKind) (a : Int) : List PV → Option PV
  | [] => some (.int k a)
  | .int _ b :: rest => minmaxFrom op k (cond op (imax a b) (imin a b)) rest
  | _ => none
def minmax (op : Bool) : List PV → Option PV
  | .int k a :: rest => minmaxFrom op k a rest
  | _ => none

def room (xs ys : List (List PV)) (bytes : Nat) : Bool := decide ((xs.length + ys.length) * bytes ≤ 140737488355328)

def appK (E : Env) (s : St) (t u : Nat) (x y : PV) (κ : Eff → Option R) : Option R :=
  match E.ty t, E.ty u with
  | some ti, some tu => match ti.desc, tu.desc with
    | .slice e, .slice _ => match E.ty e with
      | none => none
      | some te => match x, y with
        | .sl (some (d, v)) ls xs, .sl _ ls' ys => if v = s.ver d ∧ te.bytes ≠ 0 ∧ te.size = ls.length ∧ sameLK ls ls' = true then guardK (room xs ys te.bytes) (κ (.app d ls (xs ++ ys))) else none
        | _, _ => none
    | _, _ => none
  | _, _ => none

def actMove (E : Env) (call : Nat → List PV → Option PV) (s : St) (ty : Nat) (x : Operand) (κ : Eff → Option R) : Option R :=
  match x with
    | .const (.slice none 0 0) => match E.ty ty with
      | some ti => match ti.lk with | [.sl ls] => κ (.mk ls []) | _ => none
      | none => none
    | _ => κ (.val (operand s x))

def actPick (E : Env) (call : Nat → List PV → Option PV) (s : St) (c a b : Operand) (κ : Eff → Option R) : Option R :=
  condK (operand s c) (κ (.val (operand s a))) (κ (.val (operand s b)))

def actAlloc (E : Env) (call : Nat → List PV → Option PV) (s : St) (t : Nat) (κ : Eff → Option R) : Option R :=
  match E.ty t with | some ti => κ (.alloc ti.zero) | none => none

def actBox (E : Env) (call : Nat → List PV → Option PV) (s : St) (v : Operand) (κ : Eff → Option R) : Option R :=
  match operand s v with
  | .undef => none
  | p => κ (.alloc (asA p))

def actBuild (E : Env) (call : Nat → List PV → Option PV) (s : St) (t : Nat) (parts : Array (Nat × Operand)) (κ : Eff → Option R) : Option R :=
  match E.ty t with
    | none => none
    | some ti => match ti.desc with
      | .struct fs => if (fs.toList.all fun f => (E.ty f.type).isSome) = false then none else match fillParts (fun i => (fs[i]?).bind fun f => (E.ty f.type).map fun tf => (f.offset, tf.size)) ti.zero (parts.toList.map fun p => (p.1, operand s p.2)) with
        | some cs => κ (.val (.agg cs))
        | none => none
      | .array _ e => match E.ty e with
        | none => none
        | some te => match fillParts (fun i => some (i * te.size, te.size)) ti.zero (parts.toList.map fun p => (p.1, operand s p.2)) with
          | some cs => κ (.val (.agg cs))
          | none => none
      | _ => none

/-- Cells in rows of a size. -/
def chunks (size : Nat) (cs : List PV) (len : Nat) : List (List PV) := (List.range len).map fun i => (cs.drop (i * size)).take size

def actBuildSlice (E : Env) (call : Nat → List PV → Option PV) (s : St) (t len : Nat) (parts : Array (Nat × Operand)) (κ : Eff → Option R) : Option R :=
  match E.ty t with
  | none => none
  | some ti => match elemOf ti with
    | none => none
    | some e => match E.ty e with
      | none => none
      | some te => match fillParts (fun i => some (i * te.size, te.size)) (List.replicate len te.zero).flatten (parts.toList.map fun p => (p.1, operand s p.2)) with
        | none => none
        | some cs => if ((chunks te.size (strips cs) len).all fun x => confs te.lk x) ∧ Nat.ble (len * te.size) 16777216 = true then κ (.mk te.lk (chunks te.size (strips cs) len)) else none

def actLoad (E : Env) (call : Nat → List PV → Option PV) (s : St) (t : Nat) (a : Operand) (κ : Eff → Option R) : Option R :=
  match E.ty t with
    | none => none
    | some ti => match operand s a with
      | .ptr d off => match s.box d with
        | some (.cells cs _) => if partFits ti cs off then κ (.load d (partPV ti cs off)) else none
        | _ => none
      | .rp cs off => if partFits ti cs off then κ (.val (partPV ti cs off)) else none
      | .rowp d i off => match s.box d with
        | some (.row ls xs _) => if partFits ti (etas ls 0 (nths xs i)) off then κ (.load d (partPV ti (etas ls 0 (nths xs i)) off)) else none
        | _ => none
      | _ => none

def actStore (E : Env) (call : Nat → List PV → Option PV) (s : St) (t : Nat) (a v : Operand) (κ : Eff → Option R) : Option R :=
  match E.ty t with
    | none => none
    | some ti => if (asA (operand s v)).length = ti.size ∧ (asA (operand s v)).all leaf = true then match operand s a with
      | .ptr d off => match s.box d with
        | some (.cells cs false) => if off + ti.size ≤ cs.length then κ (.store d off (asA (operand s v))) else none
        | _ => none
      | .rowp d i off => match s.box d with
        | some (.row ls _ false) => if off + ti.size ≤ ls.length ∧ confs ((ls.drop off).take ti.size) (asA (operand s v)) = true then κ (.rstore d i off (asA (operand s v))) else none
        | _ => none
      | _ => none
      else none

def actBinOp (E : Env) (call : Nat → List PV → Option PV) (s : St) (op : BinOp) (t : Nat) (x y : Operand) (κ : Eff → Option R) : Option R :=
  binK E op t (operand s x) (operand s y) fun v => κ (.val v)

def actUnOp (E : Env) (call : Nat → List PV → Option PV) (s : St) (op : UnOp) (x : Operand) (κ : Eff → Option R) : Option R :=
  unK op (operand s x) fun v => κ (.val v)

def actConvert (E : Env) (call : Nat → List PV → Option PV) (s : St) (src dst : Nat) (x : Operand) (κ : Eff → Option R) : Option R :=
  match E.ty src, E.ty dst with
    | some a, some b => match a.desc, b.desc, operand s x with
      | .int _, .int k, .int _ n => κ (.val (.int k (k.wrap n)))
      | _, _, _ => none
    | _, _ => none

/-- A captured variable, as what it holds. -/
def capPV (s : St) : PV → PV
  | .ptr d off => match s.box d with | some (.cells cs _) => .rp (strips cs) off | _ => .undef
  | p => p
def capBox : PV → Option Nat
  | .ptr d _ => some d
  | _ => none

def actMakeFunc (E : Env) (call : Nat → List PV → Option PV) (s : St) (f : Nat) (first caps : Array Operand) (κ : Eff → Option R) : Option R :=
  if first.isEmpty ∧ plains ((caps.toList.map (operand s)).map (capPV s)) = true then κ (.froze ((caps.toList.map (operand s)).filterMap capBox) (.fn f ((caps.toList.map (operand s)).map (capPV s)))) else none

def actMakeSlice (E : Env) (call : Nat → List PV → Option PV) (s : St) (t : Nat) (l c : Operand) (κ : Eff → Option R) : Option R :=
  match E.ty t with
    | none => none
    | some ti => match elemOf ti with
      | none => none
      | some e => match E.ty e with
        | none => none
        | some te => match operand s l, operand s c with
          | .int k a, .int k' b => if k = .i64 ∧ k' = .i64 ∧ te.bytes ≠ 0 then guardK (decide (a = b)) (guardK (decide (0 ≤ a)) (guardK (decide (a * te.bytes ≤ 140737488355328)) (guardK (confs te.lk te.zero) (κ (.row te.lk (List.replicate a.toNat te.zero)))))) else none
          | _, _ => none

def highK (s : St) (hi : Option Operand) (n : Nat) (κ : Nat → Option R) : Option R := match hi with
  | none => κ n
  | some h => match operand s h with
    | .int _ h => guardK (decide (0 ≤ h)) (guardK (decide (h ≤ (n : Int))) (κ h.toNat))
    | _ => none
def lowK (s : St) (lo : Option Operand) (h : Nat) (κ : Nat → Option R) : Option R := match lo with
  | none => κ 0
  | some l => match operand s l with
    | .int _ l => guardK (decide (0 ≤ l)) (guardK (decide (l ≤ (h : Int))) (κ l.toNat))
    | _ => none

def actSlice (E : Env) (call : Nat → List PV → Option PV) (s : St) (t : Nat) (x : Operand) (lo hi : Option Operand) (κ : Eff → Option R) : Option R :=
  match E.ty t with
  | none => none
  | some ti => match ti.desc, operand s x with
    | .slice e, .sl _ ls xs => match E.ty e with
      | none => none
      | some te => if te.size = ls.length then highK s hi xs.length fun h => lowK s lo h fun l => κ (.val (.sl none ls ((xs.take h).drop l))) else none
    | .array n e, .ptr d off => match E.ty e, s.box d, lo, hi with   -- a whole array that is a variable
      | some te, some (.cells cs _), none, none => if off = 0 ∧ te.size = 1 ∧ te.lk.length = 1 ∧ cs.length = n ∧ (cs.all fun c => confs te.lk [strip c]) = true then κ (.froze [d] (.sl none te.lk ((strips cs).map fun c => [c]))) else none
      | _, _, _, _ => none
    | _, _ => none

def actFieldAddr (E : Env) (call : Nat → List PV → Option PV) (s : St) (t : Nat) (x : Operand) (f : Nat) (κ : Eff → Option R) : Option R :=
  match E.ty t with
  | none => none
  | some ti => match fieldOff ti f with
    | none => none
    | some (o, tf) => match E.ty tf with
      | none => none
      | some tif => if tif.size = 0 then none else match operand s x with
        | .ptr d off => κ (.val (.ptr d (off + o)))
        | .rp cs off => κ (.val (.rp cs (off + o)))
        | .rowp d i off => κ (.val (.rowp d i (off + o)))
        | _ => none

def actField (E : Env) (call : Nat → List PV → Option PV) (s : St) (t : Nat) (x : Operand) (f : Nat) (κ : Eff → Option R) : Option R :=
  match E.ty t with
    | none => none
    | some ti => match fieldOff ti f with
      | none => none
      | some (o, tf) => match E.ty tf, operand s x with
        | some tif, .agg cs => if partFits tif cs o then κ (.val (partPV tif cs o)) else none
        | _, _ => none

def actIndexAddr (E : Env) (call : Nat → List PV → Option PV) (s : St) (t : Nat) (x i : Operand) (κ : Eff → Option R) : Option R :=
  match E.ty t with
    | none => none
    | some ti => match ti.desc, operand s x with
      | .slice e, .sl _ ls xs => match E.ty e with
        | some te => if te.size = ls.length then indexK (operand s i) xs.length fun j => κ (.val (.rp (etas ls 0 (nths xs j)) 0)) else none
        | none => none
      | .slice e, .row d => match E.ty e, s.box d with
        | some te, some (.row ls xs _) => if te.size = ls.length then indexK (operand s i) xs.length fun j => κ (.load d (.rowp d j 0)) else none
        | _, _ => none
      | .array n e, .ptr d off => match E.ty e with
        | some te => indexK (operand s i) n fun j => κ (.val (.ptr d (off + j * te.size)))
        | none => none
      | .array n e, .rp cs off => match E.ty e with
        | some te => indexK (operand s i) n fun j => κ (.val (.rp cs (off + j * te.size)))
        | none => none
      | _, _ => none

def actIndex (E : Env) (call : Nat → List PV → Option PV) (s : St) (t : Nat) (x i : Operand) (κ : Eff → Option R) : Option R :=
  match E.ty t with
    | none => none
    | some ti => match ti.desc, operand s x with
      | .array n e, .agg cs => match E.ty e with
        | some te => indexK (operand s i) n fun j => if partFits te cs (j * te.size) then κ (.val (partPV te cs (j * te.size))) else none
        | none => none
      | .string, .str b => indexK (operand s i) b.size fun j => κ (.val (.int .u8 ((b.data.toList.getD j 0).toNat : Int)))
      | _, _ => none

def actExtract (E : Env) (call : Nat → List PV → Option PV) (s : St) (x : Operand) (i : Nat) (κ : Eff → Option R) : Option R :=
  match operand s x with
    | .tup vs => if i < vs.length then κ (.val (nth vs i)) else none
    | _ => none

def actNilCheck (E : Env) (call : Nat → List PV → Option PV) (s : St) (x : Operand) (κ : Eff → Option R) : Option R :=
  match operand s x with
    | .ptr d off => κ (.val (.ptr d off))
    | .rp cs off => κ (.val (.rp cs off))
    | _ => none

def actCall (E : Env) (call : Nat → List PV → Option PV) (s : St) (c : Call) (κ : Eff → Option R) : Option R :=
  match c.callee with
    | .value f => match operand s f with
      | .fn g caps => argsK s c.args.toList [] [] fun args ds => if plains (args ++ caps) then callK E call g (args ++ caps) ds κ else none
      | _ => none
    | .builtin .len => match c.args.toList, c.argTypes.toList with
      | [x], t :: _ => lenK E s t (operand s x) κ
      | _, _ => none
    | .builtin .max => match minmax true (c.args.toList.map (operand s)) with | some v => κ (.val v) | none => none
    | .builtin .min => match minmax false (c.args.toList.map (operand s)) with | some v => κ (.val v) | none => none
    | .builtin .append => match c.args.toList, c.argTypes.toList with
      | [x, y], [t, u] => appK E s t u (operand s x) (operand s y) κ
      | _, _ => none
    | _ => none

def actK (E : Env) (call : Nat → List PV → Option PV) (s : St) (o : Oper) (κ : Eff → Option R) : Option R :=
  match o.op with
  | .move x | .assign x => actMove E call s o.type x κ
  | .pick c a b => actPick E call s c a b κ
  | .alloc t => actAlloc E call s t κ
  | .box _ v => actBox E call s v κ
  | .build t parts => actBuild E call s t parts κ
  | .buildSlice t len parts => actBuildSlice E call s t len parts κ
  | .load t a => actLoad E call s t a κ
  | .store t a v => actStore E call s t a v κ
  | .binOp op t x y _ => actBinOp E call s op t x y κ
  | .unOp op _ x => actUnOp E call s op x κ
  | .convert src dst x => actConvert E call s src dst x κ
  | .makeFunc (.func f) first caps => actMakeFunc E call s f first caps κ
  | .makeSlice t l c => actMakeSlice E call s t l c κ
  | .slice t x lo hi none => actSlice E call s t x lo hi κ
  | .fieldAddr t x f => actFieldAddr E call s t x f κ
  | .field t x f => actField E call s t x f κ
  | .indexAddr t x i => actIndexAddr E call s t x i κ
  | .index t x i => actIndex E call s t x i κ
  | .extract x i => actExtract E call s x i κ
  | .nilCheck x => actNilCheck E call s x κ
  | .call c => actCall E call s c κ
  | _ => none

def refine (s : St) (t : Nat) (b : Bool) : St := { s with slots := s.slots.set t (.bool b) }

/-- A test on a slot: on each way the slot's value is known. -/
def splitK (s : St) (t : Nat) (κ : Bool → St → Option R) : Option R := match s.get t with
  | .bool b => cond b (forceL (refine s t true).slots fun sl => κ true { s with slots := sl }) (forceL (refine s t false).slots fun sl => κ false { s with slots := sl })
  | _ => none

/-- Is the operation carried out? -/
def wantK (ops : Array Oper) (s : St) (o : Oper) (κ : Bool → St → Option R) : Option R :=
  match o.guard with
  | none => κ true s
  | some (j, want) => match (ops[j]?).bind (·.dst) with
    | none => none
    | some t => match s.get t with
      | .tup [] => κ false s
      | _ => splitK s t fun b s => κ (b == want) s

def opsK (E : Env) (call : Nat → List PV → Option PV) (ops : Array Oper) : List Oper → St → (St → Option R) → Option R
  | [], s, κ => κ s
  | o :: rest, s, κ => wantK ops s o fun b s => match b with
    | true => actK E call s o fun e => match okEff s o.dst e with
      | true => updK s o.dst e fun s => opsK E call ops rest s κ
      | false => none
    | false => updK s o.dst .skip fun s => opsK E call ops rest s κ

/-- Of each operation, the earlier ones that must come before it. -/
def masks (ops : List Oper) : List Nat :=
  ops.foldl (fun acc o => acc ++ [o.after.toList.foldl (fun m e => if Region.binds .any e then m ||| 2 ^ e.on ||| acc.getD e.on 0 else m) 0]) []

def meets (a b : List Nat) : Bool := a.any fun x => b.contains x

/-- Two operations of which either may come first must not touch the same box, but for reading. -/
def clash (mask : Nat) (r w : List Nat) (tr : List (Nat × List Nat × List Nat)) : Bool :=
  tr.any fun x => !(mask.testBit x.1) && (meets x.2.2 r || meets x.2.2 w || meets x.2.1 w)

def opsD (E : Env) (call : Nat → List PV → Option PV) (ops : Array Oper) (ms : List Nat) : Nat → List Oper → List (Nat × List Nat × List Nat) → St → (St → Option R) → Option R
  | _, [], _, s, κ => κ s
  | i, o :: rest, tr, s, κ => wantK ops s o fun b s => match b with
    | true => actK E call s o fun e => match okEff s o.dst e && !clash (ms.getD i 0) e.reads (e.writes o.dst) tr with
      | true => updK s o.dst e fun s => opsD E call ops ms (i + 1) rest ((i, e.reads, e.writes o.dst) :: tr) s κ
      | false => none
    | false => updK s o.dst .skip fun s => opsD E call ops ms (i + 1) rest tr s κ

inductive Ex where
  | normal | ret
  | exit (id : Nat)

-- At a loop's head: tags begin anew, what points into a dropped box is forgotten.
mutual
def scrub (h : Hd) (vers : List Nat) : PV → PV
  | .sl tag ls xs => .sl (match tag with | some (d, v) => if v = vers.getD d 0 ∧ h.keep.contains d then some (d, 0) else none | none => none) ls xs
  | .ptr d off => if h.drop.contains d then .undef else .ptr d off
  | .row d => if h.drop.contains d then .undef else .row d
  | .rowp d i off => if h.drop.contains d then .undef else .rowp d i off
  | .agg cs => .agg (scrubs h vers cs)
  | .tup vs => .tup (scrubs h vers vs)
  | .rp cs off => if plains cs then .rp cs off else .undef
  | .fn f cs => if plains cs then .fn f cs else .undef
  | v => v
termination_by structural x => x
def scrubs (h : Hd) (vers : List Nat) : List PV → List PV
  | [] => []
  | v :: vs => scrub h vers v :: scrubs h vers vs
termination_by structural x => x
end
def scrubBox (h : Hd) (vers : List Nat) : Nat → List (Option Box) → List (Option Box)
  | _, [] => []
  | i, b :: bs => (if h.drop.contains i then none else match b with
      | some (.cells cs f) => some (.cells (scrubs h vers cs) f)
      | b => b) :: scrubBox h vers (i + 1) bs

def forget (l : List PV) : List Nat → List PV
  | [] => l
  | d :: ds => forget (l.set d .undef) ds

def St.head (s : St) (h : Hd) : St :=
  { slots := scrubs h s.vers (forget s.slots h.forget), boxes := scrubBox h s.vers 0 s.boxes, vers := s.vers.map fun _ => 0 }

/-- The number of the first region: a loop is known by it. -/
def firstRegion : Code → Nat
  | .region id _ _ => id
  | .seq a _ => firstRegion a
  | .block _ a => firstRegion a
  | .loop a => firstRegion a
  | _ => 0

/-- The rounds of a loop; each begins with a state that has gone through the head. -/
def loopJ (round : St → (Ex → St → Option R) → Option R) (h : Hd) (κ : Ex → St → Option R) : Nat → St → Option R
  | 0, _ => none
  | n + 1, s => round s fun e s' => match e with
    | .normal => forceSt (s'.head h) fun s => loopJ round h κ n s
    | e => κ e s'

def codeK (E : Env) (call : Nat → List PV → Option PV) (hs : Nat → Hd) : Code → St → (Ex → St → Option R) → Option R
  | .skip, s, κ => κ .normal s
  | .region _ ops draw, s, κ => match draw with
    | true => forceL (masks ops.toList) fun ms => opsD E call ops ms 0 ops.toList [] s fun s' => κ .normal s'
    | false => opsK E call ops ops.toList s fun s' => κ .normal s'
  | .seq a b, s, κ => codeK E call hs a s fun e s' => match e with
    | .normal => codeK E call hs b s' κ
    | e => κ e s'
  | .cond (.tmp t) a b, s, κ => splitK s t fun x s => match x with
    | true => codeK E call hs a s κ
    | false => codeK E call hs b s κ
  | .block id c, s, κ => codeK E call hs c s fun e s' => match e with
    | .exit j => if j = id then κ .normal s' else κ (.exit j) s'
    | e => κ e s'
  | .loop c, s, κ => forceSt (s.head (hs (firstRegion c))) fun s => loopJ (codeK E call hs c) (hs (firstRegion c)) κ E.fuel s
  | .exit id, s, κ => κ (.exit id) s
  | .ret, s, κ => κ .ret s
  | _, _, _ => none

def resultOf (E : Env) (s : St) : ResultVar → Nat → Option PV
  | .tmp t, _ => some (s.get t)
  | .cell a t, _ => match E.ty t, s.get a with
    | some ti, .ptr d off => match s.box d with
      | some (.cells cs _) => if partFits ti cs off then some (partPV ti cs off) else none
      | _ => none
    | _, _ => none
def results (E : Env) (s : St) : List ResultVar → Option (List PV)
  | [] => some []
  | r :: rs => match resultOf E s r 0, results E s rs with
    | some v, some vs => some (v :: vs)
    | _, _ => none
/-- What is handed back of it: a row is told as what it holds. -/
def handed (s : St) : PV → PV
  | .row d => match s.box d with | some (.row ls xs _) => .sl none ls xs | _ => .undef
  | v => strip v

def confT (E : Env) (t : Nat) (v : PV) : Bool := match E.ty t with
  | some ti => if ti.agg then (match v with | .agg cs => confs ti.lk cs | _ => false) else (match ti.lk with | [l] => conf l v | _ => false)
  | none => false
def confTs (E : Env) : List Nat → List PV → Bool
  | [], [] => true
  | t :: ts, v :: vs => confT E t v && confTs E ts vs
  | _, _ => false

def giveBack (E : Env) (f : Nat) (fn : Func) (s : St) : Option PV :=
  match results E s fn.results.toList with
  | none => none
  | some vs =>
    let rs := vs.map (handed s)
    if confTs E fn.resultTypes.toList rs then
      (match rs, vs with
      | [v], [u] => if E.own f then (match u with
          | .sl (some (d, k)) _ _ => if k = s.ver d then forceV v some else none
          | _ => none) else forceV v some
      | vs, _ => if E.own f then none else forceVs vs fun vs => some (.tup vs))
    else none

def bodyK (E : Env) (call : Nat → List PV → Option PV) (f : Nat) (fn : Func) (args : List PV) : Option PV :=
  match fn.body with
  | none => none
  | some c => match Nat.ble args.length fn.ntmps with
    | false => none
    | true => forceSt { slots := args ++ List.replicate (fn.ntmps - args.length) .undef, boxes := List.replicate fn.ntmps none, vers := List.replicate fn.ntmps 0 } fun s => codeK E call (E.loops f) c s fun e s => match e with
      | .normal | .ret => giveBack E f fn s
      | _ => none

def ev (E : Env) : Nat → Nat → List PV → Option PV
  | 0, _, _ => none
  | k + 1, f, args => match E.ext f with
    | some g => g args
    | none => match E.fn f with
      | none => none
      | some fn => bodyK E (ev E k) f fn args

end Go.Pev
