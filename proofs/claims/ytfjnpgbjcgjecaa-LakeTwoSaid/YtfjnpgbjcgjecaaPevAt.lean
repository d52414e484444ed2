/- A LOOP BY ITS PLACE in a function's code: what its rounds, and all that follows, give. -/
import Derived.Test.YtfjnpgbjcgjecaaPevEv
namespace Go.Pev
set_option linter.unusedVariables false

/-- The way to a piece of code: left or right of a sequence, either side of a test, into a block, into a loop (with the rounds that are left of it). -/
inductive Dir where
  | l | r | t | e | b
  | p (n : Nat)

def atK {R : Type} (E : Env) (call : Nat → List PV → Option PV) (hs : Nat → Hd) : List Dir → Code → (Ex → St → Option R) → Code × (Ex → St → Option R)
  | [], c, κ => (c, κ)
  | .l :: ds, .seq a b, κ => atK E call hs ds a fun e s' => match e with
    | .normal => codeK E call hs b s' κ
    | e => κ e s'
  | .r :: ds, .seq _ b, κ => atK E call hs ds b κ
  | .t :: ds, .cond _ a _, κ => atK E call hs ds a κ
  | .e :: ds, .cond _ _ b, κ => atK E call hs ds b κ
  | .b :: ds, .block id c, κ => atK E call hs ds c fun e s' => match e with
    | .exit j => if j = id then κ .normal s' else κ (.exit j) s'
    | e => κ e s'
  | .p n :: ds, .loop c, κ => atK E call hs ds c fun e s' => match e with
    | .normal => forceSt (s'.head (hs (firstRegion c))) fun s => loopJ (codeK E call hs c) (hs (firstRegion c)) κ n s
    | e => κ e s'
  | _, _, κ => (.skip, κ)

def loopAt (E : Env) (call : Nat → List PV → Option PV) (f : Nat) (fn : Func) (ds : List Dir) (n : Nat) (s : St) : Option PV :=
  match fn.body with
  | none => none
  | some c => match atK E call (E.loops f) ds c fun e s => match e with
      | .normal | .ret => giveBack E f fn s
      | _ => none with
    | (.loop c, κ) => loopJ (codeK E call (E.loops f) c) (E.loops f (firstRegion c)) κ n s
    | _ => none

end Go.Pev
