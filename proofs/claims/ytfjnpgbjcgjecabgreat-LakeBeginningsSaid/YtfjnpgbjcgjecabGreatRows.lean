/-
  No cell of these rows narrows 'for every input' (looked for: loops, veiled, ifaces, maps, wideKeys, modest, calm, conditions, laid).
  DERIVED. THE GIVEN ROWS OF THIS SEAT. 3 by the template 'for every input the law returns true; each argument reads behind the call as it read before'; 0 by the template 'total and deterministic' (their statements: YtfjnpgbjcgjecabGreatTotals.lean).
  GIVEN WITH THE SEED: the statements are not yours to turn. If you find one false, say at which input.
  Laid BY PROGRAM, IN A SANDBOX (cutbox-rows.mjs): the forced cells as the released guide's own fill.sh prints them over the translation 7876c600b975e7ab… (all of the seat's roots in one cut). By AI agents, Wed Nov 11 2026. No macro, syntax, notation, axiom, sorry.
-/
import Derived.Test.YtfjnpgbjcgjecabGreatChecked
import GoSem.Claim
import GoSem.ClaimJoined
import GoSem.ClaimMapViews
import Derived.JoinedTies
import Derived.KernelRfl
namespace Go.Proofs.YtfjnpgbjcgjecabGreat
/- THE CELL 'sum', in the pinned program and in every row, IS THE sha256 OF THE DUMP (.gsa) THAT YtfjnpgbjcgjecabGreatProg.lean LOADS. Nothing in Lean hashes anything: it is a label: what it is worth is what the hold of that sum in a sandbox is worth. -/
noncomputable def Tryz.pinned : Pinned := { name := "ytfjnpgbjcgjecabgreat", sum := "7876c600b975e7abb3150e760c9b8a144a6b9c201a182be6d7cd66d42b4f310f", checked := Tryz.checked }
namespace Rows
def none {H : Type} : Left H := { results := [], args := [] }

/-- 'guidevanelaw01.LakeLimits': WHATEVER THE INPUT: true; the input reads as it did. -/
def lakeLimitsSpec : ChangeSpec := { name := "lakeLimits", fn := fun _ => fun
  | [d1, d2, d3] => { results := [.lit (.bool true)], args := [d1, d2, d3] }
  | _ => none }
def lakeLimitsRow : OpenClaim := { program := "ytfjnpgbjcgjecabgreat", sum := "7876c600b975e7abb3150e760c9b8a144a6b9c201a182be6d7cd66d42b4f310f", func := "guidevane/guidevanelaw01.LakeLimits", spec := "lakeLimits", unfollowed := true, recurses := true, apart := false }
def LakeLimitsSaid : Prop := lakeLimitsRow.holds Tryz.pinned (OpenSpec.ofChange lakeLimitsSpec)

/-- ITS FALSE NEIGHBOUR: 'it returns false'. Refute it at one input. -/
def lakeLimitsWrong : ChangeSpec := { name := "lakeLimits", fn := fun _ => fun
  | [d1, d2, d3] => { results := [.lit (.bool false)], args := [d1, d2, d3] }
  | _ => none }
def LakeLimitsWrongFalsely : Prop := lakeLimitsRow.holds Tryz.pinned (OpenSpec.ofChange lakeLimitsWrong)

/-- 'guidevanelaw01.LakePermitted': WHATEVER THE INPUT: true; the input reads as it did. -/
def lakePermittedSpec : ChangeSpec := { name := "lakePermitted", fn := fun _ => fun
  | [d1, d2, d3] => { results := [.lit (.bool true)], args := [d1, d2, d3] }
  | _ => none }
def lakePermittedRow : OpenClaim := { program := "ytfjnpgbjcgjecabgreat", sum := "7876c600b975e7abb3150e760c9b8a144a6b9c201a182be6d7cd66d42b4f310f", func := "guidevane/guidevanelaw01.LakePermitted", spec := "lakePermitted", unfollowed := true, recurses := true, apart := false }
def LakePermittedSaid : Prop := lakePermittedRow.holds Tryz.pinned (OpenSpec.ofChange lakePermittedSpec)

/-- ITS FALSE NEIGHBOUR: 'it returns false'. Refute it at one input. -/
def lakePermittedWrong : ChangeSpec := { name := "lakePermitted", fn := fun _ => fun
  | [d1, d2, d3] => { results := [.lit (.bool false)], args := [d1, d2, d3] }
  | _ => none }
def LakePermittedWrongFalsely : Prop := lakePermittedRow.holds Tryz.pinned (OpenSpec.ofChange lakePermittedWrong)

/-- 'guidevanelaw01.LakeBeginnings': WHATEVER THE INPUT: true; the input reads as it did. -/
def lakeBeginningsSpec : ChangeSpec := { name := "lakeBeginnings", fn := fun _ => fun
  | [d1, d2, d3] => { results := [.lit (.bool true)], args := [d1, d2, d3] }
  | _ => none }
def lakeBeginningsRow : OpenClaim := { program := "ytfjnpgbjcgjecabgreat", sum := "7876c600b975e7abb3150e760c9b8a144a6b9c201a182be6d7cd66d42b4f310f", func := "guidevane/guidevanelaw01.LakeBeginnings", spec := "lakeBeginnings", unfollowed := true, recurses := true, apart := false }
def LakeBeginningsSaid : Prop := lakeBeginningsRow.holds Tryz.pinned (OpenSpec.ofChange lakeBeginningsSpec)

/-- ITS FALSE NEIGHBOUR: 'it returns false'. Refute it at one input. -/
def lakeBeginningsWrong : ChangeSpec := { name := "lakeBeginnings", fn := fun _ => fun
  | [d1, d2, d3] => { results := [.lit (.bool false)], args := [d1, d2, d3] }
  | _ => none }
def LakeBeginningsWrongFalsely : Prop := lakeBeginningsRow.holds Tryz.pinned (OpenSpec.ofChange lakeBeginningsWrong)

/- THE SECOND FORM. 'bulk': how many values and letters a reading holds, each counted each time it is reached (what is shared counts as often as it is met; a slice's spare places count too). A statement '..UptoSaid' is the law's where the arguments, and the package variables that the reading takes, are together of bulk at most 1048576: NARROWER than '..Said'. Prove '..Said' where nothing that the law and all that it calls make is longer than what came in: it says more and counts as full. Else prove '..UptoSaid'. A law counts once. -/
mutual
def uptoBulk {H : Type} : DataW H → Nat
  | .lit (.string bytes) => bytes.length + 1
  | .lit _ => 1
  | .nil => 1
  | .ptr d => uptoBulk d + 1
  | .slice elems spare => uptoBulkAll elems + uptoBulkAll spare + 1
  | .agg parts => uptoBulkAll parts + 1
  | .iface _ d => uptoBulk d + 1
  | .map entries => uptoBulkEntries entries + 1
  | .held _ => 1
def uptoBulkAll {H : Type} : List (DataW H) → Nat
  | [] => 0
  | d :: r => uptoBulk d + uptoBulkAll r
def uptoBulkEntries {H : Type} : List (Lit × DataW H) → Nat
  | [] => 0
  | x :: r => uptoBulkEntry x + uptoBulkEntries r
def uptoBulkEntry {H : Type} : Lit × DataW H → Nat
  | (.string bytes, d) => bytes.length + uptoBulk d + 1
  | (_, d) => uptoBulk d + 1
 end
def uptoSmall : (H : Type) → List (DataW H) → Bool := fun _ ds => decide (uptoBulkAll ds ≤ 1048576)
def OpenSpec.upto (s : _root_.Go.ChangeSpec) : _root_.Go.OpenSpec := { _root_.Go.OpenSpec.ofChange s with cond := some uptoSmall }

/-- 'guidevanelaw01.LakeLimits', WHERE WHAT IT READS IS OF BULK AT MOST 1048576: true; the input reads as it did. -/
def lakeLimitsUptoRow : OpenClaim := { program := "ytfjnpgbjcgjecabgreat", sum := "7876c600b975e7abb3150e760c9b8a144a6b9c201a182be6d7cd66d42b4f310f", func := "guidevane/guidevanelaw01.LakeLimits", spec := "lakeLimits", unfollowed := true, recurses := true, apart := false, narrowed := true }
def LakeLimitsUptoSaid : Prop := lakeLimitsUptoRow.holds Tryz.pinned (OpenSpec.upto lakeLimitsSpec)

/-- 'guidevanelaw01.LakePermitted', WHERE WHAT IT READS IS OF BULK AT MOST 1048576: true; the input reads as it did. -/
def lakePermittedUptoRow : OpenClaim := { program := "ytfjnpgbjcgjecabgreat", sum := "7876c600b975e7abb3150e760c9b8a144a6b9c201a182be6d7cd66d42b4f310f", func := "guidevane/guidevanelaw01.LakePermitted", spec := "lakePermitted", unfollowed := true, recurses := true, apart := false, narrowed := true }
def LakePermittedUptoSaid : Prop := lakePermittedUptoRow.holds Tryz.pinned (OpenSpec.upto lakePermittedSpec)

/-- 'guidevanelaw01.LakeBeginnings', WHERE WHAT IT READS IS OF BULK AT MOST 1048576: true; the input reads as it did. -/
def lakeBeginningsUptoRow : OpenClaim := { program := "ytfjnpgbjcgjecabgreat", sum := "7876c600b975e7abb3150e760c9b8a144a6b9c201a182be6d7cd66d42b4f310f", func := "guidevane/guidevanelaw01.LakeBeginnings", spec := "lakeBeginnings", unfollowed := true, recurses := true, apart := false, narrowed := true }
def LakeBeginningsUptoSaid : Prop := lakeBeginningsUptoRow.holds Tryz.pinned (OpenSpec.upto lakeBeginningsSpec)

end Rows
end Go.Proofs.YtfjnpgbjcgjecabGreat
