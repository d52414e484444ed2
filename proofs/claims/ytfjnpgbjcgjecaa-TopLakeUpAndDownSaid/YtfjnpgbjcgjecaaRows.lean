/-
  No cell of these rows narrows 'for every input' (looked for: loops, veiled, ifaces, maps, wideKeys, modest, calm, conditions, laid).
  DERIVED. THE GIVEN ROWS OF THIS SEAT. 11 by the template 'for every input the law returns true; each argument reads behind the call as it read before'; 0 by the template 'total and deterministic' (their statements: YtfjnpgbjcgjecaaTotals.lean).
  GIVEN WITH THE SEED: the statements are not yours to turn. If you find one false, say at which input.
  Laid BY PROGRAM, IN A SANDBOX (cutbox-rows.mjs): the forced cells as the released guide's own fill.sh prints them over the translation b29aeacce3431752… (all of the seat's roots in one cut). By AI agents, Wed Nov 11 2026. No macro, syntax, notation, axiom, sorry.
-/
import Derived.Test.YtfjnpgbjcgjecaaChecked
import GoSem.Claim
import GoSem.ClaimJoined
import GoSem.ClaimMapViews
import Derived.JoinedTies
import Derived.KernelRfl
namespace Go.Proofs.Ytfjnpgbjcgjecaa
/- THE CELL 'sum', in the pinned program and in every row, IS THE sha256 OF THE DUMP (.gsa) THAT YtfjnpgbjcgjecaaProg.lean LOADS. Nothing in Lean hashes anything: it is a label: what it is worth is what the hold of that sum in a sandbox is worth. -/
noncomputable def Try.pinned : Pinned := { name := "ytfjnpgbjcgjecaa", sum := "b29aeacce34317520016f2fa21414d68ed2a98d6c05326eca41edf672dc0715e", checked := Try.checked }
namespace Rows
def none {H : Type} : Left H := { results := [], args := [] }

/-- 'guidevanelaw01.LakeUsable': WHATEVER THE INPUT: true; the input reads as it did. -/
def lakeUsableSpec : ChangeSpec := { name := "lakeUsable", fn := fun _ => fun
  | [d1, d2, d3] => { results := [.lit (.bool true)], args := [d1, d2, d3] }
  | _ => none }
def lakeUsableRow : OpenClaim := { program := "ytfjnpgbjcgjecaa", sum := "b29aeacce34317520016f2fa21414d68ed2a98d6c05326eca41edf672dc0715e", func := "guidevane/guidevanelaw01.LakeUsable", spec := "lakeUsable", unfollowed := true, recurses := true, apart := false }
def LakeUsableSaid : Prop := lakeUsableRow.holds Try.pinned (OpenSpec.ofChange lakeUsableSpec)

/-- ITS FALSE NEIGHBOUR: 'it returns false'. Refute it at one input. -/
def lakeUsableWrong : ChangeSpec := { name := "lakeUsable", fn := fun _ => fun
  | [d1, d2, d3] => { results := [.lit (.bool false)], args := [d1, d2, d3] }
  | _ => none }
def LakeUsableWrongFalsely : Prop := lakeUsableRow.holds Try.pinned (OpenSpec.ofChange lakeUsableWrong)

/-- 'guidevanelaw01.LakeSteps': WHATEVER THE INPUT: true; the input reads as it did. -/
def lakeStepsSpec : ChangeSpec := { name := "lakeSteps", fn := fun _ => fun
  | [d1, d2, d3] => { results := [.lit (.bool true)], args := [d1, d2, d3] }
  | _ => none }
def lakeStepsRow : OpenClaim := { program := "ytfjnpgbjcgjecaa", sum := "b29aeacce34317520016f2fa21414d68ed2a98d6c05326eca41edf672dc0715e", func := "guidevane/guidevanelaw01.LakeSteps", spec := "lakeSteps", unfollowed := true, recurses := true, apart := false }
def LakeStepsSaid : Prop := lakeStepsRow.holds Try.pinned (OpenSpec.ofChange lakeStepsSpec)

/-- ITS FALSE NEIGHBOUR: 'it returns false'. Refute it at one input. -/
def lakeStepsWrong : ChangeSpec := { name := "lakeSteps", fn := fun _ => fun
  | [d1, d2, d3] => { results := [.lit (.bool false)], args := [d1, d2, d3] }
  | _ => none }
def LakeStepsWrongFalsely : Prop := lakeStepsRow.holds Try.pinned (OpenSpec.ofChange lakeStepsWrong)

/-- 'guidevanelaw01.LakeReadings': WHATEVER THE INPUT: true; the input reads as it did. -/
def lakeReadingsSpec : ChangeSpec := { name := "lakeReadings", fn := fun _ => fun
  | [d1, d2, d3] => { results := [.lit (.bool true)], args := [d1, d2, d3] }
  | _ => none }
def lakeReadingsRow : OpenClaim := { program := "ytfjnpgbjcgjecaa", sum := "b29aeacce34317520016f2fa21414d68ed2a98d6c05326eca41edf672dc0715e", func := "guidevane/guidevanelaw01.LakeReadings", spec := "lakeReadings", unfollowed := true, recurses := true, apart := false }
def LakeReadingsSaid : Prop := lakeReadingsRow.holds Try.pinned (OpenSpec.ofChange lakeReadingsSpec)

/-- ITS FALSE NEIGHBOUR: 'it returns false'. Refute it at one input. -/
def lakeReadingsWrong : ChangeSpec := { name := "lakeReadings", fn := fun _ => fun
  | [d1, d2, d3] => { results := [.lit (.bool false)], args := [d1, d2, d3] }
  | _ => none }
def LakeReadingsWrongFalsely : Prop := lakeReadingsRow.holds Try.pinned (OpenSpec.ofChange lakeReadingsWrong)

/-- 'guidevanelaw01.LakeTwo': WHATEVER THE INPUT: true; the input reads as it did. -/
def lakeTwoSpec : ChangeSpec := { name := "lakeTwo", fn := fun _ => fun
  | [d1, d2, d3] => { results := [.lit (.bool true)], args := [d1, d2, d3] }
  | _ => none }
def lakeTwoRow : OpenClaim := { program := "ytfjnpgbjcgjecaa", sum := "b29aeacce34317520016f2fa21414d68ed2a98d6c05326eca41edf672dc0715e", func := "guidevane/guidevanelaw01.LakeTwo", spec := "lakeTwo", unfollowed := true, recurses := true, apart := false }
def LakeTwoSaid : Prop := lakeTwoRow.holds Try.pinned (OpenSpec.ofChange lakeTwoSpec)

/-- ITS FALSE NEIGHBOUR: 'it returns false'. Refute it at one input. -/
def lakeTwoWrong : ChangeSpec := { name := "lakeTwo", fn := fun _ => fun
  | [d1, d2, d3] => { results := [.lit (.bool false)], args := [d1, d2, d3] }
  | _ => none }
def LakeTwoWrongFalsely : Prop := lakeTwoRow.holds Try.pinned (OpenSpec.ofChange lakeTwoWrong)

/-- 'guidevanetop.TopLakeUpAndDown': WHATEVER THE INPUT: true; the input reads as it did. -/
def topLakeUpAndDownSpec : ChangeSpec := { name := "topLakeUpAndDown", fn := fun _ => fun
  | [d1, d2, d3] => { results := [.lit (.bool true)], args := [d1, d2, d3] }
  | _ => none }
def topLakeUpAndDownRow : OpenClaim := { program := "ytfjnpgbjcgjecaa", sum := "b29aeacce34317520016f2fa21414d68ed2a98d6c05326eca41edf672dc0715e", func := "guidevane/guidevanetop.TopLakeUpAndDown", spec := "topLakeUpAndDown", unfollowed := true, recurses := true, apart := false }
def TopLakeUpAndDownSaid : Prop := topLakeUpAndDownRow.holds Try.pinned (OpenSpec.ofChange topLakeUpAndDownSpec)

/-- ITS FALSE NEIGHBOUR: 'it returns false'. Refute it at one input. -/
def topLakeUpAndDownWrong : ChangeSpec := { name := "topLakeUpAndDown", fn := fun _ => fun
  | [d1, d2, d3] => { results := [.lit (.bool false)], args := [d1, d2, d3] }
  | _ => none }
def TopLakeUpAndDownWrongFalsely : Prop := topLakeUpAndDownRow.holds Try.pinned (OpenSpec.ofChange topLakeUpAndDownWrong)

/-- 'guidevanelaw01.LakeTables': WHATEVER THE INPUT: true; the input reads as it did. -/
def lakeTablesSpec : ChangeSpec := { name := "lakeTables", fn := fun _ => fun
  | [d1, d2, d3] => { results := [.lit (.bool true)], args := [d1, d2, d3] }
  | _ => none }
def lakeTablesRow : OpenClaim := { program := "ytfjnpgbjcgjecaa", sum := "b29aeacce34317520016f2fa21414d68ed2a98d6c05326eca41edf672dc0715e", func := "guidevane/guidevanelaw01.LakeTables", spec := "lakeTables", unfollowed := true, recurses := true, apart := false }
def LakeTablesSaid : Prop := lakeTablesRow.holds Try.pinned (OpenSpec.ofChange lakeTablesSpec)

/-- ITS FALSE NEIGHBOUR: 'it returns false'. Refute it at one input. -/
def lakeTablesWrong : ChangeSpec := { name := "lakeTables", fn := fun _ => fun
  | [d1, d2, d3] => { results := [.lit (.bool false)], args := [d1, d2, d3] }
  | _ => none }
def LakeTablesWrongFalsely : Prop := lakeTablesRow.holds Try.pinned (OpenSpec.ofChange lakeTablesWrong)

/-- 'guidevanetop.TopDispatchReserve': WHATEVER THE INPUT: true; the input reads as it did. -/
def topDispatchReserveSpec : ChangeSpec := { name := "topDispatchReserve", fn := fun _ => fun
  | [d1, d2, d3] => { results := [.lit (.bool true)], args := [d1, d2, d3] }
  | _ => none }
def topDispatchReserveRow : OpenClaim := { program := "ytfjnpgbjcgjecaa", sum := "b29aeacce34317520016f2fa21414d68ed2a98d6c05326eca41edf672dc0715e", func := "guidevane/guidevanetop.TopDispatchReserve", spec := "topDispatchReserve", unfollowed := true, recurses := true, apart := false }
def TopDispatchReserveSaid : Prop := topDispatchReserveRow.holds Try.pinned (OpenSpec.ofChange topDispatchReserveSpec)

/-- ITS FALSE NEIGHBOUR: 'it returns false'. Refute it at one input. -/
def topDispatchReserveWrong : ChangeSpec := { name := "topDispatchReserve", fn := fun _ => fun
  | [d1, d2, d3] => { results := [.lit (.bool false)], args := [d1, d2, d3] }
  | _ => none }
def TopDispatchReserveWrongFalsely : Prop := topDispatchReserveRow.holds Try.pinned (OpenSpec.ofChange topDispatchReserveWrong)

/-- 'guidevanelaw01.LakeBetween': WHATEVER THE INPUT: true; the input reads as it did. -/
def lakeBetweenSpec : ChangeSpec := { name := "lakeBetween", fn := fun _ => fun
  | [d1, d2, d3] => { results := [.lit (.bool true)], args := [d1, d2, d3] }
  | _ => none }
def lakeBetweenRow : OpenClaim := { program := "ytfjnpgbjcgjecaa", sum := "b29aeacce34317520016f2fa21414d68ed2a98d6c05326eca41edf672dc0715e", func := "guidevane/guidevanelaw01.LakeBetween", spec := "lakeBetween", unfollowed := true, recurses := true, apart := false }
def LakeBetweenSaid : Prop := lakeBetweenRow.holds Try.pinned (OpenSpec.ofChange lakeBetweenSpec)

/-- ITS FALSE NEIGHBOUR: 'it returns false'. Refute it at one input. -/
def lakeBetweenWrong : ChangeSpec := { name := "lakeBetween", fn := fun _ => fun
  | [d1, d2, d3] => { results := [.lit (.bool false)], args := [d1, d2, d3] }
  | _ => none }
def LakeBetweenWrongFalsely : Prop := lakeBetweenRow.holds Try.pinned (OpenSpec.ofChange lakeBetweenWrong)

/-- 'guidevanelaw01.LakeSeasons': WHATEVER THE INPUT: true; the input reads as it did. -/
def lakeSeasonsSpec : ChangeSpec := { name := "lakeSeasons", fn := fun _ => fun
  | [d1, d2] => { results := [.lit (.bool true)], args := [d1, d2] }
  | _ => none }
def lakeSeasonsRow : OpenClaim := { program := "ytfjnpgbjcgjecaa", sum := "b29aeacce34317520016f2fa21414d68ed2a98d6c05326eca41edf672dc0715e", func := "guidevane/guidevanelaw01.LakeSeasons", spec := "lakeSeasons", unfollowed := true, recurses := true, apart := false }
def LakeSeasonsSaid : Prop := lakeSeasonsRow.holds Try.pinned (OpenSpec.ofChange lakeSeasonsSpec)

/-- ITS FALSE NEIGHBOUR: 'it returns false'. Refute it at one input. -/
def lakeSeasonsWrong : ChangeSpec := { name := "lakeSeasons", fn := fun _ => fun
  | [d1, d2] => { results := [.lit (.bool false)], args := [d1, d2] }
  | _ => none }
def LakeSeasonsWrongFalsely : Prop := lakeSeasonsRow.holds Try.pinned (OpenSpec.ofChange lakeSeasonsWrong)

/-- 'guidevanelaw01.LakeRuns': WHATEVER THE INPUT: true; the input reads as it did. -/
def lakeRunsSpec : ChangeSpec := { name := "lakeRuns", fn := fun _ => fun
  | [d1, d2, d3] => { results := [.lit (.bool true)], args := [d1, d2, d3] }
  | _ => none }
def lakeRunsRow : OpenClaim := { program := "ytfjnpgbjcgjecaa", sum := "b29aeacce34317520016f2fa21414d68ed2a98d6c05326eca41edf672dc0715e", func := "guidevane/guidevanelaw01.LakeRuns", spec := "lakeRuns", unfollowed := true, recurses := true, apart := false }
def LakeRunsSaid : Prop := lakeRunsRow.holds Try.pinned (OpenSpec.ofChange lakeRunsSpec)

/-- ITS FALSE NEIGHBOUR: 'it returns false'. Refute it at one input. -/
def lakeRunsWrong : ChangeSpec := { name := "lakeRuns", fn := fun _ => fun
  | [d1, d2, d3] => { results := [.lit (.bool false)], args := [d1, d2, d3] }
  | _ => none }
def LakeRunsWrongFalsely : Prop := lakeRunsRow.holds Try.pinned (OpenSpec.ofChange lakeRunsWrong)

/-- 'guidevanelaw01.LakeKept': WHATEVER THE INPUT: true; the input reads as it did. -/
def lakeKeptSpec : ChangeSpec := { name := "lakeKept", fn := fun _ => fun
  | [d1, d2, d3] => { results := [.lit (.bool true)], args := [d1, d2, d3] }
  | _ => none }
def lakeKeptRow : OpenClaim := { program := "ytfjnpgbjcgjecaa", sum := "b29aeacce34317520016f2fa21414d68ed2a98d6c05326eca41edf672dc0715e", func := "guidevane/guidevanelaw01.LakeKept", spec := "lakeKept", unfollowed := true, recurses := true, apart := false }
def LakeKeptSaid : Prop := lakeKeptRow.holds Try.pinned (OpenSpec.ofChange lakeKeptSpec)

/-- ITS FALSE NEIGHBOUR: 'it returns false'. Refute it at one input. -/
def lakeKeptWrong : ChangeSpec := { name := "lakeKept", fn := fun _ => fun
  | [d1, d2, d3] => { results := [.lit (.bool false)], args := [d1, d2, d3] }
  | _ => none }
def LakeKeptWrongFalsely : Prop := lakeKeptRow.holds Try.pinned (OpenSpec.ofChange lakeKeptWrong)

/- THE SECOND FORM. 'bulk': how many values and letters a reading holds, each counted each time it is reached (what is shared counts as often as it is met; a slice's spare places count too). A statement '..UptoSaid' is the law's where the arguments, and the package variables that the reading takes, are together of bulk at most 1048576: NARROWER than '..Said'. Prove '..Said' where nothing that the law and all that it calls make is longer than what came in: it says more and counts as full. Else prove '..UptoSaid'. A law counts once. -/
mutual
def uptoBulk {H : Type} : DataW H → Nat
  | .lit (.string bytes) => bytes.length + 1
  | .lit _ => 1
  | .nil => 1
  | .ptr d => uptoBulk d + 1
  | .slice elems spare => uptoBulkAll elems + uptoBulkAll spare + 1
  | .agg parts => uptoBulkAll parts + 1
  | .iface _ d => uptoBulk d + 1
  | .map entries => uptoBulkEntries entries + 1
  | .held _ => 1
def uptoBulkAll {H : Type} : List (DataW H) → Nat
  | [] => 0
  | d :: r => uptoBulk d + uptoBulkAll r
def uptoBulkEntries {H : Type} : List (Lit × DataW H) → Nat
  | [] => 0
  | x :: r => uptoBulkEntry x + uptoBulkEntries r
def uptoBulkEntry {H : Type} : Lit × DataW H → Nat
  | (.string bytes, d) => bytes.length + uptoBulk d + 1
  | (_, d) => uptoBulk d + 1
 end
def uptoSmall : (H : Type) → List (DataW H) → Bool := fun _ ds => decide (uptoBulkAll ds ≤ 1048576)
def OpenSpec.upto (s : _root_.Go.ChangeSpec) : _root_.Go.OpenSpec := { _root_.Go.OpenSpec.ofChange s with cond := some uptoSmall }

/-- 'guidevanelaw01.LakeUsable', WHERE WHAT IT READS IS OF BULK AT MOST 1048576: true; the input reads as it did. -/
def lakeUsableUptoRow : OpenClaim := { program := "ytfjnpgbjcgjecaa", sum := "b29aeacce34317520016f2fa21414d68ed2a98d6c05326eca41edf672dc0715e", func := "guidevane/guidevanelaw01.LakeUsable", spec := "lakeUsable", unfollowed := true, recurses := true, apart := false, narrowed := true }
def LakeUsableUptoSaid : Prop := lakeUsableUptoRow.holds Try.pinned (OpenSpec.upto lakeUsableSpec)

/-- 'guidevanelaw01.LakeSteps', WHERE WHAT IT READS IS OF BULK AT MOST 1048576: true; the input reads as it did. -/
def lakeStepsUptoRow : OpenClaim := { program := "ytfjnpgbjcgjecaa", sum := "b29aeacce34317520016f2fa21414d68ed2a98d6c05326eca41edf672dc0715e", func := "guidevane/guidevanelaw01.LakeSteps", spec := "lakeSteps", unfollowed := true, recurses := true, apart := false, narrowed := true }
def LakeStepsUptoSaid : Prop := lakeStepsUptoRow.holds Try.pinned (OpenSpec.upto lakeStepsSpec)

/-- 'guidevanelaw01.LakeReadings', WHERE WHAT IT READS IS OF BULK AT MOST 1048576: true; the input reads as it did. -/
def lakeReadingsUptoRow : OpenClaim := { program := "ytfjnpgbjcgjecaa", sum := "b29aeacce34317520016f2fa21414d68ed2a98d6c05326eca41edf672dc0715e", func := "guidevane/guidevanelaw01.LakeReadings", spec := "lakeReadings", unfollowed := true, recurses := true, apart := false, narrowed := true }
def LakeReadingsUptoSaid : Prop := lakeReadingsUptoRow.holds Try.pinned (OpenSpec.upto lakeReadingsSpec)

/-- 'guidevanelaw01.LakeTwo', WHERE WHAT IT READS IS OF BULK AT MOST 1048576: true; the input reads as it did. -/
def lakeTwoUptoRow : OpenClaim := { program := "ytfjnpgbjcgjecaa", sum := "b29aeacce34317520016f2fa21414d68ed2a98d6c05326eca41edf672dc0715e", func := "guidevane/guidevanelaw01.LakeTwo", spec := "lakeTwo", unfollowed := true, recurses := true, apart := false, narrowed := true }
def LakeTwoUptoSaid : Prop := lakeTwoUptoRow.holds Try.pinned (OpenSpec.upto lakeTwoSpec)

/-- 'guidevanetop.TopLakeUpAndDown', WHERE WHAT IT READS IS OF BULK AT MOST 1048576: true; the input reads as it did. -/
def topLakeUpAndDownUptoRow : OpenClaim := { program := "ytfjnpgbjcgjecaa", sum := "b29aeacce34317520016f2fa21414d68ed2a98d6c05326eca41edf672dc0715e", func := "guidevane/guidevanetop.TopLakeUpAndDown", spec := "topLakeUpAndDown", unfollowed := true, recurses := true, apart := false, narrowed := true }
def TopLakeUpAndDownUptoSaid : Prop := topLakeUpAndDownUptoRow.holds Try.pinned (OpenSpec.upto topLakeUpAndDownSpec)

/-- 'guidevanelaw01.LakeTables', WHERE WHAT IT READS IS OF BULK AT MOST 1048576: true; the input reads as it did. -/
def lakeTablesUptoRow : OpenClaim := { program := "ytfjnpgbjcgjecaa", sum := "b29aeacce34317520016f2fa21414d68ed2a98d6c05326eca41edf672dc0715e", func := "guidevane/guidevanelaw01.LakeTables", spec := "lakeTables", unfollowed := true, recurses := true, apart := false, narrowed := true }
def LakeTablesUptoSaid : Prop := lakeTablesUptoRow.holds Try.pinned (OpenSpec.upto lakeTablesSpec)

/-- 'guidevanetop.TopDispatchReserve', WHERE WHAT IT READS IS OF BULK AT MOST 1048576: true; the input reads as it did. -/
def topDispatchReserveUptoRow : OpenClaim := { program := "ytfjnpgbjcgjecaa", sum := "b29aeacce34317520016f2fa21414d68ed2a98d6c05326eca41edf672dc0715e", func := "guidevane/guidevanetop.TopDispatchReserve", spec := "topDispatchReserve", unfollowed := true, recurses := true, apart := false, narrowed := true }
def TopDispatchReserveUptoSaid : Prop := topDispatchReserveUptoRow.holds Try.pinned (OpenSpec.upto topDispatchReserveSpec)

/-- 'guidevanelaw01.LakeBetween', WHERE WHAT IT READS IS OF BULK AT MOST 1048576: true; the input reads as it did. -/
def lakeBetweenUptoRow : OpenClaim := { program := "ytfjnpgbjcgjecaa", sum := "b29aeacce34317520016f2fa21414d68ed2a98d6c05326eca41edf672dc0715e", func := "guidevane/guidevanelaw01.LakeBetween", spec := "lakeBetween", unfollowed := true, recurses := true, apart := false, narrowed := true }
def LakeBetweenUptoSaid : Prop := lakeBetweenUptoRow.holds Try.pinned (OpenSpec.upto lakeBetweenSpec)

/-- 'guidevanelaw01.LakeSeasons', WHERE WHAT IT READS IS OF BULK AT MOST 1048576: true; the input reads as it did. -/
def lakeSeasonsUptoRow : OpenClaim := { program := "ytfjnpgbjcgjecaa", sum := "b29aeacce34317520016f2fa21414d68ed2a98d6c05326eca41edf672dc0715e", func := "guidevane/guidevanelaw01.LakeSeasons", spec := "lakeSeasons", unfollowed := true, recurses := true, apart := false, narrowed := true }
def LakeSeasonsUptoSaid : Prop := lakeSeasonsUptoRow.holds Try.pinned (OpenSpec.upto lakeSeasonsSpec)

/-- 'guidevanelaw01.LakeRuns', WHERE WHAT IT READS IS OF BULK AT MOST 1048576: true; the input reads as it did. -/
def lakeRunsUptoRow : OpenClaim := { program := "ytfjnpgbjcgjecaa", sum := "b29aeacce34317520016f2fa21414d68ed2a98d6c05326eca41edf672dc0715e", func := "guidevane/guidevanelaw01.LakeRuns", spec := "lakeRuns", unfollowed := true, recurses := true, apart := false, narrowed := true }
def LakeRunsUptoSaid : Prop := lakeRunsUptoRow.holds Try.pinned (OpenSpec.upto lakeRunsSpec)

/-- 'guidevanelaw01.LakeKept', WHERE WHAT IT READS IS OF BULK AT MOST 1048576: true; the input reads as it did. -/
def lakeKeptUptoRow : OpenClaim := { program := "ytfjnpgbjcgjecaa", sum := "b29aeacce34317520016f2fa21414d68ed2a98d6c05326eca41edf672dc0715e", func := "guidevane/guidevanelaw01.LakeKept", spec := "lakeKept", unfollowed := true, recurses := true, apart := false, narrowed := true }
def LakeKeptUptoSaid : Prop := lakeKeptUptoRow.holds Try.pinned (OpenSpec.upto lakeKeptSpec)

end Rows
end Go.Proofs.Ytfjnpgbjcgjecaa
