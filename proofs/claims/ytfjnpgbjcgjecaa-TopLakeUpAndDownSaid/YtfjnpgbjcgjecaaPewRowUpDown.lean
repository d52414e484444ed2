/- The law TopLakeUpAndDown returns true at every input, and its arguments read as before; under no condition but the row's own. -/
import Derived.Test.YtfjnpgbjcgjecaaRows
import Derived.Test.YtfjnpgbjcgjecaaPewG8
import Derived.JoinedOf

namespace Go.Proofs.Ytfjnpgbjcgjecaa.topLakeUpAndDown
open Go.ChangeShapes Go.WideShapes Go.ChangeAt Go.RowKit Go.Pew
theorem own : ownKnob Try.prog.godebug = none := by kernel_rfl
theorem laidOut : laidOutB Try.prog = true := by kernel_rfl
theorem params : Try.f7.params.toList = [26, 28, 84] := by kernel_rfl
theorem argsOk : ∀ t ∈ Try.f7.params.toList, argOk (Go.PewTab.envF 1000000) t = true := by
  rw [params]
  intro t ht
  simp only [List.mem_cons, List.not_mem_nil, or_false] at ht
  rcases ht with rfl | rfl | rfl
  · kernel_rfl
  · kernel_rfl
  · kernel_rfl
theorem readOk : ∀ t ∈ Try.f7.params.toList, Try.prog.readableRec t = true ∧ t < Try.prog.types.size := by
  rw [params]
  intro t ht
  simp only [List.mem_cons, List.not_mem_nil, or_false] at ht
  rcases ht with rfl | rfl | rfl
  · exact ⟨by kernel_rfl, of_decide_eq_true (by kernel_rfl)⟩
  · exact ⟨by kernel_rfl, of_decide_eq_true (by kernel_rfl)⟩
  · exact ⟨by kernel_rfl, of_decide_eq_true (by kernel_rfl)⟩
theorem told (H : Type) : ∀ ds : List (DataW H), ds.length = Try.f7.params.toList.length → Rows.topLakeUpAndDownSpec.fn H ds = { results := [.lit (.bool true)], args := ds } := by
  intro ds h
  rw [params] at h
  match ds, h with
  | [d0, d1, d2], _ => rfl
set_option maxRecDepth 100000 in
theorem lifted (os : Os) (started : os.Started) (H : Type) (enc : TypeId × Value → H) :
    ReturnsInHanded {} Try.checked os 7 .any (Rows.topLakeUpAndDownSpec.pre6 enc Try.prog Try.f7 Rows.topLakeUpAndDownRow.domain false) (Rows.topLakeUpAndDownSpec.post enc Try.prog Try.f7 false true false false) := by
  refine returnsInHanded_of_change_sized (C := Try.checked) own started (by kernel_rfl) Try.func7
    (ChangeSpec.witness6 (enc := enc) (C := Try.checked) false ⟨#[], #[.agg #[.slice none 0 0, .slice none 0 0, .int .i64 0], .agg #[.int .i64 0, .int .i64 0], .agg #[.int .i64 0, .int .i64 0, .int .i64 0, .int .i64 0, .int .i64 0, .int .i64 0, .int .i64 0, .int .i64 0, .int .i64 0, .int .i64 0, .slice none 0 0]], []⟩ 8 (by kernel_rfl) (by kernel_rfl) (by kernel_rfl) (by kernel_rfl)) ?_
  intro W base args ds gs before hval0 hW hcnd hsz0 _
  exact row_calls (Go.PewTab.progOk 1000000) laidOut rfl (by kernel_rfl) Try.underlying4 (told H) argsOk readOk (fun xs h1 h2 => Go.PewTab.TopLakeUpAndDown_contract xs (by rw [params] at h1; exact h1) h2) W base args ds gs before hval0 hW
theorem over : Rows.topLakeUpAndDownRow.holds Try.pinned (OpenSpec.ofChange Rows.topLakeUpAndDownSpec) :=
  OpenClaim.holds_of_wide 7 Try.f7 rfl rfl rfl rfl rfl rfl rfl ⟨rfl, rfl, rfl, rfl, rfl⟩ rfl rfl rfl rfl rfl (by kernel_rfl) Try.func7 (by kernel_rfl)
    (of_decide_eq_true (by kernel_rfl)) (by unfold Func.isWrapper; first | (rw [if_pos (by decide +kernel)]; kernel_rfl) | (rw [if_neg (by decide +kernel)]; exact ⟨rfl, rfl⟩))
    (fun os started H enc _ => lifted os started H enc)
theorem proved : Rows.TopLakeUpAndDownSaid := over
end Go.Proofs.Ytfjnpgbjcgjecaa.topLakeUpAndDown
namespace Go.Proofs.Ytfjnpgbjcgjecaa
theorem topLakeUpAndDown_holds : Rows.TopLakeUpAndDownSaid := topLakeUpAndDown.proved
end Go.Proofs.Ytfjnpgbjcgjecaa
