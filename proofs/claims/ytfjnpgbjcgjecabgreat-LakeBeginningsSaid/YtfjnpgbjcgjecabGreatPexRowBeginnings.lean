/- The law LakeBeginnings returns true at every input, and its arguments read as before; under no condition but the row's own. -/
import Derived.Test.YtfjnpgbjcgjecabGreatRows
import Derived.Test.YtfjnpgbjcgjecabGreatPewG8
import Derived.JoinedOf

namespace Go.Proofs.YtfjnpgbjcgjecabGreat.lakeBeginnings
open Go.ChangeShapes Go.WideShapes Go.ChangeAt Go.RowKit Go.Pew
theorem own : ownKnob Tryz.prog.godebug = none := by kernel_rfl
theorem laidOut : laidOutB Tryz.prog = true := by kernel_rfl
theorem params : Tryz.f5.params.toList = [26, 28, 37] := by kernel_rfl
theorem argsOk : ∀ t ∈ Tryz.f5.params.toList, argOk (Go.PewTab.envF 1000000) t = true := by
  rw [params]
  intro t ht
  simp only [List.mem_cons, List.not_mem_nil, or_false] at ht
  rcases ht with rfl | rfl | rfl
  · kernel_rfl
  · kernel_rfl
  · kernel_rfl
theorem readOk : ∀ t ∈ Tryz.f5.params.toList, Tryz.prog.readableRec t = true ∧ t < Tryz.prog.types.size := by
  rw [params]
  intro t ht
  simp only [List.mem_cons, List.not_mem_nil, or_false] at ht
  rcases ht with rfl | rfl | rfl
  · exact ⟨by kernel_rfl, of_decide_eq_true (by kernel_rfl)⟩
  · exact ⟨by kernel_rfl, of_decide_eq_true (by kernel_rfl)⟩
  · exact ⟨by kernel_rfl, of_decide_eq_true (by kernel_rfl)⟩
theorem told (H : Type) : ∀ ds : List (DataW H), ds.length = Tryz.f5.params.toList.length → Rows.lakeBeginningsSpec.fn H ds = { results := [.lit (.bool true)], args := ds } := by
  intro ds h
  rw [params] at h
  match ds, h with
  | [d0, d1, d2], _ => rfl
set_option maxRecDepth 100000 in
theorem lifted (os : Os) (started : os.Started) (H : Type) (enc : TypeId × Value → H) :
    ReturnsInHanded {} Tryz.checked os 5 .any (Rows.lakeBeginningsSpec.pre6 enc Tryz.prog Tryz.f5 Rows.lakeBeginningsRow.domain false) (Rows.lakeBeginningsSpec.post enc Tryz.prog Tryz.f5 false true false false) := by
  refine returnsInHanded_of_change_sized (C := Tryz.checked) own started (by kernel_rfl) Tryz.func5
    (ChangeSpec.witness6 (enc := enc) (C := Tryz.checked) false ⟨#[], #[.agg #[.slice none 0 0, .slice none 0 0, .int .i64 0], .agg #[.int .i64 0, .int .i64 0], .agg #[.int .i64 0, .int .i64 0, .int .i64 0, .int .i64 0, .int .i64 0, .int .i64 0, .int .i64 0, .int .i64 0, .int .i64 0, .int .i64 0, .slice none 0 0]], []⟩ 8 (by kernel_rfl) (by kernel_rfl) (by kernel_rfl) (by kernel_rfl)) ?_
  intro W base args ds gs before hval0 hW hcnd hsz0 _
  exact row_calls (Go.PewTab.progOk 1000000) laidOut rfl (by kernel_rfl) Tryz.underlying4 (told H) argsOk readOk (fun xs h1 h2 => Go.PewTab.LakeBeginnings_contract xs (by rw [params] at h1; exact h1) h2) W base args ds gs before hval0 hW
theorem over : Rows.lakeBeginningsRow.holds Tryz.pinned (OpenSpec.ofChange Rows.lakeBeginningsSpec) :=
  OpenClaim.holds_of_wide 5 Tryz.f5 rfl rfl rfl rfl rfl rfl rfl ⟨rfl, rfl, rfl, rfl, rfl⟩ rfl rfl rfl rfl rfl (by kernel_rfl) Tryz.func5 (by kernel_rfl)
    (of_decide_eq_true (by kernel_rfl)) (by unfold Func.isWrapper; first | (rw [if_pos (by decide +kernel)]; kernel_rfl) | (rw [if_neg (by decide +kernel)]; exact ⟨rfl, rfl⟩))
    (fun os started H enc _ => lifted os started H enc)
theorem proved : Rows.LakeBeginningsSaid := over
end Go.Proofs.YtfjnpgbjcgjecabGreat.lakeBeginnings
namespace Go.Proofs.YtfjnpgbjcgjecabGreat
theorem lakeBeginnings_holds : Rows.LakeBeginningsSaid := lakeBeginnings.proved
end Go.Proofs.YtfjnpgbjcgjecabGreat
