/- THE LAW OF SEASONS: its contract. -/
import Derived.Test.YtfjnpgbjcgjecaaPevLSeasons
import Derived.Test.YtfjnpgbjcgjecaaPevArgs
import Derived.Test.YtfjnpgbjcgjecaaPevAwake
namespace Go.PevTab
open Go.Pev Go.Num Go.RowKit

theorem LakeSeasons_contract (xs : List PV) (h : confTs (envF 1000000) [146, 3] xs = true) (hf : fits xs) : Contract Go.Proofs.Try.prog (envF 1000000) 11 xs (.bool true) := by
  obtain ⟨p, ps, rfl, h1, h⟩ := confTs_cons h
  obtain ⟨q, qs, rfl, h2, h⟩ := confTs_cons h
  rw [confTs_nil h] at *
  obtain ⟨x, rfl⟩ := conf_sl (confT_leaf (l := .sl [.int .i64, .int .i64, .int .i64]) (t := 146) (ti := ty146) (by kernel_rfl) (by kernel_rfl) (by kernel_rfl) h1)
  obtain ⟨d, rfl⟩ := conf_int (confT_leaf (l := .int .i64) (t := 3) (ti := ty3) (by kernel_rfl) (by kernel_rfl) (by kernel_rfl) h2)
  obtain ⟨f1, f2, _⟩ := hf
  obtain ⟨l, rfl⟩ := rows_of (c := cSe) (fun y hy => by
    obtain ⟨a, b, c, rfl⟩ := int3 hy
    exact ⟨⟨a, b, c⟩, rfl⟩) f1.2.1
  exact ev_sound (progOk 1000000) (by intro f g h; cases h) 41 11 _ _ (LakeSeasons_ev (N := 1000000) (k := 37) (Nat.le_refl _) awake_ok l d (i64_of f2))

end Go.PevTab
