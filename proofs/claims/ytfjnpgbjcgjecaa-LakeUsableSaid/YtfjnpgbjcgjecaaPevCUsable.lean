/- THE LAW OF WHAT CAN BE MOVED: its contract. -/
import Derived.Test.YtfjnpgbjcgjecaaPevLUsable
import Derived.Test.YtfjnpgbjcgjecaaPevArgs2
import Derived.Test.YtfjnpgbjcgjecaaPevAwake
namespace Go.PevTab
open Go.Pev Go.Num Go.RowKit

theorem LakeUsable_contract (xs : List PV) (h : confTs (envF 1000000) [26, 28, 3] xs = true) (hf : fits xs) : Contract Go.Proofs.Try.prog (envF 1000000) 3 xs (.bool true) := by
  obtain ⟨p, ps, rfl, h1, h⟩ := confTs_cons h
  obtain ⟨q, qs, rfl, h2, h⟩ := confTs_cons h
  obtain ⟨r, rs, rfl, h3, h⟩ := confTs_cons h
  rw [confTs_nil h] at *
  obtain ⟨f1, f2, f3, _⟩ := hf
  obtain ⟨p, rfl⟩ := arg_pair h1 f1
  obtain ⟨s, rfl⟩ := arg_vols h2
  obtain ⟨x, rfl, hx⟩ := arg_int h3 f3
  exact ev_sound (progOk 1000000) (by intro f g h; cases h) 41 3 _ _ (LakeUsable_ev (N := 1000000) (k := 25) (Nat.le_refl _) awake_ok p s x)

end Go.PevTab
