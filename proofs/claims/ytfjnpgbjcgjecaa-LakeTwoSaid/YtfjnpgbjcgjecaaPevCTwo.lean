/- THE LAW LakeTwo: its contract. -/
import Derived.Test.YtfjnpgbjcgjecaaPevLTwo
import Derived.Test.YtfjnpgbjcgjecaaPevArgs3
import Derived.Test.YtfjnpgbjcgjecaaPevAwake
namespace Go.PevTab
open Go.Pev Go.Num Go.RowKit

theorem LakeTwo_contract (xs : List PV) (h : confTs (envF 1000000) [24, 52, 73] xs = true) (hf : fits xs) : Contract Go.Proofs.Try.prog (envF 1000000) 6 xs (.bool true) := by
  obtain ⟨q1, qs1, rfl, h1, h⟩ := confTs_cons h
  obtain ⟨q2, qs2, rfl, h2, h⟩ := confTs_cons h
  obtain ⟨q3, qs3, rfl, h3, h⟩ := confTs_cons h
  rw [confTs_nil h] at *
  obtain ⟨f1, f2, f3, _⟩ := hf
  obtain ⟨p1, rfl⟩ := arg_tab h1 f1
  obtain ⟨p2, rfl⟩ := arg_ints h2 f2
  obtain ⟨p3, v3, rfl⟩ := arg_gauges h3 f3
  exact ev_sound (progOk 1000000) (by intro f g h; cases h) 41 6 _ _ (LakeTwo_ev (N := 1000000) (k := 25) (Nat.le_refl _) awake_ok p1 p2 p3 v3)

end Go.PevTab
