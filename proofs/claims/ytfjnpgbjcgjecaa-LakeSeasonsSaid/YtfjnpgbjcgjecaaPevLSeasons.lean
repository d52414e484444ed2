/- THE LAW OF SEASONS over the evaluator: it gives true. -/
import Derived.Test.YtfjnpgbjcgjecaaPevSSeasons
import Derived.Test.YtfjnpgbjcgjecaaPevEqLakeSeasons
namespace Go.PevTab
open Go.Pev Go.Num

theorem minOn_year (l : List Season) (date : Int) (h0 : (minOn l date).2 = 0) (h1 : 0 ≤ date ∧ date ≤ 99635) : minOn l (date + 365) = minOn l date := by
  unfold minOn at *
  split
  · rfl
  · split
    · rfl
    · rw [if_pos (by omega), if_pos (by omega)]
      have : (date + 365).tmod 365 = date.tmod 365 := by
        rw [Int.tmod_eq_emod_of_nonneg (by omega), Int.tmod_eq_emod_of_nonneg (by omega)]
        omega
      rw [this]

theorem LakeSeasons_ev {N k : Nat} (hN : 1000000 ≤ N) (hA : ev (envF N) (k + 3) F_law01_awake [] = some (.bool true)) (l : List Season) (date : Int) (hd : I64 date) : ev (envF N) (k + 4) F_law01_LakeSeasons [vSe l, .int .i64 date] = some (.bool true) := by
  rw [E_law01_LakeSeasons, hA]
  simp only [Option.bind_some, asB_bool, Bool.not_true, cond_f, cond_dec, List.length_map]
  by_cases hl : 14 < l.length
  · rw [if_pos (by omega)]
  · rw [if_neg (by omega), ref_CopySeasons (k := k + 2) l (by omega)]
    simp only [Option.bind_some, asL_sl, lake_MinimumOn (k := k) hN, ref_MinimumOn (k := k + 1) hN, asT_tup, nth_zero, nth_one, asI_int, cond_ndec, if_true, base_Within (k := k + 2), asB_bool]
    by_cases h0 : (minOn l date).2 = 0
    · rw [if_pos h0]
      by_cases h1 : 0 ≤ date ∧ date ≤ 99635
      · rw [if_pos h1, w64_id (by omega) (by omega), minOn_year l date h0 h1, if_pos h0]
        simp
      · rw [if_neg h1]
    · rw [if_neg h0]

end Go.PevTab
