/- THE LAW OF TABLES over the evaluator: it gives true. -/
import Derived.Test.YtfjnpgbjcgjecaaPevSRef2
import Derived.Test.YtfjnpgbjcgjecaaPevEqLakeTables
namespace Go.PevTab
open Go.Pev Go.Num

theorem LakeTables_ev {N k : Nat} (hN : 1000000 ≤ N) (hA : ev (envF N) (k + 15) F_law01_awake [] = some (.bool true)) (t : Tab) (l v : Int) : ev (envF N) (k + 16) F_law01_LakeTables [vTab t, .int .i64 l, .int .i64 v] = some (.bool true) := by
  rw [E_law01_LakeTables, hA]
  simp only [obind, asB_bool, Bool.not_true, cond_f, law_Few (k := k + 14), cond_ndec]
  by_cases hfew : t.length ≤ 12
  · have g1 := ref_Copy (N := N) (k := k + 14) t (by omega)
    have g2 := lake_CheckTable (k := k + 12) hN t
    have g3 := lake_VolumeAt (k := k + 10) hN t l
    have g4 := lake_LevelAt (k := k + 9) hN t v
    have g5 := lake_AreaAt (k := k + 9) hN t v
    have g6 := ref_CheckTable (k := k + 3) hN t
    have he : (tabErr t).2 = tErr t := rfl
    rw [if_pos hfew, g1]
    simp only [obind, asA_agg, nth_zero, asL_sl, g2, g3, g4, g5, g6, asT_tup, nth_one, asI_int, if_true, he]
    by_cases h : tErr t = 0
    · have hok := ok_of h
      have g7 := ref_IsLevel (N := N) (k := k + 13) hok l
      have g8 := ref_IsVolume (N := N) (k := k + 13) hok v
      simp only [h, if_true, true_and, g7, g8, obind, asB_bool, cond_dec, cond_ndec]
      by_cases hl : IsL t l
      · have g9 := ref_VolumeAt (k := k + 2) hN hok hl
        by_cases hv : IsV t v
        · have g10 := ref_LevelAt (k := k + 2) hN hok hv
          have g11 := ref_AreaAt (k := k + 11) hN hok hv
          simp only [hl, hv, if_true, g9, g10, g11, obind, asA_agg, nth_zero, nth_one, asI_int]
          simp
        · simp only [hl, hv, if_true, if_false, g9, obind, asA_agg, nth_zero, nth_one, asI_int]
          simp
      · by_cases hv : IsV t v
        · have g10 := ref_LevelAt (k := k + 2) hN hok hv
          have g11 := ref_AreaAt (k := k + 11) hN hok hv
          simp only [hl, hv, if_true, if_false, g10, g11, obind, asA_agg, nth_zero, nth_one, asI_int]
          simp
        · simp only [hl, hv, if_true, if_false]
          simp
    · simp only [h, if_false, false_and]
      simp
  · rw [if_neg hfew]

end Go.PevTab
