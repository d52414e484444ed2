/- THE LAW OF RUNS over the evaluator: it gives true. -/
import Derived.Test.YtfjnpgbjcgjecaaPevSRuns
import Derived.Test.YtfjnpgbjcgjecaaPevEqLakeRuns
namespace Go.PevTab
open Go.Pev Go.Num

theorem LakeRuns_ev {N k : Nat} (hN : 1000000 ≤ N) (hA : ev (envF N) (k + 15) F_law01_awake [] = some (.bool true)) (p : Pair) (s : Vols) (l : List Flow) : ev (envF N) (k + 16) F_law01_LakeRuns [vPair p, vVols s, vFlows l] = some (.bool true) := by
  rw [E_law01_LakeRuns, hA]
  simp only [obind, asB_bool, Bool.not_true, cond_f, law_FewPair (k := k + 13), cond_ndec]
  by_cases hfew : p.u.length ≤ 12 ∧ p.l.length ≤ 12
  · have g0 := law_short (N := N) (k := k + 14) (n := l.length)
    rw [if_pos hfew, List.length_map, g0]
    simp only [obind, asB_bool, cond_ndec]
    by_cases hsh : l.length ≤ 24 ∨ (200 < l.length ∧ l.length ≤ 202)
    · have g1 := ref_CopyPair (N := N) (k := k + 13) p (by omega) (by omega)
      have g2 := ref_CopyList (N := N) (k := k + 14) l (by omega)
      have g3 := lake_RunOf (k := k + 7) hN p s l
      have g4 := ref_BothErr (k := k) hN p s
      have g5 := ref_ListErr (k := k + 12) hN l
      rw [if_pos hsh, g1]
      simp only [obind, g2, asA_agg, nth_zero, nth_one, nth_two, asI_int, asL_sl, g3, g4, cond_dec, cond_ndec]
      unfold runR
      by_cases hb : bErr p s = 0
      · rw [if_pos hb, if_neg (show ¬ (bErr p s ≠ 0) by omega), g5]
        simp only [obind, asI_int, cond_ndec]
        by_cases hl : lErr l = 0
        · obtain ⟨hp, hs⟩ := bErr_zero hb
          obtain ⟨h3, h4⟩ := lErr_zero hl
          have g6 := ref_RunOf (k := k + 1) hN hp hs h4 h3
          rw [if_pos hl, if_neg (show ¬ (lErr l ≠ 0) by omega), g6]
          unfold runE
          cases hok : (runG p s l).ok with
          | false =>
            simp only [obind, asT_tup, nth_zero, nth_one, nth_two, asI_int, asB_bool, asA_agg, asL_sl, Bool.not_false, cond_t, Bool.false_eq_true, if_false]
            simp
          | true =>
            have hlen := run_len p l s hok
            have g7 := ref_SameStates (N := N) (k := k + 14) hN (runG p s l).ss (by omega)
            simp only [obind, asT_tup, nth_zero, nth_one, nth_two, asI_int, asB_bool, asA_agg, asL_sl, Bool.not_true, cond_f, if_true, List.nil_append, g7, cond_t, Int.zero_add]
            simp
        · rw [if_neg hl, if_pos hl]
          simp only [asT_tup, nth_zero, nth_one, nth_two, asI_int, asA_agg, asL_sl]
          simp
      · rw [if_neg hb, if_neg hb, if_pos hb]
        simp only [asT_tup, nth_zero, nth_one, nth_two, asI_int, asA_agg, asL_sl]
        simp
    · rw [if_neg hsh]
  · rw [if_neg hfew]

end Go.PevTab
