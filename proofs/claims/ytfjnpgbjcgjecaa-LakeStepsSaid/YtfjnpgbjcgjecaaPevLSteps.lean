/- THE LAW OF STEPS over the evaluator: it gives true. -/
import Derived.Test.YtfjnpgbjcgjecaaPevSRef2
import Derived.Test.YtfjnpgbjcgjecaaPevEqLakeSteps
namespace Go.PevTab
open Go.Pev Go.Num

theorem LakeSteps_ev {N k : Nat} (hN : 1000000 ≤ N) (hA : ev (envF N) (k + 15) F_law01_awake [] = some (.bool true)) (p : Pair) (s : Vols) (f : Flow) : ev (envF N) (k + 16) F_law01_LakeSteps [vPair p, vVols s, vFlow f] = some (.bool true) := by
  rw [E_law01_LakeSteps, hA]
  simp only [obind, asB_bool, Bool.not_true, cond_f, law_FewPair (k := k + 13), cond_ndec]
  by_cases hfew : p.u.length ≤ 12 ∧ p.l.length ≤ 12
  · have g1 := ref_CopyPair (N := N) (k := k + 13) p (by omega) (by omega)
    have g2 := lake_Step (k := k + 7) hN p s f
    have g3 := lake_Usable (k := k + 7) hN p s
    have g4 := ref_BothErr (k := k) hN p s
    have g5 := lake_CheckPair (k := k + 10) hN p
    have g6 := ref_PairErr (k := k + 1) hN p
    have g7 := lake_CheckState (k := k + 7) hN p s
    have g8 := ref_FlowsErr (N := N) (k := k + 13) f
    rw [if_pos hfew, g1]
    simp only [obind, asA_agg, nth_zero, nth_one, nth_two, asI_int, asL_sl, g2, g3, g4, g5, g6, g7, if_true]
    by_cases hb : bErr p s = 0
    · obtain ⟨hp, hu, hl⟩ := bErr_zero hb
      have g9 := ref_Usable (N := N) (k := k + 13) hp hu hl
      rw [if_pos hb, if_pos hb]
      simp only [asT_tup, asA_agg, nth_zero, nth_one, asI_int, if_true, g9, obind, decide_true, Bool.and_true, Bool.not_true, cond_f, g8]
      by_cases hf : fErr f = 0
      · have g10 := ref_Step (k := k + 2) hN hp hu hl (flowIn_of hf)
        rw [if_pos hf, stepR_ok hb hf, g10]
        cases step p s f with
        | none =>
          simp only [stepE, stepB, obind, asT_tup, asA_agg, nth_zero, nth_one, nth_two, asI_int, asB_bool]
          simp
        | some r =>
          obtain ⟨s', x⟩ := r
          simp only [stepE, stepB, obind, asT_tup, asA_agg, nth_zero, nth_one, nth_two, asI_int, asB_bool]
          simp
      · have hr : stepR p s f = .tup [vVols ⟨0, 0⟩, vLoss ⟨0, 0⟩, .int .i64 (fErr f)] := by
          unfold stepR
          rw [if_neg (by omega), if_pos hf]
        rw [if_neg hf, hr]
        simp only [asT_tup, asA_agg, nth_zero, nth_one, nth_two, asI_int]
        simp
    · have hr : stepR p s f = .tup [vVols ⟨0, 0⟩, vLoss ⟨0, 0⟩, .int .i64 (bErr p s)] := by
        unfold stepR
        rw [if_pos hb]
      rw [if_neg hb, if_neg hb, hr]
      simp only [asT_tup, asA_agg, nth_zero, nth_one, nth_two, asI_int]
      simp
  · rw [if_neg hfew]

end Go.PevTab
