/- THE LAW OF READINGS over the evaluator: it gives true. -/
import Derived.Test.YtfjnpgbjcgjecaaPevSRead2
import Derived.Test.YtfjnpgbjcgjecaaPevSRuns
import Derived.Test.YtfjnpgbjcgjecaaPevEqLakeReadings
namespace Go.PevTab
open Go.Pev Go.Num

theorem LakeReadings_ev {N k : Nat} (hN : 1000000 ≤ N) (hA : ev (envF N) (k + 16) F_law01_awake [] = some (.bool true)) (t : Tab) (net : List Int) (l : List Reading) : ev (envF N) (k + 17) F_law01_LakeReadings [vTab t, .sl none [.int .i64] (net.map cI), vReadings l] = some (.bool true) := by
  rw [E_law01_LakeReadings, hA]
  simp only [obind, asB_bool, Bool.not_true, cond_f, law_Few (k := k + 15), cond_ndec, List.length_map, law_short (k := k + 15)]
  by_cases hfew : t.length ≤ 12
  · by_cases hsh : net.length ≤ 24 ∨ (200 < net.length ∧ net.length ≤ 202)
    · rw [if_pos hfew, if_pos hsh, cond_dec]
      by_cases h12 : 12 < l.length
      · rw [if_pos (by omega)]
      · have g1 := ref_Copy (N := N) (k := k + 15) t (by omega)
        have g2 := base_CopyInts (N := N) (k := k + 15) net (by omega)
        have g3 := ref_CopyReadings (N := N) (k := k + 15) l (by omega)
        have g4 := lake_AgreedOf (k := k + 9) hN t net l
        have g5 := lake_Contradicting (k := k + 9) hN t net l
        have g6 := ref_AllErr (k := k + 2) hN t net l
        rw [if_neg (by omega), g1]
        simp only [obind, g2, g3, asA_agg, nth_zero, asL_sl, g4, g5, g6, asI_int, cond_ndec]
        unfold agR coR
        by_cases h : aErr t net l = 0
        · have ho := rdOk_of h
          obtain ⟨b, g8⟩ := ref_Contradicting (k := k) hN ho
          cases l with
          | nil => have := ho.l1; simp at this
          | cons r l =>
            have hl2 := ho.l2
            have g7 := ref_AgreedOf (k := k + 1) hN ho.tab ho.n1 ho.n2 r l (by simp at hl2; omega) ho.l3
            have hh := helly (perm t net r) (l.map (perm t net))
            have he : agr t net (r :: l) = meet (perm t net r) (l.map (perm t net)) := rfl
            rw [← he] at hh
            rw [if_pos h, if_pos h, if_pos h, g7]
            simp only [obind]
            rw [List.map_cons] at g8 ⊢
            by_cases hc : (agr t net (r :: l)).lo ≤ (agr t net (r :: l)).hi
            · have hn := hh.2 hc
              rw [if_pos hc, if_pos hc, hn, if_pos rfl]
              simp only [asT_tup, asA_agg, nth_zero, nth_one, asB_bool, asI_int, cond_t, asL_sl]
              simp
            · have hn : contra (perm t net r :: l.map (perm t net)) ≠ [] := fun e => hc (hh.1 e)
              have hlen : (contra (perm t net r :: l.map (perm t net))).length ≤ 100000 := by
                unfold contra
                split
                · simp
                · split <;> simp
              have g9 := base_Ints (N := N) (k := k + 15) hN _ hlen
              rw [if_neg hc, if_neg hc, if_neg hn]
              simp only [asT_tup, asA_agg, nth_zero, nth_one, asB_bool, asI_int, cond_f, g8, obind, asL_sl, g9]
              simp
        · rw [if_neg h, if_neg h, if_neg h]
          simp only [asT_tup, asA_agg, nth_zero, nth_one, asI_int, asL_sl]
          simp
    · rw [if_pos hfew, if_neg hsh]
  · rw [if_neg hfew]

end Go.PevTab
