/- THE LAW OF WHAT CAN BE MOVED over the evaluator: it gives true. -/
import Derived.Test.YtfjnpgbjcgjecaaPevSRef1
import Derived.Test.YtfjnpgbjcgjecaaPevEqLakeUsable
namespace Go.PevTab
open Go.Pev Go.Num

theorem evap_dry {t : Tab} {v : Int} (hv : IsV t v) : evap t 0 v = 0 := by
  have h1 : lo t ≤ v := hv.1
  unfold evap
  rw [Int.zero_mul, Int.zero_ediv]
  omega

/-- A pair without evaporation. -/
def dry (p : Pair) : Pair := ⟨p.u, p.l, 0⟩

theorem dry_ok {p : Pair} {s : Vols} (h : bErr p s = 0) : bErr (dry p) s = 0 := by
  obtain ⟨hp, hu, hl⟩ := bErr_zero h
  have h1 : tErr p.u = 0 := by
    unfold bErr at h
    split at h
    · rename_i h1
      unfold pErr at h1
      split at h1
      · assumption
      · rename_i h2; exact absurd h1 h2
    · rename_i h1; exact absurd h h1
  have h2 : tErr p.l = 0 := by
    unfold bErr at h
    split at h
    · rename_i h3
      unfold pErr at h3
      rw [if_pos h1] at h3
      split at h3
      · assumption
      · rename_i h2; exact absurd h3 h2
    · rename_i h1; exact absurd h h1
  unfold bErr
  have : pErr (dry p) = 0 := by
    unfold pErr dry
    rw [if_pos h1, if_pos h2, if_pos (by simp)]
  rw [if_pos this]
  unfold sErr dry
  rw [if_pos ⟨hu, hl⟩]

theorem dry_step {p : Pair} {s : Vols} (hu : IsV p.u s.u) (hl : IsV p.l s.l) (x : Int) : step (dry p) s ⟨0, 0, x⟩ =
    if s.u + x < lo p.u ∨ s.l - x < lo p.l then none else some (⟨s.u + x - max 0 (s.u + x - hi p.u), s.l - x - max 0 (s.l - x - hi p.l)⟩, ⟨0, max 0 (s.u + x - hi p.u) + max 0 (s.l - x - hi p.l)⟩) := by
  unfold step dry
  simp only [evap_dry hu, evap_dry hl, Int.sub_zero, Int.add_zero]

theorem stepR_ok {p : Pair} {s : Vols} {f : Flow} (h : bErr p s = 0) (hf : fErr f = 0) : stepR p s f = stepE (step p s f) := by
  unfold stepR
  rw [if_neg (by omega), if_neg (by omega)]

theorem LakeUsable_ev {N k : Nat} (hN : 1000000 ≤ N) (hA : ev (envF N) (k + 15) F_law01_awake [] = some (.bool true)) (p : Pair) (s : Vols) (x : Int) : ev (envF N) (k + 16) F_law01_LakeUsable [vPair p, vVols s, .int .i64 x] = some (.bool true) := by
  rw [E_law01_LakeUsable, hA]
  simp only [obind, asB_bool, Bool.not_true, cond_f, law_FewPair (k := k + 13), cond_ndec]
  by_cases hfew : p.u.length ≤ 12 ∧ p.l.length ≤ 12
  · rw [if_pos hfew, ref_BothErr hN]
    simp only [obind, asI_int, cond_ndec]
    by_cases hb : bErr p s = 0
    · rw [if_pos hb, base_Within]
      simp only [obind, asB_bool, cond_ndec]
      by_cases hx : -10000000 ≤ x ∧ x ≤ 10000000
      · obtain ⟨hp, hu, hl⟩ := bErr_zero hb
        have hd := dry_ok hb
        have c := Ok.lo_hi hp.u
        have d := Ok.lo_hi hp.l
        have hu1 : lo p.u ≤ s.u := hu.1
        have hl1 : lo p.l ≤ s.l := hl.1
        have hu2 : s.u ≤ hi p.u := hu.2
        have hl2 : s.l ≤ hi p.l := hl.2
        have g1 := ref_CopyPair (N := N) (k := k + 13) p (by omega) (by omega)
        have g2 : ev (envF N) (k + 15) F_ref01_CopyPair [.agg [.sl none [.int .i64, .int .i64] (p.u.map cK), .sl none [.int .i64, .int .i64] (p.l.map cK), .int .i64 0]] = some (vPair (dry p)) := ref_CopyPair (N := N) (k := k + 13) (dry p) (by show p.u.length ≤ 100000; omega) (by show p.l.length ≤ 100000; omega)
        have g3 := lake_Usable (k := k + 7) hN (dry p) s
        have hf : fErr ⟨0, 0, x⟩ = 0 := by unfold fErr; rw [if_pos ⟨by simp, by simp, hx⟩]
        have g4 := lake_Step (k := k + 7) hN (dry p) s ⟨0, 0, x⟩
        rw [if_pos hd] at g3
        rw [stepR_ok hd hf, dry_step hu hl] at g4
        obtain ⟨U, hU⟩ : ∃ U, min (s.u - lo p.u) (hi p.l - s.l) = U := ⟨_, rfl⟩
        obtain ⟨L, hL⟩ : ∃ L, min (s.l - lo p.l) (hi p.u - s.u) = L := ⟨_, rfl⟩
        have e1 : w64 (0 - U) = -U := by rw [w64_id] <;> omega
        have hU' : min (s.u - lo (dry p).u) (hi (dry p).l - s.l) = U := hU
        have hL' : min (s.l - lo (dry p).l) (hi (dry p).u - s.u) = L := hL
        rw [hU', hL'] at g3
        rw [if_pos hx, g1]
        simp only [obind, asA_agg, nth_zero, nth_one, asL_sl, g2, nth_two, asI_int]
        simp only [g3, obind, asT_tup, asA_agg, nth_zero, nth_one, asI_int, if_true, base_Within, asB_bool, cond_ndec]
        rw [if_pos (show 0 ≤ U ∧ U ≤ 1000000000 by omega), if_pos (show 0 ≤ L ∧ L ≤ 1000000000 by omega)]
        simp only [g4, e1]
        by_cases hn : s.u + x < lo p.u ∨ s.l - x < lo p.l
        · rw [if_pos hn, stepE]
          have hw : ¬ (-U ≤ x ∧ x ≤ L) := by omega
          simp only [obind, asT_tup, asA_agg, nth_zero, nth_one, nth_two, asI_int, show ¬ ((22 : Int) = 0) by decide, if_true, if_false, cond_dec, decide_eq_false hw, beq_self_eq_true, Bool.not_true, cond_f]
        · rw [if_neg hn, stepE]
          obtain ⟨S, hS⟩ : ∃ S, max 0 (s.u + x - hi p.u) + max 0 (s.l - x - hi p.l) = S := ⟨_, rfl⟩
          simp only [obind, asT_tup, asA_agg, nth_zero, nth_one, nth_two, asI_int, if_true, cond_dec, hS, decide_true, Bool.true_and]
          have hw : (S = 0) ↔ (-U ≤ x ∧ x ≤ L) := by omega
          have hw2 : decide (S = 0) = decide (-U ≤ x ∧ x ≤ L) := by rw [decide_eq_decide]; exact hw
          rw [hw2, beq_self_eq_true, Bool.not_true, cond_f, cond_ndec]
          by_cases hpos : -U ≤ x ∧ x ≤ L
          · rw [if_pos hpos]
            have m1 : max 0 (s.u + x - hi p.u) = 0 := by omega
            have m2 : max 0 (s.l - x - hi p.l) = 0 := by omega
            have e2 : w64 (0 - x) = -x := by rw [w64_id] <;> omega
            have b2 : bErr (dry p) ⟨s.u + x, s.l - x⟩ = 0 := by
              have : pErr (dry p) = 0 := by
                unfold bErr at hd
                split at hd
                · assumption
                · rename_i h1; exact absurd hd h1
              unfold bErr
              rw [if_pos this]
              unfold sErr
              rw [if_pos ⟨⟨by show lo p.u ≤ s.u + x; omega, by show s.u + x ≤ hi p.u; omega⟩, ⟨by show lo p.l ≤ s.l - x; omega, by show s.l - x ≤ hi p.l; omega⟩⟩]
            have hf2 : fErr ⟨0, 0, -x⟩ = 0 := by unfold fErr; rw [if_pos ⟨by simp, by simp, by show -10000000 ≤ -x ∧ -x ≤ 10000000; omega⟩]
            obtain ⟨_, hu', hl'⟩ := bErr_zero b2
            have g5 := lake_Step (k := k + 7) hN (dry p) ⟨s.u + x, s.l - x⟩ ⟨0, 0, -x⟩
            have st := dry_step (p := p) (s := ⟨s.u + x, s.l - x⟩) hu' hl' (-x)
            simp only at st
            rw [if_neg (by omega), show s.u + x + -x = s.u by omega, show s.l - x - -x = s.l by omega, show max 0 (s.u - hi p.u) = 0 by omega, show max 0 (s.l - hi p.l) = 0 by omega, Int.sub_zero, Int.sub_zero] at st
            rw [stepR_ok b2 hf2, st, stepE] at g5
            rw [m1, m2, Int.sub_zero, Int.sub_zero, e2]
            have g5' : ev (envF N) (k + 15) F_lake_Step [.agg [.sl none [.int .i64, .int .i64] (p.u.map cK), .sl none [.int .i64, .int .i64] (p.l.map cK), .int .i64 0], .agg [.int .i64 (s.u + x), .int .i64 (s.l - x)], .agg [.int .i64 0, .int .i64 0, .int .i64 (-x)]] = some (.tup [vVols s, vLoss ⟨0, 0⟩, .int .i64 0]) := g5
            rw [g5']
            simp only [obind, asT_tup, asA_agg, nth_zero, nth_one, nth_two, asI_int]
            simp
          · rw [if_neg hpos]
      · rw [if_neg hx]
    · rw [if_neg hb]
  · rw [if_neg hfew]

end Go.PevTab
