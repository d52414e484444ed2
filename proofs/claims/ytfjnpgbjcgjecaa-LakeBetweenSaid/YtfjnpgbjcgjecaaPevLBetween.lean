/- THE LAW OF LEVELS AND VOLUMES over the evaluator: it gives true. -/
import Derived.Test.YtfjnpgbjcgjecaaPevSRef2
import Derived.Test.YtfjnpgbjcgjecaaPevEqLakeBetween
namespace Go.PevTab
open Go.Pev Go.Num

theorem Ok.wider {t : Tab} (h : Ok t) {i : Nat} (h1 : 1 ≤ i) : ∀ (d : Nat), i + d < t.length → vol t i * hgt t (i + d) ≤ vol t (i + d) * hgt t i
  | 0, _ => Int.le_refl _
  | d + 1, hj => by
    have ih := Ok.wider h h1 d (by omega)
    have w := h.wide (i + d + 1) (by omega) (by omega)
    obtain ⟨a1, a2⟩ := h.pos (i := i) h1 (by omega)
    obtain ⟨b1, b2⟩ := h.pos (i := i + d) (by omega) (by omega)
    obtain ⟨c1, c2⟩ := h.pos (i := i + d + 1) (by omega) (by omega)
    have w' : vol t (i + d) * hgt t (i + d + 1) ≤ vol t (i + d + 1) * hgt t (i + d) := by
      unfold vol hgt
      rw [Nat.add_sub_cancel]
      rw [show i + d + 1 - 2 = i + d - 1 by omega, Nat.add_sub_cancel] at w
      exact w
    have e1 : vol t i * hgt t (i + d) * hgt t (i + d + 1) ≤ vol t (i + d) * hgt t i * hgt t (i + d + 1) := Int.mul_le_mul_of_nonneg_right ih (by omega)
    have e2 : vol t (i + d) * hgt t (i + d + 1) * hgt t i ≤ vol t (i + d + 1) * hgt t (i + d) * hgt t i := Int.mul_le_mul_of_nonneg_right w' (by omega)
    have e3 : vol t i * hgt t (i + d + 1) * hgt t (i + d) ≤ vol t (i + d + 1) * hgt t i * hgt t (i + d) := by
      have r1 : vol t i * hgt t (i + d + 1) * hgt t (i + d) = vol t i * hgt t (i + d) * hgt t (i + d + 1) := Int.mul_right_comm _ _ _
      have r2 : vol t (i + d) * hgt t i * hgt t (i + d + 1) = vol t (i + d) * hgt t (i + d + 1) * hgt t i := Int.mul_right_comm _ _ _
      have r3 : vol t (i + d + 1) * hgt t i * hgt t (i + d) = vol t (i + d + 1) * hgt t (i + d) * hgt t i := Int.mul_right_comm _ _ _
      omega
    exact Int.le_of_mul_le_mul_right e3 b1

theorem Ok.byV_mono {t : Tab} (h : Ok t) {v w : Int} (hv : IsV t v) (hw : IsV t w) (hvw : v ≤ w) : byV t v ≤ byV t w := by
  have a := h.atV hv.2
  have b := h.atV hw.2
  rcases Nat.lt_or_ge (byV t w) (byV t v) with h1 | h1
  · have := a.first _ b.one h1
    have := b.reach
    omega
  · exact h1

theorem ar_parts {t : Tab} (h : Ok t) {v : Int} (hv : IsV t v) : 0 < arN t v ∧ arN t v ≤ 1000000000 ∧ 0 < arD t v ∧ arD t v ≤ 1000000 ∧ Int.gcd (arN t v) (arD t v) = 1 ∧ ∃ g : Int, 0 < g ∧ vol t (byV t v) = arN t v * g ∧ hgt t (byV t v) = arD t v * g := by
  obtain ⟨i1, i2, i3, i4⟩ := h.pieceV hv
  obtain ⟨p1, p2, p3, p4⟩ := Ok.hv_le h i1 i2
  have hg : 0 < Int.gcd (vol t (byV t v)) (hgt t (byV t v)) := Int.gcd_pos_of_ne_zero_right _ (by omega)
  obtain ⟨g, hge⟩ : ∃ g : Nat, Int.gcd (vol t (byV t v)) (hgt t (byV t v)) = g := ⟨_, rfl⟩
  have e1 : vol t (byV t v) = arN t v * (g : Int) := by
    unfold arN
    rw [← hge, Int.ediv_mul_cancel (Int.gcd_dvd_left ..)]
  have e2 : hgt t (byV t v) = arD t v * (g : Int) := by
    unfold arD
    rw [← hge, Int.ediv_mul_cancel (Int.gcd_dvd_right ..)]
  have hg' : (0 : Int) < (g : Int) := by omega
  have n0 : 0 < arN t v := by
    rcases Int.lt_or_le 0 (arN t v) with h1 | h1
    · exact h1
    · have := Int.mul_nonpos_of_nonpos_of_nonneg h1 (Int.le_of_lt hg'); omega
  have d0 : 0 < arD t v := by
    rcases Int.lt_or_le 0 (arD t v) with h1 | h1
    · exact h1
    · have := Int.mul_nonpos_of_nonpos_of_nonneg h1 (Int.le_of_lt hg'); omega
  have n1 : arN t v ≤ vol t (byV t v) := by unfold arN; exact Int.ediv_le_self _ (by omega)
  have d1 : arD t v ≤ hgt t (byV t v) := by unfold arD; exact Int.ediv_le_self _ (by omega)
  refine ⟨n0, by omega, d0, by omega, ?_, g, hg', e1, e2⟩
  unfold arN arD
  exact Int.gcd_ediv_gcd_ediv_gcd hg

theorem ar_mono {t : Tab} (h : Ok t) {v w : Int} (hv : IsV t v) (hw : IsV t w) (hvw : v ≤ w) : arN t v * arD t w ≤ arN t w * arD t v := by
  obtain ⟨i1, i2, _⟩ := h.pieceV hv
  obtain ⟨j1, j2, _⟩ := h.pieceV hw
  obtain ⟨_, _, _, _, _, g, g0, g1, g2⟩ := ar_parts h hv
  obtain ⟨_, _, _, _, _, f, f0, f1, f2⟩ := ar_parts h hw
  have hm := Ok.byV_mono h hv hw hvw
  have hd := Ok.wider h i1 (byV t w - byV t v) (by omega)
  rw [show byV t v + (byV t w - byV t v) = byV t w by omega, g1, g2, f1, f2] at hd
  have r1 : arN t v * g * (arD t w * f) = arN t v * arD t w * (g * f) := by rw [Int.mul_assoc, Int.mul_assoc, Int.mul_left_comm g]
  have r2 : arN t w * f * (arD t v * g) = arN t w * arD t v * (g * f) := by rw [Int.mul_assoc, Int.mul_assoc, Int.mul_left_comm f, Int.mul_comm f]
  rw [r1, r2] at hd
  exact Int.le_of_mul_le_mul_right hd (Int.mul_pos g0 f0)

section
variable {N k : Nat}

theorem law_small (hN : 1000000 ≤ N) {a b : Int} (ha : 0 < a ∧ a ≤ 1000000000) (hb : 0 < b ∧ b ≤ 1000000) (hg : Int.gcd a b = 1) : ev (envF N) (k + 4) F_law01_small [.agg [.int .i64 a, .int .i64 b]] = some (.bool true) := by
  have g1 : ev (envF N) (k + 3) F_base_IsLowest [.agg [.int .i64 a, .int .i64 b]] = some (.bool true) := by
    rw [E_base_IsLowest, cond_dec, if_pos hb.1, base_Gcd hN (by omega) (by omega)]
    simp only [obind, asI_int, hg]
    rfl
  have g2 : ev (envF N) (k + 3) F_base_IsSmall [.agg [.int .i64 a, .int .i64 b]] = some (.bool true) := by
    rw [E_base_IsSmall, base_Within, base_Within]
    simp only [obind, asB_bool, cond_dec]
    rw [if_pos (by omega), decide_eq_true (by omega)]
  rw [E_law01_small, g1]
  simp only [obind, asB_bool, cond_t, g2]

theorem base_Cmp {a b c d : Int} (ha : 0 < a ∧ a ≤ 1000000000) (hb : 0 < b ∧ b ≤ 1000000) (hc : 0 < c ∧ c ≤ 1000000000) (hd : 0 < d ∧ d ≤ 1000000) (hle : a * d ≤ c * b) : ∃ x, ev (envF N) (k + 1) F_base_Cmp [.agg [.int .i64 a, .int .i64 b], .agg [.int .i64 c, .int .i64 d]] = some (.int .i64 x) ∧ x ≤ 0 := by
  have m1 := mul_le_big (x := d) (y := a) (by omega) (by omega) (by omega) (by omega)
  have m2 := mul_le_big (x := b) (y := c) (by omega) (by omega) (by omega) (by omega)
  rw [Int.mul_comm] at m1 m2
  have e1 : w64 (a * d) = a * d := by rw [w64_id] <;> omega
  have e2 : w64 (c * b) = c * b := by rw [w64_id] <;> omega
  rw [E_base_Cmp]
  simp only [e1, e2, cond_dec]
  by_cases h : a * d < c * b
  · rw [if_pos h]; exact ⟨-1, rfl, by decide⟩
  · rw [if_neg h, if_neg (by omega)]; exact ⟨0, rfl, by decide⟩

theorem LakeBetween_loop (hN : 1000000 ≤ N) {t : Tab} (h : tErr t = 0) {v m : Int} (hv : IsV t v) (hm : 0 ≤ m ∧ m ≤ 1000000000) (y6 y7 y8 y9 : Int) : ∀ (d n i : Nat), i + d = t.length → d < n →
    L_law01_LakeBetween_13 N (k + 15) n v m (i : Int) (t.map cK) (lvLo t v) (lvHi t v) y6 y7 y8 y9 = some (.bool true)
  | 0, n + 1, i, hd, hn => by
    have hok := ok_of h
    have h2 := hok.two
    have h10 := hok.ten
    have b := Ok.lo_hi hok
    have hv1 : lo t ≤ v := hv.1
    have hv2 : v ≤ hi t := hv.2
    have u1 : (kn t (t.length - 1)).v = hi t := by unfold hi; rfl
    have e1 : w64 (v + m) = v + m := by rw [w64_id] <;> omega
    obtain ⟨w, hw⟩ : ∃ w, min (v + m) (hi t) = w := ⟨_, rfl⟩
    have hW : IsV t w := ⟨by show lo t ≤ w; omega, by show w ≤ hi t; omega⟩
    have g1 := ref_Top (N := N) (k := k + 14) (t := t) (by omega) (by omega)
    have g2 := ref_Copy (N := N) (k := k + 14) t (by omega)
    have g3 := lake_LevelAt (k := k + 9) hN t w
    have g4 := lake_AreaAt (k := k + 9) hN t v
    have g5 := lake_AreaAt (k := k + 9) hN t w
    obtain ⟨m1, m2⟩ := hok.lv_mono hv hW (by omega)
    obtain ⟨a1, a2, a3, a4, a5, _⟩ := ar_parts hok hv
    obtain ⟨b1, b2, b3, b4, b5, _⟩ := ar_parts hok hW
    have g6 := law_small (k := k + 11) hN ⟨a1, a2⟩ ⟨a3, a4⟩ a5
    have g7 := law_small (k := k + 11) hN ⟨b1, b2⟩ ⟨b3, b4⟩ b5
    obtain ⟨x, g8, hx⟩ := base_Cmp (N := N) (k := k + 14) ⟨a1, a2⟩ ⟨a3, a4⟩ ⟨b1, b2⟩ ⟨b3, b4⟩ (ar_mono hok hv hW (by omega))
    rw [L_law01_LakeBetween_13_eq, cond_dec, List.length_map, if_neg (by omega)]
    simp only [g1, g2, obind, asA_agg, nth_one, asI_int, u1, e1, imin_eq, hw, nth_zero, asL_sl, g3, g4, g5, h, hv, hW, and_self, if_true, asT_tup, cond_dec, m1, m2, g6, asB_bool, cond_t, g7, g8]
    simp [hx]
  | d + 1, n + 1, i, hd, hn => by
    have hok := ok_of h
    have h10 := hok.ten
    have c1 : (i : Int) < (t.length : Int) := by omega
    have c2 : (0 : Int) ≤ (i : Int) := by omega
    have e1 : w64 ((i : Int) + 1) = ((i + 1 : Nat) : Int) := by rw [w64_id] <;> omega
    have g2 := ref_Copy (N := N) (k := k + 14) t (by omega)
    have g3 := lake_LevelAt (k := k + 9) hN t (kn t i).v
    have g4 := lake_VolumeAt (k := k + 10) hN t (kn t i).l
    have k1 := hok.mono (i := 0) (j := i) (by omega) (by omega)
    have k2 := hok.mono (i := i) (j := t.length - 1) (by omega) (by omega)
    have hV : IsV t (kn t i).v := ⟨k1.2, k2.2⟩
    have hL : IsL t (kn t i).l := ⟨k1.1, k2.1⟩
    obtain ⟨l1, l2⟩ := hok.lv_knot (i := i) (by omega)
    obtain ⟨v1, v2⟩ := hok.vl_knot (i := i) (by omega)
    rw [L_law01_LakeBetween_13_eq]
    simp only [cond_dec, cond_ndec, List.length_map, c1, c2, if_true, Int.toNat_natCast, leaf_cKl, leaf_cKv, g2, obind, asA_agg, nth_zero, asL_sl, g3, g4, h, hV, hL, and_self, asT_tup, nth_one, asI_int, l1, l2, v1, v2, e1, decide_true, Bool.not_true, cond_f, Bool.and_self]
    exact LakeBetween_loop hN h hv hm y6 y7 y8 y9 d n (i + 1) (by omega) (by omega)

theorem LakeBetween_ev (hN : 1000000 ≤ N) (hA : ev (envF N) (k + 15) F_law01_awake [] = some (.bool true)) (t : Tab) (v m : Int) : ev (envF N) (k + 16) F_law01_LakeBetween [vTab t, .int .i64 v, .int .i64 m] = some (.bool true) := by
  rw [E_law01_LakeBetween, hA]
  simp only [obind, asB_bool, Bool.not_true, cond_f, law_Few (k := k + 14), cond_ndec]
  by_cases hfew : t.length ≤ 12
  · have g1 := ref_TableErr (k := k + 2) hN t
    rw [if_pos hfew, g1]
    simp only [obind, asI_int, cond_ndec]
    by_cases h : tErr t = 0
    · have hok := ok_of h
      have g2 := ref_IsVolume (N := N) (k := k + 13) hok v
      rw [if_pos h, g2]
      simp only [obind, asB_bool, cond_ndec, base_Within (k := k + 14)]
      by_cases hv : IsV t v
      · by_cases hm : 0 ≤ m ∧ m ≤ 1000000000
        · have g3 := ref_Copy (N := N) (k := k + 14) t (by omega)
          have g4 := lake_LevelAt (k := k + 9) hN t v
          obtain ⟨l1, l2⟩ := hok.lv_level hv
          obtain ⟨v1, v2⟩ := hok.lv_encloses hv
          have g5 := ref_IsLevel (N := N) (k := k + 13) hok (lvLo t v)
          have g6 := ref_IsLevel (N := N) (k := k + 13) hok (lvHi t v)
          have g7 := lake_VolumeAt (k := k + 10) hN t (lvLo t v)
          have g8 := lake_VolumeAt (k := k + 10) hN t (lvHi t v)
          obtain ⟨i1, i2, i3, i4⟩ := hok.pieceV hv
          obtain ⟨p1, p2, p3, p4⟩ := Ok.hv_le hok i1 i2
          have q1 := cdiv_eq (n := lvN t v) p3
          have q2 := Int.emod_nonneg (lvN t v) (Int.ne_of_gt p3)
          have b1 := hok.range (byV t v - 1) (by omega)
          have b2 := hok.range (byV t v) (by omega)
          have b3 := hok.lv_between hv
          have q3 : lvHi t v - lvLo t v = min (lvN t v % vol t (byV t v)) 1 := by unfold lvHi lvLo; omega
          have e1 : w64 (lvHi t v - lvLo t v) = lvHi t v - lvLo t v := by rw [w64_id] <;> omega
          have c1 : 0 ≤ lvHi t v - lvLo t v ∧ lvHi t v - lvLo t v ≤ 1 := by omega
          have c2 : ¬ (v < vlLo t (lvLo t v)) := by omega
          have c3 : ¬ (vlHi t (lvHi t v) < v) := by omega
          rw [if_pos hv, if_pos hm, g3]
          simp only [obind, asA_agg, nth_zero, asL_sl, g4, h, hv, and_self, if_true, asT_tup, nth_one, asI_int, g5, g6, l1, l2, asB_bool, e1, c1, base_Within (k := k + 14), g7, g8, c2, c3, cond_dec, if_false, decide_true, Bool.not_true, cond_f]
          exact LakeBetween_loop hN h hv hm _ _ _ _ t.length N 0 (by omega) (by omega)
        · rw [if_pos hv, if_neg hm]
      · rw [if_neg hv]
    · rw [if_neg h]
  · rw [if_neg hfew]

end
end Go.PevTab
