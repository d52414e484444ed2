/- LEVELS, VOLUMES AND AREAS in the program. -/
import Derived.Test.YtfjnpgbjcgjecaaPevSLake1
namespace Go.PevTab
open Go.Pev Go.Num

theorem floor_math {n b : Int} (hb : 0 < b) : n / b = if n.tmod b < 0 then n.tdiv b - 1 else n.tdiv b := by
  have h := Int.tmod_add_mul_tdiv n b
  have h1 := Int.tmod_lt_of_pos n hb
  have h2 : -b < n.tmod b := by
    have := Int.tmod_lt_of_pos (-n) hb
    rw [Int.neg_tmod] at this
    omega
  have key : ∀ q, q * b ≤ n → n < (q + 1) * b → n / b = q := by
    intro q a1 a2
    have b1 := (Int.le_ediv_iff_mul_le hb).2 a1
    have b2 := (Int.ediv_lt_iff_lt_mul hb).2 a2
    omega
  rw [Int.mul_comm] at h
  split
  · apply key
    · rw [Int.sub_mul]; omega
    · rw [Int.sub_add_cancel]; omega
  · apply key
    · omega
    · rw [Int.add_mul]; omega

theorem tdiv_abs_le (n b : Int) : (n.tdiv b).natAbs ≤ n.natAbs := by
  rw [Int.natAbs_tdiv]
  exact Nat.div_le_self _ _

section
variable {N k : Nat}

theorem lake_floor {n b : Int} (hb : 0 < b) (hn : -4611686018427387904 ≤ n ∧ n ≤ 4611686018427387904) : ev (envF N) (k + 1) F_lake_floor [.int .i64 n, .int .i64 b] = some (.int .i64 (n / b)) := by
  have h := tdiv_abs_le n b
  have c : ¬ (b = 0) := by omega
  have e1 : w64 (n.tdiv b) = n.tdiv b := by rw [w64_id] <;> omega
  have e2 : w64 (n.tdiv b - 1) = n.tdiv b - 1 := by rw [w64_id] <;> omega
  rw [E_lake_floor]
  simp only [cond_dec, cond_ndec, c, if_false, e1, e2]
  rw [floor_math hb]
  split <;> rfl

theorem lake_ceil {n b : Int} (hb : 0 < b) (hn : -4611686018427387904 ≤ n ∧ n ≤ 4611686018427387904) : ev (envF N) (k + 2) F_lake_ceil [.int .i64 n, .int .i64 b] = some (.int .i64 (cdiv n b)) := by
  have e0 : w64 (0 - n) = -n := by rw [w64_id] <;> omega
  have h : (-n / b).natAbs ≤ n.natAbs + 1 := by
    have := tdiv_abs_le (-n) b
    rw [Int.natAbs_neg] at this
    rw [floor_math hb]
    split <;> omega
  rw [E_lake_ceil, e0, lake_floor hb (by omega)]
  simp only [obind, asI_int]
  rw [w64_id (by omega) (by omega)]
  unfold cdiv
  simp

theorem Ok.kr {t : Tab} (h : Ok t) {i : Nat} (hi : i < t.length) : Kr (kn t i) := h.range i hi

/-- The sizes of pieces. -/
theorem Ok.hv_le {t : Tab} (h : Ok t) {i : Nat} (h1 : 1 ≤ i) (hi : i < t.length) : 0 < hgt t i ∧ hgt t i ≤ 1000000 ∧ 0 < vol t i ∧ vol t i ≤ 1000000000 := by
  have p := h.pos h1 hi
  have a := Ok.kr h hi
  have b := Ok.kr h (i := i - 1) (by omega)
  unfold Kr at a b
  unfold hgt vol at *
  omega

theorem mul_le_big {x y : Int} (hx : 0 ≤ x) (hx2 : x ≤ 1000000) (hy : 0 ≤ y) (hy2 : y ≤ 1000000000) : 0 ≤ x * y ∧ x * y ≤ 1000000000000000 := by
  refine ⟨Int.mul_nonneg hx hy, ?_⟩
  have : x * y ≤ 1000000 * 1000000000 := Int.mul_le_mul hx2 hy2 hy (by decide)
  omega

theorem lake_volumeAt (hN : 1000000 ≤ N) {t : Tab} (h : Ok t) {l : Int} (hl : IsL t l) : ev (envF N) (k + 4) F_lake_table_volumeAt [vTab t, .int .i64 l] = some (.agg [.int .i64 (vlLo t l), .int .i64 (vlHi t l)]) := by
  obtain ⟨i1, i2, i3, i4⟩ := h.pieceL hl
  obtain ⟨p1, p2, p3, p4⟩ := Ok.hv_le h i1 i2
  obtain ⟨b1, b2⟩ := h.vlN_bounds hl
  obtain ⟨v1, v2, v3⟩ := h.vl_between hl
  have m := mul_le_big (x := hgt t (byL t l)) (y := vol t (byL t l)) (by omega) (by omega) (by omega) (by omega)
  have a := Ok.kr h i2
  have b := Ok.kr h (i := byL t l - 1) (by omega)
  unfold Kr at a b
  have g1 := lake_volume (N := N) (k := k + 2) (kn t (byL t l - 1)) (kn t (byL t l)) (by constructor <;> omega)
  have g2 := lake_height (N := N) (k := k + 2) (kn t (byL t l - 1)) (kn t (byL t l)) (by constructor <;> omega)
  have hN' : (l - (kn t (byL t l - 1)).l) * ((kn t (byL t l)).v - (kn t (byL t l - 1)).v) = vlN t l := by unfold vlN vol; rfl
  have hLo : (kn t (byL t l - 1)).v + vlN t l / hgt t (byL t l) = vlLo t l := by unfold vlLo; rfl
  have hHi : (kn t (byL t l - 1)).v + cdiv (vlN t l) (hgt t (byL t l)) = vlHi t l := by unfold vlHi; rfl
  have e1 : w64 (w64 (l - (kn t (byL t l - 1)).l) * ((kn t (byL t l)).v - (kn t (byL t l - 1)).v)) = vlN t l := by
    rw [w64_id (x := l - (kn t (byL t l - 1)).l) (by omega) (by omega), hN', w64_id (by omega) (by omega)]
  have e2 : w64 ((kn t (byL t l - 1)).v + vlN t l / hgt t (byL t l)) = vlLo t l := by
    rw [hLo, w64_id (by omega) (by omega)]
  have e3 : w64 ((kn t (byL t l - 1)).v + cdiv (vlN t l) (hgt t (byL t l))) = vlHi t l := by
    rw [hHi, w64_id (by omega) (by omega)]
  have g3 := lake_floor (N := N) (k := k + 2) (n := vlN t l) p1 (by omega)
  have g4 := lake_ceil (N := N) (k := k + 1) (n := vlN t l) p1 (by omega)
  unfold hgt at g3 g4 e2 e3
  rw [E_lake_table_volumeAt, lake_pieceTo_l hN h hl]
  simp only [obind, asA_agg, nth_zero, nth_one, nth_two, nth_three, asI_int, g1, g2, e1, g3, g4, e2, e3]

theorem lake_levelAt (hN : 1000000 ≤ N) {t : Tab} (h : Ok t) {v : Int} (hv : IsV t v) : ev (envF N) (k + 5) F_lake_table_levelAt [vTab t, .int .i64 v] = some (.agg [.int .i64 (lvLo t v), .int .i64 (lvN t v % vol t (byV t v)), .int .i64 (vol t (byV t v))]) := by
  obtain ⟨i1, i2, i3, i4⟩ := h.pieceV hv
  obtain ⟨p1, p2, p3, p4⟩ := Ok.hv_le h i1 i2
  obtain ⟨b1, b2⟩ := h.lvN_bounds hv
  obtain ⟨v1, v2, v3⟩ := h.lv_between hv
  have m := mul_le_big (x := hgt t (byV t v)) (y := vol t (byV t v)) (by omega) (by omega) (by omega) (by omega)
  have a := Ok.kr h i2
  have b := Ok.kr h (i := byV t v - 1) (by omega)
  unfold Kr at a b
  have g1 := lake_volume (N := N) (k := k + 3) (kn t (byV t v - 1)) (kn t (byV t v)) (by constructor <;> omega)
  have g2 := lake_height (N := N) (k := k + 3) (kn t (byV t v - 1)) (kn t (byV t v)) (by constructor <;> omega)
  have hN' : (v - (kn t (byV t v - 1)).v) * ((kn t (byV t v)).l - (kn t (byV t v - 1)).l) = lvN t v := by unfold lvN hgt; rfl
  have hLo : (kn t (byV t v - 1)).l + lvN t v / vol t (byV t v) = lvLo t v := by unfold lvLo; rfl
  have hV : (kn t (byV t v)).v - (kn t (byV t v - 1)).v = vol t (byV t v) := by unfold vol; rfl
  have e1 : w64 (w64 (v - (kn t (byV t v - 1)).v) * ((kn t (byV t v)).l - (kn t (byV t v - 1)).l)) = lvN t v := by
    rw [w64_id (x := v - (kn t (byV t v - 1)).v) (by omega) (by omega), hN', w64_id (by omega) (by omega)]
  have d1 : (lvN t v).tdiv (vol t (byV t v)) = lvN t v / vol t (byV t v) := Int.tdiv_eq_ediv_of_nonneg b1
  have d2 : (lvN t v).tmod (vol t (byV t v)) = lvN t v % vol t (byV t v) := Int.tmod_eq_emod_of_nonneg b1
  have q1 : 0 ≤ lvN t v / vol t (byV t v) := Int.ediv_nonneg b1 (by omega)
  have q2 : lvN t v / vol t (byV t v) ≤ lvN t v := Int.ediv_le_self _ b1
  have e2 : w64 (lvN t v / vol t (byV t v)) = lvN t v / vol t (byV t v) := by rw [w64_id] <;> omega
  have e3 : w64 ((kn t (byV t v - 1)).l + lvN t v / vol t (byV t v)) = lvLo t v := by
    rw [hLo, w64_id (by omega) (by omega)]
  have c : ¬ (vol t (byV t v) = 0) := by omega
  rw [E_lake_table_levelAt, lake_byVolume hN h hv]
  simp only [obind, asA_agg, nth_zero, nth_one, nth_two, nth_three, asI_int, g1, g2, cond_ndec, e1, hV, c, if_false, d1, d2, e2, e3]

theorem lake_VolumeAt (hN : 1000000 ≤ N) (t : Tab) (l : Int) : ev (envF N) (k + 5) F_lake_VolumeAt [vTab t, .int .i64 l] =
    some (.tup [.agg [.int .i64 (if tErr t = 0 ∧ IsL t l then vlLo t l else 0), .int .i64 (if tErr t = 0 ∧ IsL t l then vlHi t l else 0)], .int .i64 (if tErr t = 0 then if IsL t l then 0 else 2 else tErr t)]) := by
  rw [E_lake_VolumeAt, lake_tableErr hN]
  simp only [obind, asI_int, cond_ndec]
  by_cases h : tErr t = 0
  · have hok := ok_of h
    have h2 := hok.two
    have h10 := hok.ten
    rw [if_pos h, lake_bottom (by omega), lake_top (by omega) (by omega)]
    simp only [obind, asA_agg, nth_zero, asI_int, lake_within, asB_bool, cond_ndec, h, true_and, if_true]
    by_cases hl : IsL t l
    · have hl' := hl
      unfold IsL at hl'
      rw [if_pos hl', if_pos hl, if_pos hl, if_pos hl, lake_volumeAt hN hok hl]
      simp only [obind, asA_agg, nth_zero, nth_one, asI_int]
    · have hl' := hl
      unfold IsL at hl'
      rw [if_neg hl', if_neg hl, if_neg hl, if_neg hl]
  · simp only [h, if_false, false_and]

theorem lake_LevelAt (hN : 1000000 ≤ N) (t : Tab) (v : Int) : ev (envF N) (k + 6) F_lake_LevelAt [vTab t, .int .i64 v] =
    some (.tup [.agg [.int .i64 (if tErr t = 0 ∧ IsV t v then lvLo t v else 0), .int .i64 (if tErr t = 0 ∧ IsV t v then lvHi t v else 0)], .int .i64 (if tErr t = 0 then if IsV t v then 0 else 2 else tErr t)]) := by
  rw [E_lake_LevelAt, lake_openVolume hN]
  simp only [obind, asT_tup, nth_zero, nth_one, asI_int, cond_ndec]
  by_cases h : tErr t = 0
  · have hok := ok_of h
    simp only [h, true_and, if_true]
    by_cases hv : IsV t v
    · obtain ⟨i1, i2, i3, i4⟩ := hok.pieceV hv
      obtain ⟨p1, p2, p3, p4⟩ := Ok.hv_le hok i1 i2
      obtain ⟨v1, v2, v3⟩ := hok.lv_between hv
      have a := Ok.kr hok i2
      have b := Ok.kr hok (i := byV t v - 1) (by omega)
      unfold Kr at a b
      simp only [hv, if_true, asA_agg, nth_zero, asL_sl, lake_levelAt (k := k) hN hok hv, obind, nth_one, asI_int, imin_eq]
      have e : w64 (lvLo t v + min (lvN t v % vol t (byV t v)) 1) = lvHi t v := by
        have := cdiv_eq (n := lvN t v) p3
        have : lvLo t v + min (lvN t v % vol t (byV t v)) 1 = lvHi t v := by unfold lvLo lvHi; omega
        rw [this, w64_id] <;> omega
      rw [e]
    · simp only [hv, if_false, show ¬ ((2 : Int) = 0) by decide]
  · simp only [h, false_and, if_false]

theorem divisor_loop : ∀ (e n a b : Nat), b < 2 ^ e → 2 * e + 1 ≤ n → L_lake_divisor_1 N k n (a : Int) (b : Int) = some (.int .i64 (Nat.gcd a b : Int)) := by
  have done : ∀ (n a : Nat), 1 ≤ n → L_lake_divisor_1 N k n (a : Int) ((0 : Nat) : Int) = some (.int .i64 (Nat.gcd a 0 : Int)) := by
    intro n a hn
    obtain ⟨n, rfl⟩ : ∃ m, n = m + 1 := ⟨n - 1, by omega⟩
    rw [L_lake_divisor_1_eq, cond_ndec, if_pos (show ((0 : Nat) : Int) = 0 from rfl), Nat.gcd_zero_right]
  have step : ∀ (n a b : Nat), b ≠ 0 → L_lake_divisor_1 N k (n + 1) (a : Int) (b : Int) = L_lake_divisor_1 N k n (b : Int) ((a % b : Nat) : Int) := by
    intro n a b h0
    have c : ¬ ((b : Int) = 0) := by omega
    rw [L_lake_divisor_1_eq, cond_ndec, if_neg c, cond_ndec, if_neg c]
    rfl
  intro e
  induction e with
  | zero =>
    intro n a b h1 h2
    have : b = 0 := by simpa using h1
    subst this
    exact done n a (by omega)
  | succ e ih =>
    intro n a b h1 h2
    by_cases h0 : b = 0
    · subst h0; exact done n a (by omega)
    · obtain ⟨n, rfl⟩ : ∃ m, n = m + 1 := ⟨n - 1, by omega⟩
      have hr : a % b < b := Nat.mod_lt _ (Nat.pos_of_ne_zero h0)
      have g : Nat.gcd a b = Nat.gcd b (a % b) := by rw [Nat.gcd_comm, Nat.gcd_rec, Nat.gcd_comm]
      rw [step n a b h0, g]
      by_cases h3 : a % b = 0
      · rw [h3]; exact done n b (by omega)
      · obtain ⟨n, rfl⟩ : ∃ m, n = m + 1 := ⟨n - 1, by omega⟩
        have hp : (2 : Nat) ^ (e + 1) = 2 * 2 ^ e := by rw [Nat.pow_succ]; omega
        have h4 : b % (a % b) < a % b := Nat.mod_lt _ (Nat.pos_of_ne_zero h3)
        have h5 := Nat.div_add_mod b (a % b)
        have h6 : 1 ≤ b / (a % b) := (Nat.one_le_div_iff (Nat.pos_of_ne_zero h3)).2 (Nat.le_of_lt hr)
        have h7 : a % b * 1 ≤ a % b * (b / (a % b)) := Nat.mul_le_mul_left _ h6
        have g2 : Nat.gcd b (a % b) = Nat.gcd (a % b) (b % (a % b)) := by rw [Nat.gcd_comm, Nat.gcd_rec, Nat.gcd_comm]
        rw [step n b (a % b) h3, g2]
        exact ih n (a % b) (b % (a % b)) (by omega) (by omega)

theorem lake_divisor (hN : 1000000 ≤ N) {a b : Int} (ha : 0 ≤ a) (hb : 0 ≤ b) (hb2 : b ≤ 9223372036854775807) : ev (envF N) (k + 1) F_lake_divisor [.int .i64 a, .int .i64 b] = some (.int .i64 (Int.gcd a b : Int)) := by
  have := divisor_loop (N := N) (k := k) 64 N a.natAbs b.natAbs (by have : (2 : Nat) ^ 64 = 18446744073709551616 := by decide
                                                                    omega) (by omega)
  rw [E_lake_divisor]
  rw [show ((a.natAbs : Nat) : Int) = a by omega, show ((b.natAbs : Nat) : Int) = b by omega] at this
  exact this

/-- The area at a volume: a numerator and a denominator. -/
def arN (t : Tab) (v : Int) : Int := vol t (byV t v) / (Int.gcd (vol t (byV t v)) (hgt t (byV t v)) : Int)
def arD (t : Tab) (v : Int) : Int := hgt t (byV t v) / (Int.gcd (vol t (byV t v)) (hgt t (byV t v)) : Int)

theorem lake_AreaAt (hN : 1000000 ≤ N) (t : Tab) (v : Int) : ev (envF N) (k + 6) F_lake_AreaAt [vTab t, .int .i64 v] =
    some (.tup [.agg [.int .i64 (if tErr t = 0 ∧ IsV t v then arN t v else 0), .int .i64 (if tErr t = 0 ∧ IsV t v then arD t v else 0)], .int .i64 (if tErr t = 0 then if IsV t v then 0 else 2 else tErr t)]) := by
  rw [E_lake_AreaAt, lake_openVolume hN]
  simp only [obind, asT_tup, nth_zero, nth_one, asI_int, cond_ndec]
  by_cases h : tErr t = 0
  · have hok := ok_of h
    simp only [h, true_and, if_true]
    by_cases hv : IsV t v
    · obtain ⟨i1, i2, i3, i4⟩ := hok.pieceV hv
      obtain ⟨p1, p2, p3, p4⟩ := Ok.hv_le hok i1 i2
      have g1 := lake_volume (N := N) (k := k + 4) (kn t (byV t v - 1)) (kn t (byV t v)) (by unfold vol at *; constructor <;> omega)
      have g2 := lake_height (N := N) (k := k + 4) (kn t (byV t v - 1)) (kn t (byV t v)) (by unfold hgt at *; constructor <;> omega)
      have g3 := lake_divisor (k := k + 4) hN (a := vol t (byV t v)) (b := hgt t (byV t v)) (by omega) (by omega) (by omega)
      have hg : 0 < Int.gcd (vol t (byV t v)) (hgt t (byV t v)) := Int.gcd_pos_of_ne_zero_right _ (by omega)
      have c : ¬ ((Int.gcd (vol t (byV t v)) (hgt t (byV t v)) : Int) = 0) := by omega
      have d1 : w64 ((vol t (byV t v)).tdiv (Int.gcd (vol t (byV t v)) (hgt t (byV t v)) : Int)) = arN t v := by
        have := tdiv_abs_le (vol t (byV t v)) (Int.gcd (vol t (byV t v)) (hgt t (byV t v)) : Int)
        rw [w64_id (by omega) (by omega), Int.tdiv_eq_ediv_of_nonneg (by omega)]
        unfold arN
        rfl
      have d2 : w64 ((hgt t (byV t v)).tdiv (Int.gcd (vol t (byV t v)) (hgt t (byV t v)) : Int)) = arD t v := by
        have := tdiv_abs_le (hgt t (byV t v)) (Int.gcd (vol t (byV t v)) (hgt t (byV t v)) : Int)
        rw [w64_id (by omega) (by omega), Int.tdiv_eq_ediv_of_nonneg (by omega)]
        unfold arD
        rfl
      have hV : (kn t (byV t v)).v - (kn t (byV t v - 1)).v = vol t (byV t v) := by unfold vol; rfl
      have hH : (kn t (byV t v)).l - (kn t (byV t v - 1)).l = hgt t (byV t v) := by unfold hgt; rfl
      rw [hV] at g1
      rw [hH] at g2
      simp only [hv, if_true, asA_agg, nth_zero, asL_sl, lake_byVolume (k := k + 1) hN hok hv, obind, nth_one, nth_two, nth_three, asI_int, g1, g2, g3, c, if_false, d1, d2]
    · simp only [hv, if_false, show ¬ ((2 : Int) = 0) by decide]
  · simp only [h, false_and, if_false]

end
end Go.PevTab
