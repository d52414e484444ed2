/- LEVELS, VOLUMES, AREAS AND STEPS in the reference. -/
import Derived.Test.YtfjnpgbjcgjecaaPevSRef1
namespace Go.PevTab
open Go.Pev Go.Num

section
variable {N k : Nat}

theorem ref_above_loop {t : Tab} (hl : t.length ≤ 100000) {v : Int} {i0 : Nat} (hat : At t Knot.v v i0) : ∀ (d n i : Nat), i + d = i0 → 1 ≤ i → d < n →
    L_ref01_above_2 N k n v (i : Int) (t.map cK) = some (.int .i64 (i0 : Int))
  | 0, n + 1, i, h, h1, hn => by
    have hi : i = i0 := by omega
    subst hi
    have c1 : (0 : Int) ≤ (i : Int) := by omega
    have c2 : (i : Int) < (t.length : Int) := by have := hat.lt; omega
    have c3 : ¬ ((kn t i).v < v) := by have := hat.reach; omega
    rw [L_ref01_above_2_eq]
    simp only [cond_dec, List.length_map, c1, c2, if_true, Int.toNat_natCast, leaf_cKv, c3, if_false]
  | d + 1, n + 1, i, h, h1, hn => by
    have c1 : (0 : Int) ≤ (i : Int) := by omega
    have c2 : (i : Int) < (t.length : Int) := by have := hat.lt; omega
    have c3 : (kn t i).v < v := hat.first i h1 (by omega)
    have e1 : w64 ((i : Int) + 1) = ((i + 1 : Nat) : Int) := by rw [w64_id] <;> omega
    rw [L_ref01_above_2_eq]
    simp only [cond_dec, List.length_map, c1, c2, if_true, Int.toNat_natCast, leaf_cKv, c3, e1]
    exact ref_above_loop hl hat d n (i + 1) (by omega) (by omega) (by omega)

theorem ref_above (hN : 1000000 ≤ N) {t : Tab} (h : Ok t) {v : Int} (hv : IsV t v) : ev (envF N) (k + 1) F_ref01_above [vTab t, .int .i64 v] = some (.int .i64 (byV t v : Int)) := by
  have a := h.atV hv.2
  have hten := h.ten
  rw [E_ref01_above]
  exact ref_above_loop (by omega) a (byV t v - 1) N 1 (by have := a.one; omega) (by omega) (by have := a.lt; omega)

theorem ref_rounded (hN : 1000000 ≤ N) {q : Rat} (hq : SzR 400 q) (h1 : Sz 2 q.floor) (h2 : Sz 2 q.ceil) : ev (envF N) (k + 7) F_ref01_rounded [vR q] = some (.agg [.int .i64 q.floor, .int .i64 q.ceil]) := by
  have g1 := RatioFloor_spec (k := k) hN hq
  have g2 := RatioCeil_spec (k := k) hN hq
  have g3 := WideInt_spec (k := k + 5) hN h1
  have g4 := WideInt_spec (k := k + 5) hN h2
  rw [E_ref01_rounded]
  simp only [g1, g2, g3, g4, obind, asA_agg, asT_tup, nth_zero, nth_one, asI_int, asL_sl]

theorem sz2_of {x : Int} (h : -999999999999999999 ≤ x ∧ x ≤ 999999999999999999) : Sz 2 x := by
  unfold Sz
  have : (1000000000 : Nat) ^ 2 = 1000000000000000000 := by decide
  omega

/-- The level at a volume, the volume at a level, as fractions. -/
def Lv (t : Tab) (v : Int) : Rat := ((kn t (byV t v - 1)).l : Rat) + ((v - (kn t (byV t v - 1)).v : Int) : Rat) / ar t (byV t v)
def Vl (t : Tab) (l : Int) : Rat := ((kn t (byL t l - 1)).v : Rat) + ((l - (kn t (byL t l - 1)).l : Int) : Rat) * ar t (byL t l)

theorem Lv_eq {t : Tab} (v : Int) : Lv t v = ((kn t (byV t v - 1)).l : Rat) + (lvN t v : Rat) / (vol t (byV t v) : Rat) := by
  unfold Lv lvN
  rw [ar_eq, div_div_eq, Rat.intCast_mul]
theorem Vl_eq {t : Tab} (l : Int) : Vl t l = ((kn t (byL t l - 1)).v : Rat) + (vlN t l : Rat) / (hgt t (byL t l) : Rat) := by
  unfold Vl vlN
  rw [ar_eq, mul_div_eq, Rat.intCast_mul]

theorem Lv_floor {t : Tab} (h : Ok t) {v : Int} (hv : IsV t v) : (Lv t v).floor = lvLo t v ∧ (Lv t v).ceil = lvHi t v := by
  obtain ⟨i1, i2, i3, i4⟩ := h.pieceV hv
  obtain ⟨p1, p2, p3, p4⟩ := Ok.hv_le h i1 i2
  rw [Lv_eq, floor_add, ceil_add, floor_div p3, ceil_div p3]
  unfold lvLo lvHi
  exact ⟨rfl, rfl⟩
theorem Vl_floor {t : Tab} (h : Ok t) {l : Int} (hl : IsL t l) : (Vl t l).floor = vlLo t l ∧ (Vl t l).ceil = vlHi t l := by
  obtain ⟨i1, i2, i3, i4⟩ := h.pieceL hl
  obtain ⟨p1, p2, p3, p4⟩ := Ok.hv_le h i1 i2
  rw [Vl_eq, floor_add, ceil_add, floor_div p1, ceil_div p1]
  unfold vlLo vlHi
  exact ⟨rfl, rfl⟩

theorem ar_ne {t : Tab} {i : Nat} (h1 : 0 < vol t i) (h2 : 0 < hgt t i) : ar t i ≠ 0 := by
  intro h
  have a : (0 : Rat) < ar t i := by
    rw [ar_eq, Rat.lt_div_iff (Rat.intCast_pos.2 h2), Rat.zero_mul]
    exact Rat.intCast_pos.2 h1
  rw [h] at a
  exact Rat.lt_irrefl a

theorem ref_Level (hN : 1000000 ≤ N) {t : Tab} (h : Ok t) {v : Int} (hv : IsV t v) : ev (envF N) (k + 12) F_ref01_Level [vTab t, .int .i64 v] = some (vR (Lv t v)) ∧ SzR 300 (Lv t v) := by
  obtain ⟨i1, i2, i3, i4⟩ := h.pieceV hv
  obtain ⟨p1, p2, p3, p4⟩ := Ok.hv_le h i1 i2
  have hten := h.ten
  have a := Ok.kr h i2
  have b := Ok.kr h (i := byV t v - 1) (by omega)
  have a' := a
  have b' := b
  unfold Kr at a' b'
  have e1 : w64 (((byV t v : Nat) : Int) - 1) = ((byV t v - 1 : Nat) : Int) := by rw [w64_id] <;> omega
  have e2 : w64 (v - (kn t (byV t v - 1)).v) = v - (kn t (byV t v - 1)).v := by rw [w64_id] <;> omega
  have c1 : (0 : Int) ≤ ((byV t v - 1 : Nat) : Int) := by omega
  have c2 : ((byV t v - 1 : Nat) : Int) < (t.length : Int) := by omega
  have i64a : I64 (kn t (byV t v - 1)).l := by constructor <;> omega
  have i64b : I64 (v - (kn t (byV t v - 1)).v) := by constructor <;> omega
  have sa := ar_sz a b (by omega)
  have s1 := szR_int i64a
  have s2 := szR_int i64b
  have hne := ar_ne p3 p1
  have sd := s2.div sa hne
  have ss := (s1.mono (n := 6) (by omega)).add sd
  have g0 := ref_above (k := k + 10) hN h hv
  have g1 := RatioInt_spec (k := k + 7) hN i64a
  have g2 := RatioInt_spec (k := k + 7) hN i64b
  have g3 := ref_piece (k := k) hN (t := t) (i := byV t v) i1 i2 (by omega) a b (by omega)
  have g4 := RatioDiv_spec (k := k + 1) hN (s2.mono (n := 400) (by omega)) (sa.mono (n := 400) (by omega)) hne
  have g5 := RatioAdd_spec (k := k + 1) hN (s1.mono (n := 400) (by omega)) (sd.mono (n := 400) (by omega))
  refine ⟨?_, ss.mono (by omega)⟩
  rw [E_ref01_Level]
  simp only [g0, obind, asI_int, e1, cond_dec, c1, c2, List.length_map, if_true, Int.toNat_natCast, leaf_cKl, leaf_cKv, g1, e2, g2, g3, asA_agg, nth_zero, nth_one, nth_two, nth_three, asL_sl, g4, g5]
  rfl

theorem ref_LevelAt (hN : 1000000 ≤ N) {t : Tab} (h : Ok t) {v : Int} (hv : IsV t v) : ev (envF N) (k + 13) F_ref01_LevelAt [vTab t, .int .i64 v] = some (.agg [.int .i64 (lvLo t v), .int .i64 (lvHi t v)]) := by
  obtain ⟨g1, g2⟩ := ref_Level (k := k) hN h hv
  obtain ⟨f1, f2⟩ := Lv_floor h hv
  obtain ⟨i1, i2, i3, i4⟩ := h.pieceV hv
  obtain ⟨v1, v2, v3⟩ := h.lv_between hv
  have a := Ok.kr h i2
  have b := Ok.kr h (i := byV t v - 1) (by omega)
  unfold Kr at a b
  have g3 := ref_rounded (k := k + 5) hN (g2.mono (n := 400) (by omega)) (by rw [f1]; exact sz2_of (by omega)) (by rw [f2]; exact sz2_of (by omega))
  rw [f1, f2] at g3
  rw [E_ref01_LevelAt]
  simp only [g1, obind, asA_agg, nth_zero, nth_one, nth_two, nth_three, asI_int, asL_sl, g3]

theorem ref_volume_loop (hN : 1000000 ≤ N) {t : Tab} (h : Ok t) {l : Int} (hl : IsL t l) (x3 : Int) (x4 : List (List PV)) (x5 : Int) (x6 : List (List PV)) : ∀ (d n i : Nat), i + d = byL t l → 1 ≤ i → d < n →
    L_ref01_volume_2 N (k + 11) n l (i : Int) (t.map cK) x3 x4 x5 x6 = some (vR (Vl t l))
  | 0, n + 1, i, hd, h1, hn => by
    have hi : i = byL t l := by omega
    subst hi
    obtain ⟨i1, i2, i3, i4⟩ := h.pieceL hl
    obtain ⟨p1, p2, p3, p4⟩ := Ok.hv_le h i1 i2
    have hten := h.ten
    have a := Ok.kr h i2
    have b := Ok.kr h (i := byL t l - 1) (by omega)
    have a' := a
    have b' := b
    unfold Kr at a' b'
    have e1 : w64 (((byL t l : Nat) : Int) - 1) = ((byL t l - 1 : Nat) : Int) := by rw [w64_id] <;> omega
    have e2 : w64 (l - (kn t (byL t l - 1)).l) = l - (kn t (byL t l - 1)).l := by rw [w64_id] <;> omega
    have c0 : (0 : Int) ≤ ((byL t l : Nat) : Int) := by omega
    have c3 : ((byL t l : Nat) : Int) < (t.length : Int) := by omega
    have c4 : ¬ ((kn t (byL t l)).l < l) := by omega
    have c1 : (0 : Int) ≤ ((byL t l - 1 : Nat) : Int) := by omega
    have c2 : ((byL t l - 1 : Nat) : Int) < (t.length : Int) := by omega
    have i64a : I64 (kn t (byL t l - 1)).v := by constructor <;> omega
    have i64b : I64 (l - (kn t (byL t l - 1)).l) := by constructor <;> omega
    have sa := ar_sz a b (by omega)
    have s1 := szR_int i64a
    have s2 := szR_int i64b
    have sd := s2.mul sa
    have g1 := RatioInt_spec (k := k + 7) hN i64a
    have g2 := RatioInt_spec (k := k + 7) hN i64b
    have g3 := ref_piece (k := k) hN (t := t) (i := byL t l) i1 i2 (by omega) a b (by omega)
    have g4 := RatioMul_spec (k := k + 1) hN (s2.mono (n := 400) (by omega)) (sa.mono (n := 400) (by omega))
    have g5 := RatioAdd_spec (k := k + 1) hN (s1.mono (n := 400) (by omega)) (sd.mono (n := 400) (by omega))
    rw [L_ref01_volume_2_eq]
    simp only [cond_dec, c0, c3, List.length_map, if_true, Int.toNat_natCast, leaf_cKl, leaf_cKv, c4, if_false, e1, c1, c2, g1, obind, e2, g2, g3, asA_agg, nth_zero, nth_one, nth_two, nth_three, asI_int, asL_sl, g4, g5]
    rfl
  | d + 1, n + 1, i, hd, h1, hn => by
    have hat := h.atL hl.2
    have hten := h.ten
    have c1 : (0 : Int) ≤ (i : Int) := by omega
    have c2 : (i : Int) < (t.length : Int) := by have := hat.lt; omega
    have c3 : (kn t i).l < l := hat.first i h1 (by omega)
    have e1 : w64 ((i : Int) + 1) = ((i + 1 : Nat) : Int) := by have := hat.lt; rw [w64_id] <;> omega
    rw [L_ref01_volume_2_eq]
    simp only [cond_dec, List.length_map, c1, c2, if_true, Int.toNat_natCast, leaf_cKl, c3, e1]
    exact ref_volume_loop hN h hl x3 x4 x5 x6 d n (i + 1) (by omega) (by omega) (by omega)

theorem Vl_sz {t : Tab} (h : Ok t) {l : Int} (hl : IsL t l) : SzR 300 (Vl t l) := by
  obtain ⟨i1, i2, i3, i4⟩ := h.pieceL hl
  obtain ⟨p1, p2, p3, p4⟩ := Ok.hv_le h i1 i2
  have a := Ok.kr h i2
  have b := Ok.kr h (i := byL t l - 1) (by omega)
  have a' := a
  have b' := b
  unfold Kr at a' b'
  have sa := ar_sz a b (by omega)
  have s1 := szR_int (x := (kn t (byL t l - 1)).v) (by constructor <;> omega)
  have s2 := szR_int (x := l - (kn t (byL t l - 1)).l) (by constructor <;> omega)
  exact ((s1.mono (n := 6) (by omega)).add (s2.mul sa)).mono (by omega)

theorem ref_VolumeAt (hN : 1000000 ≤ N) {t : Tab} (h : Ok t) {l : Int} (hl : IsL t l) : ev (envF N) (k + 13) F_ref01_VolumeAt [vTab t, .int .i64 l] = some (.agg [.int .i64 (vlLo t l), .int .i64 (vlHi t l)]) := by
  have hat := h.atL hl.2
  have g1 : ev (envF N) (k + 12) F_ref01_volume [vTab t, .int .i64 l] = some (vR (Vl t l)) := by
    rw [E_ref01_volume]
    exact ref_volume_loop (k := k) hN h hl 0 [] 0 [] (byL t l - 1) N 1 (by have := hat.one; omega) (by omega) (by have := hat.lt; have := h.ten; omega)
  obtain ⟨f1, f2⟩ := Vl_floor h hl
  obtain ⟨i1, i2, i3, i4⟩ := h.pieceL hl
  obtain ⟨v1, v2, v3⟩ := h.vl_between hl
  have a := Ok.kr h i2
  have b := Ok.kr h (i := byL t l - 1) (by omega)
  unfold Kr at a b
  have g3 := ref_rounded (k := k + 5) hN ((Vl_sz h hl).mono (n := 400) (by omega)) (by rw [f1]; exact sz2_of (by omega)) (by rw [f2]; exact sz2_of (by omega))
  rw [f1, f2] at g3
  rw [E_ref01_VolumeAt]
  simp only [g1, obind, asA_agg, nth_zero, nth_one, nth_two, nth_three, asI_int, asL_sl, g3]

/-! The base's own greatest common divisor, and lowest terms. -/
theorem Gcd_loop : ∀ (e n : Nat) (a b : Int), b.natAbs < 2 ^ e → 2 * e + 1 ≤ n → -9223372036854775807 ≤ a → a ≤ 9223372036854775807 → -9223372036854775807 ≤ b → b ≤ 9223372036854775807 → L_base_Gcd_1 N (k + 1) n a b = some (.int .i64 (Int.gcd a b : Int)) := by
  have done : ∀ (n : Nat) (a : Int), 1 ≤ n → -9223372036854775807 ≤ a → a ≤ 9223372036854775807 → L_base_Gcd_1 N (k + 1) n a 0 = some (.int .i64 (Int.gcd a 0 : Int)) := by
    intro n a hn h1 h2
    obtain ⟨n, rfl⟩ : ∃ m, n = m + 1 := ⟨n - 1, by omega⟩
    rw [L_base_Gcd_1_eq, cond_ndec, if_pos rfl, Size_spec ⟨h1, h2⟩]
    simp only [obind, asI_int, Int.gcd_zero_right]
  have step : ∀ (n : Nat) (a b : Int), b ≠ 0 → L_base_Gcd_1 N (k + 1) (n + 1) a b = L_base_Gcd_1 N (k + 1) n b (a.tmod b) := by
    intro n a b h0
    rw [L_base_Gcd_1_eq, cond_ndec, if_neg h0, cond_ndec, if_neg h0]
  have gcd_step : ∀ a b : Int, Int.gcd a b = Int.gcd b (a.tmod b) := by
    intro a b
    unfold Int.gcd
    rw [Int.natAbs_tmod, Nat.gcd_comm, Nat.gcd_rec, Nat.gcd_comm]
  intro e
  induction e with
  | zero =>
    intro n a b h1 h2 h3 h4 h5 h6
    have : b = 0 := by simp at h1; omega
    subst this
    exact done n a (by omega) h3 h4
  | succ e ih =>
    intro n a b h1 h2 h3 h4 h5 h6
    by_cases h0 : b = 0
    · subst h0; exact done n a (by omega) h3 h4
    · obtain ⟨n, rfl⟩ : ∃ m, n = m + 1 := ⟨n - 1, by omega⟩
      have t1 : (a.tmod b).natAbs = a.natAbs % b.natAbs := Int.natAbs_tmod _ _
      have hr : a.natAbs % b.natAbs < b.natAbs := Nat.mod_lt _ (by omega)
      rw [step n a b h0, gcd_step a b]
      by_cases h7 : a.tmod b = 0
      · rw [h7]; exact done n b (by omega) h5 h6
      · obtain ⟨n, rfl⟩ : ∃ m, n = m + 1 := ⟨n - 1, by omega⟩
        have hp : (2 : Nat) ^ (e + 1) = 2 * 2 ^ e := by rw [Nat.pow_succ]; omega
        have t2 : (b.tmod (a.tmod b)).natAbs = b.natAbs % (a.tmod b).natAbs := Int.natAbs_tmod _ _
        have h4' : b.natAbs % (a.tmod b).natAbs < (a.tmod b).natAbs := Nat.mod_lt _ (by omega)
        have h5' := Nat.div_add_mod b.natAbs (a.tmod b).natAbs
        have h6' : 1 ≤ b.natAbs / (a.tmod b).natAbs := (Nat.one_le_div_iff (by omega)).2 (by omega)
        have h7' : (a.tmod b).natAbs * 1 ≤ (a.tmod b).natAbs * (b.natAbs / (a.tmod b).natAbs) := Nat.mul_le_mul_left _ h6'
        rw [step n b (a.tmod b) h7, gcd_step b]
        exact ih n _ _ (by omega) (by omega) (by omega) (by omega) (by omega) (by omega)

theorem base_Gcd (hN : 1000000 ≤ N) {a b : Int} (ha : -9223372036854775807 ≤ a ∧ a ≤ 9223372036854775807) (hb : -9223372036854775807 ≤ b ∧ b ≤ 9223372036854775807) : ev (envF N) (k + 2) F_base_Gcd [.int .i64 a, .int .i64 b] = some (.int .i64 (Int.gcd a b : Int)) := by
  rw [E_base_Gcd]
  refine Gcd_loop 64 N a b ?_ (by omega) ha.1 ha.2 hb.1 hb.2
  have : (2 : Nat) ^ 64 = 18446744073709551616 := by decide
  omega

theorem base_Lowest (hN : 1000000 ≤ N) {a b : Int} (ha : 0 ≤ a ∧ a ≤ 1000000000000) (hb : 0 < b ∧ b ≤ 1000000000000) : ev (envF N) (k + 3) F_base_Lowest [.int .i64 a, .int .i64 b] = some (.agg [.int .i64 (a / (Int.gcd a b : Int)), .int .i64 (b / (Int.gcd a b : Int))]) := by
  have hg : 0 < Int.gcd a b := Int.gcd_pos_of_ne_zero_right _ (by omega)
  have c1 : ¬ (b < 0) := by omega
  have c2 : ¬ ((Int.gcd a b : Int) = 0) := by omega
  have t1 := tdiv_abs_le a (Int.gcd a b : Int)
  have t2 := tdiv_abs_le b (Int.gcd a b : Int)
  have e1 : w64 (a.tdiv (Int.gcd a b : Int)) = a / (Int.gcd a b : Int) := by
    rw [w64_id (by omega) (by omega), Int.tdiv_eq_ediv_of_nonneg ha.1]
  have e2 : w64 (b.tdiv (Int.gcd a b : Int)) = b / (Int.gcd a b : Int) := by
    rw [w64_id (by omega) (by omega), Int.tdiv_eq_ediv_of_nonneg (by omega)]
  rw [E_base_Lowest, base_Gcd hN (by omega) (by omega)]
  simp only [obind, asI_int, cond_dec, cond_ndec, c1, c2, if_false, e1, e2]

theorem ref_AreaAt (hN : 1000000 ≤ N) {t : Tab} (h : Ok t) {v : Int} (hv : IsV t v) : ev (envF N) (k + 4) F_ref01_AreaAt [vTab t, .int .i64 v] = some (.agg [.int .i64 (arN t v), .int .i64 (arD t v)]) := by
  obtain ⟨i1, i2, i3, i4⟩ := h.pieceV hv
  obtain ⟨p1, p2, p3, p4⟩ := Ok.hv_le h i1 i2
  have hten := h.ten
  have e1 : w64 (((byV t v : Nat) : Int) - 1) = ((byV t v - 1 : Nat) : Int) := by rw [w64_id] <;> omega
  have c0 : (0 : Int) ≤ ((byV t v : Nat) : Int) := by omega
  have c3 : ((byV t v : Nat) : Int) < (t.length : Int) := by omega
  have c1 : (0 : Int) ≤ ((byV t v - 1 : Nat) : Int) := by omega
  have c2 : ((byV t v - 1 : Nat) : Int) < (t.length : Int) := by omega
  have hV : (kn t (byV t v)).v - (kn t (byV t v - 1)).v = vol t (byV t v) := by unfold vol; rfl
  have hH : (kn t (byV t v)).l - (kn t (byV t v - 1)).l = hgt t (byV t v) := by unfold hgt; rfl
  have e2 : w64 ((kn t (byV t v)).v - (kn t (byV t v - 1)).v) = vol t (byV t v) := by rw [hV, w64_id] <;> omega
  have e3 : w64 ((kn t (byV t v)).l - (kn t (byV t v - 1)).l) = hgt t (byV t v) := by rw [hH, w64_id] <;> omega
  have g0 := ref_above (k := k + 2) hN h hv
  have g1 := base_Lowest (k := k) hN (a := vol t (byV t v)) (b := hgt t (byV t v)) (by omega) (by omega)
  rw [E_ref01_AreaAt]
  simp only [g0, obind, asI_int, e1, cond_dec, c0, c1, c2, c3, List.length_map, if_true, Int.toNat_natCast, leaf_cKl, leaf_cKv, e2, e3, g1, asA_agg, nth_zero, nth_one]
  rfl

theorem ref_evaporated (hN : 1000000 ≤ N) {t : Tab} (h : Ok t) {r v : Int} (h0 : 0 ≤ r) (h1 : r ≤ 1000) (hv : IsV t v) : ev (envF N) (k + 12) F_ref01_evaporated [vTab t, .int .i64 r, .int .i64 v] = some (.int .i64 (evap t r v)) := by
  obtain ⟨i1, i2, i3, i4⟩ := h.pieceV hv
  obtain ⟨p1, p2, p3, p4⟩ := Ok.hv_le h i1 i2
  have h2 := h.two
  have hten := h.ten
  have bb := Ok.lo_hi h
  have hv1 := hv.1
  have hv2 := hv.2
  have a := Ok.kr h i2
  have b := Ok.kr h (i := byV t v - 1) (by omega)
  have sa := ar_sz a b (by omega)
  have i64r : I64 r := by constructor <;> omega
  have s1 := szR_int i64r
  have s2 := szR_int (x := 1000) (by decide)
  have s3 := s1.mul sa
  have hne : ((1000 : Int) : Rat) ≠ 0 := by decide
  have s4 := s3.div (s2.mono (n := 6) (by omega)) hne
  have hq : (r : Rat) * ar t (byV t v) / ((1000 : Int) : Rat) = ((r * vol t (byV t v) : Int) : Rat) / ((1000 * hgt t (byV t v) : Int) : Rat) := by
    rw [ar_eq, mul_div_eq, div_div_eq', Rat.intCast_mul, Rat.intCast_mul]
  have hpos : 0 < 1000 * hgt t (byV t v) := by omega
  have m := mul_le_big (x := r) (y := vol t (byV t v)) (by omega) (by omega) (by omega) (by omega)
  have f1 : ((r : Rat) * ar t (byV t v) / ((1000 : Int) : Rat)).floor = r * vol t (byV t v) / (1000 * hgt t (byV t v)) := by rw [hq, floor_div hpos]
  have f2 : ((r : Rat) * ar t (byV t v) / ((1000 : Int) : Rat)).ceil = cdiv (r * vol t (byV t v)) (1000 * hgt t (byV t v)) := by rw [hq, ceil_div hpos]
  have b1 : 0 ≤ r * vol t (byV t v) / (1000 * hgt t (byV t v)) := Int.ediv_nonneg m.1 (by omega)
  have b2 : r * vol t (byV t v) / (1000 * hgt t (byV t v)) ≤ r * vol t (byV t v) := Int.ediv_le_self _ m.1
  have b3 := cdiv_eq (n := r * vol t (byV t v)) hpos
  have b4 := Int.emod_nonneg (r * vol t (byV t v)) (Int.ne_of_gt hpos)
  have hlo : lo t = (kn t 0).v := by unfold lo; rfl
  have hhi : hi t = (kn t (t.length - 1)).v := by unfold hi; rfl
  have e4 : w64 (v - (kn t 0).v) = v - lo t := by rw [w64_id] <;> omega
  have g0 := ref_above (k := k + 10) hN h hv
  have g1 := RatioInt_spec (k := k + 7) hN i64r
  have g2 := RatioInt_spec (k := k + 7) hN (n := 1000) (by decide)
  have g3 := ref_piece (k := k) hN (t := t) (i := byV t v) i1 i2 (by omega) a b (by omega)
  have g4 := RatioMul_spec (k := k + 1) hN (s1.mono (n := 400) (by omega)) (sa.mono (n := 400) (by omega))
  have g5 := RatioDiv_spec (k := k + 1) hN (s3.mono (n := 400) (by omega)) (s2.mono (n := 400) (by omega)) hne
  have g6 := ref_rounded (k := k + 4) hN (s4.mono (n := 400) (by omega)) (by rw [f1]; exact sz2_of (by omega)) (by rw [f2]; exact sz2_of (by omega))
  have g7 := ref_Bottom (N := N) (k := k + 10) (t := t) (by omega)
  rw [f1, f2] at g6
  rw [E_ref01_evaporated]
  simp only [g0, g1, g2, g3, obind, asI_int, asA_agg, nth_zero, nth_one, nth_two, nth_three, asL_sl, g4, g5, g6, g7, e4, imin_eq]
  rfl

theorem ref_Usable {p : Pair} (hp : POk p) {s : Vols} (hu : IsV p.u s.u) (hl : IsV p.l s.l) : ev (envF N) (k + 2) F_ref01_Usable [vPair p, vVols s] = some (vVols ⟨min (s.u - lo p.u) (hi p.l - s.l), min (s.l - lo p.l) (hi p.u - s.u)⟩) := by
  have c := Ok.lo_hi hp.u
  have d := Ok.lo_hi hp.l
  have t1 := hp.u.two
  have t2 := hp.l.two
  have t3 := hp.u.ten
  have t4 := hp.l.ten
  have hu1 : lo p.u ≤ s.u := hu.1
  have hl1 : lo p.l ≤ s.l := hl.1
  have hu2 : s.u ≤ hi p.u := hu.2
  have hl2 : s.l ≤ hi p.l := hl.2
  have u0 : (kn p.u 0).v = lo p.u := by unfold lo; rfl
  have u1 : (kn p.u (p.u.length - 1)).v = hi p.u := by unfold hi; rfl
  have l0 : (kn p.l 0).v = lo p.l := by unfold lo; rfl
  have l1 : (kn p.l (p.l.length - 1)).v = hi p.l := by unfold hi; rfl
  have g3 := ref_Bottom (N := N) (k := k) (t := p.u) (by omega)
  have g4 := ref_Bottom (N := N) (k := k) (t := p.l) (by omega)
  have g5 := ref_Top (N := N) (k := k) (t := p.u) (by omega) (by omega)
  have g6 := ref_Top (N := N) (k := k) (t := p.l) (by omega) (by omega)
  have e1 : w64 (s.u - lo p.u) = s.u - lo p.u := by rw [w64_id] <;> omega
  have e2 : w64 (s.l - lo p.l) = s.l - lo p.l := by rw [w64_id] <;> omega
  have e3 : w64 (hi p.u - s.u) = hi p.u - s.u := by rw [w64_id] <;> omega
  have e4 : w64 (hi p.l - s.l) = hi p.l - s.l := by rw [w64_id] <;> omega
  rw [E_ref01_Usable]
  simp only [g3, g4, g5, g6, obind, asA_agg, nth_one, asI_int, u0, u1, l0, l1, e1, e2, e3, e4, imin_eq]

/-- A step's results and whether it is possible. -/
def stepB : Option (Vols × Loss) → PV
  | some (s', x) => .tup [vVols s', vLoss x, .bool true]
  | none => .tup [vVols ⟨0, 0⟩, vLoss ⟨0, 0⟩, .bool false]

theorem ref_Step (hN : 1000000 ≤ N) {p : Pair} (h : POk p) {s : Vols} (hu : IsV p.u s.u) (hl : IsV p.l s.l) {f : Flow} (hf : FlowIn f) : ev (envF N) (k + 13) F_ref01_Step [vPair p, vVols s, vFlow f] = some (stepB (step p s f)) := by
  have a := evap_bounds h.u h.r0 hu
  have b := evap_bounds h.l h.r0 hl
  have c := Ok.lo_hi h.u
  have d := Ok.lo_hi h.l
  have hu2 : s.u ≤ hi p.u := hu.2
  have hl2 : s.l ≤ hi p.l := hl.2
  have t1 := h.u.two
  have t2 := h.l.two
  have t3 := h.u.ten
  have t4 := h.l.ten
  have u0 : (kn p.u 0).v = lo p.u := by unfold lo; rfl
  have u1 : (kn p.u (p.u.length - 1)).v = hi p.u := by unfold hi; rfl
  have l0 : (kn p.l 0).v = lo p.l := by unfold lo; rfl
  have l1 : (kn p.l (p.l.length - 1)).v = hi p.l := by unfold hi; rfl
  have g1 := ref_evaporated (k := k) hN h.u h.r0 h.r1 hu
  have g2 := ref_evaporated (k := k) hN h.l h.r0 h.r1 hl
  have g3 := ref_Bottom (N := N) (k := k + 11) (t := p.u) (by omega)
  have g4 := ref_Bottom (N := N) (k := k + 11) (t := p.l) (by omega)
  have g5 := ref_Top (N := N) (k := k + 11) (t := p.u) (by omega) (by omega)
  have g6 := ref_Top (N := N) (k := k + 11) (t := p.l) (by omega) (by omega)
  obtain ⟨A, hA⟩ : ∃ A, evap p.u p.r s.u = A := ⟨_, rfl⟩
  obtain ⟨B, hB⟩ : ∃ B, evap p.l p.r s.l = B := ⟨_, rfl⟩
  rw [hA] at a g1
  rw [hB] at b g2
  unfold FlowIn at hf
  have eu : w64 (w64 (w64 (s.u - A) + f.a) + f.x) = s.u - A + f.a + f.x := by
    rw [w64_id (x := s.u - A) (by omega) (by omega), w64_id (x := s.u - A + f.a) (by omega) (by omega), w64_id (by omega) (by omega)]
  have el : w64 (w64 (w64 (s.l - B) + f.b) - f.x) = s.l - B + f.b - f.x := by
    rw [w64_id (x := s.l - B) (by omega) (by omega), w64_id (x := s.l - B + f.b) (by omega) (by omega), w64_id (by omega) (by omega)]
  have eab : w64 (A + B) = A + B := by rw [w64_id] <;> omega
  rw [E_ref01_Step]
  simp only [g1, g2, g3, g4, g5, g6, obind, asA_agg, nth_zero, nth_one, asI_int, eu, el, eab, u0, u1, l0, l1, imax_eq, cond_dec]
  unfold step
  simp only [hA, hB]
  obtain ⟨U, hU⟩ : ∃ U, s.u - A + f.a + f.x = U := ⟨_, rfl⟩
  obtain ⟨L, hL⟩ : ∃ L, s.l - B + f.b - f.x = L := ⟨_, rfl⟩
  simp only [hU, hL]
  have e1 : w64 (U - hi p.u) = U - hi p.u := by rw [w64_id] <;> omega
  have e2 : w64 (L - hi p.l) = L - hi p.l := by rw [w64_id] <;> omega
  have e3 : w64 (U - max 0 (U - hi p.u)) = U - max 0 (U - hi p.u) := by rw [w64_id] <;> omega
  have e4 : w64 (L - max 0 (L - hi p.l)) = L - max 0 (L - hi p.l) := by rw [w64_id] <;> omega
  have e6 : w64 (max 0 (U - hi p.u) + max 0 (L - hi p.l)) = max 0 (U - hi p.u) + max 0 (L - hi p.l) := by rw [w64_id] <;> omega
  simp only [e1, e2, e3, e4, e6]
  by_cases h1 : U < lo p.u
  · rw [if_pos h1, if_pos (Or.inl h1), stepB]
  · by_cases h2 : L < lo p.l
    · rw [if_neg h1, if_pos h2, if_pos (Or.inr h2), stepB]
    · rw [if_neg h1, if_neg h2, if_neg (by omega), stepB]

end
end Go.PevTab
