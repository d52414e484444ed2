/- WHOLE NUMBERS OF ANY SIZE: quotients, greatest common divisors. -/
/- FRACTIONS OF ANY SIZE: what the functions on them give. -/
/- SMALL FUNCTIONS: what they give. -/
/- TABLES in the program: checked, and levels and volumes in them. -/
/- LEVELS, VOLUMES AND AREAS in the program. -/
/- PAIRS OF LAKES in the program: states, steps and runs. -/
/- TABLES in the reference: fractions, and what they come to in whole numbers. -/
/- LEVELS, VOLUMES, AREAS AND STEPS in the reference. -/
/- RUNS: step after step, in the program and in the reference. -/
import Derived.Test.YtfjnpgbjcgjecaaPewG5

namespace Go.PewTab
set_option linter.unusedSimpArgs false
set_option linter.unusedVariables false
open Go.Pew Go.Num

section
variable {N k : Nat}

theorem wideOf_one (hN : 1000000 ≤ N) {D : Nat} (hD : 0 < D) (hl : (digs D).length ≤ 10000) : ev (envF N) (k + 2) F_base_wideOf [.int .i64 1, vD (digs D)] = some (vW (D : Int)) := by
  rw [wideOf_spec hN (dig_digs D) hl, val_digs]
  refine congrArg some (vW_of (by simp) ?_)
  rw [Int.sign_eq_one_of_pos (by omega), if_neg (by omega)]

theorem tdiv2_nat (s : Nat) : Int.tdiv (s : Int) 2 = ((s / 2 : Nat) : Int) := rfl

theorem WideFloor_inner (hN : 1000000 ≤ N) {D left : Nat} (hD : 0 < D) (hDs : Sz 900 (D : Int)) (hls : Sz 902 (left : Int)) (n5 j : Nat) (x4 : Int) (x5 : List (List PV)) (x6 : Int) (x8 : Int) (x9 : List (List PV)) (q : List Nat) (hj : j < q.length) (hq : q.length ≤ 1000) :
    ∀ (e n lo hi : Nat), lo ≤ hi → hi < 1000000000 → D * lo ≤ left → left < D * (hi + 1) → hi - lo < 2 ^ e → e < n →
    L_base_WideFloor_9 N (k + 3) n n5 ((digs left).map cD) (j : Int) (lo : Int) (hi : Int) x4 x5 x6 ((digs D).map cD) x8 x9 (q.map cD) = L_base_WideFloor_5 N (k + 3) n5 ((digs (left % D)).map cD) ((j : Int) - 1) x4 x5 x6 ((digs D).map cD) x8 x9 ((q.set j (left / D)).map cD)
  | e, n + 1, lo, hi, h1, h2, h3, h4, h5, h6 => by
    have lD : (digs D).length ≤ 900 := by have := hDs.len; simpa using this
    have ll : (digs left).length ≤ 902 := by have := hls.len; simpa using this
    rw [L_base_WideFloor_9_eq]
    by_cases hlt : lo < hi
    · obtain ⟨e, rfl⟩ : ∃ m, e = m + 1 := ⟨e - 1, by
        cases e with
        | zero => simp at h5; omega
        | succ e => rfl⟩
      obtain ⟨m, hm⟩ : ∃ m, (lo + hi + 1) / 2 = m := ⟨_, rfl⟩
      have e1 : w64 ((lo : Int) + (hi : Int)) = ((lo + hi : Nat) : Int) := by rw [w64_id] <;> omega
      have e2 : w64 (((lo + hi : Nat) : Int) + 1) = ((lo + hi + 1 : Nat) : Int) := by rw [w64_id] <;> omega
      have e3 : w64 ((m : Nat) : Int) = (m : Int) := by rw [w64_id] <;> omega
      have e4 : w64 ((m : Int) - 1) = ((m - 1 : Nat) : Int) := by rw [w64_id] <;> omega
      have c1 : (lo : Int) < (hi : Int) := by omega
      have hms : Sz 3 (m : Int) := sz_int (by omega)
      have hmul := WideMul_spec (k := k) hN (hDs.mono (n := 2000) (by omega)) (hms.mono (n := 2000) (by omega))
      have lm : (digs (D * m)).length ≤ 903 := by
        have := (hDs.mul hms).len
        rwa [Int.natAbs_mul] at this
      simp only [cond_dec, c1, if_true, wideOf_one (k := k + 1) hN hD (show (digs D).length ≤ 10000 by omega), e1, e2, tdiv2_nat, hm, e3, WideOf_spec (k := k) hN (show I64 (m : Int) by constructor <;> omega), obind, hmul, asA_agg, nth_zero, nth_one, asI_int, asL_sl]
      have hc := cmpDigits_spec (k := k + 2) hN (D * m) left (by omega) (by omega)
      rw [show ((D : Int) * (m : Int)).natAbs = D * m by rw [Int.natAbs_mul]; rfl, hc]
      simp only [obind, asI_int, e4]
      have hp : (2 : Nat) ^ (e + 1) = 2 * 2 ^ e := by rw [Nat.pow_succ]; omega
      by_cases hle : D * m ≤ left
      · rw [if_pos (by split <;> first | omega | (split <;> omega))]
        exact WideFloor_inner hN hD hDs hls n5 j x4 x5 x6 x8 x9 q hj hq e n m hi (by omega) h2 hle h4 (by omega) (by omega)
      · rw [if_neg (by rw [if_neg (by omega), if_pos (by omega)]; decide)]
        refine WideFloor_inner hN hD hDs hls n5 j x4 x5 x6 x8 x9 q hj hq e n lo (m - 1) (by omega) (by omega) h3 ?_ (by omega) (by omega)
        rw [show m - 1 + 1 = m by omega]
        omega
    · have hh : hi = lo := by omega
      subst hh
      have hq' : left / D = hi := by
        rw [Nat.div_eq_iff hD]
        rw [Nat.mul_add, Nat.mul_one] at h4
        rw [Nat.mul_comm hi]
        omega
      have hr : left - D * hi = left % D := by
        have := Nat.div_add_mod left D
        rw [hq'] at this
        omega
      have hms : Sz 3 (hi : Int) := sz_int (by omega)
      have hmul := WideMul_spec (k := k) hN (hDs.mono (n := 2000) (by omega)) (hms.mono (n := 2000) (by omega))
      have lm : (digs (D * hi)).length ≤ 903 := by
        have := (hDs.mul hms).len
        rwa [Int.natAbs_mul] at this
      have c1 : ¬ ((hi : Int) < (hi : Int)) := by omega
      have c2 : (0 : Int) ≤ (j : Int) := by omega
      have c3 : (j : Int) < (q.length : Int) := by omega
      have e1 : w64 ((j : Int) - 1) = (j : Int) - 1 := by rw [w64_id] <;> omega
      simp only [cond_dec, c1, c2, c3, if_true, if_false, List.length_map, wideOf_one (k := k + 1) hN hD (show (digs D).length ≤ 10000 by omega), WideOf_spec (k := k) hN (show I64 (hi : Int) by constructor <;> omega), obind, hmul, asA_agg, nth_zero, nth_one, asI_int, asL_sl, e1, Int.toNat_natCast]
      have hsub := subDigits_spec (k := k + 1) hN h3 (show (digs left).length ≤ 5000 by omega) (show (digs (D * hi)).length ≤ 5000 by omega)
      rw [show ((D : Int) * (hi : Int)).natAbs = D * hi by rw [Int.natAbs_mul]; rfl, hsub]
      simp only [obind, asL_sl, hr, set_cD q j hi hj, hq']

/-- The last lines: the quotient's sign, and rounding down. -/
theorem floor_eq {y : Int} {D : Nat} (hD : 0 < D) : y / (D : Int) = if y < 0 ∧ y.natAbs % D ≠ 0 then y.sign * ((y.natAbs / D : Nat) : Int) - 1 else y.sign * ((y.natAbs / D : Nat) : Int) := by
  have h1 := Nat.div_add_mod y.natAbs D
  have h2 := Nat.mod_lt y.natAbs hD
  rcases Int.lt_or_le y 0 with h | h
  · rw [Int.sign_eq_neg_one_of_neg h]
    have hy : y = -(y.natAbs : Int) := by omega
    obtain ⟨Q, hQ⟩ : ∃ Q, y.natAbs / D = Q := ⟨_, rfl⟩
    obtain ⟨R, hR⟩ : ∃ R, y.natAbs % D = R := ⟨_, rfl⟩
    rw [hQ, hR] at h1
    rw [hR] at h2
    rw [hQ, hR]
    have h3 : ((D * Q : Nat) : Int) = (D : Int) * (Q : Int) := Int.natCast_mul _ _
    by_cases h0 : R = 0
    · rw [if_neg (by omega)]
      have : y = (-(Q : Int)) * (D : Int) := by rw [Int.neg_mul, Int.mul_comm]; omega
      rw [this, Int.mul_ediv_cancel _ (by omega)]
      omega
    · rw [if_pos ⟨h, h0⟩]
      have e : y = ((D : Int) - R) + (-(Q : Int) - 1) * (D : Int) := by rw [Int.sub_mul, Int.neg_mul, Int.one_mul, Int.mul_comm]; omega
      rw [e, Int.add_mul_ediv_right _ _ (by omega), Int.ediv_eq_zero_of_lt (by omega) (by omega)]
      omega
  · rw [if_neg (by omega)]
    by_cases h0 : y = 0
    · subst h0; simp
    · rw [Int.sign_eq_one_of_pos (by omega), Int.one_mul, Int.natCast_ediv]
      congr 1
      omega

theorem sz_nat {m n : Nat} (h : Sz m (n : Int)) : n < 1000000000 ^ m := h
theorem sz_next {m left : Nat} (h : left < 1000000000 ^ m) : Sz (m + 1) ((1000000000 * left + 999999999 : Nat) : Int) := by
  unfold Sz
  rw [Nat.pow_succ, Int.natAbs_natCast]
  omega
theorem sz_step {m D left : Nat} (h : left < D) (hD : Sz m (D : Int)) : Sz (m + 1) ((1000000000 * left + 999999999 : Nat) : Int) := sz_next (Nat.lt_trans h (sz_nat hD))
theorem len_lt {m D left : Nat} (h : left < D) (hD : Sz m (D : Int)) : (digs left).length ≤ m := digs_len _ _ (Nat.lt_trans h (sz_nat hD))
theorem pow_two_le (n : Nat) : 1000000000 ^ n ≤ 2 ^ (30 * n) := by
  rw [Nat.pow_mul]
  exact Nat.pow_le_pow_left (by decide) n

theorem WideFloor_outer (hN : 1000000 ≤ N) {y : Int} {D : Nat} (hD : 0 < D) (hDs : Sz 900 (D : Int)) (hy : Sz 900 y) (x4 : Int) (x6 : Int) (x7 : List (List PV)) : ∀ (r n left : Nat) (q : List Nat), r ≤ (digs y.natAbs).length → q.length = (digs y.natAbs).length → Dig q → left < D →
    val ((digs y.natAbs).drop r) = D * val (q.drop r) + left → r < n →
    L_base_WideFloor_5 N (k + 4) n ((digs left).map cD) ((r : Int) - 1) y.sign ((digs y.natAbs).map cD) x4 ((digs D).map cD) x6 x7 (q.map cD) = some (vW (y / (D : Int)))
  | 0, n + 1, left, q, h1, h2, h3, h4, h5, h6 => by
    have ly := hy.len
    rw [List.drop_zero, List.drop_zero, val_digs] at h5
    have hq : val q = y.natAbs / D := by
      rw [h5, Nat.mul_add_div hD, Nat.div_eq_of_lt h4, Nat.add_zero]
    have hr : left = y.natAbs % D := by
      rw [h5, Nat.mul_add_mod, Nat.mod_eq_of_lt h4]
    rw [L_base_WideFloor_5_eq]
    have c1 : ¬ ((0 : Int) ≤ ((0 : Nat) : Int) - 1) := by omega
    have hw : PV.agg [.int .i64 (if y.natAbs / D = 0 then 0 else y.sign), vD (digs (y.natAbs / D))] = vW (y.sign * ((y.natAbs / D : Nat) : Int)) := by
      refine vW_of ?_ ?_
      · rw [Int.natAbs_mul, Int.natAbs_natCast]
        rcases Int.lt_or_le y 0 with h | h
        · rw [Int.sign_eq_neg_one_of_neg h]; simp
        · by_cases h0 : y = 0
          · subst h0; simp
          · rw [Int.sign_eq_one_of_pos (by omega)]; simp
      · rw [Int.sign_mul, Int.sign_sign]
        by_cases h0 : y.natAbs / D = 0
        · rw [if_pos h0, h0]; simp
        · rw [if_neg h0, Int.sign_eq_one_of_pos (a := ((y.natAbs / D : Nat) : Int)) (by omega), Int.mul_one]
    have hsz : Sz 900 (y.sign * ((y.natAbs / D : Nat) : Int)) := by
      refine hy.le ?_
      rw [Int.natAbs_mul, Int.natAbs_natCast]
      have h7 := Nat.div_le_self y.natAbs D
      have h8 : y.sign.natAbs ≤ 1 := by rcases Int.sign_trichotomy y with h | h | h <;> rw [h] <;> decide
      calc y.sign.natAbs * (y.natAbs / D) ≤ 1 * (y.natAbs / D) := Nat.mul_le_mul_right _ h8
        _ ≤ y.natAbs := by omega
    have hsub := WideSub_spec (k := k) hN (hsz.mono (n := 4000) (by omega)) ((sz_int (x := 1) (by decide)).mono (n := 4000) (by omega))
    simp only [cond_dec, c1, if_false, wideOf_spec (k := k + 2) hN h3 (show q.length ≤ 10000 by omega), hq, obind, hw, asA_agg, nth_zero, nth_one, asI_int, asL_sl, WideOf_spec (k := k + 1) hN (show I64 1 by decide), hsub, List.length_map]
    rw [floor_eq hD, ← hr]
    by_cases hn : y < 0
    · rw [if_pos (by rw [Int.sign_eq_neg_one_of_neg hn]; decide)]
      by_cases h0 : left = 0
      · rw [h0, digs_zero, if_neg (by simp), if_neg (by omega)]
      · rw [digs_pos h0, if_pos (by rw [List.length_cons]; omega), if_pos ⟨hn, h0⟩]
    · have : ¬ y.sign < 0 := by
        rcases Int.sign_trichotomy y with h' | h' | h'
        · rw [h']; decide
        · rw [h']; decide
        · exact absurd (Int.sign_eq_neg_one_iff_neg.1 h') hn
      rw [if_neg this, if_neg (by omega)]
  | r + 1, n + 1, left, q, h1, h2, h3, h4, h5, h6 => by
    have ly := hy.len
    have lD : Sz 901 ((1000000000 * left + 999999999 : Nat) : Int) := sz_step h4 hDs
    have ll : (digs left).length ≤ 900 := len_lt h4 hDs
    have hai := (dig_digs y.natAbs).getD r
    obtain ⟨lf, hlf⟩ : ∃ lf, (digs y.natAbs).getD r 0 + 1000000000 * left = lf := ⟨_, rfl⟩
    have hlfs : Sz 902 (lf : Int) := (lD.mono (by omega)).le (by simp only [Int.natAbs_natCast]; omega)
    have e0 : ((r + 1 : Nat) : Int) - 1 = (r : Int) := by omega
    have c1 : (0 : Int) ≤ (r : Int) := by omega
    have c2 : (r : Int) < ((digs y.natAbs).length : Int) := by omega
    have hroom : room [[PV.int .i64 (((digs y.natAbs).getD r 0 : Nat) : Int)]] ((digs left).map cD) 8 = true := by
      unfold room
      rw [decide_eq_true_eq]
      simp only [List.length_cons, List.length_nil, List.length_map]
      omega
    have et : ([[PV.int .i64 (((digs y.natAbs).getD r 0 : Nat) : Int)]] ++ (digs left).map cD) = ((digs y.natAbs).getD r 0 :: digs left).map cD := rfl
    have htr := trimmed_spec (k := k + 3) hN (l := (digs y.natAbs).getD r 0 :: digs left) (fun x hx => by
      rcases List.mem_cons.1 hx with rfl | hx
      · exact hai
      · exact dig_digs left x hx) (by simp; omega)
    rw [val, val_digs, hlf] at htr
    have hb : lf < D * (999999999 + 1) := by
      have : 1000000000 * left + 1000000000 ≤ D * 1000000000 := by rw [Nat.mul_comm D]; omega
      omega
    have hin := WideFloor_inner (k := k + 1) hN hD hDs hlfs n r y.sign ((digs y.natAbs).map cD) x4 x6 x7 q (by omega) (by omega) 30 N 0 999999999 (by omega) (by omega) (by omega) hb (by decide) (by omega)
    have hqd : lf / D < 1000000000 := by
      rw [Nat.div_lt_iff_lt_mul hD, Nat.mul_comm]
      exact hb
    have ih := WideFloor_outer hN hD hDs hy x4 x6 x7 r n (lf % D) (q.set r (lf / D)) (by omega) (by simpa using h2) (h3.set _ hqd) (Nat.mod_lt _ hD) (by
      rw [val_drop, h5, val_drop (q.set r (lf / D)), List.drop_set_of_lt (by omega), List.getD_eq_getElem?_getD (l := q.set r (lf / D)), List.getElem?_set_self (by omega), Option.getD_some]
      have := Nat.div_add_mod lf D
      have e1 : D * (lf / D + 1000000000 * val (q.drop (r + 1))) = D * (lf / D) + 1000000000 * (D * val (q.drop (r + 1))) := by rw [Nat.mul_add, Nat.mul_left_comm]
      rw [e1]
      omega) (by omega)
    rw [L_base_WideFloor_5_eq]
    simp only [e0, cond_dec, c1, c2, List.length_map, if_true, Int.toNat_natCast, leaf_cD, hroom, cond_t, et, htr, obind, asL_sl]
    exact hin.trans ih

theorem WideFloor_spec (hN : 1000000 ≤ N) {y : Int} {D : Nat} (hD : 0 < D) (hDs : Sz 900 (D : Int)) (hy : Sz 900 y) : ev (envF N) (k + 5) F_base_WideFloor [vW y, vW (D : Int)] = some (vW (y / (D : Int))) := by
  have ly := hy.len
  rw [E_base_WideFloor]
  by_cases h0 : y = 0
  · subst h0
    simp [digs_zero]
  · have c1 : ¬ (y.sign = 0) := by rw [Int.sign_eq_zero_iff_zero]; exact h0
    have c2 : ((digs y.natAbs).length : Int) * 8 ≤ 140737488355328 := by omega
    have e1 : w64 (((digs y.natAbs).length : Int) - 1) = ((digs y.natAbs).length : Int) - 1 := by rw [w64_id] <;> omega
    have er (m : Nat) : List.replicate m [PV.int .i64 0] = (List.replicate m 0).map cD := by rw [List.map_replicate]; rfl
    simp only [cond_dec, c1, c2, if_false, if_true, List.length_map, e1, Int.toNat_natCast, er]
    have := WideFloor_outer (k := k) hN hD hDs hy (D : Int).sign 0 [] (digs y.natAbs).length N 0 (List.replicate (digs y.natAbs).length 0) (Nat.le_refl _) (by simp) (dig_replicate _) hD (by
      rw [List.drop_eq_nil_of_le (Nat.le_refl _), List.drop_eq_nil_of_le (by simp)]; simp [val]) (by omega)
    rw [digs_zero] at this
    exact this

theorem wideSize_spec (z : Int) : ev (envF N) (k + 2) F_base_wideSize [vW z] = some (vW (z.natAbs : Int)) := by
  rw [E_base_wideSize, cond_dec]
  by_cases h : z < 0
  · rw [if_pos (by rw [Int.sign_eq_neg_one_of_neg h]; decide), WideNeg_spec]
    simp only [obind, eta_vW]
    rw [show -z = (z.natAbs : Int) by omega]
  · have hs : ¬ z.sign < 0 := by
      rcases Int.sign_trichotomy z with h' | h' | h'
      · rw [h']; decide
      · rw [h']; decide
      · exact absurd (Int.sign_eq_neg_one_iff_neg.1 h') h
    rw [if_neg hs]
    have : (z.natAbs : Int) = z := by omega
    simp only [this]

theorem wideGcd_loop (hN : 1000000 ≤ N) (x4 : Int) (x5 : List (List PV)) : ∀ (e n a b : Nat), Sz 900 (a : Int) → Sz 900 (b : Int) → b < 2 ^ e → 2 * e + 1 ≤ n →
    L_base_wideGcd_2 N (k + 5) n (a : Int).sign ((digs a).map cD) (b : Int).sign ((digs b).map cD) x4 x5 = some (vW (Nat.gcd a b : Int)) := by
  have done : ∀ (n a : Nat), 1 ≤ n → L_base_wideGcd_2 N (k + 5) n (a : Int).sign ((digs a).map cD) ((0 : Nat) : Int).sign ((digs 0).map cD) x4 x5 = some (vW (Nat.gcd a 0 : Int)) := by
    intro n a hn
    obtain ⟨n, rfl⟩ : ∃ m, n = m + 1 := ⟨n - 1, by omega⟩
    have := WideSign_spec (N := N) (k := k + 4) ((0 : Nat) : Int)
    rw [L_base_wideGcd_2_eq]
    rw [show PV.agg [.int .i64 ((0 : Nat) : Int).sign, .sl none [.int .i64] ((digs 0).map cD)] = vW ((0 : Nat) : Int) from rfl, this]
    simp only [obind, asI_int, cond_ndec, show ((0 : Nat) : Int).sign = 0 from rfl, if_true, Nat.gcd_zero_right]
    rfl
  have step : ∀ (n a b : Nat), Sz 900 (a : Int) → Sz 900 (b : Int) → b ≠ 0 → L_base_wideGcd_2 N (k + 5) (n + 1) (a : Int).sign ((digs a).map cD) (b : Int).sign ((digs b).map cD) x4 x5 =
      L_base_wideGcd_2 N (k + 5) n (b : Int).sign ((digs b).map cD) ((a % b : Nat) : Int).sign ((digs (a % b)).map cD) x4 x5 := by
    intro n a b ha hb h0
    have f1 := WideSign_spec (N := N) (k := k + 4) (b : Int)
    have f2 := WideFloor_spec (k := k) hN (Nat.pos_of_ne_zero h0) hb ha
    have hq : Sz 900 ((a : Int) / (b : Int)) := ha.le (by rw [← Int.natCast_ediv, Int.natAbs_natCast, Int.natAbs_natCast]; exact Nat.div_le_self _ _)
    have f3 := WideMul_spec (k := k + 2) hN (hq.mono (n := 2000) (by omega)) (hb.mono (n := 2000) (by omega))
    have f4 := WideSub_spec (k := k + 1) hN (ha.mono (n := 4000) (by omega)) ((hq.mul hb).mono (n := 4000) (by omega))
    have e : (a : Int) - (a : Int) / (b : Int) * (b : Int) = ((a % b : Nat) : Int) := by
      have := Int.mul_ediv_add_emod (a : Int) (b : Int)
      rw [Int.mul_comm] at this
      rw [Int.natCast_emod]
      omega
    have c1 : ¬ ((b : Int).sign = 0) := by rw [Int.sign_eq_zero_iff_zero]; omega
    have g1 : PV.agg [.int .i64 (a : Int).sign, .sl none [.int .i64] ((digs a).map cD)] = vW (a : Int) := rfl
    have g2 : PV.agg [.int .i64 (b : Int).sign, .sl none [.int .i64] ((digs b).map cD)] = vW (b : Int) := rfl
    rw [L_base_wideGcd_2_eq]
    rw [g1, g2, f1]
    simp only [obind, asI_int, cond_ndec, c1, if_false, f2, asA_agg, nth_zero, nth_one, asL_sl, f3, f4, e]
    rfl
  intro e
  induction e with
  | zero =>
    intro n a b ha hb h1 h2
    have : b = 0 := by simpa using h1
    subst this
    exact done n a (by omega)
  | succ e ih =>
    intro n a b ha hb h1 h2
    by_cases h0 : b = 0
    · subst h0; exact done n a (by omega)
    · obtain ⟨n, rfl⟩ : ∃ m, n = m + 1 := ⟨n - 1, by omega⟩
      have hr : a % b < b := Nat.mod_lt _ (Nat.pos_of_ne_zero h0)
      have hrs : Sz 900 ((a % b : Nat) : Int) := hb.le (by simp only [Int.natAbs_natCast]; omega)
      have g : Nat.gcd a b = Nat.gcd b (a % b) := by rw [Nat.gcd_comm, Nat.gcd_rec, Nat.gcd_comm]
      rw [step n a b ha hb h0, g]
      by_cases h3 : a % b = 0
      · rw [h3]; exact done n b (by omega)
      · obtain ⟨n, rfl⟩ : ∃ m, n = m + 1 := ⟨n - 1, by omega⟩
        have hp : (2 : Nat) ^ (e + 1) = 2 * 2 ^ e := by rw [Nat.pow_succ]; omega
        have h4 : b % (a % b) < a % b := Nat.mod_lt _ (Nat.pos_of_ne_zero h3)
        have h5 := Nat.div_add_mod b (a % b)
        have h6 : 1 ≤ b / (a % b) := (Nat.one_le_div_iff (Nat.pos_of_ne_zero h3)).2 (Nat.le_of_lt hr)
        have h7 : a % b * 1 ≤ a % b * (b / (a % b)) := Nat.mul_le_mul_left _ h6
        have g2 : Nat.gcd b (a % b) = Nat.gcd (a % b) (b % (a % b)) := by rw [Nat.gcd_comm, Nat.gcd_rec, Nat.gcd_comm]
        rw [step n b (a % b) hb hrs h3, g2]
        exact ih n (a % b) (b % (a % b)) hrs (hrs.le (by simp only [Int.natAbs_natCast]; omega)) (by omega) (by omega)

theorem wideGcd_spec (hN : 1000000 ≤ N) {y z : Int} (hy : Sz 900 y) (hz : Sz 900 z) : ev (envF N) (k + 6) F_base_wideGcd [vW y, vW z] = some (vW (Int.gcd y z : Int)) := by
  rw [E_base_wideGcd]
  have g1 := wideSize_spec (N := N) (k := k + 3) y
  have g2 := wideSize_spec (N := N) (k := k + 3) z
  rw [g1, g2]
  simp only [obind, asA_agg, nth_zero, nth_one, asI_int, asL_sl, Int.natAbs_natCast]
  have hy' : Sz 900 (y.natAbs : Int) := hy.le (by simp)
  have hz' : Sz 900 (z.natAbs : Int) := hz.le (by simp)
  exact wideGcd_loop hN 0 [] (30 * 900) N y.natAbs z.natAbs hy' hz' (Nat.lt_of_lt_of_le hz (pow_two_le 900)) (by omega)

end
end Go.PewTab

namespace Go.PewTab
set_option linter.unusedSimpArgs false
set_option linter.unusedVariables false
open Go.Pew Go.Num

section
variable {N k : Nat}

/-- A fraction's value. -/
abbrev vR (r : Rat) : PV := .agg [.int .i64 r.num.sign, .sl none [.int .i64] ((digs r.num.natAbs).map cD), .int .i64 (r.den : Int).sign, .sl none [.int .i64] ((digs (r.den : Int).natAbs).map cD)]

/-- A fraction whose parts have at most m digits. -/
structure SzR (m : Nat) (r : Rat) : Prop where
  num : Sz m r.num
  den : Sz m (r.den : Int)

theorem SzR.mono {m n : Nat} {r : Rat} (h : SzR m r) (hmn : m ≤ n) : SzR n r := ⟨h.num.mono hmn, h.den.mono hmn⟩

theorem divInt_pos {n d : Int} (hd : 0 < d) : (Rat.divInt n d).num = n / (Int.gcd n d : Int) ∧ ((Rat.divInt n d).den : Int) = d / (Int.gcd n d : Int) := by
  obtain ⟨e, rfl⟩ : ∃ e : Nat, d = (e : Int) := ⟨d.toNat, by omega⟩
  have he : e ≠ 0 := by omega
  rw [Rat.divInt_ofNat, Rat.mkRat_def, dif_neg he]
  refine ⟨Rat.num_normalize he, ?_⟩
  rw [Rat.den_normalize he]
  exact Int.natCast_ediv _ _

theorem szR_divInt {m : Nat} {n d : Int} (hd : d ≠ 0) (hn : Sz m n) (hds : Sz m d) : SzR m (Rat.divInt n d) := by
  have main : ∀ {n d : Int}, 0 < d → Sz m n → Sz m d → SzR m (Rat.divInt n d) := by
    intro n d hd hn hds
    obtain ⟨h1, h2⟩ := divInt_pos (n := n) hd
    refine ⟨?_, ?_⟩
    · rw [h1]
      refine hn.le ?_
      rw [Int.natAbs_ediv_of_dvd (Int.gcd_dvd_left ..)]
      exact Nat.div_le_self _ _
    · rw [h2]
      refine hds.le ?_
      rw [Int.natAbs_ediv_of_dvd (Int.gcd_dvd_right ..)]
      exact Nat.div_le_self _ _
  rcases Int.lt_or_le 0 d with h | h
  · exact main h hn hds
  · rw [← Rat.neg_divInt_neg]
    exact main (by omega) hn.neg hds.neg

theorem RatioMake_pos (hN : 1000000 ≤ N) {n d : Int} (hd : 0 < d) (hn : Sz 900 n) (hds : Sz 900 d) : 
    ((ev (envF N) (k + 8) F_base_wideGcd [vW n, vW d]).bind fun r3 =>
   (ev (envF N) (k + 8) F_base_WideOf [.int .i64 1]).bind fun r4 =>
    (ev (envF N) (k + 8) F_base_WideCmp [(.agg [(.int .i64 (asI (nth (asA r3) 0))), (.sl none [.int .i64] (asL (nth (asA r3) 1)))]), (.agg [(.int .i64 (asI (nth (asA r4) 0))), (.sl none [.int .i64] (asL (nth (asA r4) 1)))])]).bind fun r5 =>
     cond (decide ((asI r5) = (0 : Int)))
      (some (.agg [(.int .i64 n.sign), (.sl none [.int .i64] ((digs n.natAbs).map cD)), (.int .i64 d.sign), (.sl none [.int .i64] ((digs d.natAbs).map cD))]))
      ((ev (envF N) (k + 8) F_base_WideFloor [vW n, (.agg [(.int .i64 (asI (nth (asA r3) 0))), (.sl none [.int .i64] (asL (nth (asA r3) 1)))])]).bind fun r7 =>
       (ev (envF N) (k + 8) F_base_WideFloor [vW d, (.agg [(.int .i64 (asI (nth (asA r3) 0))), (.sl none [.int .i64] (asL (nth (asA r3) 1)))])]).bind fun r8 =>
        some (.agg [(.int .i64 (asI (nth (asA r7) 0))), (.sl none [.int .i64] (asL (nth (asA r7) 1))), (.int .i64 (asI (nth (asA r8) 0))), (.sl none [.int .i64] (asL (nth (asA r8) 1)))]))) = some (vR (Rat.divInt n d)) := by
  obtain ⟨h1, h2⟩ := divInt_pos (n := n) hd
  have hg : 0 < Int.gcd n d := Int.gcd_pos_of_ne_zero_right _ (by omega)
  have hgs : Sz 900 (Int.gcd n d : Int) := hds.le (by
    have := Int.gcd_le_right (a := n) (b := d) hd
    omega)
  have f1 := wideGcd_spec (k := k + 2) hN hn hds
  have f2 := WideOf_spec (k := k + 5) hN (x := 1) (by decide)
  have f3 := WideCmp_spec (k := k + 3) hN (hgs.mono (n := 4000) (by omega)) ((sz_int (x := 1) (by decide)).mono (n := 4000) (by omega))
  have f4 := WideFloor_spec (k := k + 3) hN hg hgs hn
  have f5 := WideFloor_spec (k := k + 3) hN hg hgs hds
  rw [f1, f2]
  simp only [obind, asA_agg, nth_zero, nth_one, asI_int, asL_sl, f3, cond_dec]
  have hs : ((Rat.divInt n d).den : Int).natAbs = (Rat.divInt n d).den := Int.natAbs_natCast _
  by_cases hc : Int.gcd n d = 1
  · rw [if_pos (by rw [hc]; decide)]
    rw [hc] at h1 h2
    have h1 : (Rat.divInt n d).num = n := by rw [h1]; exact Int.ediv_one _
    have h2 : ((Rat.divInt n d).den : Int) = d := by rw [h2]; exact Int.ediv_one _
    simp only [vR]
    rw [h1, h2]
  · rw [if_neg (by rw [Int.sign_eq_zero_iff_zero]; omega), f4, f5]
    simp only [obind, asA_agg, nth_zero, nth_one, asI_int, asL_sl]
    simp only [vR]
    rw [h1, h2]

theorem RatioMake_spec (hN : 1000000 ≤ N) {n d : Int} (hd : d ≠ 0) (hn : Sz 900 n) (hds : Sz 900 d) : ev (envF N) (k + 9) F_base_RatioMake [vW n, vW d] = some (vR (Rat.divInt n d)) := by
  rw [E_base_RatioMake]
  have f0 := WideSign_spec (N := N) (k := k + 7) d
  rw [f0]
  simp only [obind, asI_int]
  rw [cond_dec]
  by_cases h : d < 0
  · rw [if_pos (by rw [Int.sign_eq_neg_one_of_neg h]; decide)]
    have f1 := WideNeg_spec (N := N) (k := k + 7) n
    have f2 := WideNeg_spec (N := N) (k := k + 7) d
    rw [f1, f2]
    simp only [obind, asA_agg, nth_zero, nth_one, asI_int, asL_sl]
    rw [← Rat.neg_divInt_neg n d]
    exact RatioMake_pos (k := k) hN (by omega) hn.neg hds.neg
  · have : ¬ d.sign < 0 := by
      rcases Int.sign_trichotomy d with h' | h' | h'
      · rw [h']; decide
      · rw [h']; decide
      · exact absurd (Int.sign_eq_neg_one_iff_neg.1 h') h
    rw [if_neg this]
    exact RatioMake_pos (k := k) hN (by omega) hn hds

theorem den_sz {r : Rat} : (r.den : Int) ≠ 0 := by have := r.den_nz; omega

theorem RatioOf_spec (hN : 1000000 ≤ N) {n d : Int} (hd : d ≠ 0) (hn : I64 n) (hds : I64 d) : ev (envF N) (k + 10) F_base_RatioOf [.int .i64 n, .int .i64 d] = some (vR (Rat.divInt n d)) := by
  rw [E_base_RatioOf, WideOf_spec (k := k + 6) hN hn, WideOf_spec (k := k + 6) hN hds]
  have f := RatioMake_spec (k := k) hN hd ((sz_int hn).mono (n := 900) (by omega)) ((sz_int hds).mono (n := 900) (by omega))
  simp only [obind, asA_agg, nth_zero, nth_one, asI_int, asL_sl, f, nth_two, nth_three]

theorem RatioInt_spec (hN : 1000000 ≤ N) {n : Int} (hn : I64 n) : ev (envF N) (k + 4) F_base_RatioInt [.int .i64 n] = some (vR (n : Rat)) := by
  rw [E_base_RatioInt, WideOf_spec (k := k) hN hn, WideOf_spec (k := k) hN (x := 1) (by decide)]
  simp only [obind, asA_agg, nth_zero, nth_one, asI_int, asL_sl]
  rfl

theorem RatioAdd_spec (hN : 1000000 ≤ N) {a b : Rat} (ha : SzR 400 a) (hb : SzR 400 b) : ev (envF N) (k + 10) F_base_RatioAdd [vR a, vR b] = some (vR (a + b)) := by
  rw [E_base_RatioAdd]
  have m (x : Int) {j : Nat} (h : Sz 400 x) (hj : 400 ≤ j) : Sz j x := h.mono hj
  have f1 := WideMul_spec (k := k + 6) hN (m _ ha.num (show 400 ≤ 2000 by omega)) (m _ hb.den (show 400 ≤ 2000 by omega))
  have f2 := WideMul_spec (k := k + 6) hN (m _ hb.num (show 400 ≤ 2000 by omega)) (m _ ha.den (show 400 ≤ 2000 by omega))
  have f4 := WideMul_spec (k := k + 6) hN (m _ ha.den (show 400 ≤ 2000 by omega)) (m _ hb.den (show 400 ≤ 2000 by omega))
  have f3 := WideAdd_spec (k := k + 6) hN ((ha.num.mul hb.den).mono (n := 4000) (by omega)) ((hb.num.mul ha.den).mono (n := 4000) (by omega))
  have hd : (a.den : Int) * (b.den : Int) ≠ 0 := Int.mul_ne_zero den_sz den_sz
  have f5 := RatioMake_spec (k := k) hN hd (((ha.num.mul hb.den).add (hb.num.mul ha.den)).mono (n := 900) (by omega)) ((ha.den.mul hb.den).mono (n := 900) (by omega))
  simp only [f1, f2, f3, f4, f5, obind, asA_agg, nth_zero, nth_one, asI_int, asL_sl, nth_two, nth_three]
  rw [Rat.add_def' a b, ← Rat.divInt_ofNat, Int.natCast_mul]

theorem RatioMul_spec (hN : 1000000 ≤ N) {a b : Rat} (ha : SzR 400 a) (hb : SzR 400 b) : ev (envF N) (k + 10) F_base_RatioMul [vR a, vR b] = some (vR (a * b)) := by
  rw [E_base_RatioMul]
  have m (x : Int) {j : Nat} (h : Sz 400 x) (hj : 400 ≤ j) : Sz j x := h.mono hj
  have f1 := WideMul_spec (k := k + 6) hN (m _ ha.num (show 400 ≤ 2000 by omega)) (m _ hb.num (show 400 ≤ 2000 by omega))
  have f4 := WideMul_spec (k := k + 6) hN (m _ ha.den (show 400 ≤ 2000 by omega)) (m _ hb.den (show 400 ≤ 2000 by omega))
  have hd : (a.den : Int) * (b.den : Int) ≠ 0 := Int.mul_ne_zero den_sz den_sz
  have f5 := RatioMake_spec (k := k) hN hd ((ha.num.mul hb.num).mono (n := 900) (by omega)) ((ha.den.mul hb.den).mono (n := 900) (by omega))
  simp only [f1, f4, f5, obind, asA_agg, nth_zero, nth_one, asI_int, asL_sl, nth_two, nth_three]
  rw [Rat.mul_def' a b, ← Rat.divInt_ofNat, Int.natCast_mul]

theorem div_eq (a b : Rat) : a / b = Rat.divInt (a.num * b.den) (a.den * b.num) := by
  rw [Rat.div_def, Rat.inv_def, ← Rat.num_divInt_den a, Rat.divInt_mul_divInt, Rat.num_divInt_den]

theorem RatioDiv_spec (hN : 1000000 ≤ N) {a b : Rat} (ha : SzR 400 a) (hb : SzR 400 b) (h0 : b ≠ 0) : ev (envF N) (k + 10) F_base_RatioDiv [vR a, vR b] = some (vR (a / b)) := by
  rw [E_base_RatioDiv]
  have m (x : Int) {j : Nat} (h : Sz 400 x) (hj : 400 ≤ j) : Sz j x := h.mono hj
  have f1 := WideMul_spec (k := k + 6) hN (m _ ha.num (show 400 ≤ 2000 by omega)) (m _ hb.den (show 400 ≤ 2000 by omega))
  have f4 := WideMul_spec (k := k + 6) hN (m _ ha.den (show 400 ≤ 2000 by omega)) (m _ hb.num (show 400 ≤ 2000 by omega))
  have hd : (a.den : Int) * b.num ≠ 0 := Int.mul_ne_zero den_sz (fun h => h0 (Rat.num_eq_zero.1 h))
  have f5 := RatioMake_spec (k := k) hN hd ((ha.num.mul hb.den).mono (n := 900) (by omega)) ((ha.den.mul hb.num).mono (n := 900) (by omega))
  simp only [f1, f4, f5, obind, asA_agg, nth_zero, nth_one, asI_int, asL_sl, nth_two, nth_three]
  rw [div_eq]

theorem RatioCmp_spec (hN : 1000000 ≤ N) {a b : Rat} (ha : SzR 400 a) (hb : SzR 400 b) : ev (envF N) (k + 6) F_base_RatioCmp [vR a, vR b] = some (.int .i64 (a.num * b.den - b.num * a.den).sign) := by
  rw [E_base_RatioCmp]
  have m (x : Int) {j : Nat} (h : Sz 400 x) (hj : 400 ≤ j) : Sz j x := h.mono hj
  have f1 := WideMul_spec (k := k + 2) hN (m _ ha.num (show 400 ≤ 2000 by omega)) (m _ hb.den (show 400 ≤ 2000 by omega))
  have f2 := WideMul_spec (k := k + 2) hN (m _ hb.num (show 400 ≤ 2000 by omega)) (m _ ha.den (show 400 ≤ 2000 by omega))
  have f3 := WideCmp_spec (k := k) hN ((ha.num.mul hb.den).mono (n := 4000) (by omega)) ((hb.num.mul ha.den).mono (n := 4000) (by omega))
  simp only [f1, f2, f3, obind, asA_agg, nth_zero, nth_one, asI_int, asL_sl]

theorem sign_lt (x : Int) : x.sign < 0 ↔ x < 0 := by
  rcases Int.lt_or_le x 0 with h | h
  · rw [Int.sign_eq_neg_one_of_neg h]; omega
  · by_cases h0 : x = 0
    · subst h0; simp
    · rw [Int.sign_eq_one_of_pos (by omega)]; omega
theorem sign_gt (x : Int) : 0 < x.sign ↔ 0 < x := by
  rcases Int.lt_or_le x 0 with h | h
  · rw [Int.sign_eq_neg_one_of_neg h]; omega
  · by_cases h0 : x = 0
    · subst h0; simp
    · rw [Int.sign_eq_one_of_pos (by omega)]; omega
theorem cmp_lt (a b : Rat) : (a.num * b.den - b.num * a.den).sign < 0 ↔ a < b := by
  rw [sign_lt, Rat.lt_iff]; omega
theorem cmp_gt (a b : Rat) : 0 < (a.num * b.den - b.num * a.den).sign ↔ b < a := by
  rw [sign_gt, Rat.lt_iff]; omega

theorem RatioFloor_spec (hN : 1000000 ≤ N) {a : Rat} (ha : SzR 400 a) : ev (envF N) (k + 6) F_base_RatioFloor [vR a] = some (vW a.floor) := by
  rw [E_base_RatioFloor]
  have f := WideFloor_spec (k := k) hN a.den_pos (ha.den.mono (n := 900) (by omega)) (ha.num.mono (n := 900) (by omega))
  simp only [f, obind, asA_agg, nth_zero, nth_one, asI_int, asL_sl]
  rw [Rat.floor_def]

theorem RatioCeil_spec (hN : 1000000 ≤ N) {a : Rat} (ha : SzR 400 a) : ev (envF N) (k + 6) F_base_RatioCeil [vR a] = some (vW a.ceil) := by
  rw [E_base_RatioCeil]
  have f0 := WideNeg_spec (N := N) (k := k + 4) a.num
  have f := WideFloor_spec (k := k) hN a.den_pos (ha.den.mono (n := 900) (by omega)) (ha.num.neg.mono (n := 900) (by omega))
  have f2 := WideNeg_spec (N := N) (k := k + 4) (-a.num / (a.den : Int))
  simp only [f0, f, f2, obind, asA_agg, nth_zero, nth_one, asI_int, asL_sl]
  rw [Rat.ceil_eq_neg_floor_neg, Rat.floor_def, Rat.neg_num, Rat.neg_den]

theorem WideInt_loop (hN : 1000000 ≤ N) (s : Int) (l : List Nat) (hl : Dig l) (h2 : l.length ≤ 2) : ∀ (r n m : Nat), r ≤ l.length → m < 1000000000 ^ (2 - r) → r < n →
    L_base_WideInt_5 N k n (m : Int) ((r : Int) - 1) s (l.map cD) = some (.tup [.int .i64 (w64 (s * ((m * 1000000000 ^ r + val (l.take r) : Nat) : Int))), .bool true])
  | 0, n + 1, m, h1, h3, h4 => by
    rw [L_base_WideInt_5_eq]
    have c1 : ¬ ((0 : Int) ≤ ((0 : Nat) : Int) - 1) := by omega
    simp only [cond_dec, c1, if_false]
    simp [val]
  | r + 1, n + 1, m, h1, h3, h4 => by
    have hd := hl.getD r
    have e0 : ((r + 1 : Nat) : Int) - 1 = (r : Int) := by omega
    have c1 : (0 : Int) ≤ (r : Int) := by omega
    have c2 : (r : Int) < (l.length : Int) := by omega
    have hm : m < 1000000000 := by
      have : (1000000000 : Nat) ^ (2 - (r + 1)) ≤ 1000000000 ^ 1 := Nat.pow_le_pow_right (by decide) (by omega)
      omega
    have e1 : w64 (w64 ((m : Int) * 1000000000) + ((l.getD r 0 : Nat) : Int)) = ((m * 1000000000 + l.getD r 0 : Nat) : Int) := by
      rw [w64_id (x := (m : Int) * 1000000000) (by omega) (by omega), w64_id (by omega) (by omega)]
      omega
    have e2 : w64 ((r : Int) - 1) = (r : Int) - 1 := by rw [w64_id] <;> omega
    rw [L_base_WideInt_5_eq]
    simp only [e0, cond_dec, c1, c2, List.length_map, if_true, Int.toNat_natCast, leaf_cD, e1, e2]
    rw [WideInt_loop hN s l hl h2 r n _ (by omega) (by
      rw [show 2 - r = (2 - (r + 1)) + 1 by omega, Nat.pow_succ]
      omega) (by omega), val_take_succ, Nat.add_mul, Nat.pow_succ, Nat.mul_assoc, Nat.mul_comm 1000000000 (1000000000 ^ r), Nat.mul_comm (l.getD r 0)]
    rw [show m * (1000000000 ^ r * 1000000000) + 1000000000 ^ r * l.getD r 0 + val (l.take r) = m * (1000000000 ^ r * 1000000000) + (val (l.take r) + 1000000000 ^ r * l.getD r 0) by omega]

theorem WideInt_spec (hN : 1000000 ≤ N) {z : Int} (hz : Sz 2 z) : ev (envF N) (k + 1) F_base_WideInt [vW z] = some (.tup [.int .i64 z, .bool true]) := by
  have hl := hz.len
  have e : w64 (((digs z.natAbs).length : Int) - 1) = ((digs z.natAbs).length : Int) - 1 := by rw [w64_id] <;> omega
  rw [E_base_WideInt, List.length_map, cond_dec, if_neg (by omega), e]
  have := WideInt_loop (N := N) (k := k) hN z.sign (digs z.natAbs) (dig_digs _) hl (digs z.natAbs).length N 0 (Nat.le_refl _) (Nat.pow_pos (by decide)) (by omega)
  rw [List.take_length, val_digs, Nat.zero_mul, Nat.zero_add, Int.sign_mul_natAbs] at this
  refine this.trans ?_
  have : z.natAbs < 1000000000 ^ 2 := hz
  have e2 : (1000000000 : Nat) ^ 2 = 1000000000000000000 := by decide
  rw [w64_id] <;> omega

end
end Go.PewTab

namespace Go.PewTab
set_option linter.unusedSimpArgs false
set_option linter.unusedVariables false
open Go.Pew Go.Num

section
variable {N k : Nat}

theorem base_Within (n lo hi : Int) : ev (envF N) (k + 1) F_base_Within [.int .i64 n, .int .i64 lo, .int .i64 hi] = some (.bool (decide (lo ≤ n ∧ n ≤ hi))) := by
  rw [E_base_Within, cond_dec]
  by_cases h : lo ≤ n <;> simp [h]
theorem lake_within (n lo hi : Int) : ev (envF N) (k + 1) F_lake_within [.int .i64 n, .int .i64 lo, .int .i64 hi] = some (.bool (decide (lo ≤ n ∧ n ≤ hi))) := by
  rw [E_lake_within, cond_dec]
  by_cases h : lo ≤ n <;> simp [h]
theorem lake_unless (b : Bool) (e : Int) : ev (envF N) (k + 1) F_lake_unless [.bool b, .int .i64 e] = some (.int .i64 (if b = true then 0 else e)) := by
  rw [E_lake_unless, cond_if]
  cases b <;> rfl

/-- The first number that is not 0. -/
def firstNz : List Int → Int
  | [] => 0
  | e :: l => if e = 0 then firstNz l else e

theorem lake_first_loop (l : List Int) : ∀ (d n i : Nat), i + d = l.length → l.length ≤ 100000 → d < n → L_lake_first_2 N k n (l.map cI) (l.length : Int) (i : Int) = some (.int .i64 (firstNz (l.drop i)))
  | 0, n + 1, i, h, hl, hn => by
    rw [L_lake_first_2_eq, cond_dec, if_neg (by omega), List.drop_eq_nil_of_le (by omega)]
    rfl
  | d + 1, n + 1, i, h, hl, hn => by
    have c1 : (i : Int) < (l.length : Int) := by omega
    have c2 : (0 : Int) ≤ (i : Int) := by omega
    have e1 : w64 ((i : Int) + 1) = ((i + 1 : Nat) : Int) := by rw [w64_id] <;> omega
    rw [L_lake_first_2_eq]
    simp only [cond_dec, cond_ndec, c1, c2, List.length_map, if_true, Int.toNat_natCast, leaf_cI, e1]
    rw [List.drop_eq_getElem_cons (by omega), firstNz, List.getD_eq_getElem?_getD, List.getElem?_eq_getElem (by omega), Option.getD_some]
    by_cases h0 : l[i] = 0
    · rw [if_pos h0, if_pos h0]
      exact lake_first_loop l d n (i + 1) (by omega) hl (by omega)
    · rw [if_neg h0, if_neg h0]

theorem lake_first (hN : 1000000 ≤ N) (l : List Int) (hl : l.length ≤ 100000) : ev (envF N) (k + 1) F_lake_first [.sl none [.int .i64] (l.map cI)] = some (.int .i64 (firstNz l)) := by
  rw [E_lake_first, List.length_map]
  exact lake_first_loop l l.length N 0 (by omega) hl (by omega)
theorem lake_first2 (hN : 1000000 ≤ N) (a b : Int) : ev (envF N) (k + 1) F_lake_first [.sl none [.int .i64] [[.int .i64 a], [.int .i64 b]]] = some (.int .i64 (if a = 0 then b else a)) := by
  have := lake_first (N := N) (k := k) hN [a, b] (by simp)
  refine this.trans ?_
  simp only [firstNz]
  by_cases h : a = 0 <;> by_cases h' : b = 0 <;> simp [h, h']
theorem lake_first3 (hN : 1000000 ≤ N) (a b c : Int) : ev (envF N) (k + 1) F_lake_first [.sl none [.int .i64] [[.int .i64 a], [.int .i64 b], [.int .i64 c]]] = some (.int .i64 (if a = 0 then if b = 0 then c else b else a)) := by
  have := lake_first (N := N) (k := k) hN [a, b, c] (by simp)
  refine this.trans ?_
  simp only [firstNz]
  by_cases h : a = 0 <;> by_cases h' : b = 0 <;> by_cases h'' : c = 0 <;> simp [h, h', h'']

end
end Go.PewTab

namespace Go.PewTab
set_option linter.unusedSimpArgs false
set_option linter.unusedVariables false
open Go.Pew Go.Num

section
variable {N k : Nat}

theorem lake_height (a b : Knot) (h : I64 (b.l - a.l)) : ev (envF N) (k + 1) F_lake_piece_height [.agg [.int .i64 a.l, .int .i64 a.v, .int .i64 b.l, .int .i64 b.v]] = some (.int .i64 (b.l - a.l)) := by
  rw [E_lake_piece_height, w64_id h.1 h.2]
theorem lake_volume (a b : Knot) (h : I64 (b.v - a.v)) : ev (envF N) (k + 1) F_lake_piece_volume [.agg [.int .i64 a.l, .int .i64 a.v, .int .i64 b.l, .int .i64 b.v]] = some (.int .i64 (b.v - a.v)) := by
  rw [E_lake_piece_volume, w64_id h.1 h.2]

/-- A knot within its range. -/
def Kr (a : Knot) : Prop := 0 ≤ a.l ∧ a.l ≤ 1000000 ∧ 0 ≤ a.v ∧ a.v ≤ 1000000000

theorem lake_narrower (a b c d : Knot) (ha : Kr a) (hb : Kr b) (hc : Kr c) (hd : Kr d) : ev (envF N) (k + 2) F_lake_piece_narrower [.agg [.int .i64 a.l, .int .i64 a.v, .int .i64 b.l, .int .i64 b.v], .agg [.int .i64 c.l, .int .i64 c.v, .int .i64 d.l, .int .i64 d.v]] =
    some (.bool (decide ((b.v - a.v) * (d.l - c.l) < (d.v - c.v) * (b.l - a.l)))) := by
  obtain ⟨a1, a2, a3, a4⟩ := ha
  obtain ⟨b1, b2, b3, b4⟩ := hb
  obtain ⟨c1, c2, c3, c4⟩ := hc
  obtain ⟨d1, d2, d3, d4⟩ := hd
  have mul : ∀ x y : Int, -1000000000 ≤ x → x ≤ 1000000000 → -1000000 ≤ y → y ≤ 1000000 → I64 (x * y) := by
    intro x y h1 h2 h3 h4
    have h5 : (x * y).natAbs ≤ 1000000000 * 1000000 := by
      rw [Int.natAbs_mul]
      exact Nat.mul_le_mul (by omega) (by omega)
    constructor <;> omega
  have m1 := mul (b.v - a.v) (d.l - c.l) (by omega) (by omega) (by omega) (by omega)
  have m2 := mul (d.v - c.v) (b.l - a.l) (by omega) (by omega) (by omega) (by omega)
  rw [E_lake_piece_narrower, lake_volume a b (by constructor <;> omega), lake_height c d (by constructor <;> omega), lake_volume c d (by constructor <;> omega), lake_height a b (by constructor <;> omega)]
  simp only [obind, asI_int, w64_id m1.1 m1.2, w64_id m2.1 m2.2]

theorem lake_CheckTable_5 (hN : 1000000 ≤ N) (t : Tab) (hl : t.length ≤ 10) : ∀ (d n i : Nat), i + d = t.length → (∀ j, j < i → knotErr t j = 0) → d < n →
    L_lake_CheckTable_5 N (k + 2) n (t.map cK) (t.length : Int) (i : Int) (t.map cK) = some (.tup [.int .i64 (knotsErr t d i).1, .int .i64 (knotsErr t d i).2])
  | 0, n + 1, i, h, hj, hn => by
    rw [L_lake_CheckTable_5_eq, cond_dec, if_neg (by omega)]
    rfl
  | d + 1, n + 1, i, h, hj, hn => by
    have c1 : (i : Int) < (t.length : Int) := by omega
    have c2 : (0 : Int) ≤ (i : Int) := by omega
    have e1 : w64 ((i : Int) + 1) = ((i + 1 : Nat) : Int) := by rw [w64_id] <;> omega
    have next (hz : knotErr t i = 0) : L_lake_CheckTable_5 N (k + 2) n (t.map cK) (t.length : Int) ((i + 1 : Nat) : Int) (t.map cK) = some (.tup [.int .i64 (knotsErr t (d + 1) i).1, .int .i64 (knotsErr t (d + 1) i).2]) := by
      rw [lake_CheckTable_5 hN t hl d n (i + 1) (by omega) (fun j h => by
        by_cases e : j = i
        · rw [e]; exact hz
        · exact hj j (by omega)) (by omega)]
      conv => rhs; rw [knotsErr, if_pos hz]
    have stop (e : Int) (he : knotErr t i = e) (h0 : e ≠ 0) : (some (PV.tup [.int .i64 (i : Int), .int .i64 e])) = some (.tup [.int .i64 (knotsErr t (d + 1) i).1, .int .i64 (knotsErr t (d + 1) i).2]) := by
      rw [knotsErr, if_neg (by rw [he]; exact h0), he]
    rw [L_lake_CheckTable_5_eq]
    simp only [cond_dec, cond_ndec, c1, c2, List.length_map, if_true, Int.toNat_natCast, leaf_cKl, leaf_cKv, lake_within, obind, asB_bool, e1]
    by_cases r1 : 0 ≤ (kn t i).l ∧ (kn t i).l ≤ 1000000
    · rw [if_pos r1]
      by_cases r2 : 0 ≤ (kn t i).v ∧ (kn t i).v ≤ 1000000000
      · rw [if_pos r2]
        by_cases i0 : i = 0
        · subst i0
          rw [if_pos (by omega)]
          exact next (by unfold knotErr; rw [if_neg (by omega), if_pos rfl])
        · have e2 : w64 ((i : Int) - 1) = ((i - 1 : Nat) : Int) := by rw [w64_id] <;> omega
          have c3 : (0 : Int) ≤ ((i - 1 : Nat) : Int) := by omega
          have c4 : ((i - 1 : Nat) : Int) < (t.length : Int) := by omega
          have p1 : Kr (kn t i) := ⟨r1.1, r1.2, r2.1, r2.2⟩
          have p2 : Kr (kn t (i - 1)) := (knotErr_zero (hj (i - 1) (by omega))).1
          have h1 : I64 ((kn t i).l - (kn t (i - 1)).l) := by unfold Kr at p1 p2; constructor <;> omega
          have h2 : I64 ((kn t i).v - (kn t (i - 1)).v) := by unfold Kr at p1 p2; constructor <;> omega
          rw [if_neg (by omega)]
          simp only [e2, c3, c4, if_true, Int.toNat_natCast, leaf_cKl, leaf_cKv, lake_height (kn t (i - 1)) (kn t i) h1, lake_volume (kn t (i - 1)) (kn t i) h2, obind, asI_int]
          by_cases o1 : (kn t i).l - (kn t (i - 1)).l ≤ 0
          · rw [if_pos o1]
            exact stop 9 (by unfold knotErr; rw [if_neg (by omega), if_neg i0, if_pos (by omega)]) (by decide)
          · rw [if_neg o1]
            by_cases o2 : (kn t i).v - (kn t (i - 1)).v ≤ 0
            · rw [if_pos o2]
              exact stop 9 (by unfold knotErr; rw [if_neg (by omega), if_neg i0, if_pos (by omega)]) (by decide)
            · rw [if_neg o2]
              by_cases i1 : 1 < i
              · have e3 : w64 ((i : Int) - 2) = ((i - 2 : Nat) : Int) := by rw [w64_id] <;> omega
                have c5 : (0 : Int) ≤ ((i - 2 : Nat) : Int) := by omega
                have c6 : ((i - 2 : Nat) : Int) < (t.length : Int) := by omega
                have p3 : Kr (kn t (i - 2)) := (knotErr_zero (hj (i - 2) (by omega))).1
                rw [if_pos (by omega)]
                simp only [e3, c5, c6, if_true, Int.toNat_natCast, leaf_cKl, leaf_cKv, lake_narrower (k := k) (kn t (i - 1)) (kn t i) (kn t (i - 2)) (kn t (i - 1)) p2 p1 p3 p2, obind, asB_bool, cond_dec]
                by_cases w : ((kn t i).v - (kn t (i - 1)).v) * ((kn t (i - 1)).l - (kn t (i - 2)).l) < ((kn t (i - 1)).v - (kn t (i - 2)).v) * ((kn t i).l - (kn t (i - 1)).l)
                · rw [if_pos w]
                  exact stop 22 (by unfold knotErr; rw [if_neg (by omega), if_neg i0, if_neg (by omega), if_pos ⟨i1, w⟩]) (by decide)
                · rw [if_neg w]
                  exact next (by unfold knotErr; rw [if_neg (by omega), if_neg i0, if_neg (by omega), if_neg (fun h => w h.2)])
              · rw [if_neg (by omega)]
                exact next (by unfold knotErr; rw [if_neg (by omega), if_neg i0, if_neg (by omega), if_neg (fun h => i1 h.1)])
      · rw [if_neg r2]
        exact stop 2 (by unfold knotErr; rw [if_pos (by omega)]) (by decide)
    · rw [if_neg r1]
      exact stop 2 (by unfold knotErr; rw [if_pos (by omega)]) (by decide)

theorem lake_CheckTable (hN : 1000000 ≤ N) (t : Tab) : ev (envF N) (k + 3) F_lake_CheckTable [vTab t] = some (.tup [.int .i64 (tabErr t).1, .int .i64 (tabErr t).2]) := by
  rw [E_lake_CheckTable, lake_unless, lake_unless]
  simp only [obind, asI_int, List.length_map, lake_first2 hN, decide_eq_true_eq, cond_ndec]
  unfold tabErr
  by_cases h2 : t.length < 2
  · rw [if_neg (show ¬ ((1 : Int) < (t.length : Int)) by omega), if_pos h2]
    simp only [show ¬ ((10 : Int) = 0) by decide, if_false]
  · rw [if_pos (show ((1 : Int) < (t.length : Int)) by omega), if_neg h2, if_pos rfl]
    by_cases h10 : 10 < t.length
    · rw [if_neg (show ¬ ((t.length : Int) ≤ 10) by omega), if_pos h10]
      rfl
    · rw [if_pos (show ((t.length : Int) ≤ 10) by omega), if_neg h10, if_pos rfl]
      exact lake_CheckTable_5 hN t (by omega) t.length N 0 (by omega) (fun j h => by omega) (by omega)

/-- The error of a table alone. -/
def tErr (t : Tab) : Int := (tabErr t).2

theorem lake_tableErr (hN : 1000000 ≤ N) (t : Tab) : ev (envF N) (k + 4) F_lake_tableErr [vTab t] = some (.int .i64 (tErr t)) := by
  rw [E_lake_tableErr, lake_CheckTable hN]
  simp only [obind, asT_tup, nth_one, asI_int, tErr]

theorem lake_bottom {t : Tab} (h : 1 ≤ t.length) : ev (envF N) (k + 1) F_lake_table_bottom [vTab t] = some (.agg [.int .i64 (kn t 0).l, .int .i64 (kn t 0).v]) := by
  rw [E_lake_table_bottom, cond_dec, List.length_map, if_pos (by omega), leaf_cKl, leaf_cKv]
  rfl
theorem lake_top {t : Tab} (h : 1 ≤ t.length) (hl : t.length ≤ 100000) : ev (envF N) (k + 1) F_lake_table_top [vTab t] = some (.agg [.int .i64 (kn t (t.length - 1)).l, .int .i64 (kn t (t.length - 1)).v]) := by
  have e : w64 ((t.length : Int) - 1) = ((t.length - 1 : Nat) : Int) := by rw [w64_id] <;> omega
  rw [E_lake_table_top, cond_dec, cond_dec, List.length_map, e, if_pos (by omega), if_pos (by omega), Int.toNat_natCast, leaf_cKl, leaf_cKv]

instance (t : Tab) (v : Int) : Decidable (IsV t v) := by unfold IsV; infer_instance
instance (t : Tab) (v : Int) : Decidable (IsL t v) := by unfold IsL; infer_instance

theorem lake_holds {t : Tab} (h : Ok t) (v : Int) : ev (envF N) (k + 2) F_lake_table_holds [vTab t, .int .i64 v] = some (.bool (decide (IsV t v))) := by
  have h2 := h.two
  have h10 := h.ten
  rw [E_lake_table_holds, lake_bottom (by omega), lake_top (by omega) (by omega)]
  simp only [obind, asA_agg, nth_one, asI_int, lake_within, asB_bool]
  rfl

theorem lake_openVolume (hN : 1000000 ≤ N) (t : Tab) (v : Int) : ev (envF N) (k + 5) F_lake_openVolume [vTab t, .int .i64 v] =
    some (.tup [if tErr t = 0 then vTab t else vTab [], .int .i64 (if tErr t = 0 then if IsV t v then 0 else 2 else tErr t)]) := by
  rw [E_lake_openVolume, lake_tableErr hN]
  simp only [obind, asI_int, cond_ndec]
  by_cases h : tErr t = 0
  · rw [if_pos h, lake_holds (k := k + 2) (ok_of h)]
    simp only [obind, asB_bool, lake_unless, asI_int, decide_eq_true_eq, h, if_true]
  · rw [if_neg h, if_neg h, if_neg h]
    rfl

theorem byV_index (t : Tab) (v : Int) (h : 1 ≤ t.length) (hl : t.length ≤ 100000) : ∀ (d n i : Nat), i + d = t.length - 1 → d < n → i ≤ ((t.drop 1).findIdx fun k => decide (v ≤ k.v)) →
    L_slices_IndexFunc_LakeKnot_2 N (k + 1) n ((t.drop 1).map cK) v ((t.drop 1).length : Int) (i : Int) = some (.int .i64 (if (t.drop 1).findIdx (fun k => decide (v ≤ k.v)) = t.length - 1 then -1 else (((t.drop 1).findIdx fun k => decide (v ≤ k.v) : Nat) : Int)))
  | 0, n + 1, i, h1, h2, h3 => by
    have hle := List.findIdx_le_length (p := fun k : Knot => decide (v ≤ k.v)) (xs := t.drop 1)
    rw [List.length_drop] at hle
    rw [L_slices_IndexFunc_LakeKnot_2_eq, cond_dec, List.length_drop, if_neg (by omega), if_pos (by omega)]
  | d + 1, n + 1, i, h1, h2, h3 => by
    have hle := List.findIdx_le_length (p := fun k : Knot => decide (v ≤ k.v)) (xs := t.drop 1)
    rw [List.length_drop] at hle
    have hi : i < (t.drop 1).length := by rw [List.length_drop]; omega
    have c1 : (i : Int) < ((t.drop 1).length : Int) := by omega
    have c2 : (0 : Int) ≤ (i : Int) := by omega
    have e1 : w64 ((i : Int) + 1) = ((i + 1 : Nat) : Int) := by rw [w64_id] <;> omega
    have hk : kn (t.drop 1) i = (t.drop 1)[i] := by unfold kn; rw [List.getD_eq_getElem?_getD, List.getElem?_eq_getElem hi, Option.getD_some]
    rw [L_slices_IndexFunc_LakeKnot_2_eq]
    simp only [cond_dec, c1, c2, List.length_map, if_true, Int.toNat_natCast, leaf_cKl, leaf_cKv, E_lake_table_byVolume_c1, obind, asB_bool, e1]
    by_cases hv : v ≤ (kn (t.drop 1) i).v
    · rw [if_pos hv]
      have : (t.drop 1).findIdx (fun k => decide (v ≤ k.v)) = i := by
        rcases Nat.lt_or_ge i ((t.drop 1).findIdx fun k => decide (v ≤ k.v)) with h4 | h4
        · have := List.not_of_lt_findIdx h4
          rw [← hk, decide_eq_true hv] at this
          cases this
        · omega
      rw [this, if_neg (by rw [List.length_drop] at hi; omega)]
    · rw [if_neg hv]
      refine byV_index t v h hl d n (i + 1) (by omega) (by omega) ?_
      rcases Nat.lt_or_ge i ((t.drop 1).findIdx fun k => decide (v ≤ k.v)) with h4 | h4
      · omega
      · have h5 : (t.drop 1).findIdx (fun k => decide (v ≤ k.v)) = i := by omega
        have := List.findIdx_getElem (xs := t.drop 1) (p := fun k => decide (v ≤ k.v)) (w := by omega)
        rw [hk] at hv
        simp only [h5, decide_eq_true_eq] at this
        exact absurd this hv

theorem byL_index (t : Tab) (v : Int) (h : 1 ≤ t.length) (hl : t.length ≤ 100000) : ∀ (d n i : Nat), i + d = t.length - 1 → d < n → i ≤ ((t.drop 1).findIdx fun k => decide (v ≤ k.l)) →
    L_slices_IndexFunc_LakeKnot_v1_2 N (k + 1) n ((t.drop 1).map cK) v ((t.drop 1).length : Int) (i : Int) = some (.int .i64 (if (t.drop 1).findIdx (fun k => decide (v ≤ k.l)) = t.length - 1 then -1 else (((t.drop 1).findIdx fun k => decide (v ≤ k.l) : Nat) : Int)))
  | 0, n + 1, i, h1, h2, h3 => by
    have hle := List.findIdx_le_length (p := fun k : Knot => decide (v ≤ k.l)) (xs := t.drop 1)
    rw [List.length_drop] at hle
    rw [L_slices_IndexFunc_LakeKnot_v1_2_eq, cond_dec, List.length_drop, if_neg (by omega), if_pos (by omega)]
  | d + 1, n + 1, i, h1, h2, h3 => by
    have hle := List.findIdx_le_length (p := fun k : Knot => decide (v ≤ k.l)) (xs := t.drop 1)
    rw [List.length_drop] at hle
    have hi : i < (t.drop 1).length := by rw [List.length_drop]; omega
    have c1 : (i : Int) < ((t.drop 1).length : Int) := by omega
    have c2 : (0 : Int) ≤ (i : Int) := by omega
    have e1 : w64 ((i : Int) + 1) = ((i + 1 : Nat) : Int) := by rw [w64_id] <;> omega
    have hk : kn (t.drop 1) i = (t.drop 1)[i] := by unfold kn; rw [List.getD_eq_getElem?_getD, List.getElem?_eq_getElem hi, Option.getD_some]
    rw [L_slices_IndexFunc_LakeKnot_v1_2_eq]
    simp only [cond_dec, c1, c2, List.length_map, if_true, Int.toNat_natCast, leaf_cKl, leaf_cKv, E_lake_table_volumeAt_c1, obind, asB_bool, e1]
    by_cases hv : v ≤ (kn (t.drop 1) i).l
    · rw [if_pos hv]
      have : (t.drop 1).findIdx (fun k => decide (v ≤ k.l)) = i := by
        rcases Nat.lt_or_ge i ((t.drop 1).findIdx fun k => decide (v ≤ k.l)) with h4 | h4
        · have := List.not_of_lt_findIdx h4
          rw [← hk, decide_eq_true hv] at this
          cases this
        · omega
      rw [this, if_neg (by rw [List.length_drop] at hi; omega)]
    · rw [if_neg hv]
      refine byL_index t v h hl d n (i + 1) (by omega) (by omega) ?_
      rcases Nat.lt_or_ge i ((t.drop 1).findIdx fun k => decide (v ≤ k.l)) with h4 | h4
      · omega
      · have h5 : (t.drop 1).findIdx (fun k => decide (v ≤ k.l)) = i := by omega
        have := List.findIdx_getElem (xs := t.drop 1) (p := fun k => decide (v ≤ k.l)) (w := by omega)
        rw [hk] at hv
        simp only [h5, decide_eq_true_eq] at this
        exact absurd this hv

/-- A piece's value. -/
abbrev vPiece (a b : Knot) : PV := .agg [.int .i64 a.l, .int .i64 a.v, .int .i64 b.l, .int .i64 b.v]

theorem drop_take_map (t : Tab) : List.drop (Int.toNat 1) (List.take (List.length (t.map cK)) (t.map cK)) = (t.drop 1).map cK := by
  rw [List.take_length, List.map_drop]
  rfl

theorem lake_pieceTo_v (hN : 1000000 ≤ N) {t : Tab} (h : Ok t) {v : Int} (hv : IsV t v) : ev (envF N) (k + 3) F_lake_table_pieceTo [vTab t, .fn F_lake_table_byVolume_c1 [.rp [.int .i64 v] 0]] = some (vPiece (kn t (byV t v - 1)) (kn t (byV t v))) := by
  obtain ⟨h1, h2, h3, h4⟩ := h.pieceV hv
  have hten := h.ten
  have e0 : byV t v = 1 + (t.drop 1).findIdx (fun k => decide (v ≤ k.v)) := rfl
  obtain ⟨i, hi⟩ : ∃ i, (t.drop 1).findIdx (fun k => decide (v ≤ k.v)) = i := ⟨_, rfl⟩
  rw [hi] at e0
  have hix := byV_index (N := N) (k := k) t v (by omega) (by omega) (t.length - 1) N 0 (by omega) (by omega) (by omega)
  rw [hi, if_neg (by omega)] at hix
  have e1 : w64 (1 + (i : Int)) = ((byV t v : Nat) : Int) := by rw [w64_id] <;> omega
  have e2 : w64 (((byV t v : Nat) : Int) - 1) = ((byV t v - 1 : Nat) : Int) := by rw [w64_id] <;> omega
  have c0 : (1 : Int) ≤ (t.length : Int) := by omega
  have c1 : (0 : Int) ≤ ((byV t v : Nat) : Int) := by omega
  have c2 : ((byV t v : Nat) : Int) < (t.length : Int) := by omega
  have c3 : (0 : Int) ≤ ((byV t v - 1 : Nat) : Int) := by omega
  have c4 : ((byV t v - 1 : Nat) : Int) < (t.length : Int) := by omega
  rw [E_lake_table_pieceTo, drop_take_map, E_slices_IndexFunc_LakeKnot, List.length_map, List.length_map]
  simp only [cond_dec, c0, if_true]
  rw [show ((0 : Int)) = ((0 : Nat) : Int) from rfl, hix]
  simp only [obind, asI_int, e1, e2]
  simp only [show ((0 : Nat) : Int) = 0 from rfl, c1, c2, c3, c4, if_true, Int.toNat_natCast, leaf_cKl, leaf_cKv]

theorem lake_pieceTo_l (hN : 1000000 ≤ N) {t : Tab} (h : Ok t) {v : Int} (hv : IsL t v) : ev (envF N) (k + 3) F_lake_table_pieceTo [vTab t, .fn F_lake_table_volumeAt_c1 [.rp [.int .i64 v] 0]] = some (vPiece (kn t (byL t v - 1)) (kn t (byL t v))) := by
  obtain ⟨h1, h2, h3, h4⟩ := h.pieceL hv
  have hten := h.ten
  have e0 : byL t v = 1 + (t.drop 1).findIdx (fun k => decide (v ≤ k.l)) := rfl
  obtain ⟨i, hi⟩ : ∃ i, (t.drop 1).findIdx (fun k => decide (v ≤ k.l)) = i := ⟨_, rfl⟩
  rw [hi] at e0
  have hix := byL_index (N := N) (k := k) t v (by omega) (by omega) (t.length - 1) N 0 (by omega) (by omega) (by omega)
  rw [hi, if_neg (by omega)] at hix
  have e1 : w64 (1 + (i : Int)) = ((byL t v : Nat) : Int) := by rw [w64_id] <;> omega
  have e2 : w64 (((byL t v : Nat) : Int) - 1) = ((byL t v - 1 : Nat) : Int) := by rw [w64_id] <;> omega
  have c0 : (1 : Int) ≤ (t.length : Int) := by omega
  have c1 : (0 : Int) ≤ ((byL t v : Nat) : Int) := by omega
  have c2 : ((byL t v : Nat) : Int) < (t.length : Int) := by omega
  have c3 : (0 : Int) ≤ ((byL t v - 1 : Nat) : Int) := by omega
  have c4 : ((byL t v - 1 : Nat) : Int) < (t.length : Int) := by omega
  rw [E_lake_table_pieceTo_v1, drop_take_map, E_slices_IndexFunc_LakeKnot_v1, List.length_map, List.length_map]
  simp only [cond_dec, c0, if_true]
  rw [show ((0 : Int)) = ((0 : Nat) : Int) from rfl, hix]
  simp only [obind, asI_int, e1, e2]
  simp only [show ((0 : Nat) : Int) = 0 from rfl, c1, c2, c3, c4, if_true, Int.toNat_natCast, leaf_cKl, leaf_cKv]

theorem lake_byVolume (hN : 1000000 ≤ N) {t : Tab} (h : Ok t) {v : Int} (hv : IsV t v) : ev (envF N) (k + 4) F_lake_table_byVolume [vTab t, .int .i64 v] = some (vPiece (kn t (byV t v - 1)) (kn t (byV t v))) := by
  rw [E_lake_table_byVolume, lake_pieceTo_v hN h hv]
  simp only [obind, asA_agg, nth_zero, nth_one, nth_two, nth_three, asI_int]

end
end Go.PewTab

namespace Go.PewTab
set_option linter.unusedSimpArgs false
set_option linter.unusedVariables false
open Go.Pew Go.Num

theorem floor_math {n b : Int} (hb : 0 < b) : n / b = if n.tmod b < 0 then n.tdiv b - 1 else n.tdiv b := by
  have h := Int.tmod_add_mul_tdiv n b
  have h1 := Int.tmod_lt_of_pos n hb
  have h2 : -b < n.tmod b := by
    have := Int.tmod_lt_of_pos (-n) hb
    rw [Int.neg_tmod] at this
    omega
  have key : ∀ q, q * b ≤ n → n < (q + 1) * b → n / b = q := by
    intro q a1 a2
    have b1 := (Int.le_ediv_iff_mul_le hb).2 a1
    have b2 := (Int.ediv_lt_iff_lt_mul hb).2 a2
    omega
  rw [Int.mul_comm] at h
  split
  · apply key
    · rw [Int.sub_mul]; omega
    · rw [Int.sub_add_cancel]; omega
  · apply key
    · omega
    · rw [Int.add_mul]; omega

theorem tdiv_abs_le (n b : Int) : (n.tdiv b).natAbs ≤ n.natAbs := by
  rw [Int.natAbs_tdiv]
  exact Nat.div_le_self _ _

section
variable {N k : Nat}

theorem lake_floor {n b : Int} (hb : 0 < b) (hn : -4611686018427387904 ≤ n ∧ n ≤ 4611686018427387904) : ev (envF N) (k + 1) F_lake_floor [.int .i64 n, .int .i64 b] = some (.int .i64 (n / b)) := by
  have h := tdiv_abs_le n b
  have c : ¬ (b = 0) := by omega
  have e1 : w64 (n.tdiv b) = n.tdiv b := by rw [w64_id] <;> omega
  have e2 : w64 (n.tdiv b - 1) = n.tdiv b - 1 := by rw [w64_id] <;> omega
  rw [E_lake_floor]
  simp only [cond_dec, cond_ndec, c, if_false, e1, e2]
  rw [floor_math hb]
  split <;> rfl

theorem lake_ceil {n b : Int} (hb : 0 < b) (hn : -4611686018427387904 ≤ n ∧ n ≤ 4611686018427387904) : ev (envF N) (k + 2) F_lake_ceil [.int .i64 n, .int .i64 b] = some (.int .i64 (cdiv n b)) := by
  have e0 : w64 (0 - n) = -n := by rw [w64_id] <;> omega
  have h : (-n / b).natAbs ≤ n.natAbs + 1 := by
    have := tdiv_abs_le (-n) b
    rw [Int.natAbs_neg] at this
    rw [floor_math hb]
    split <;> omega
  rw [E_lake_ceil, e0, lake_floor hb (by omega)]
  simp only [obind, asI_int]
  rw [w64_id (by omega) (by omega)]
  unfold cdiv
  simp

theorem Ok.kr {t : Tab} (h : Ok t) {i : Nat} (hi : i < t.length) : Kr (kn t i) := h.range i hi

/-- The sizes of pieces. -/
theorem Ok.hv_le {t : Tab} (h : Ok t) {i : Nat} (h1 : 1 ≤ i) (hi : i < t.length) : 0 < hgt t i ∧ hgt t i ≤ 1000000 ∧ 0 < vol t i ∧ vol t i ≤ 1000000000 := by
  have p := h.pos h1 hi
  have a := Ok.kr h hi
  have b := Ok.kr h (i := i - 1) (by omega)
  unfold Kr at a b
  unfold hgt vol at *
  omega

theorem mul_le_big {x y : Int} (hx : 0 ≤ x) (hx2 : x ≤ 1000000) (hy : 0 ≤ y) (hy2 : y ≤ 1000000000) : 0 ≤ x * y ∧ x * y ≤ 1000000000000000 := by
  refine ⟨Int.mul_nonneg hx hy, ?_⟩
  have : x * y ≤ 1000000 * 1000000000 := Int.mul_le_mul hx2 hy2 hy (by decide)
  omega

theorem lake_volumeAt (hN : 1000000 ≤ N) {t : Tab} (h : Ok t) {l : Int} (hl : IsL t l) : ev (envF N) (k + 4) F_lake_table_volumeAt [vTab t, .int .i64 l] = some (.agg [.int .i64 (vlLo t l), .int .i64 (vlHi t l)]) := by
  obtain ⟨i1, i2, i3, i4⟩ := h.pieceL hl
  obtain ⟨p1, p2, p3, p4⟩ := Ok.hv_le h i1 i2
  obtain ⟨b1, b2⟩ := h.vlN_bounds hl
  obtain ⟨v1, v2, v3⟩ := h.vl_between hl
  have m := mul_le_big (x := hgt t (byL t l)) (y := vol t (byL t l)) (by omega) (by omega) (by omega) (by omega)
  have a := Ok.kr h i2
  have b := Ok.kr h (i := byL t l - 1) (by omega)
  unfold Kr at a b
  have g1 := lake_volume (N := N) (k := k + 2) (kn t (byL t l - 1)) (kn t (byL t l)) (by constructor <;> omega)
  have g2 := lake_height (N := N) (k := k + 2) (kn t (byL t l - 1)) (kn t (byL t l)) (by constructor <;> omega)
  have hN' : (l - (kn t (byL t l - 1)).l) * ((kn t (byL t l)).v - (kn t (byL t l - 1)).v) = vlN t l := by unfold vlN vol; rfl
  have hLo : (kn t (byL t l - 1)).v + vlN t l / hgt t (byL t l) = vlLo t l := by unfold vlLo; rfl
  have hHi : (kn t (byL t l - 1)).v + cdiv (vlN t l) (hgt t (byL t l)) = vlHi t l := by unfold vlHi; rfl
  have e1 : w64 (w64 (l - (kn t (byL t l - 1)).l) * ((kn t (byL t l)).v - (kn t (byL t l - 1)).v)) = vlN t l := by
    rw [w64_id (x := l - (kn t (byL t l - 1)).l) (by omega) (by omega), hN', w64_id (by omega) (by omega)]
  have e2 : w64 ((kn t (byL t l - 1)).v + vlN t l / hgt t (byL t l)) = vlLo t l := by
    rw [hLo, w64_id (by omega) (by omega)]
  have e3 : w64 ((kn t (byL t l - 1)).v + cdiv (vlN t l) (hgt t (byL t l))) = vlHi t l := by
    rw [hHi, w64_id (by omega) (by omega)]
  have g3 := lake_floor (N := N) (k := k + 2) (n := vlN t l) p1 (by omega)
  have g4 := lake_ceil (N := N) (k := k + 1) (n := vlN t l) p1 (by omega)
  unfold hgt at g3 g4 e2 e3
  rw [E_lake_table_volumeAt, lake_pieceTo_l hN h hl]
  simp only [obind, asA_agg, nth_zero, nth_one, nth_two, nth_three, asI_int, g1, g2, e1, g3, g4, e2, e3]

theorem lake_levelAt (hN : 1000000 ≤ N) {t : Tab} (h : Ok t) {v : Int} (hv : IsV t v) : ev (envF N) (k + 5) F_lake_table_levelAt [vTab t, .int .i64 v] = some (.agg [.int .i64 (lvLo t v), .int .i64 (lvN t v % vol t (byV t v)), .int .i64 (vol t (byV t v))]) := by
  obtain ⟨i1, i2, i3, i4⟩ := h.pieceV hv
  obtain ⟨p1, p2, p3, p4⟩ := Ok.hv_le h i1 i2
  obtain ⟨b1, b2⟩ := h.lvN_bounds hv
  obtain ⟨v1, v2, v3⟩ := h.lv_between hv
  have m := mul_le_big (x := hgt t (byV t v)) (y := vol t (byV t v)) (by omega) (by omega) (by omega) (by omega)
  have a := Ok.kr h i2
  have b := Ok.kr h (i := byV t v - 1) (by omega)
  unfold Kr at a b
  have g1 := lake_volume (N := N) (k := k + 3) (kn t (byV t v - 1)) (kn t (byV t v)) (by constructor <;> omega)
  have g2 := lake_height (N := N) (k := k + 3) (kn t (byV t v - 1)) (kn t (byV t v)) (by constructor <;> omega)
  have hN' : (v - (kn t (byV t v - 1)).v) * ((kn t (byV t v)).l - (kn t (byV t v - 1)).l) = lvN t v := by unfold lvN hgt; rfl
  have hLo : (kn t (byV t v - 1)).l + lvN t v / vol t (byV t v) = lvLo t v := by unfold lvLo; rfl
  have hV : (kn t (byV t v)).v - (kn t (byV t v - 1)).v = vol t (byV t v) := by unfold vol; rfl
  have e1 : w64 (w64 (v - (kn t (byV t v - 1)).v) * ((kn t (byV t v)).l - (kn t (byV t v - 1)).l)) = lvN t v := by
    rw [w64_id (x := v - (kn t (byV t v - 1)).v) (by omega) (by omega), hN', w64_id (by omega) (by omega)]
  have d1 : (lvN t v).tdiv (vol t (byV t v)) = lvN t v / vol t (byV t v) := Int.tdiv_eq_ediv_of_nonneg b1
  have d2 : (lvN t v).tmod (vol t (byV t v)) = lvN t v % vol t (byV t v) := Int.tmod_eq_emod_of_nonneg b1
  have q1 : 0 ≤ lvN t v / vol t (byV t v) := Int.ediv_nonneg b1 (by omega)
  have q2 : lvN t v / vol t (byV t v) ≤ lvN t v := Int.ediv_le_self _ b1
  have e2 : w64 (lvN t v / vol t (byV t v)) = lvN t v / vol t (byV t v) := by rw [w64_id] <;> omega
  have e3 : w64 ((kn t (byV t v - 1)).l + lvN t v / vol t (byV t v)) = lvLo t v := by
    rw [hLo, w64_id (by omega) (by omega)]
  have c : ¬ (vol t (byV t v) = 0) := by omega
  rw [E_lake_table_levelAt, lake_byVolume hN h hv]
  simp only [obind, asA_agg, nth_zero, nth_one, nth_two, nth_three, asI_int, g1, g2, cond_ndec, e1, hV, c, if_false, d1, d2, e2, e3]

theorem lake_VolumeAt (hN : 1000000 ≤ N) (t : Tab) (l : Int) : ev (envF N) (k + 5) F_lake_VolumeAt [vTab t, .int .i64 l] =
    some (.tup [.agg [.int .i64 (if tErr t = 0 ∧ IsL t l then vlLo t l else 0), .int .i64 (if tErr t = 0 ∧ IsL t l then vlHi t l else 0)], .int .i64 (if tErr t = 0 then if IsL t l then 0 else 2 else tErr t)]) := by
  rw [E_lake_VolumeAt, lake_tableErr hN]
  simp only [obind, asI_int, cond_ndec]
  by_cases h : tErr t = 0
  · have hok := ok_of h
    have h2 := hok.two
    have h10 := hok.ten
    rw [if_pos h, lake_bottom (by omega), lake_top (by omega) (by omega)]
    simp only [obind, asA_agg, nth_zero, asI_int, lake_within, asB_bool, cond_ndec, h, true_and, if_true]
    by_cases hl : IsL t l
    · have hl' := hl
      unfold IsL at hl'
      rw [if_pos hl', if_pos hl, if_pos hl, if_pos hl, lake_volumeAt hN hok hl]
      simp only [obind, asA_agg, nth_zero, nth_one, asI_int]
    · have hl' := hl
      unfold IsL at hl'
      rw [if_neg hl', if_neg hl, if_neg hl, if_neg hl]
  · simp only [h, if_false, false_and]

theorem lake_LevelAt (hN : 1000000 ≤ N) (t : Tab) (v : Int) : ev (envF N) (k + 6) F_lake_LevelAt [vTab t, .int .i64 v] =
    some (.tup [.agg [.int .i64 (if tErr t = 0 ∧ IsV t v then lvLo t v else 0), .int .i64 (if tErr t = 0 ∧ IsV t v then lvHi t v else 0)], .int .i64 (if tErr t = 0 then if IsV t v then 0 else 2 else tErr t)]) := by
  rw [E_lake_LevelAt, lake_openVolume hN]
  simp only [obind, asT_tup, nth_zero, nth_one, asI_int, cond_ndec]
  by_cases h : tErr t = 0
  · have hok := ok_of h
    simp only [h, true_and, if_true]
    by_cases hv : IsV t v
    · obtain ⟨i1, i2, i3, i4⟩ := hok.pieceV hv
      obtain ⟨p1, p2, p3, p4⟩ := Ok.hv_le hok i1 i2
      obtain ⟨v1, v2, v3⟩ := hok.lv_between hv
      have a := Ok.kr hok i2
      have b := Ok.kr hok (i := byV t v - 1) (by omega)
      unfold Kr at a b
      simp only [hv, if_true, asA_agg, nth_zero, asL_sl, lake_levelAt (k := k) hN hok hv, obind, nth_one, asI_int, imin_eq]
      have e : w64 (lvLo t v + min (lvN t v % vol t (byV t v)) 1) = lvHi t v := by
        have := cdiv_eq (n := lvN t v) p3
        have : lvLo t v + min (lvN t v % vol t (byV t v)) 1 = lvHi t v := by unfold lvLo lvHi; omega
        rw [this, w64_id] <;> omega
      rw [e]
    · simp only [hv, if_false, show ¬ ((2 : Int) = 0) by decide]
  · simp only [h, false_and, if_false]

theorem divisor_loop : ∀ (e n a b : Nat), b < 2 ^ e → 2 * e + 1 ≤ n → L_lake_divisor_1 N k n (a : Int) (b : Int) = some (.int .i64 (Nat.gcd a b : Int)) := by
  have done : ∀ (n a : Nat), 1 ≤ n → L_lake_divisor_1 N k n (a : Int) ((0 : Nat) : Int) = some (.int .i64 (Nat.gcd a 0 : Int)) := by
    intro n a hn
    obtain ⟨n, rfl⟩ : ∃ m, n = m + 1 := ⟨n - 1, by omega⟩
    rw [L_lake_divisor_1_eq, cond_ndec, if_pos (show ((0 : Nat) : Int) = 0 from rfl), Nat.gcd_zero_right]
  have step : ∀ (n a b : Nat), b ≠ 0 → L_lake_divisor_1 N k (n + 1) (a : Int) (b : Int) = L_lake_divisor_1 N k n (b : Int) ((a % b : Nat) : Int) := by
    intro n a b h0
    have c : ¬ ((b : Int) = 0) := by omega
    rw [L_lake_divisor_1_eq, cond_ndec, if_neg c, cond_ndec, if_neg c]
    rfl
  intro e
  induction e with
  | zero =>
    intro n a b h1 h2
    have : b = 0 := by simpa using h1
    subst this
    exact done n a (by omega)
  | succ e ih =>
    intro n a b h1 h2
    by_cases h0 : b = 0
    · subst h0; exact done n a (by omega)
    · obtain ⟨n, rfl⟩ : ∃ m, n = m + 1 := ⟨n - 1, by omega⟩
      have hr : a % b < b := Nat.mod_lt _ (Nat.pos_of_ne_zero h0)
      have g : Nat.gcd a b = Nat.gcd b (a % b) := by rw [Nat.gcd_comm, Nat.gcd_rec, Nat.gcd_comm]
      rw [step n a b h0, g]
      by_cases h3 : a % b = 0
      · rw [h3]; exact done n b (by omega)
      · obtain ⟨n, rfl⟩ : ∃ m, n = m + 1 := ⟨n - 1, by omega⟩
        have hp : (2 : Nat) ^ (e + 1) = 2 * 2 ^ e := by rw [Nat.pow_succ]; omega
        have h4 : b % (a % b) < a % b := Nat.mod_lt _ (Nat.pos_of_ne_zero h3)
        have h5 := Nat.div_add_mod b (a % b)
        have h6 : 1 ≤ b / (a % b) := (Nat.one_le_div_iff (Nat.pos_of_ne_zero h3)).2 (Nat.le_of_lt hr)
        have h7 : a % b * 1 ≤ a % b * (b / (a % b)) := Nat.mul_le_mul_left _ h6
        have g2 : Nat.gcd b (a % b) = Nat.gcd (a % b) (b % (a % b)) := by rw [Nat.gcd_comm, Nat.gcd_rec, Nat.gcd_comm]
        rw [step n b (a % b) h3, g2]
        exact ih n (a % b) (b % (a % b)) (by omega) (by omega)

theorem lake_divisor (hN : 1000000 ≤ N) {a b : Int} (ha : 0 ≤ a) (hb : 0 ≤ b) (hb2 : b ≤ 9223372036854775807) : ev (envF N) (k + 1) F_lake_divisor [.int .i64 a, .int .i64 b] = some (.int .i64 (Int.gcd a b : Int)) := by
  have := divisor_loop (N := N) (k := k) 64 N a.natAbs b.natAbs (by have : (2 : Nat) ^ 64 = 18446744073709551616 := by decide
                                                                    omega) (by omega)
  rw [E_lake_divisor]
  rw [show ((a.natAbs : Nat) : Int) = a by omega, show ((b.natAbs : Nat) : Int) = b by omega] at this
  exact this

/-- The area at a volume: a numerator and a denominator. -/
def arN (t : Tab) (v : Int) : Int := vol t (byV t v) / (Int.gcd (vol t (byV t v)) (hgt t (byV t v)) : Int)
def arD (t : Tab) (v : Int) : Int := hgt t (byV t v) / (Int.gcd (vol t (byV t v)) (hgt t (byV t v)) : Int)

theorem lake_AreaAt (hN : 1000000 ≤ N) (t : Tab) (v : Int) : ev (envF N) (k + 6) F_lake_AreaAt [vTab t, .int .i64 v] =
    some (.tup [.agg [.int .i64 (if tErr t = 0 ∧ IsV t v then arN t v else 0), .int .i64 (if tErr t = 0 ∧ IsV t v then arD t v else 0)], .int .i64 (if tErr t = 0 then if IsV t v then 0 else 2 else tErr t)]) := by
  rw [E_lake_AreaAt, lake_openVolume hN]
  simp only [obind, asT_tup, nth_zero, nth_one, asI_int, cond_ndec]
  by_cases h : tErr t = 0
  · have hok := ok_of h
    simp only [h, true_and, if_true]
    by_cases hv : IsV t v
    · obtain ⟨i1, i2, i3, i4⟩ := hok.pieceV hv
      obtain ⟨p1, p2, p3, p4⟩ := Ok.hv_le hok i1 i2
      have g1 := lake_volume (N := N) (k := k + 4) (kn t (byV t v - 1)) (kn t (byV t v)) (by unfold vol at *; constructor <;> omega)
      have g2 := lake_height (N := N) (k := k + 4) (kn t (byV t v - 1)) (kn t (byV t v)) (by unfold hgt at *; constructor <;> omega)
      have g3 := lake_divisor (k := k + 4) hN (a := vol t (byV t v)) (b := hgt t (byV t v)) (by omega) (by omega) (by omega)
      have hg : 0 < Int.gcd (vol t (byV t v)) (hgt t (byV t v)) := Int.gcd_pos_of_ne_zero_right _ (by omega)
      have c : ¬ ((Int.gcd (vol t (byV t v)) (hgt t (byV t v)) : Int) = 0) := by omega
      have d1 : w64 ((vol t (byV t v)).tdiv (Int.gcd (vol t (byV t v)) (hgt t (byV t v)) : Int)) = arN t v := by
        have := tdiv_abs_le (vol t (byV t v)) (Int.gcd (vol t (byV t v)) (hgt t (byV t v)) : Int)
        rw [w64_id (by omega) (by omega), Int.tdiv_eq_ediv_of_nonneg (by omega)]
        unfold arN
        rfl
      have d2 : w64 ((hgt t (byV t v)).tdiv (Int.gcd (vol t (byV t v)) (hgt t (byV t v)) : Int)) = arD t v := by
        have := tdiv_abs_le (hgt t (byV t v)) (Int.gcd (vol t (byV t v)) (hgt t (byV t v)) : Int)
        rw [w64_id (by omega) (by omega), Int.tdiv_eq_ediv_of_nonneg (by omega)]
        unfold arD
        rfl
      have hV : (kn t (byV t v)).v - (kn t (byV t v - 1)).v = vol t (byV t v) := by unfold vol; rfl
      have hH : (kn t (byV t v)).l - (kn t (byV t v - 1)).l = hgt t (byV t v) := by unfold hgt; rfl
      rw [hV] at g1
      rw [hH] at g2
      simp only [hv, if_true, asA_agg, nth_zero, asL_sl, lake_byVolume (k := k + 1) hN hok hv, obind, nth_one, nth_two, nth_three, asI_int, g1, g2, g3, c, if_false, d1, d2]
    · simp only [hv, if_false, show ¬ ((2 : Int) = 0) by decide]
  · simp only [h, false_and, if_false]

end
end Go.PewTab

namespace Go.PewTab
set_option linter.unusedSimpArgs false
set_option linter.unusedVariables false
open Go.Pew Go.Num

/-- The volumes of both lakes; what flows in and is exchanged in a tick; what is lost. -/
structure Vols where
  u : Int
  l : Int
  deriving DecidableEq
structure Flow where
  a : Int
  b : Int
  x : Int
structure Loss where
  e : Int
  s : Int
  deriving DecidableEq
/-- A pair of lakes. -/
structure Pair where
  u : Tab
  l : Tab
  r : Int

abbrev vVols (s : Vols) : PV := .agg [.int .i64 s.u, .int .i64 s.l]
abbrev vFlow (f : Flow) : PV := .agg [.int .i64 f.a, .int .i64 f.b, .int .i64 f.x]
abbrev vLoss (f : Loss) : PV := .agg [.int .i64 f.e, .int .i64 f.s]
abbrev vPair (p : Pair) : PV := .agg [.sl none [.int .i64, .int .i64] (p.u.map cK), .sl none [.int .i64, .int .i64] (p.l.map cK), .int .i64 p.r]
def cV (s : Vols) : List PV := [.int .i64 s.u, .int .i64 s.l]
def cF (f : Flow) : List PV := [.int .i64 f.a, .int .i64 f.b, .int .i64 f.x]
def flo (l : List Flow) (i : Nat) : Flow := l.getD i ⟨0, 0, 0⟩
def vls (l : List Vols) (i : Nat) : Vols := l.getD i ⟨0, 0⟩
theorem leaf_cF0 (l : List Flow) (i : Nat) : asI (nth (nths (l.map cF) i) 0) = (flo l i).a := leafI cF Flow.a 0 ⟨0, 0, 0⟩ (fun _ => rfl) rfl l i
theorem leaf_cF1 (l : List Flow) (i : Nat) : asI (nth (nths (l.map cF) i) 1) = (flo l i).b := leafI cF Flow.b 1 ⟨0, 0, 0⟩ (fun _ => rfl) rfl l i
theorem leaf_cF2 (l : List Flow) (i : Nat) : asI (nth (nths (l.map cF) i) 2) = (flo l i).x := leafI cF Flow.x 2 ⟨0, 0, 0⟩ (fun _ => rfl) rfl l i
theorem leaf_cV0 (l : List Vols) (i : Nat) : asI (nth (nths (l.map cV) i) 0) = (vls l i).u := leafI cV Vols.u 0 ⟨0, 0⟩ (fun _ => rfl) rfl l i
theorem leaf_cV1 (l : List Vols) (i : Nat) : asI (nth (nths (l.map cV) i) 1) = (vls l i).l := leafI cV Vols.l 1 ⟨0, 0⟩ (fun _ => rfl) rfl l i

def lo (t : Tab) : Int := (kn t 0).v
def hi (t : Tab) : Int := (kn t (t.length - 1)).v

/-- The errors. -/
def pErr (p : Pair) : Int := if tErr p.u = 0 then if tErr p.l = 0 then if 0 ≤ p.r ∧ p.r ≤ 1000 then 0 else 2 else tErr p.l else tErr p.u
def sErr (p : Pair) (s : Vols) : Int := if IsV p.u s.u ∧ IsV p.l s.l then 0 else 2
def bErr (p : Pair) (s : Vols) : Int := if pErr p = 0 then sErr p s else pErr p
def fErr (f : Flow) : Int := if (0 ≤ f.a ∧ f.a ≤ 10000000) ∧ (0 ≤ f.b ∧ f.b ≤ 10000000) ∧ (-10000000 ≤ f.x ∧ f.x ≤ 10000000) then 0 else 2

/-- A valid pair. -/
structure POk (p : Pair) : Prop where
  u : Ok p.u
  l : Ok p.l
  r0 : 0 ≤ p.r
  r1 : p.r ≤ 1000

theorem pOk_of {p : Pair} (h : pErr p = 0) : POk p := by
  unfold pErr at h
  split at h
  · rename_i h1
    split at h
    · rename_i h2
      split at h
      · rename_i h3
        exact ⟨ok_of h1, ok_of h2, h3.1, h3.2⟩
      · simp at h
    · rename_i h2
      exact absurd h h2
  · rename_i h1
    exact absurd h h1

theorem bErr_zero {p : Pair} {s : Vols} (h : bErr p s = 0) : POk p ∧ IsV p.u s.u ∧ IsV p.l s.l := by
  unfold bErr at h
  split at h
  · rename_i h1
    unfold sErr at h
    split at h
    · rename_i h2
      exact ⟨pOk_of h1, h2⟩
    · simp at h
  · rename_i h1
    exact absurd h h1

theorem Ok.lo_hi {t : Tab} (h : Ok t) : 0 ≤ lo t ∧ lo t < hi t ∧ hi t ≤ 1000000000 := by
  have h2 := h.two
  have a := Ok.kr h (i := 0) (by omega)
  have b := Ok.kr h (i := t.length - 1) (by omega)
  have c := h.lt (i := 0) (j := t.length - 1) (by omega) (by omega)
  unfold Kr at a b
  unfold lo hi
  omega

/-- What evaporates. -/
def evap (t : Tab) (r v : Int) : Int := min (r * vol t (byV t v) / (1000 * hgt t (byV t v))) (v - lo t)

theorem evap_bounds {t : Tab} (h : Ok t) {r v : Int} (h0 : 0 ≤ r) (hv : IsV t v) : 0 ≤ evap t r v ∧ evap t r v ≤ v - lo t := by
  obtain ⟨i1, i2, i3, i4⟩ := h.pieceV hv
  obtain ⟨p1, p2, p3, p4⟩ := Ok.hv_le h i1 i2
  have : 0 ≤ r * vol t (byV t v) / (1000 * hgt t (byV t v)) := Int.ediv_nonneg (Int.mul_nonneg h0 (by omega)) (by omega)
  have hv1 := hv.1
  unfold evap lo
  omega

/-- A step, if it is possible. -/
def step (p : Pair) (s : Vols) (f : Flow) : Option (Vols × Loss) :=
  let a := evap p.u p.r s.u
  let b := evap p.l p.r s.l
  let u := s.u - a + f.a + f.x
  let l := s.l - b + f.b - f.x
  if u < lo p.u ∨ l < lo p.l then none
  else some (⟨u - max 0 (u - hi p.u), l - max 0 (l - hi p.l)⟩, ⟨a + b, max 0 (u - hi p.u) + max 0 (l - hi p.l)⟩)

def FlowIn (f : Flow) : Prop := (0 ≤ f.a ∧ f.a ≤ 10000000) ∧ (0 ≤ f.b ∧ f.b ≤ 10000000) ∧ (-10000000 ≤ f.x ∧ f.x ≤ 10000000)
theorem flowIn_of {f : Flow} (h : fErr f = 0) : FlowIn f := by
  unfold fErr at h
  split at h
  · assumption
  · simp at h

/-- After a step the state is valid; what is lost is bounded. -/
theorem step_ok {p : Pair} {s : Vols} {f : Flow} {s' : Vols} {x : Loss} (h : POk p) (hu : IsV p.u s.u) (hl : IsV p.l s.l) (hs : step p s f = some (s', x)) (hf : FlowIn f) :
    IsV p.u s'.u ∧ IsV p.l s'.l ∧ 0 ≤ x.e ∧ x.e ≤ 2000000000 ∧ 0 ≤ x.s ∧ x.s ≤ 2000000000 ∧ s'.u + s'.l + x.e + x.s = s.u + s.l + f.a + f.b := by
  have a := evap_bounds h.u h.r0 hu
  have b := evap_bounds h.l h.r0 hl
  have c := Ok.lo_hi h.u
  have d := Ok.lo_hi h.l
  unfold step at hs
  simp only at hs
  split at hs
  · cases hs
  · rename_i hn
    cases hs
    have hu2 := hu.2
    have hl2 := hl.2
    unfold FlowIn at hf
    unfold IsV
    unfold lo hi at *
    simp only
    omega

section
variable {N k : Nat}

theorem lake_CheckPair (hN : 1000000 ≤ N) (p : Pair) : ev (envF N) (k + 5) F_lake_CheckPair [vPair p] = some (.int .i64 (pErr p)) := by
  rw [E_lake_CheckPair, lake_tableErr hN, lake_tableErr hN]
  simp only [obind, asI_int, lake_within, asB_bool, lake_unless, lake_first3 hN, decide_eq_true_eq]
  rfl

theorem lake_openPair (hN : 1000000 ≤ N) (p : Pair) : ev (envF N) (k + 6) F_lake_openPair [vPair p] = some (.tup [vPair p, .int .i64 (pErr p)]) := by
  rw [E_lake_openPair, lake_CheckPair hN]
  simp only [obind, asI_int]

theorem lake_stateErr {p : Pair} (h : POk p) (s : Vols) : ev (envF N) (k + 3) F_lake_pair_stateErr [vPair p, vVols s] = some (.int .i64 (sErr p s)) := by
  rw [E_lake_pair_stateErr, lake_holds h.u]
  simp only [obind, asB_bool, cond_dec]
  unfold sErr
  by_cases hu : IsV p.u s.u
  · rw [if_pos hu, lake_holds h.l]
    simp only [obind, asB_bool, lake_unless, asI_int, decide_eq_true_eq, hu, true_and]
  · rw [if_neg hu, lake_unless]
    simp only [obind, asI_int, Bool.false_eq_true, if_false, hu, false_and]

theorem lake_openState (hN : 1000000 ≤ N) (p : Pair) (s : Vols) : ev (envF N) (k + 7) F_lake_openState [vPair p, vVols s] = some (.tup [vPair p, .int .i64 (bErr p s)]) := by
  rw [E_lake_openState, lake_openPair hN]
  simp only [obind, asT_tup, nth_zero, nth_one, nth_two, asA_agg, asI_int, asL_sl, cond_dec]
  unfold bErr
  by_cases h : pErr p = 0
  · rw [if_pos h, if_pos h, lake_stateErr (k := k + 3) (pOk_of h)]
    simp only [obind, asI_int]
  · rw [if_neg h, if_neg h]

theorem lake_CheckState (hN : 1000000 ≤ N) (p : Pair) (s : Vols) : ev (envF N) (k + 8) F_lake_CheckState [vPair p, vVols s] = some (.int .i64 (bErr p s)) := by
  rw [E_lake_CheckState, lake_openState hN]
  simp only [obind, asT_tup, nth_one, asI_int]

theorem lake_isFlow (n : Int) : ev (envF N) (k + 2) F_lake_flowsErr_c1 [.int .i64 n] = some (.bool (decide (0 ≤ n ∧ n ≤ 10000000))) := by
  rw [E_lake_flowsErr_c1, lake_within]
  simp only [obind, asB_bool]

theorem lake_flowsErr (f : Flow) : ev (envF N) (k + 3) F_lake_flowsErr [vFlow f] = some (.int .i64 (fErr f)) := by
  rw [E_lake_flowsErr, lake_isFlow, lake_isFlow]
  simp only [obind, asB_bool, cond_dec, lake_within, lake_unless, asI_int, decide_eq_true_eq, Bool.false_eq_true, if_false]
  unfold fErr
  by_cases h1 : 0 ≤ f.a ∧ f.a ≤ 10000000
  · by_cases h2 : 0 ≤ f.b ∧ f.b ≤ 10000000
    · simp only [h1, h2, if_true, and_self, true_and]
    · simp [h1, h2]
  · simp [h1]

theorem lake_evaporated (hN : 1000000 ≤ N) {t : Tab} (h : Ok t) {r v : Int} (h0 : 0 ≤ r) (h1 : r ≤ 1000) (hv : IsV t v) : ev (envF N) (k + 5) F_lake_table_evaporated [vTab t, .int .i64 v, .int .i64 r] = some (.int .i64 (evap t r v)) := by
  obtain ⟨i1, i2, i3, i4⟩ := h.pieceV hv
  obtain ⟨p1, p2, p3, p4⟩ := Ok.hv_le h i1 i2
  have h2 := h.two
  have b := Ok.lo_hi h
  have hv1 := hv.1
  have hv2 := hv.2
  have hV : (kn t (byV t v)).v - (kn t (byV t v - 1)).v = vol t (byV t v) := by unfold vol; rfl
  have hH : (kn t (byV t v)).l - (kn t (byV t v - 1)).l = hgt t (byV t v) := by unfold hgt; rfl
  have g1 := lake_volume (N := N) (k := k + 3) (kn t (byV t v - 1)) (kn t (byV t v)) (by rw [hV]; constructor <;> omega)
  have g2 := lake_height (N := N) (k := k + 3) (kn t (byV t v - 1)) (kn t (byV t v)) (by rw [hH]; constructor <;> omega)
  rw [hV] at g1
  rw [hH] at g2
  have m := mul_le_big (x := r) (y := vol t (byV t v)) (by omega) (by omega) (by omega) (by omega)
  have e1 : w64 (r * vol t (byV t v)) = r * vol t (byV t v) := by rw [w64_id] <;> omega
  have e2 : w64 (1000 * hgt t (byV t v)) = 1000 * hgt t (byV t v) := by rw [w64_id] <;> omega
  have c : ¬ (1000 * hgt t (byV t v) = 0) := by omega
  have d := tdiv_abs_le (r * vol t (byV t v)) (1000 * hgt t (byV t v))
  have e3 : w64 ((r * vol t (byV t v)).tdiv (1000 * hgt t (byV t v))) = r * vol t (byV t v) / (1000 * hgt t (byV t v)) := by
    rw [w64_id (by omega) (by omega), Int.tdiv_eq_ediv_of_nonneg m.1]
  have hlo : lo t = (kn t 0).v := by unfold lo; rfl
  have hhi : hi t = (kn t (t.length - 1)).v := by unfold hi; rfl
  have e4 : w64 (v - (kn t 0).v) = v - lo t := by rw [w64_id] <;> omega
  have g3 := lake_bottom (N := N) (k := k + 3) (t := t) (by omega)
  rw [E_lake_table_evaporated, lake_byVolume hN h hv]
  simp only [obind, asA_agg, nth_zero, nth_one, nth_two, nth_three, asI_int, g1, g2, g3, e1, e2, e3, e4, c, cond_ndec, if_false, imin_eq]
  rfl

theorem lake_step (hN : 1000000 ≤ N) {p : Pair} (h : POk p) {s : Vols} (hu : IsV p.u s.u) (hl : IsV p.l s.l) {f : Flow} (hf : FlowIn f) : ev (envF N) (k + 6) F_lake_pair_step [vPair p, vVols s, vFlow f] =
    some (match step p s f with | some (s', x) => .tup [vVols s', vLoss x, .bool true] | none => .tup [vVols ⟨0, 0⟩, vLoss ⟨0, 0⟩, .bool false]) := by
  obtain ⟨M, rfl⟩ : ∃ M, N = M + 3 := ⟨N - 3, by omega⟩
  have a := evap_bounds h.u h.r0 hu
  have b := evap_bounds h.l h.r0 hl
  have c := Ok.lo_hi h.u
  have d := Ok.lo_hi h.l
  have hu2 : s.u ≤ hi p.u := hu.2
  have hl2 : s.l ≤ hi p.l := hl.2
  have t1 := h.u.two
  have t2 := h.l.two
  have t3 := h.u.ten
  have t4 := h.l.ten
  have u0 : (kn p.u 0).v = lo p.u := by unfold lo; rfl
  have u1 : (kn p.u (p.u.length - 1)).v = hi p.u := by unfold hi; rfl
  have l0 : (kn p.l 0).v = lo p.l := by unfold lo; rfl
  have l1 : (kn p.l (p.l.length - 1)).v = hi p.l := by unfold hi; rfl
  have g1 := lake_evaporated (k := k) hN h.u h.r0 h.r1 hu
  have g2 := lake_evaporated (k := k) hN h.l h.r0 h.r1 hl
  have g3 := lake_bottom (N := M + 3) (k := k + 4) (t := p.u) (by omega)
  have g4 := lake_bottom (N := M + 3) (k := k + 4) (t := p.l) (by omega)
  have g5 := lake_top (N := M + 3) (k := k + 4) (t := p.u) (by omega) (by omega)
  have g6 := lake_top (N := M + 3) (k := k + 4) (t := p.l) (by omega) (by omega)
  obtain ⟨A, hA⟩ : ∃ A, evap p.u p.r s.u = A := ⟨_, rfl⟩
  obtain ⟨B, hB⟩ : ∃ B, evap p.l p.r s.l = B := ⟨_, rfl⟩
  rw [hA] at a g1
  rw [hB] at b g2
  unfold FlowIn at hf
  have eu : w64 (s.u + w64 (w64 (f.a + f.x) - A)) = s.u - A + f.a + f.x := by
    rw [w64_id (x := f.a + f.x) (by omega) (by omega), w64_id (x := f.a + f.x - A) (by omega) (by omega), w64_id (by omega) (by omega)]
    omega
  have el : w64 (s.l + w64 (w64 (f.b - f.x) - B)) = s.l - B + f.b - f.x := by
    rw [w64_id (x := f.b - f.x) (by omega) (by omega), w64_id (x := f.b - f.x - B) (by omega) (by omega), w64_id (by omega) (by omega)]
    omega
  rw [E_lake_pair_step]
  simp only [g1, g2, g3, g4, g5, g6, obind, asA_agg, nth_zero, nth_one, asI_int, eu, el, u0, u1, l0, l1, imax_eq, cond_dec]
  unfold step
  simp only [hA, hB]
  obtain ⟨U, hU⟩ : ∃ U, s.u - A + f.a + f.x = U := ⟨_, rfl⟩
  obtain ⟨L, hL⟩ : ∃ L, s.l - B + f.b - f.x = L := ⟨_, rfl⟩
  simp only [hU, hL]
  have e1 : w64 (U - hi p.u) = U - hi p.u := by rw [w64_id] <;> omega
  have e2 : w64 (L - hi p.l) = L - hi p.l := by rw [w64_id] <;> omega
  have e3 : w64 (U - max 0 (U - hi p.u)) = U - max 0 (U - hi p.u) := by rw [w64_id] <;> omega
  have e4 : w64 (L - max 0 (L - hi p.l)) = L - max 0 (L - hi p.l) := by rw [w64_id] <;> omega
  have e5 : w64 (w64 (0 + A) + B) = A + B := by rw [w64_id (x := 0 + A) (by omega) (by omega), w64_id] <;> omega
  have e6 : w64 (w64 (0 + max 0 (U - hi p.u)) + max 0 (L - hi p.l)) = max 0 (U - hi p.u) + max 0 (L - hi p.l) := by
    rw [w64_id (x := 0 + max 0 (U - hi p.u)) (by omega) (by omega), w64_id] <;> omega
  simp only [e1, e2, e3, e4, e5, e6]
  by_cases h1 : U < lo p.u
  · rw [if_pos h1, if_pos (Or.inl h1)]
  · by_cases h2 : L < lo p.l
    · rw [if_neg h1, if_pos h2, if_pos (Or.inr h2)]
    · rw [if_neg h1, if_neg h2, if_neg (by omega)]

def stepE : Option (Vols × Loss) → PV
  | some (s', x) => .tup [vVols s', vLoss x, .int .i64 0]
  | none => .tup [vVols ⟨0, 0⟩, vLoss ⟨0, 0⟩, .int .i64 22]
/-- The results of a step, or its error. -/
def stepR (p : Pair) (s : Vols) (f : Flow) : PV :=
  if bErr p s ≠ 0 then .tup [vVols ⟨0, 0⟩, vLoss ⟨0, 0⟩, .int .i64 (bErr p s)]
  else if fErr f ≠ 0 then .tup [vVols ⟨0, 0⟩, vLoss ⟨0, 0⟩, .int .i64 (fErr f)]
  else stepE (step p s f)

theorem stepR_ok {p : Pair} {s : Vols} {f : Flow} (h : bErr p s = 0) (hf : fErr f = 0) : stepR p s f = stepE (step p s f) := by
  unfold stepR
  rw [if_neg (by omega), if_neg (by omega)]

theorem lake_Step (hN : 1000000 ≤ N) (p : Pair) (s : Vols) (f : Flow) : ev (envF N) (k + 8) F_lake_Step [vPair p, vVols s, vFlow f] = some (stepR p s f) := by
  rw [E_lake_Step, lake_openState hN]
  have g := lake_flowsErr (N := N) (k := k + 4) f
  rw [g]
  simp only [obind, asT_tup, nth_zero, nth_one, nth_two, asA_agg, asI_int, asL_sl, lake_first2 hN, cond_ndec]
  unfold stepR
  by_cases h : bErr p s = 0
  · rw [if_pos h, if_neg (show ¬ (bErr p s ≠ 0) by omega)]
    by_cases h2 : fErr f = 0
    · rw [if_pos h2, if_neg (show ¬ (fErr f ≠ 0) by omega)]
      obtain ⟨hp, hu, hl⟩ := bErr_zero h
      have g2 := lake_step (k := k + 1) hN hp hu hl (flowIn_of h2)
      rw [g2]
      cases step p s f with
      | none =>
        simp only [obind, asT_tup, nth_zero, nth_one, nth_two, asA_agg, asI_int, asB_bool, lake_unless, Bool.false_eq_true, if_false, stepE]
      | some r =>
        obtain ⟨s', x⟩ := r
        simp only [obind, asT_tup, nth_zero, nth_one, nth_two, asA_agg, asI_int, asB_bool, lake_unless, if_true, stepE]
    · rw [if_neg h2, if_pos h2]
  · rw [if_neg h, if_neg h, if_pos h]

theorem lake_Usable (hN : 1000000 ≤ N) (p : Pair) (s : Vols) : ev (envF N) (k + 8) F_lake_Usable [vPair p, vVols s] =
    some (if bErr p s = 0 then .tup [vVols ⟨min (s.u - lo p.u) (hi p.l - s.l), min (s.l - lo p.l) (hi p.u - s.u)⟩, .int .i64 0] else .tup [vVols ⟨0, 0⟩, .int .i64 (bErr p s)]) := by
  rw [E_lake_Usable, lake_openState hN]
  simp only [obind, asT_tup, nth_zero, nth_one, nth_two, asA_agg, asI_int, asL_sl, cond_ndec]
  by_cases h : bErr p s = 0
  · obtain ⟨hp, hu, hl⟩ := bErr_zero h
    have c := Ok.lo_hi hp.u
    have d := Ok.lo_hi hp.l
    have t1 := hp.u.two
    have t2 := hp.l.two
    have t3 := hp.u.ten
    have t4 := hp.l.ten
    have hu1 : lo p.u ≤ s.u := hu.1
    have hl1 : lo p.l ≤ s.l := hl.1
    have hu2 : s.u ≤ hi p.u := hu.2
    have hl2 : s.l ≤ hi p.l := hl.2
    have u0 : (kn p.u 0).v = lo p.u := by unfold lo; rfl
    have u1 : (kn p.u (p.u.length - 1)).v = hi p.u := by unfold hi; rfl
    have l0 : (kn p.l 0).v = lo p.l := by unfold lo; rfl
    have l1 : (kn p.l (p.l.length - 1)).v = hi p.l := by unfold hi; rfl
    have g3 := lake_bottom (N := N) (k := k + 6) (t := p.u) (by omega)
    have g4 := lake_bottom (N := N) (k := k + 6) (t := p.l) (by omega)
    have g5 := lake_top (N := N) (k := k + 6) (t := p.u) (by omega) (by omega)
    have g6 := lake_top (N := N) (k := k + 6) (t := p.l) (by omega) (by omega)
    have e1 : w64 (s.u - lo p.u) = s.u - lo p.u := by rw [w64_id] <;> omega
    have e2 : w64 (s.l - lo p.l) = s.l - lo p.l := by rw [w64_id] <;> omega
    have e3 : w64 (hi p.u - s.u) = hi p.u - s.u := by rw [w64_id] <;> omega
    have e4 : w64 (hi p.l - s.l) = hi p.l - s.l := by rw [w64_id] <;> omega
    rw [if_pos h, if_pos h]
    simp only [g3, g4, g5, g6, obind, asA_agg, nth_one, asI_int, u0, u1, l0, l1, e1, e2, e3, e4, imin_eq]
  · rw [if_neg h, if_neg h]

end
end Go.PewTab

namespace Go.PewTab
set_option linter.unusedSimpArgs false
set_option linter.unusedVariables false
open Go.Pew Go.Num

/-! Quotients of whole numbers. -/
theorem floor_div {n d : Int} (hd : 0 < d) : ((n : Rat) / (d : Rat)).floor = n / d := by
  have hq : (0 : Rat) < (d : Rat) := Rat.intCast_pos.2 hd
  have key : ∀ x : Int, ((n : Rat) / (d : Rat)).floor < x ↔ n / d < x := by
    intro x
    rw [Rat.floor_lt_iff, Rat.div_lt_iff hq, ← Rat.intCast_mul, Rat.intCast_lt_intCast, Int.ediv_lt_iff_lt_mul hd]
  have h1 := (key (((n : Rat) / (d : Rat)).floor + 1)).1 (by omega)
  have h2 := (key (n / d + 1)).2 (by omega)
  omega
theorem ceil_div {n d : Int} (hd : 0 < d) : ((n : Rat) / (d : Rat)).ceil = cdiv n d := by
  have hq : (0 : Rat) < (d : Rat) := Rat.intCast_pos.2 hd
  have key : ∀ x : Int, x < ((n : Rat) / (d : Rat)).ceil ↔ x < cdiv n d := by
    intro x
    have := cdiv_le (n := n) (x := x) hd
    rw [Rat.lt_ceil_iff, Rat.lt_div_iff hq, ← Rat.intCast_mul, Rat.intCast_lt_intCast]
    omega
  have h1 := (key (((n : Rat) / (d : Rat)).ceil - 1)).1 (by omega)
  have h2 := (key (cdiv n d - 1)).2 (by omega)
  omega
theorem floor_add (l : Int) (q : Rat) : ((l : Rat) + q).floor = l + q.floor := by
  rw [Rat.add_comm, Rat.floor_add_intCast]; omega
theorem ceil_add (l : Int) (q : Rat) : ((l : Rat) + q).ceil = l + q.ceil := by
  rw [Rat.add_comm, Rat.ceil_add_intCast]; omega
theorem div_div_eq (x v h : Rat) : x / (v / h) = (x * h) / v := by
  rw [Rat.div_def, Rat.div_def, Rat.div_def, Rat.inv_mul_rev, Rat.inv_inv, Rat.mul_assoc]
theorem mul_div_eq (x v h : Rat) : x * (v / h) = (x * v) / h := by
  rw [Rat.div_def, Rat.div_def, Rat.mul_assoc]
theorem div_div_eq' (x h y : Rat) : x / h / y = x / (y * h) := by
  rw [Rat.div_def, Rat.div_def, Rat.div_def, Rat.inv_mul_rev, Rat.mul_assoc]
theorem div_lt_div {a b c d : Int} (hb : 0 < b) (hd : 0 < d) : (a : Rat) / (b : Rat) < (c : Rat) / (d : Rat) ↔ a * d < c * b := by
  have hb' : (0 : Rat) < (b : Rat) := Rat.intCast_pos.2 hb
  have hd' : (0 : Rat) < (d : Rat) := Rat.intCast_pos.2 hd
  rw [Rat.div_lt_iff hb', Rat.mul_comm ((c : Rat) / (d : Rat)), mul_div_eq, Rat.lt_div_iff hd', ← Rat.intCast_mul, ← Rat.intCast_mul, Rat.intCast_lt_intCast, Int.mul_comm b]

/-! Sizes. -/
theorem szR_int {x : Int} (h : I64 x) : SzR 3 (x : Rat) := ⟨by simpa using sz_int h, by simpa using sz_int (x := 1) (by decide)⟩
theorem SzR.add {m : Nat} {a b : Rat} (ha : SzR m a) (hb : SzR m b) : SzR (m + m + 1) (a + b) := by
  rw [Rat.add_def' a b, ← Rat.divInt_ofNat, Int.natCast_mul]
  exact szR_divInt (Int.mul_ne_zero den_sz den_sz) ((ha.num.mul hb.den).add (hb.num.mul ha.den)) ((ha.den.mul hb.den).mono (by omega))
theorem SzR.mul {m : Nat} {a b : Rat} (ha : SzR m a) (hb : SzR m b) : SzR (m + m) (a * b) := by
  rw [Rat.mul_def' a b, ← Rat.divInt_ofNat, Int.natCast_mul]
  exact szR_divInt (Int.mul_ne_zero den_sz den_sz) (ha.num.mul hb.num) (ha.den.mul hb.den)
theorem SzR.div {m : Nat} {a b : Rat} (ha : SzR m a) (hb : SzR m b) (h0 : b ≠ 0) : SzR (m + m) (a / b) := by
  rw [div_eq]
  exact szR_divInt (Int.mul_ne_zero den_sz (fun h => h0 (Rat.num_eq_zero.1 h))) (ha.num.mul hb.den) (ha.den.mul hb.num)
theorem SzR.neg {m : Nat} {a : Rat} (ha : SzR m a) : SzR m (-a) := ⟨by rw [Rat.neg_num]; exact ha.num.neg, by rw [Rat.neg_den]; exact ha.den⟩

/-- The area of a piece. -/
def ar (t : Tab) (i : Nat) : Rat := Rat.divInt (vol t i) (hgt t i)
theorem ar_eq (t : Tab) (i : Nat) : ar t i = (vol t i : Rat) / (hgt t i : Rat) := Rat.divInt_eq_div _ _

section
variable {N k : Nat}

theorem ref_piece (hN : 1000000 ≤ N) {t : Tab} {i : Nat} (h1 : 1 ≤ i) (hi : i < t.length) (hl : t.length ≤ 100000) (ha : Kr (kn t i)) (hb : Kr (kn t (i - 1))) (h0 : hgt t i ≠ 0) : ev (envF N) (k + 11) F_ref01_piece [vTab t, .int .i64 (i : Int)] = some (vR (ar t i)) := by
  unfold Kr at ha hb
  have e1 : w64 ((i : Int) - 1) = ((i - 1 : Nat) : Int) := by rw [w64_id] <;> omega
  have c1 : (0 : Int) ≤ ((i - 1 : Nat) : Int) := by omega
  have c2 : ((i - 1 : Nat) : Int) < (t.length : Int) := by omega
  have c3 : (0 : Int) ≤ (i : Int) := by omega
  have c4 : (i : Int) < (t.length : Int) := by omega
  have hV : (kn t i).v - (kn t (i - 1)).v = vol t i := by unfold vol; rfl
  have hH : (kn t i).l - (kn t (i - 1)).l = hgt t i := by unfold hgt; rfl
  have e2 : w64 ((kn t i).v - (kn t (i - 1)).v) = vol t i := by rw [w64_id (by omega) (by omega), hV]
  have e3 : w64 ((kn t i).l - (kn t (i - 1)).l) = hgt t i := by rw [w64_id (by omega) (by omega), hH]
  have g := RatioOf_spec (k := k) hN (n := vol t i) h0 (by constructor <;> omega) (by constructor <;> omega)
  rw [E_ref01_piece]
  simp only [cond_dec, List.length_map, e1, c1, c2, c3, c4, if_true, Int.toNat_natCast, leaf_cKl, leaf_cKv, e2, e3, g, obind, asA_agg, nth_zero, nth_one, nth_two, nth_three, asI_int, asL_sl]
  rfl

theorem ar_sz {t : Tab} {i : Nat} (ha : Kr (kn t i)) (hb : Kr (kn t (i - 1))) (h0 : hgt t i ≠ 0) : SzR 3 (ar t i) := by
  unfold Kr at ha hb
  refine szR_divInt h0 (sz_int ?_) (sz_int ?_)
  · unfold vol; constructor <;> omega
  · unfold hgt; constructor <;> omega

theorem ref_CheckTable_6 (hN : 1000000 ≤ N) (t : Tab) (hl : t.length ≤ 10) : ∀ (d n i : Nat), i + d = t.length → (∀ j, j < i → knotErr t j = 0) → d < n →
    L_ref01_CheckTable_6 N (k + 11) n (i : Int) (t.map cK) = some (.tup [.int .i64 (knotsErr t d i).1, .int .i64 (knotsErr t d i).2])
  | 0, n + 1, i, h, hj, hn => by
    rw [L_ref01_CheckTable_6_eq, cond_dec, List.length_map, if_neg (by omega)]
    rfl
  | d + 1, n + 1, i, h, hj, hn => by
    have c1 : (i : Int) < (t.length : Int) := by omega
    have c2 : (0 : Int) ≤ (i : Int) := by omega
    have e1 : w64 ((i : Int) + 1) = ((i + 1 : Nat) : Int) := by rw [w64_id] <;> omega
    have next (hz : knotErr t i = 0) : L_ref01_CheckTable_6 N (k + 11) n ((i + 1 : Nat) : Int) (t.map cK) = some (.tup [.int .i64 (knotsErr t (d + 1) i).1, .int .i64 (knotsErr t (d + 1) i).2]) := by
      rw [ref_CheckTable_6 hN t hl d n (i + 1) (by omega) (fun j h => by
        by_cases e : j = i
        · rw [e]; exact hz
        · exact hj j (by omega)) (by omega)]
      conv => rhs; rw [knotsErr, if_pos hz]
    have stop (e : Int) (he : knotErr t i = e) (h0 : e ≠ 0) : (some (PV.tup [.int .i64 (i : Int), .int .i64 e])) = some (.tup [.int .i64 (knotsErr t (d + 1) i).1, .int .i64 (knotsErr t (d + 1) i).2]) := by
      rw [knotsErr, if_neg (by rw [he]; exact h0), he]
    rw [L_ref01_CheckTable_6_eq]
    simp only [cond_dec, cond_ndec, c1, c2, List.length_map, if_true, Int.toNat_natCast, leaf_cKl, leaf_cKv, base_Within, obind, asB_bool, e1]
    by_cases r1 : 0 ≤ (kn t i).l ∧ (kn t i).l ≤ 1000000
    · rw [if_pos r1]
      by_cases r2 : 0 ≤ (kn t i).v ∧ (kn t i).v ≤ 1000000000
      · rw [if_pos r2]
        by_cases i0 : i = 0
        · subst i0
          rw [if_pos (by omega)]
          exact next (by unfold knotErr; rw [if_neg (by omega), if_pos rfl])
        · have e2 : w64 ((i : Int) - 1) = ((i - 1 : Nat) : Int) := by rw [w64_id] <;> omega
          have c3 : (0 : Int) ≤ ((i - 1 : Nat) : Int) := by omega
          have c4 : ((i - 1 : Nat) : Int) < (t.length : Int) := by omega
          have p1 : Kr (kn t i) := ⟨r1.1, r1.2, r2.1, r2.2⟩
          have p2 : Kr (kn t (i - 1)) := (knotErr_zero (hj (i - 1) (by omega))).1
          rw [if_neg (by omega)]
          simp only [e2, c3, c4, if_true, Int.toNat_natCast, leaf_cKl, leaf_cKv]
          by_cases o1 : (kn t i).l ≤ (kn t (i - 1)).l
          · rw [if_pos o1]
            exact stop 9 (by unfold knotErr; rw [if_neg (by omega), if_neg i0, if_pos (by omega)]) (by decide)
          · rw [if_neg o1]
            by_cases o2 : (kn t i).v ≤ (kn t (i - 1)).v
            · rw [if_pos o2]
              exact stop 9 (by unfold knotErr; rw [if_neg (by omega), if_neg i0, if_pos (by omega)]) (by decide)
            · rw [if_neg o2]
              by_cases i1 : 1 < i
              · have p3 : Kr (kn t (i - 1 - 1)) := (knotErr_zero (hj (i - 1 - 1) (by omega))).1
                have o3 := (knotErr_zero (hj (i - 1) (by omega))).2.1 (by omega)
                have hp1 : 0 < hgt t i := by unfold hgt; omega
                have hp2 : 0 < hgt t (i - 1) := by unfold hgt; omega
                have g1 := ref_piece (k := k) hN (t := t) (i := i) (by omega) (by omega) (by omega) p1 p2 (by omega)
                have g2 := ref_piece (k := k) hN (t := t) (i := i - 1) (by omega) (by omega) (by omega) p2 p3 (by omega)
                have g3 := RatioCmp_spec (k := k + 5) hN ((ar_sz p1 p2 (by omega)).mono (n := 400) (by omega)) ((ar_sz p2 p3 (by omega)).mono (n := 400) (by omega))
                have hlt : ((ar t i).num * ((ar t (i - 1)).den : Int) - (ar t (i - 1)).num * ((ar t i).den : Int)).sign < 0 ↔ vol t i * hgt t (i - 1) < vol t (i - 1) * hgt t i := by
                  rw [cmp_lt, ar_eq, ar_eq, div_lt_div hp1 hp2]
                rw [if_pos (by omega)]
                simp only [g1, g2, g3, obind, asA_agg, nth_zero, nth_one, nth_two, nth_three, asI_int, asL_sl, hlt]
                have hw : vol t i * hgt t (i - 1) < vol t (i - 1) * hgt t i ↔ ((kn t i).v - (kn t (i - 1)).v) * ((kn t (i - 1)).l - (kn t (i - 2)).l) < ((kn t (i - 1)).v - (kn t (i - 2)).v) * ((kn t i).l - (kn t (i - 1)).l) := by
                  unfold vol hgt
                  rw [show i - 1 - 1 = i - 2 by omega]
                by_cases w : vol t i * hgt t (i - 1) < vol t (i - 1) * hgt t i
                · rw [if_pos w]
                  exact stop 22 (by unfold knotErr; rw [if_neg (by omega), if_neg i0, if_neg (by omega), if_pos ⟨i1, hw.1 w⟩]) (by decide)
                · rw [if_neg w]
                  exact next (by unfold knotErr; rw [if_neg (by omega), if_neg i0, if_neg (by omega), if_neg (fun h => w (hw.2 h.2))])
              · rw [if_neg (by omega)]
                exact next (by unfold knotErr; rw [if_neg (by omega), if_neg i0, if_neg (by omega), if_neg (fun h => i1 h.1)])
      · rw [if_neg r2]
        exact stop 2 (by unfold knotErr; rw [if_pos (by omega)]) (by decide)
    · rw [if_neg r1]
      exact stop 2 (by unfold knotErr; rw [if_pos (by omega)]) (by decide)

theorem ref_CheckTable (hN : 1000000 ≤ N) (t : Tab) : ev (envF N) (k + 12) F_ref01_CheckTable [vTab t] = some (.tup [.int .i64 (tabErr t).1, .int .i64 (tabErr t).2]) := by
  rw [E_ref01_CheckTable, cond_dec, cond_dec, List.length_map]
  unfold tabErr
  by_cases h2 : t.length < 2
  · rw [if_pos (by omega), if_pos h2]
  · rw [if_neg (by omega), if_neg h2]
    by_cases h10 : 10 < t.length
    · rw [if_pos (by omega), if_pos h10]
    · rw [if_neg (by omega), if_neg h10]
      exact ref_CheckTable_6 hN t (by omega) t.length N 0 (by omega) (fun j h => by omega) (by omega)

theorem ref_TableErr (hN : 1000000 ≤ N) (t : Tab) : ev (envF N) (k + 13) F_ref01_TableErr [vTab t] = some (.int .i64 (tErr t)) := by
  rw [E_ref01_TableErr, ref_CheckTable hN]
  simp only [obind, asT_tup, nth_one, asI_int, tErr]

theorem ref_Bottom {t : Tab} (h : 1 ≤ t.length) : ev (envF N) (k + 1) F_ref01_Bottom [vTab t] = some (.agg [.int .i64 (kn t 0).l, .int .i64 (kn t 0).v]) := by
  rw [E_ref01_Bottom, cond_dec, List.length_map, if_pos (by omega), leaf_cKl, leaf_cKv]
  rfl
theorem ref_Top {t : Tab} (h : 1 ≤ t.length) (hl : t.length ≤ 100000) : ev (envF N) (k + 1) F_ref01_Top [vTab t] = some (.agg [.int .i64 (kn t (t.length - 1)).l, .int .i64 (kn t (t.length - 1)).v]) := by
  have e : w64 ((t.length : Int) - 1) = ((t.length - 1 : Nat) : Int) := by rw [w64_id] <;> omega
  rw [E_ref01_Top, cond_dec, cond_dec, List.length_map, e, if_pos (by omega), if_pos (by omega), Int.toNat_natCast, leaf_cKl, leaf_cKv]

theorem ref_IsLevel {t : Tab} (h : Ok t) (l : Int) : ev (envF N) (k + 2) F_ref01_IsLevel [vTab t, .int .i64 l] = some (.bool (decide (IsL t l))) := by
  have h2 := h.two
  have h10 := h.ten
  rw [E_ref01_IsLevel, ref_Bottom (by omega), ref_Top (by omega) (by omega)]
  simp only [obind, asA_agg, nth_zero, asI_int, base_Within, asB_bool]
  rfl
theorem ref_IsVolume {t : Tab} (h : Ok t) (v : Int) : ev (envF N) (k + 2) F_ref01_IsVolume [vTab t, .int .i64 v] = some (.bool (decide (IsV t v))) := by
  have h2 := h.two
  have h10 := h.ten
  rw [E_ref01_IsVolume, ref_Bottom (by omega), ref_Top (by omega) (by omega)]
  simp only [obind, asA_agg, nth_one, asI_int, base_Within, asB_bool]
  rfl

theorem ref_PairErr (hN : 1000000 ≤ N) (p : Pair) : ev (envF N) (k + 14) F_ref01_PairErr [vPair p] = some (.int .i64 (pErr p)) := by
  rw [E_ref01_PairErr, ref_TableErr hN]
  simp only [obind, asI_int, cond_ndec, ref_TableErr (k := k) hN, base_Within, asB_bool]
  unfold pErr
  by_cases h1 : tErr p.u = 0
  · rw [if_pos h1, if_pos h1]
    by_cases h2 : tErr p.l = 0
    · rw [if_pos h2, if_pos h2]
      by_cases h3 : 0 ≤ p.r ∧ p.r ≤ 1000
      · rw [if_pos h3, if_pos h3]
      · rw [if_neg h3, if_neg h3]
    · rw [if_neg h2, if_neg h2]
  · rw [if_neg h1, if_neg h1]

theorem ref_StateErr {p : Pair} (h : POk p) (s : Vols) : ev (envF N) (k + 3) F_ref01_StateErr [vPair p, vVols s] = some (.int .i64 (sErr p s)) := by
  rw [E_ref01_StateErr, ref_IsVolume h.u]
  simp only [obind, asB_bool, cond_ndec, ref_IsVolume h.l]
  unfold sErr
  by_cases hu : IsV p.u s.u
  · by_cases hl : IsV p.l s.l <;> simp [hu, hl]
  · simp [hu]

theorem ref_BothErr (hN : 1000000 ≤ N) (p : Pair) (s : Vols) : ev (envF N) (k + 15) F_ref01_BothErr [vPair p, vVols s] = some (.int .i64 (bErr p s)) := by
  rw [E_ref01_BothErr, ref_PairErr hN]
  simp only [obind, asI_int, cond_ndec]
  unfold bErr
  by_cases h : pErr p = 0
  · rw [if_pos h, if_pos h, ref_StateErr (k := k + 11) (pOk_of h)]
    simp only [obind, asI_int]
  · rw [if_neg h, if_neg h]

theorem ref_FlowsErr (f : Flow) : ev (envF N) (k + 2) F_ref01_FlowsErr [vFlow f] = some (.int .i64 (fErr f)) := by
  rw [E_ref01_FlowsErr, base_Within]
  simp only [obind, asB_bool, cond_ndec, base_Within]
  unfold fErr
  by_cases h1 : 0 ≤ f.a ∧ f.a ≤ 10000000
  · by_cases h2 : 0 ≤ f.b ∧ f.b ≤ 10000000
    · by_cases h3 : -10000000 ≤ f.x ∧ f.x ≤ 10000000 <;> simp [h1, h2, h3]
    · simp [h1, h2]
  · simp [h1]

theorem room_nil (xs : List (List PV)) (b : Nat) (h : xs.length ≤ 100000) (hb : b ≤ 1000) : room [] xs b = true := by
  unfold room
  rw [decide_eq_true_eq]
  simp only [List.length_nil, Nat.zero_add]
  have : xs.length * b ≤ 100000 * 1000 := Nat.mul_le_mul h hb
  omega

theorem ref_Copy (t : Tab) (h : t.length ≤ 100000) : ev (envF N) (k + 1) F_ref01_Copy [vTab t] = some (vTab t) := by
  rw [E_ref01_Copy, room_nil _ _ (by rw [List.length_map]; exact h) (by decide), cond_t]
theorem ref_CopyPair (p : Pair) (h1 : p.u.length ≤ 100000) (h2 : p.l.length ≤ 100000) : ev (envF N) (k + 2) F_ref01_CopyPair [vPair p] = some (vPair p) := by
  rw [E_ref01_CopyPair, ref_Copy _ h1, ref_Copy _ h2]
  simp only [obind, asA_agg, nth_zero, asL_sl]
theorem ref_CopyList (l : List Flow) (h : l.length ≤ 100000) : ev (envF N) (k + 1) F_ref01_CopyList [.sl none [.int .i64, .int .i64, .int .i64] (l.map cF)] = some (.sl none [.int .i64, .int .i64, .int .i64] (l.map cF)) := by
  rw [E_ref01_CopyList, room_nil _ _ (by rw [List.length_map]; exact h) (by decide), cond_t]

theorem law_Few (t : Tab) : ev (envF N) (k + 1) F_law01_Few [vTab t] = some (.bool (decide (t.length ≤ 12))) := by
  rw [E_law01_Few, List.length_map]
  congr 2
  rw [decide_eq_decide]
  omega
theorem law_FewPair (p : Pair) : ev (envF N) (k + 2) F_law01_FewPair [vPair p] = some (.bool (decide (p.u.length ≤ 12 ∧ p.l.length ≤ 12))) := by
  rw [E_law01_FewPair, law_Few, law_Few]
  simp only [obind, asB_bool, cond_dec]
  by_cases h : p.u.length ≤ 12 <;> simp [h]

end
end Go.PewTab

namespace Go.PewTab
set_option linter.unusedSimpArgs false
set_option linter.unusedVariables false
open Go.Pew Go.Num

section
variable {N k : Nat}

theorem ref_above_loop {t : Tab} (hl : t.length ≤ 100000) {v : Int} {i0 : Nat} (hat : At t Knot.v v i0) : ∀ (d n i : Nat), i + d = i0 → 1 ≤ i → d < n →
    L_ref01_above_2 N k n v (i : Int) (t.map cK) = some (.int .i64 (i0 : Int))
  | 0, n + 1, i, h, h1, hn => by
    have hi : i = i0 := by omega
    subst hi
    have c1 : (0 : Int) ≤ (i : Int) := by omega
    have c2 : (i : Int) < (t.length : Int) := by have := hat.lt; omega
    have c3 : ¬ ((kn t i).v < v) := by have := hat.reach; omega
    rw [L_ref01_above_2_eq]
    simp only [cond_dec, List.length_map, c1, c2, if_true, Int.toNat_natCast, leaf_cKv, c3, if_false]
  | d + 1, n + 1, i, h, h1, hn => by
    have c1 : (0 : Int) ≤ (i : Int) := by omega
    have c2 : (i : Int) < (t.length : Int) := by have := hat.lt; omega
    have c3 : (kn t i).v < v := hat.first i h1 (by omega)
    have e1 : w64 ((i : Int) + 1) = ((i + 1 : Nat) : Int) := by rw [w64_id] <;> omega
    rw [L_ref01_above_2_eq]
    simp only [cond_dec, List.length_map, c1, c2, if_true, Int.toNat_natCast, leaf_cKv, c3, e1]
    exact ref_above_loop hl hat d n (i + 1) (by omega) (by omega) (by omega)

theorem ref_above (hN : 1000000 ≤ N) {t : Tab} (h : Ok t) {v : Int} (hv : IsV t v) : ev (envF N) (k + 1) F_ref01_above [vTab t, .int .i64 v] = some (.int .i64 (byV t v : Int)) := by
  have a := h.atV hv.2
  have hten := h.ten
  rw [E_ref01_above]
  exact ref_above_loop (by omega) a (byV t v - 1) N 1 (by have := a.one; omega) (by omega) (by have := a.lt; omega)

theorem ref_rounded (hN : 1000000 ≤ N) {q : Rat} (hq : SzR 400 q) (h1 : Sz 2 q.floor) (h2 : Sz 2 q.ceil) : ev (envF N) (k + 7) F_ref01_rounded [vR q] = some (.agg [.int .i64 q.floor, .int .i64 q.ceil]) := by
  have g1 := RatioFloor_spec (k := k) hN hq
  have g2 := RatioCeil_spec (k := k) hN hq
  have g3 := WideInt_spec (k := k + 5) hN h1
  have g4 := WideInt_spec (k := k + 5) hN h2
  rw [E_ref01_rounded]
  simp only [g1, g2, g3, g4, obind, asA_agg, asT_tup, nth_zero, nth_one, asI_int, asL_sl]

theorem sz2_of {x : Int} (h : -999999999999999999 ≤ x ∧ x ≤ 999999999999999999) : Sz 2 x := by
  unfold Sz
  have : (1000000000 : Nat) ^ 2 = 1000000000000000000 := by decide
  omega

/-- The level at a volume, the volume at a level, as fractions. -/
def Lv (t : Tab) (v : Int) : Rat := ((kn t (byV t v - 1)).l : Rat) + ((v - (kn t (byV t v - 1)).v : Int) : Rat) / ar t (byV t v)
def Vl (t : Tab) (l : Int) : Rat := ((kn t (byL t l - 1)).v : Rat) + ((l - (kn t (byL t l - 1)).l : Int) : Rat) * ar t (byL t l)

theorem Lv_eq {t : Tab} (v : Int) : Lv t v = ((kn t (byV t v - 1)).l : Rat) + (lvN t v : Rat) / (vol t (byV t v) : Rat) := by
  unfold Lv lvN
  rw [ar_eq, div_div_eq, Rat.intCast_mul]
theorem Vl_eq {t : Tab} (l : Int) : Vl t l = ((kn t (byL t l - 1)).v : Rat) + (vlN t l : Rat) / (hgt t (byL t l) : Rat) := by
  unfold Vl vlN
  rw [ar_eq, mul_div_eq, Rat.intCast_mul]

theorem Lv_floor {t : Tab} (h : Ok t) {v : Int} (hv : IsV t v) : (Lv t v).floor = lvLo t v ∧ (Lv t v).ceil = lvHi t v := by
  obtain ⟨i1, i2, i3, i4⟩ := h.pieceV hv
  obtain ⟨p1, p2, p3, p4⟩ := Ok.hv_le h i1 i2
  rw [Lv_eq, floor_add, ceil_add, floor_div p3, ceil_div p3]
  unfold lvLo lvHi
  exact ⟨rfl, rfl⟩
theorem Vl_floor {t : Tab} (h : Ok t) {l : Int} (hl : IsL t l) : (Vl t l).floor = vlLo t l ∧ (Vl t l).ceil = vlHi t l := by
  obtain ⟨i1, i2, i3, i4⟩ := h.pieceL hl
  obtain ⟨p1, p2, p3, p4⟩ := Ok.hv_le h i1 i2
  rw [Vl_eq, floor_add, ceil_add, floor_div p1, ceil_div p1]
  unfold vlLo vlHi
  exact ⟨rfl, rfl⟩

theorem ar_ne {t : Tab} {i : Nat} (h1 : 0 < vol t i) (h2 : 0 < hgt t i) : ar t i ≠ 0 := by
  intro h
  have a : (0 : Rat) < ar t i := by
    rw [ar_eq, Rat.lt_div_iff (Rat.intCast_pos.2 h2), Rat.zero_mul]
    exact Rat.intCast_pos.2 h1
  rw [h] at a
  exact Rat.lt_irrefl a

theorem ref_Level (hN : 1000000 ≤ N) {t : Tab} (h : Ok t) {v : Int} (hv : IsV t v) : ev (envF N) (k + 12) F_ref01_Level [vTab t, .int .i64 v] = some (vR (Lv t v)) ∧ SzR 300 (Lv t v) := by
  obtain ⟨i1, i2, i3, i4⟩ := h.pieceV hv
  obtain ⟨p1, p2, p3, p4⟩ := Ok.hv_le h i1 i2
  have hten := h.ten
  have a := Ok.kr h i2
  have b := Ok.kr h (i := byV t v - 1) (by omega)
  have a' := a
  have b' := b
  unfold Kr at a' b'
  have e1 : w64 (((byV t v : Nat) : Int) - 1) = ((byV t v - 1 : Nat) : Int) := by rw [w64_id] <;> omega
  have e2 : w64 (v - (kn t (byV t v - 1)).v) = v - (kn t (byV t v - 1)).v := by rw [w64_id] <;> omega
  have c1 : (0 : Int) ≤ ((byV t v - 1 : Nat) : Int) := by omega
  have c2 : ((byV t v - 1 : Nat) : Int) < (t.length : Int) := by omega
  have i64a : I64 (kn t (byV t v - 1)).l := by constructor <;> omega
  have i64b : I64 (v - (kn t (byV t v - 1)).v) := by constructor <;> omega
  have sa := ar_sz a b (by omega)
  have s1 := szR_int i64a
  have s2 := szR_int i64b
  have hne := ar_ne p3 p1
  have sd := s2.div sa hne
  have ss := (s1.mono (n := 6) (by omega)).add sd
  have g0 := ref_above (k := k + 10) hN h hv
  have g1 := RatioInt_spec (k := k + 7) hN i64a
  have g2 := RatioInt_spec (k := k + 7) hN i64b
  have g3 := ref_piece (k := k) hN (t := t) (i := byV t v) i1 i2 (by omega) a b (by omega)
  have g4 := RatioDiv_spec (k := k + 1) hN (s2.mono (n := 400) (by omega)) (sa.mono (n := 400) (by omega)) hne
  have g5 := RatioAdd_spec (k := k + 1) hN (s1.mono (n := 400) (by omega)) (sd.mono (n := 400) (by omega))
  refine ⟨?_, ss.mono (by omega)⟩
  rw [E_ref01_Level]
  simp only [g0, obind, asI_int, e1, cond_dec, c1, c2, List.length_map, if_true, Int.toNat_natCast, leaf_cKl, leaf_cKv, g1, e2, g2, g3, asA_agg, nth_zero, nth_one, nth_two, nth_three, asL_sl, g4, g5]
  rfl

theorem ref_LevelAt (hN : 1000000 ≤ N) {t : Tab} (h : Ok t) {v : Int} (hv : IsV t v) : ev (envF N) (k + 13) F_ref01_LevelAt [vTab t, .int .i64 v] = some (.agg [.int .i64 (lvLo t v), .int .i64 (lvHi t v)]) := by
  obtain ⟨g1, g2⟩ := ref_Level (k := k) hN h hv
  obtain ⟨f1, f2⟩ := Lv_floor h hv
  obtain ⟨i1, i2, i3, i4⟩ := h.pieceV hv
  obtain ⟨v1, v2, v3⟩ := h.lv_between hv
  have a := Ok.kr h i2
  have b := Ok.kr h (i := byV t v - 1) (by omega)
  unfold Kr at a b
  have g3 := ref_rounded (k := k + 5) hN (g2.mono (n := 400) (by omega)) (by rw [f1]; exact sz2_of (by omega)) (by rw [f2]; exact sz2_of (by omega))
  rw [f1, f2] at g3
  rw [E_ref01_LevelAt]
  simp only [g1, obind, asA_agg, nth_zero, nth_one, nth_two, nth_three, asI_int, asL_sl, g3]

theorem ref_volume_loop (hN : 1000000 ≤ N) {t : Tab} (h : Ok t) {l : Int} (hl : IsL t l) (x3 : Int) (x4 : List (List PV)) (x5 : Int) (x6 : List (List PV)) : ∀ (d n i : Nat), i + d = byL t l → 1 ≤ i → d < n →
    L_ref01_volume_2 N (k + 11) n l (i : Int) (t.map cK) x3 x4 x5 x6 = some (vR (Vl t l))
  | 0, n + 1, i, hd, h1, hn => by
    have hi : i = byL t l := by omega
    subst hi
    obtain ⟨i1, i2, i3, i4⟩ := h.pieceL hl
    obtain ⟨p1, p2, p3, p4⟩ := Ok.hv_le h i1 i2
    have hten := h.ten
    have a := Ok.kr h i2
    have b := Ok.kr h (i := byL t l - 1) (by omega)
    have a' := a
    have b' := b
    unfold Kr at a' b'
    have e1 : w64 (((byL t l : Nat) : Int) - 1) = ((byL t l - 1 : Nat) : Int) := by rw [w64_id] <;> omega
    have e2 : w64 (l - (kn t (byL t l - 1)).l) = l - (kn t (byL t l - 1)).l := by rw [w64_id] <;> omega
    have c0 : (0 : Int) ≤ ((byL t l : Nat) : Int) := by omega
    have c3 : ((byL t l : Nat) : Int) < (t.length : Int) := by omega
    have c4 : ¬ ((kn t (byL t l)).l < l) := by omega
    have c1 : (0 : Int) ≤ ((byL t l - 1 : Nat) : Int) := by omega
    have c2 : ((byL t l - 1 : Nat) : Int) < (t.length : Int) := by omega
    have i64a : I64 (kn t (byL t l - 1)).v := by constructor <;> omega
    have i64b : I64 (l - (kn t (byL t l - 1)).l) := by constructor <;> omega
    have sa := ar_sz a b (by omega)
    have s1 := szR_int i64a
    have s2 := szR_int i64b
    have sd := s2.mul sa
    have g1 := RatioInt_spec (k := k + 7) hN i64a
    have g2 := RatioInt_spec (k := k + 7) hN i64b
    have g3 := ref_piece (k := k) hN (t := t) (i := byL t l) i1 i2 (by omega) a b (by omega)
    have g4 := RatioMul_spec (k := k + 1) hN (s2.mono (n := 400) (by omega)) (sa.mono (n := 400) (by omega))
    have g5 := RatioAdd_spec (k := k + 1) hN (s1.mono (n := 400) (by omega)) (sd.mono (n := 400) (by omega))
    rw [L_ref01_volume_2_eq]
    simp only [cond_dec, c0, c3, List.length_map, if_true, Int.toNat_natCast, leaf_cKl, leaf_cKv, c4, if_false, e1, c1, c2, g1, obind, e2, g2, g3, asA_agg, nth_zero, nth_one, nth_two, nth_three, asI_int, asL_sl, g4, g5]
    rfl
  | d + 1, n + 1, i, hd, h1, hn => by
    have hat := h.atL hl.2
    have hten := h.ten
    have c1 : (0 : Int) ≤ (i : Int) := by omega
    have c2 : (i : Int) < (t.length : Int) := by have := hat.lt; omega
    have c3 : (kn t i).l < l := hat.first i h1 (by omega)
    have e1 : w64 ((i : Int) + 1) = ((i + 1 : Nat) : Int) := by have := hat.lt; rw [w64_id] <;> omega
    rw [L_ref01_volume_2_eq]
    simp only [cond_dec, List.length_map, c1, c2, if_true, Int.toNat_natCast, leaf_cKl, c3, e1]
    exact ref_volume_loop hN h hl x3 x4 x5 x6 d n (i + 1) (by omega) (by omega) (by omega)

theorem Vl_sz {t : Tab} (h : Ok t) {l : Int} (hl : IsL t l) : SzR 300 (Vl t l) := by
  obtain ⟨i1, i2, i3, i4⟩ := h.pieceL hl
  obtain ⟨p1, p2, p3, p4⟩ := Ok.hv_le h i1 i2
  have a := Ok.kr h i2
  have b := Ok.kr h (i := byL t l - 1) (by omega)
  have a' := a
  have b' := b
  unfold Kr at a' b'
  have sa := ar_sz a b (by omega)
  have s1 := szR_int (x := (kn t (byL t l - 1)).v) (by constructor <;> omega)
  have s2 := szR_int (x := l - (kn t (byL t l - 1)).l) (by constructor <;> omega)
  exact ((s1.mono (n := 6) (by omega)).add (s2.mul sa)).mono (by omega)

theorem ref_VolumeAt (hN : 1000000 ≤ N) {t : Tab} (h : Ok t) {l : Int} (hl : IsL t l) : ev (envF N) (k + 13) F_ref01_VolumeAt [vTab t, .int .i64 l] = some (.agg [.int .i64 (vlLo t l), .int .i64 (vlHi t l)]) := by
  have hat := h.atL hl.2
  have g1 : ev (envF N) (k + 12) F_ref01_volume [vTab t, .int .i64 l] = some (vR (Vl t l)) := by
    rw [E_ref01_volume]
    exact ref_volume_loop (k := k) hN h hl 0 [] 0 [] (byL t l - 1) N 1 (by have := hat.one; omega) (by omega) (by have := hat.lt; have := h.ten; omega)
  obtain ⟨f1, f2⟩ := Vl_floor h hl
  obtain ⟨i1, i2, i3, i4⟩ := h.pieceL hl
  obtain ⟨v1, v2, v3⟩ := h.vl_between hl
  have a := Ok.kr h i2
  have b := Ok.kr h (i := byL t l - 1) (by omega)
  unfold Kr at a b
  have g3 := ref_rounded (k := k + 5) hN ((Vl_sz h hl).mono (n := 400) (by omega)) (by rw [f1]; exact sz2_of (by omega)) (by rw [f2]; exact sz2_of (by omega))
  rw [f1, f2] at g3
  rw [E_ref01_VolumeAt]
  simp only [g1, obind, asA_agg, nth_zero, nth_one, nth_two, nth_three, asI_int, asL_sl, g3]

/-! The base's own greatest common divisor, and lowest terms. -/
theorem Gcd_loop : ∀ (e n : Nat) (a b : Int), b.natAbs < 2 ^ e → 2 * e + 1 ≤ n → -9223372036854775807 ≤ a → a ≤ 9223372036854775807 → -9223372036854775807 ≤ b → b ≤ 9223372036854775807 → L_base_Gcd_1 N (k + 1) n a b = some (.int .i64 (Int.gcd a b : Int)) := by
  have done : ∀ (n : Nat) (a : Int), 1 ≤ n → -9223372036854775807 ≤ a → a ≤ 9223372036854775807 → L_base_Gcd_1 N (k + 1) n a 0 = some (.int .i64 (Int.gcd a 0 : Int)) := by
    intro n a hn h1 h2
    obtain ⟨n, rfl⟩ : ∃ m, n = m + 1 := ⟨n - 1, by omega⟩
    rw [L_base_Gcd_1_eq, cond_ndec, if_pos rfl, Size_spec ⟨h1, h2⟩]
    simp only [obind, asI_int, Int.gcd_zero_right]
  have step : ∀ (n : Nat) (a b : Int), b ≠ 0 → L_base_Gcd_1 N (k + 1) (n + 1) a b = L_base_Gcd_1 N (k + 1) n b (a.tmod b) := by
    intro n a b h0
    rw [L_base_Gcd_1_eq, cond_ndec, if_neg h0, cond_ndec, if_neg h0]
  have gcd_step : ∀ a b : Int, Int.gcd a b = Int.gcd b (a.tmod b) := by
    intro a b
    unfold Int.gcd
    rw [Int.natAbs_tmod, Nat.gcd_comm, Nat.gcd_rec, Nat.gcd_comm]
  intro e
  induction e with
  | zero =>
    intro n a b h1 h2 h3 h4 h5 h6
    have : b = 0 := by simp at h1; omega
    subst this
    exact done n a (by omega) h3 h4
  | succ e ih =>
    intro n a b h1 h2 h3 h4 h5 h6
    by_cases h0 : b = 0
    · subst h0; exact done n a (by omega) h3 h4
    · obtain ⟨n, rfl⟩ : ∃ m, n = m + 1 := ⟨n - 1, by omega⟩
      have t1 : (a.tmod b).natAbs = a.natAbs % b.natAbs := Int.natAbs_tmod _ _
      have hr : a.natAbs % b.natAbs < b.natAbs := Nat.mod_lt _ (by omega)
      rw [step n a b h0, gcd_step a b]
      by_cases h7 : a.tmod b = 0
      · rw [h7]; exact done n b (by omega) h5 h6
      · obtain ⟨n, rfl⟩ : ∃ m, n = m + 1 := ⟨n - 1, by omega⟩
        have hp : (2 : Nat) ^ (e + 1) = 2 * 2 ^ e := by rw [Nat.pow_succ]; omega
        have t2 : (b.tmod (a.tmod b)).natAbs = b.natAbs % (a.tmod b).natAbs := Int.natAbs_tmod _ _
        have h4' : b.natAbs % (a.tmod b).natAbs < (a.tmod b).natAbs := Nat.mod_lt _ (by omega)
        have h5' := Nat.div_add_mod b.natAbs (a.tmod b).natAbs
        have h6' : 1 ≤ b.natAbs / (a.tmod b).natAbs := (Nat.one_le_div_iff (by omega)).2 (by omega)
        have h7' : (a.tmod b).natAbs * 1 ≤ (a.tmod b).natAbs * (b.natAbs / (a.tmod b).natAbs) := Nat.mul_le_mul_left _ h6'
        rw [step n b (a.tmod b) h7, gcd_step b]
        exact ih n _ _ (by omega) (by omega) (by omega) (by omega) (by omega) (by omega)

theorem base_Gcd (hN : 1000000 ≤ N) {a b : Int} (ha : -9223372036854775807 ≤ a ∧ a ≤ 9223372036854775807) (hb : -9223372036854775807 ≤ b ∧ b ≤ 9223372036854775807) : ev (envF N) (k + 2) F_base_Gcd [.int .i64 a, .int .i64 b] = some (.int .i64 (Int.gcd a b : Int)) := by
  rw [E_base_Gcd]
  refine Gcd_loop 64 N a b ?_ (by omega) ha.1 ha.2 hb.1 hb.2
  have : (2 : Nat) ^ 64 = 18446744073709551616 := by decide
  omega

theorem base_Lowest (hN : 1000000 ≤ N) {a b : Int} (ha : 0 ≤ a ∧ a ≤ 1000000000000) (hb : 0 < b ∧ b ≤ 1000000000000) : ev (envF N) (k + 3) F_base_Lowest [.int .i64 a, .int .i64 b] = some (.agg [.int .i64 (a / (Int.gcd a b : Int)), .int .i64 (b / (Int.gcd a b : Int))]) := by
  have hg : 0 < Int.gcd a b := Int.gcd_pos_of_ne_zero_right _ (by omega)
  have c1 : ¬ (b < 0) := by omega
  have c2 : ¬ ((Int.gcd a b : Int) = 0) := by omega
  have t1 := tdiv_abs_le a (Int.gcd a b : Int)
  have t2 := tdiv_abs_le b (Int.gcd a b : Int)
  have e1 : w64 (a.tdiv (Int.gcd a b : Int)) = a / (Int.gcd a b : Int) := by
    rw [w64_id (by omega) (by omega), Int.tdiv_eq_ediv_of_nonneg ha.1]
  have e2 : w64 (b.tdiv (Int.gcd a b : Int)) = b / (Int.gcd a b : Int) := by
    rw [w64_id (by omega) (by omega), Int.tdiv_eq_ediv_of_nonneg (by omega)]
  rw [E_base_Lowest, base_Gcd hN (by omega) (by omega)]
  simp only [obind, asI_int, cond_dec, cond_ndec, c1, c2, if_false, e1, e2]

theorem ref_AreaAt (hN : 1000000 ≤ N) {t : Tab} (h : Ok t) {v : Int} (hv : IsV t v) : ev (envF N) (k + 4) F_ref01_AreaAt [vTab t, .int .i64 v] = some (.agg [.int .i64 (arN t v), .int .i64 (arD t v)]) := by
  obtain ⟨i1, i2, i3, i4⟩ := h.pieceV hv
  obtain ⟨p1, p2, p3, p4⟩ := Ok.hv_le h i1 i2
  have hten := h.ten
  have e1 : w64 (((byV t v : Nat) : Int) - 1) = ((byV t v - 1 : Nat) : Int) := by rw [w64_id] <;> omega
  have c0 : (0 : Int) ≤ ((byV t v : Nat) : Int) := by omega
  have c3 : ((byV t v : Nat) : Int) < (t.length : Int) := by omega
  have c1 : (0 : Int) ≤ ((byV t v - 1 : Nat) : Int) := by omega
  have c2 : ((byV t v - 1 : Nat) : Int) < (t.length : Int) := by omega
  have hV : (kn t (byV t v)).v - (kn t (byV t v - 1)).v = vol t (byV t v) := by unfold vol; rfl
  have hH : (kn t (byV t v)).l - (kn t (byV t v - 1)).l = hgt t (byV t v) := by unfold hgt; rfl
  have e2 : w64 ((kn t (byV t v)).v - (kn t (byV t v - 1)).v) = vol t (byV t v) := by rw [hV, w64_id] <;> omega
  have e3 : w64 ((kn t (byV t v)).l - (kn t (byV t v - 1)).l) = hgt t (byV t v) := by rw [hH, w64_id] <;> omega
  have g0 := ref_above (k := k + 2) hN h hv
  have g1 := base_Lowest (k := k) hN (a := vol t (byV t v)) (b := hgt t (byV t v)) (by omega) (by omega)
  rw [E_ref01_AreaAt]
  simp only [g0, obind, asI_int, e1, cond_dec, c0, c1, c2, c3, List.length_map, if_true, Int.toNat_natCast, leaf_cKl, leaf_cKv, e2, e3, g1, asA_agg, nth_zero, nth_one]
  rfl

theorem ref_evaporated (hN : 1000000 ≤ N) {t : Tab} (h : Ok t) {r v : Int} (h0 : 0 ≤ r) (h1 : r ≤ 1000) (hv : IsV t v) : ev (envF N) (k + 12) F_ref01_evaporated [vTab t, .int .i64 r, .int .i64 v] = some (.int .i64 (evap t r v)) := by
  obtain ⟨i1, i2, i3, i4⟩ := h.pieceV hv
  obtain ⟨p1, p2, p3, p4⟩ := Ok.hv_le h i1 i2
  have h2 := h.two
  have hten := h.ten
  have bb := Ok.lo_hi h
  have hv1 := hv.1
  have hv2 := hv.2
  have a := Ok.kr h i2
  have b := Ok.kr h (i := byV t v - 1) (by omega)
  have sa := ar_sz a b (by omega)
  have i64r : I64 r := by constructor <;> omega
  have s1 := szR_int i64r
  have s2 := szR_int (x := 1000) (by decide)
  have s3 := s1.mul sa
  have hne : ((1000 : Int) : Rat) ≠ 0 := by decide
  have s4 := s3.div (s2.mono (n := 6) (by omega)) hne
  have hq : (r : Rat) * ar t (byV t v) / ((1000 : Int) : Rat) = ((r * vol t (byV t v) : Int) : Rat) / ((1000 * hgt t (byV t v) : Int) : Rat) := by
    rw [ar_eq, mul_div_eq, div_div_eq', Rat.intCast_mul, Rat.intCast_mul]
  have hpos : 0 < 1000 * hgt t (byV t v) := by omega
  have m := mul_le_big (x := r) (y := vol t (byV t v)) (by omega) (by omega) (by omega) (by omega)
  have f1 : ((r : Rat) * ar t (byV t v) / ((1000 : Int) : Rat)).floor = r * vol t (byV t v) / (1000 * hgt t (byV t v)) := by rw [hq, floor_div hpos]
  have f2 : ((r : Rat) * ar t (byV t v) / ((1000 : Int) : Rat)).ceil = cdiv (r * vol t (byV t v)) (1000 * hgt t (byV t v)) := by rw [hq, ceil_div hpos]
  have b1 : 0 ≤ r * vol t (byV t v) / (1000 * hgt t (byV t v)) := Int.ediv_nonneg m.1 (by omega)
  have b2 : r * vol t (byV t v) / (1000 * hgt t (byV t v)) ≤ r * vol t (byV t v) := Int.ediv_le_self _ m.1
  have b3 := cdiv_eq (n := r * vol t (byV t v)) hpos
  have b4 := Int.emod_nonneg (r * vol t (byV t v)) (Int.ne_of_gt hpos)
  have hlo : lo t = (kn t 0).v := by unfold lo; rfl
  have hhi : hi t = (kn t (t.length - 1)).v := by unfold hi; rfl
  have e4 : w64 (v - (kn t 0).v) = v - lo t := by rw [w64_id] <;> omega
  have g0 := ref_above (k := k + 10) hN h hv
  have g1 := RatioInt_spec (k := k + 7) hN i64r
  have g2 := RatioInt_spec (k := k + 7) hN (n := 1000) (by decide)
  have g3 := ref_piece (k := k) hN (t := t) (i := byV t v) i1 i2 (by omega) a b (by omega)
  have g4 := RatioMul_spec (k := k + 1) hN (s1.mono (n := 400) (by omega)) (sa.mono (n := 400) (by omega))
  have g5 := RatioDiv_spec (k := k + 1) hN (s3.mono (n := 400) (by omega)) (s2.mono (n := 400) (by omega)) hne
  have g6 := ref_rounded (k := k + 4) hN (s4.mono (n := 400) (by omega)) (by rw [f1]; exact sz2_of (by omega)) (by rw [f2]; exact sz2_of (by omega))
  have g7 := ref_Bottom (N := N) (k := k + 10) (t := t) (by omega)
  rw [f1, f2] at g6
  rw [E_ref01_evaporated]
  simp only [g0, g1, g2, g3, obind, asI_int, asA_agg, nth_zero, nth_one, nth_two, nth_three, asL_sl, g4, g5, g6, g7, e4, imin_eq]
  rfl

theorem ref_Usable {p : Pair} (hp : POk p) {s : Vols} (hu : IsV p.u s.u) (hl : IsV p.l s.l) : ev (envF N) (k + 2) F_ref01_Usable [vPair p, vVols s] = some (vVols ⟨min (s.u - lo p.u) (hi p.l - s.l), min (s.l - lo p.l) (hi p.u - s.u)⟩) := by
  have c := Ok.lo_hi hp.u
  have d := Ok.lo_hi hp.l
  have t1 := hp.u.two
  have t2 := hp.l.two
  have t3 := hp.u.ten
  have t4 := hp.l.ten
  have hu1 : lo p.u ≤ s.u := hu.1
  have hl1 : lo p.l ≤ s.l := hl.1
  have hu2 : s.u ≤ hi p.u := hu.2
  have hl2 : s.l ≤ hi p.l := hl.2
  have u0 : (kn p.u 0).v = lo p.u := by unfold lo; rfl
  have u1 : (kn p.u (p.u.length - 1)).v = hi p.u := by unfold hi; rfl
  have l0 : (kn p.l 0).v = lo p.l := by unfold lo; rfl
  have l1 : (kn p.l (p.l.length - 1)).v = hi p.l := by unfold hi; rfl
  have g3 := ref_Bottom (N := N) (k := k) (t := p.u) (by omega)
  have g4 := ref_Bottom (N := N) (k := k) (t := p.l) (by omega)
  have g5 := ref_Top (N := N) (k := k) (t := p.u) (by omega) (by omega)
  have g6 := ref_Top (N := N) (k := k) (t := p.l) (by omega) (by omega)
  have e1 : w64 (s.u - lo p.u) = s.u - lo p.u := by rw [w64_id] <;> omega
  have e2 : w64 (s.l - lo p.l) = s.l - lo p.l := by rw [w64_id] <;> omega
  have e3 : w64 (hi p.u - s.u) = hi p.u - s.u := by rw [w64_id] <;> omega
  have e4 : w64 (hi p.l - s.l) = hi p.l - s.l := by rw [w64_id] <;> omega
  rw [E_ref01_Usable]
  simp only [g3, g4, g5, g6, obind, asA_agg, nth_one, asI_int, u0, u1, l0, l1, e1, e2, e3, e4, imin_eq]

/-- A step's results and whether it is possible. -/
def stepB : Option (Vols × Loss) → PV
  | some (s', x) => .tup [vVols s', vLoss x, .bool true]
  | none => .tup [vVols ⟨0, 0⟩, vLoss ⟨0, 0⟩, .bool false]

theorem ref_Step (hN : 1000000 ≤ N) {p : Pair} (h : POk p) {s : Vols} (hu : IsV p.u s.u) (hl : IsV p.l s.l) {f : Flow} (hf : FlowIn f) : ev (envF N) (k + 13) F_ref01_Step [vPair p, vVols s, vFlow f] = some (stepB (step p s f)) := by
  have a := evap_bounds h.u h.r0 hu
  have b := evap_bounds h.l h.r0 hl
  have c := Ok.lo_hi h.u
  have d := Ok.lo_hi h.l
  have hu2 : s.u ≤ hi p.u := hu.2
  have hl2 : s.l ≤ hi p.l := hl.2
  have t1 := h.u.two
  have t2 := h.l.two
  have t3 := h.u.ten
  have t4 := h.l.ten
  have u0 : (kn p.u 0).v = lo p.u := by unfold lo; rfl
  have u1 : (kn p.u (p.u.length - 1)).v = hi p.u := by unfold hi; rfl
  have l0 : (kn p.l 0).v = lo p.l := by unfold lo; rfl
  have l1 : (kn p.l (p.l.length - 1)).v = hi p.l := by unfold hi; rfl
  have g1 := ref_evaporated (k := k) hN h.u h.r0 h.r1 hu
  have g2 := ref_evaporated (k := k) hN h.l h.r0 h.r1 hl
  have g3 := ref_Bottom (N := N) (k := k + 11) (t := p.u) (by omega)
  have g4 := ref_Bottom (N := N) (k := k + 11) (t := p.l) (by omega)
  have g5 := ref_Top (N := N) (k := k + 11) (t := p.u) (by omega) (by omega)
  have g6 := ref_Top (N := N) (k := k + 11) (t := p.l) (by omega) (by omega)
  obtain ⟨A, hA⟩ : ∃ A, evap p.u p.r s.u = A := ⟨_, rfl⟩
  obtain ⟨B, hB⟩ : ∃ B, evap p.l p.r s.l = B := ⟨_, rfl⟩
  rw [hA] at a g1
  rw [hB] at b g2
  unfold FlowIn at hf
  have eu : w64 (w64 (w64 (s.u - A) + f.a) + f.x) = s.u - A + f.a + f.x := by
    rw [w64_id (x := s.u - A) (by omega) (by omega), w64_id (x := s.u - A + f.a) (by omega) (by omega), w64_id (by omega) (by omega)]
  have el : w64 (w64 (w64 (s.l - B) + f.b) - f.x) = s.l - B + f.b - f.x := by
    rw [w64_id (x := s.l - B) (by omega) (by omega), w64_id (x := s.l - B + f.b) (by omega) (by omega), w64_id (by omega) (by omega)]
  have eab : w64 (A + B) = A + B := by rw [w64_id] <;> omega
  rw [E_ref01_Step]
  simp only [g1, g2, g3, g4, g5, g6, obind, asA_agg, nth_zero, nth_one, asI_int, eu, el, eab, u0, u1, l0, l1, imax_eq, cond_dec]
  unfold step
  simp only [hA, hB]
  obtain ⟨U, hU⟩ : ∃ U, s.u - A + f.a + f.x = U := ⟨_, rfl⟩
  obtain ⟨L, hL⟩ : ∃ L, s.l - B + f.b - f.x = L := ⟨_, rfl⟩
  simp only [hU, hL]
  have e1 : w64 (U - hi p.u) = U - hi p.u := by rw [w64_id] <;> omega
  have e2 : w64 (L - hi p.l) = L - hi p.l := by rw [w64_id] <;> omega
  have e3 : w64 (U - max 0 (U - hi p.u)) = U - max 0 (U - hi p.u) := by rw [w64_id] <;> omega
  have e4 : w64 (L - max 0 (L - hi p.l)) = L - max 0 (L - hi p.l) := by rw [w64_id] <;> omega
  have e6 : w64 (max 0 (U - hi p.u) + max 0 (L - hi p.l)) = max 0 (U - hi p.u) + max 0 (L - hi p.l) := by rw [w64_id] <;> omega
  simp only [e1, e2, e3, e4, e6]
  by_cases h1 : U < lo p.u
  · rw [if_pos h1, if_pos (Or.inl h1), stepB]
  · by_cases h2 : L < lo p.l
    · rw [if_neg h1, if_pos h2, if_pos (Or.inr h2), stepB]
    · rw [if_neg h1, if_neg h2, if_neg (by omega), stepB]

end
end Go.PewTab

namespace Go.PewTab
set_option linter.unusedSimpArgs false
set_option linter.unusedVariables false
open Go.Pew Go.Num

/-- The states of a run as far as its steps are possible, what is lost, and whether all are possible. -/
structure RunR where
  ss : List Vols
  y : Loss
  ok : Bool
def runG (p : Pair) : Vols → List Flow → RunR
  | _, [] => ⟨[], ⟨0, 0⟩, true⟩
  | s, f :: fs => match step p s f with
    | none => ⟨[], ⟨0, 0⟩, false⟩
    | some (s', x) => ⟨s' :: (runG p s' fs).ss, ⟨x.e + (runG p s' fs).y.e, x.s + (runG p s' fs).y.s⟩, (runG p s' fs).ok⟩

def FlowsIn (l : List Flow) : Prop := ∀ f ∈ l, FlowIn f
def allOk (l : List Flow) : Bool := l.all fun f => decide (fErr f = 0)
def lErr (l : List Flow) : Int := if 200 < l.length then 8 else if allOk l = true then 0 else 2

theorem lErr_zero {l : List Flow} (h : lErr l = 0) : l.length ≤ 200 ∧ FlowsIn l := by
  unfold lErr at h
  split at h
  · simp at h
  · split at h
    · rename_i h1 h2
      refine ⟨by omega, fun f hf => flowIn_of ?_⟩
      unfold allOk at h2
      simpa using List.all_eq_true.1 h2 f hf
    · simp at h

def Valid (p : Pair) (s : Vols) : Prop := IsV p.u s.u ∧ IsV p.l s.l

theorem run_len (p : Pair) : ∀ (l : List Flow) (s : Vols), (runG p s l).ok = true → (runG p s l).ss.length = l.length
  | [], s, _ => rfl
  | f :: fs, s, h => by
    unfold runG at h ⊢
    split at h <;> rename_i hs
    · cases h
    · simp only [List.length_cons]
      rw [run_len p fs _ h]

theorem run_ok {p : Pair} (hp : POk p) : ∀ (l : List Flow) (s : Vols), Valid p s → FlowsIn l → (∀ t ∈ (runG p s l).ss, Valid p t) ∧ 0 ≤ (runG p s l).y.e ∧ (runG p s l).y.e ≤ 2000000000 * l.length ∧ 0 ≤ (runG p s l).y.s ∧ (runG p s l).y.s ≤ 2000000000 * l.length
  | [], s, _, _ => by simp [runG]
  | f :: fs, s, hs, hf => by
    unfold runG
    split
    · refine ⟨(fun t ht => by cases ht), ?_⟩
      simp only
      omega
    · rename_i s' x hst
      obtain ⟨a1, a2, a3, a4, a5, a6, _⟩ := step_ok hp hs.1 hs.2 hst (hf f (List.mem_cons_self ..))
      obtain ⟨b1, b2, b3, b4, b5⟩ := run_ok hp fs s' ⟨a1, a2⟩ fun g hg => hf g (List.mem_cons_of_mem _ hg)
      refine ⟨fun t ht => ?_, ?_⟩
      · rcases List.mem_cons.1 ht with rfl | ht
        · exact ⟨a1, a2⟩
        · exact b1 t ht
      · simp only [List.length_cons]
        omega

theorem run_none {p : Pair} {s : Vols} {f : Flow} (fs : List Flow) (h : step p s f = none) : runG p s (f :: fs) = ⟨[], ⟨0, 0⟩, false⟩ := by
  conv => lhs; unfold runG
  rw [h]
theorem run_some {p : Pair} {s s' : Vols} {x : Loss} {f : Flow} (fs : List Flow) (h : step p s f = some (s', x)) : runG p s (f :: fs) = ⟨s' :: (runG p s' fs).ss, ⟨x.e + (runG p s' fs).y.e, x.s + (runG p s' fs).y.s⟩, (runG p s' fs).ok⟩ := by
  conv => lhs; unfold runG
  rw [h]

/-- A run in two parts. -/
theorem run_append {p : Pair} : ∀ (a b : List Flow) (s : Vols), (runG p s (a ++ b)).ok = true →
    (runG p s a).ok = true ∧ (runG p ((runG p s a).ss.getLastD s) b).ok = true ∧ (runG p s (a ++ b)).ss = (runG p s a).ss ++ (runG p ((runG p s a).ss.getLastD s) b).ss ∧
      (runG p s (a ++ b)).y.e = (runG p s a).y.e + (runG p ((runG p s a).ss.getLastD s) b).y.e ∧ (runG p s (a ++ b)).y.s = (runG p s a).y.s + (runG p ((runG p s a).ss.getLastD s) b).y.s
  | [], b, s, h => by simpa [runG] using h
  | f :: fs, b, s, h => by
    rw [List.cons_append] at h ⊢
    cases hst : step p s f with
    | none => rw [run_none _ hst] at h; cases h
    | some r =>
      obtain ⟨s', x⟩ := r
      rw [run_some _ hst] at h
      obtain ⟨c1, c2, c3, c4, c5⟩ := run_append fs b s' h
      have hl : (s' :: (runG p s' fs).ss).getLastD s = (runG p s' fs).ss.getLastD s' := by
        cases (runG p s' fs).ss <;> simp [List.getLastD]
      rw [run_some fs hst, run_some (fs ++ b) hst]
      simp only [hl]
      refine ⟨c1, c2, by rw [c3]; rfl, by omega, by omega⟩

abbrev vStates (l : List Vols) : PV := .sl none [.int .i64, .int .i64] (l.map cV)
abbrev vFlows (l : List Flow) : PV := .sl none [.int .i64, .int .i64, .int .i64] (l.map cF)

theorem flo_drop (l : List Flow) (i : Nat) (h : i < l.length) : l.drop i = flo l i :: l.drop (i + 1) := by
  rw [List.drop_eq_getElem_cons h]
  congr 1
  unfold flo
  rw [List.getD_eq_getElem?_getD, List.getElem?_eq_getElem h, Option.getD_some]
theorem flo_mem (l : List Flow) (i : Nat) (h : i < l.length) : flo l i ∈ l := by
  unfold flo
  rw [List.getD_eq_getElem?_getD, List.getElem?_eq_getElem h, Option.getD_some]
  exact List.getElem_mem h

theorem fErr_cases (f : Flow) : fErr f = 0 ∨ fErr f = 2 := by unfold fErr; split <;> simp

section
variable {N k : Nat}

theorem lake_ticksErr_loop (l : List Flow) (hl : l.length ≤ 200) : ∀ (d n i : Nat), i + d = l.length → d < n →
    L_lake_ticksErr_4 N (k + 3) n (l.map cF) (l.length : Int) (i : Int) = some (.int .i64 (if allOk (l.drop i) = true then 0 else 2))
  | 0, n + 1, i, h, hn => by
    rw [L_lake_ticksErr_4_eq, cond_dec, if_neg (by omega), List.drop_eq_nil_of_le (by omega)]
    rfl
  | d + 1, n + 1, i, h, hn => by
    have c1 : (i : Int) < (l.length : Int) := by omega
    have c2 : (0 : Int) ≤ (i : Int) := by omega
    have e1 : w64 ((i : Int) + 1) = ((i + 1 : Nat) : Int) := by rw [w64_id] <;> omega
    have g := lake_flowsErr (N := N) (k := k) (flo l i)
    have ih := lake_ticksErr_loop l hl d n (i + 1) (by omega) (by omega)
    rw [L_lake_ticksErr_4_eq, flo_drop l i (by omega)]
    simp only [cond_dec, cond_ndec, c1, c2, List.length_map, if_true, Int.toNat_natCast, leaf_cF0, leaf_cF1, leaf_cF2, g, obind, asI_int, e1, ih]
    unfold allOk
    rw [List.all_cons]
    rcases fErr_cases (flo l i) with h0 | h0
    · simp [h0]
    · simp [h0]

theorem lake_ticksErr (hN : 1000000 ≤ N) (l : List Flow) : ev (envF N) (k + 4) F_lake_ticksErr [vFlows l] = some (.int .i64 (lErr l)) := by
  rw [E_lake_ticksErr, cond_dec, List.length_map]
  unfold lErr
  by_cases h : 200 < l.length
  · rw [if_pos (by omega), if_pos h]
  · have := lake_ticksErr_loop (N := N) (k := k) l (by omega) l.length N 0 (by omega) (by omega)
    rw [List.drop_zero] at this
    rw [if_neg (by omega), if_neg h]
    exact this

theorem ref_ListErr_loop (l : List Flow) (hl : l.length ≤ 200) : ∀ (d n i : Nat), i + d = l.length → d < n →
    L_ref01_ListErr_4 N (k + 2) n (l.map cF) (i : Int) = some (.int .i64 (if allOk (l.drop i) = true then 0 else 2))
  | 0, n + 1, i, h, hn => by
    rw [L_ref01_ListErr_4_eq, cond_dec, List.length_map, if_neg (by omega), List.drop_eq_nil_of_le (by omega)]
    rfl
  | d + 1, n + 1, i, h, hn => by
    have c1 : (i : Int) < (l.length : Int) := by omega
    have c2 : (0 : Int) ≤ (i : Int) := by omega
    have e1 : w64 ((i : Int) + 1) = ((i + 1 : Nat) : Int) := by rw [w64_id] <;> omega
    have g := ref_FlowsErr (N := N) (k := k) (flo l i)
    have ih := ref_ListErr_loop l hl d n (i + 1) (by omega) (by omega)
    rw [L_ref01_ListErr_4_eq, flo_drop l i (by omega)]
    simp only [cond_dec, cond_ndec, c1, c2, List.length_map, if_true, Int.toNat_natCast, leaf_cF0, leaf_cF1, leaf_cF2, g, obind, asI_int, e1, ih]
    unfold allOk
    rw [List.all_cons]
    rcases fErr_cases (flo l i) with h0 | h0
    · simp [h0]
    · simp [h0]

theorem ref_ListErr (hN : 1000000 ≤ N) (l : List Flow) : ev (envF N) (k + 3) F_ref01_ListErr [vFlows l] = some (.int .i64 (lErr l)) := by
  rw [E_ref01_ListErr, cond_dec, List.length_map]
  unfold lErr
  by_cases h : 200 < l.length
  · rw [if_pos (by omega), if_pos h]
  · have := ref_ListErr_loop (N := N) (k := k) l (by omega) l.length N 0 (by omega) (by omega)
    rw [List.drop_zero] at this
    rw [if_neg (by omega), if_neg h]
    exact this

theorem room_row (xs : List (List PV)) (y : List PV) (b : Nat) (h : xs.length ≤ 100000) (hb : b ≤ 1000) : room xs [y] b = true := by
  unfold room
  rw [decide_eq_true_eq]
  simp only [List.length_cons, List.length_nil, Nat.zero_add]
  have : (xs.length + 1) * b ≤ 100001 * 1000 := Nat.mul_le_mul (by omega) hb
  omega

/-- The results of a run. -/
def runE (out : List Vols) (e s : Int) (r : RunR) : PV :=
  if r.ok = true then .tup [vStates (out ++ r.ss), vLoss ⟨e + r.y.e, s + r.y.s⟩, .int .i64 0] else .tup [vStates [], vLoss ⟨0, 0⟩, .int .i64 22]

theorem lake_RunOf_loop (hN : 1000000 ≤ N) {p : Pair} (hp : POk p) (l : List Flow) (hf : FlowsIn l) (hl : l.length ≤ 200) (y4 y5 : List (List PV)) (y6 y9 y10 : Int) : ∀ (d n i : Nat) (out : List Vols) (s : Vols) (e x : Int), i + d = l.length → d < n → Valid p s → out.length = i → 0 ≤ e → e ≤ 2000000000 * i → 0 ≤ x → x ≤ 2000000000 * i →
    L_lake_RunOf_8 N (k + 6) n (out.map cV) (l.map cF) (l.length : Int) (i : Int) y4 y5 y6 s.u s.l y9 y10 (p.u.map cK) (p.l.map cK) p.r e x = some (runE out e x (runG p s (l.drop i)))
  | 0, n + 1, i, out, s, e, x, h, hn, hs, ho, e0, e1, x0, x1 => by
    rw [L_lake_RunOf_8_eq, cond_dec, if_neg (by omega), List.drop_eq_nil_of_le (by omega)]
    simp [runE, runG]
  | d + 1, n + 1, i, out, s, e, x, h, hn, hs, ho, e0, e1, x0, x1 => by
    have c1 : (i : Int) < (l.length : Int) := by omega
    have c2 : (0 : Int) ≤ (i : Int) := by omega
    have ei : w64 ((i : Int) + 1) = ((i + 1 : Nat) : Int) := by rw [w64_id] <;> omega
    have hfi := hf _ (flo_mem l i (by omega))
    have g := lake_step (k := k) hN hp hs.1 hs.2 hfi
    rw [L_lake_RunOf_8_eq, flo_drop l i (by omega)]
    simp only [cond_dec, c1, c2, List.length_map, if_true, Int.toNat_natCast, leaf_cF0, leaf_cF1, leaf_cF2, g, obind, runG]
    cases hst : step p s (flo l i) with
    | none =>
      simp only [asT_tup, nth_two, asB_bool, Bool.not_false, cond_t]
      rfl
    | some r =>
      obtain ⟨s', z⟩ := r
      obtain ⟨a1, a2, a3, a4, a5, a6, _⟩ := step_ok hp hs.1 hs.2 hst hfi
      have w1 : w64 (e + z.e) = e + z.e := by rw [w64_id] <;> omega
      have w2 : w64 (x + z.s) = x + z.s := by rw [w64_id] <;> omega
      have hr : room (out.map cV) [[PV.int .i64 s'.u, PV.int .i64 s'.l]] 16 = true := room_row _ _ _ (by rw [List.length_map]; omega) (by decide)
      have eo : out.map cV ++ [[PV.int .i64 s'.u, PV.int .i64 s'.l]] = (out ++ [s']).map cV := by rw [List.map_append]; rfl
      simp only [asT_tup, asA_agg, nth_zero, nth_one, nth_two, asI_int, asB_bool, Bool.not_true, cond_f, hr, cond_t, eo, ei, w1, w2]
      rw [lake_RunOf_loop hN hp l hf hl y4 y5 y6 y9 y10 d n (i + 1) (out ++ [s']) s' (e + z.e) (x + z.s) (by omega) (by omega) ⟨a1, a2⟩ (by simp; omega) (by omega) (by omega) (by omega) (by omega)]
      unfold runE
      simp only [List.append_assoc, List.singleton_append, Int.add_assoc]

/-- The results of a run, or its error. -/
def runR (p : Pair) (s : Vols) (l : List Flow) : PV :=
  if bErr p s ≠ 0 then .tup [vStates [], vLoss ⟨0, 0⟩, .int .i64 (bErr p s)]
  else if lErr l ≠ 0 then .tup [vStates [], vLoss ⟨0, 0⟩, .int .i64 (lErr l)]
  else runE [] 0 0 (runG p s l)

theorem lake_RunOf (hN : 1000000 ≤ N) (p : Pair) (s : Vols) (l : List Flow) : ev (envF N) (k + 8) F_lake_RunOf [vPair p, vVols s, vFlows l] = some (runR p s l) := by
  have g := lake_ticksErr (k := k + 3) hN l
  rw [E_lake_RunOf, lake_openState hN, g]
  simp only [obind, asT_tup, nth_zero, nth_one, nth_two, asA_agg, asI_int, asL_sl, lake_first2 hN, cond_ndec]
  unfold runR
  by_cases h : bErr p s = 0
  · rw [if_pos h, if_neg (show ¬ (bErr p s ≠ 0) by omega)]
    by_cases h2 : lErr l = 0
    · rw [if_pos h2, if_neg (show ¬ (lErr l ≠ 0) by omega), List.length_map]
      obtain ⟨hp, hu, hl⟩ := bErr_zero h
      obtain ⟨h3, h4⟩ := lErr_zero h2
      have := lake_RunOf_loop (k := k + 1) hN hp l h4 h3 (p.u.map cK) (p.l.map cK) p.r 0 0 l.length N 0 [] s 0 0 (by omega) (by omega) ⟨hu, hl⟩ rfl (by omega) (by omega) (by omega) (by omega)
      rw [List.drop_zero] at this
      exact this
    · rw [if_neg h2, if_pos h2]
      rfl
  · rw [if_neg h, if_neg h, if_pos h]
    rfl

/-- The reference's results of a run. -/
def runF (out : List Vols) (e s : Int) (r : RunR) : PV := .tup [vStates (out ++ r.ss), vLoss ⟨e + r.y.e, s + r.y.s⟩, .bool r.ok]

theorem ref_RunOf_loop (hN : 1000000 ≤ N) {p : Pair} (hp : POk p) (l : List Flow) (hf : FlowsIn l) (hl : l.length ≤ 200) (y8 y9 : Int) : ∀ (d n i : Nat) (out : List Vols) (s : Vols) (e x : Int), i + d = l.length → d < n → Valid p s → out.length = i → 0 ≤ e → e ≤ 2000000000 * i → 0 ≤ x → x ≤ 2000000000 * i →
    L_ref01_RunOf_4 N (k + 13) n (l.map cF) (out.map cV) (i : Int) (p.u.map cK) (p.l.map cK) p.r s.u s.l y8 y9 e x = some (runF out e x (runG p s (l.drop i)))
  | 0, n + 1, i, out, s, e, x, h, hn, hs, ho, e0, e1, x0, x1 => by
    rw [L_ref01_RunOf_4_eq, cond_dec, List.length_map, if_neg (by omega), List.drop_eq_nil_of_le (by omega)]
    simp [runF, runG]
  | d + 1, n + 1, i, out, s, e, x, h, hn, hs, ho, e0, e1, x0, x1 => by
    have c1 : (i : Int) < (l.length : Int) := by omega
    have c2 : (0 : Int) ≤ (i : Int) := by omega
    have ei : w64 ((i : Int) + 1) = ((i + 1 : Nat) : Int) := by rw [w64_id] <;> omega
    have hfi := hf _ (flo_mem l i (by omega))
    have g := ref_Step (k := k) hN hp hs.1 hs.2 hfi
    rw [L_ref01_RunOf_4_eq, flo_drop l i (by omega)]
    simp only [cond_dec, c1, c2, List.length_map, if_true, Int.toNat_natCast, leaf_cF0, leaf_cF1, leaf_cF2, g, obind, runG]
    cases hst : step p s (flo l i) with
    | none =>
      simp only [stepB, asT_tup, nth_two, asB_bool, Bool.not_false, cond_t]
      simp [runF]
    | some r =>
      obtain ⟨s', z⟩ := r
      obtain ⟨a1, a2, a3, a4, a5, a6, _⟩ := step_ok hp hs.1 hs.2 hst hfi
      have w1 : w64 (e + z.e) = e + z.e := by rw [w64_id] <;> omega
      have w2 : w64 (x + z.s) = x + z.s := by rw [w64_id] <;> omega
      have hr : room (out.map cV) [[PV.int .i64 s'.u, PV.int .i64 s'.l]] 16 = true := room_row _ _ _ (by rw [List.length_map]; omega) (by decide)
      have eo : out.map cV ++ [[PV.int .i64 s'.u, PV.int .i64 s'.l]] = (out ++ [s']).map cV := by rw [List.map_append]; rfl
      simp only [stepB, asT_tup, asA_agg, nth_zero, nth_one, nth_two, asI_int, asB_bool, Bool.not_true, cond_f, hr, cond_t, eo, ei, w1, w2]
      rw [ref_RunOf_loop hN hp l hf hl y8 y9 d n (i + 1) (out ++ [s']) s' (e + z.e) (x + z.s) (by omega) (by omega) ⟨a1, a2⟩ (by simp; omega) (by omega) (by omega) (by omega) (by omega)]
      unfold runF
      simp only [List.append_assoc, List.singleton_append, Int.add_assoc]

theorem ref_RunOf (hN : 1000000 ≤ N) {p : Pair} (hp : POk p) {s : Vols} (hs : Valid p s) {l : List Flow} (hf : FlowsIn l) (hl : l.length ≤ 200) : ev (envF N) (k + 14) F_ref01_RunOf [vPair p, vVols s, vFlows l] = some (.tup [vStates (runG p s l).ss, vLoss (runG p s l).y, .bool (runG p s l).ok]) := by
  rw [E_ref01_RunOf]
  have := ref_RunOf_loop (k := k) hN hp l hf hl 0 0 l.length N 0 [] s 0 0 (by omega) (by omega) hs rfl (by omega) (by omega) (by omega) (by omega)
  rw [List.drop_zero] at this
  refine this.trans ?_
  simp [runF]

theorem ref_Same_loop (l : List Vols) (hl : l.length ≤ 100000) : ∀ (d n i : Nat), i + d = l.length → d < n → L_ref01_SameStates_4 N k n (l.map cV) (l.map cV) (i : Int) = some (.bool true)
  | 0, n + 1, i, h, hn => by
    rw [L_ref01_SameStates_4_eq, cond_dec, List.length_map, if_neg (by omega)]
  | d + 1, n + 1, i, h, hn => by
    have c1 : (i : Int) < (l.length : Int) := by omega
    have c2 : (0 : Int) ≤ (i : Int) := by omega
    have ei : w64 ((i : Int) + 1) = ((i + 1 : Nat) : Int) := by rw [w64_id] <;> omega
    rw [L_ref01_SameStates_4_eq]
    simp only [cond_dec, c1, c2, List.length_map, if_true, Int.toNat_natCast, leaf_cV0, leaf_cV1, decide_true, Bool.and_self, Bool.not_true, cond_f, ei]
    exact ref_Same_loop l hl d n (i + 1) (by omega) (by omega)

theorem ref_SameStates (hN : 1000000 ≤ N) (l : List Vols) (hl : l.length ≤ 100000) : ev (envF N) (k + 1) F_ref01_SameStates [vStates l, vStates l] = some (.bool true) := by
  rw [E_ref01_SameStates, cond_ndec, if_pos rfl]
  exact ref_Same_loop l hl l.length N 0 (by omega) (by omega)

theorem law_short {n : Nat} : ev (envF N) (k + 1) F_law01_short [.int .i64 (n : Int)] = some (.bool (decide (n ≤ 24 ∨ (200 < n ∧ n ≤ 202)))) := by
  rw [E_law01_short, cond_dec, cond_dec]
  by_cases h : n ≤ 24
  · rw [if_pos (by omega), decide_eq_true (Or.inl h)]
  · rw [if_neg (by omega)]
    by_cases h2 : 200 < n
    · rw [if_pos (by omega)]
      congr 2
      rw [decide_eq_decide]
      omega
    · rw [if_neg (by omega), decide_eq_false (by omega)]

end
end Go.PewTab
