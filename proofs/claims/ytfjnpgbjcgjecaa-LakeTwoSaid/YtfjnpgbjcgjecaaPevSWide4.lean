/- WHOLE NUMBERS OF ANY SIZE: quotients, greatest common divisors. -/
import Derived.Test.YtfjnpgbjcgjecaaPevSWide3
namespace Go.PevTab
open Go.Pev Go.Num

section
variable {N k : Nat}

theorem wideOf_one (hN : 1000000 ≤ N) {D : Nat} (hD : 0 < D) (hl : (digs D).length ≤ 10000) : ev (envF N) (k + 2) F_base_wideOf [.int .i64 1, vD (digs D)] = some (vW (D : Int)) := by
  rw [wideOf_spec hN (dig_digs D) hl, val_digs]
  refine congrArg some (vW_of (by simp) ?_)
  rw [Int.sign_eq_one_of_pos (by omega), if_neg (by omega)]

theorem tdiv2_nat (s : Nat) : Int.tdiv (s : Int) 2 = ((s / 2 : Nat) : Int) := rfl

theorem WideFloor_inner (hN : 1000000 ≤ N) {D left : Nat} (hD : 0 < D) (hDs : Sz 900 (D : Int)) (hls : Sz 902 (left : Int)) (n5 j : Nat) (x4 : Int) (x5 : List (List PV)) (x6 : Int) (x8 : Int) (x9 : List (List PV)) (q : List Nat) (hj : j < q.length) (hq : q.length ≤ 1000) :
    ∀ (e n lo hi : Nat), lo ≤ hi → hi < 1000000000 → D * lo ≤ left → left < D * (hi + 1) → hi - lo < 2 ^ e → e < n →
    L_base_WideFloor_9 N (k + 3) n n5 ((digs left).map cD) (j : Int) (lo : Int) (hi : Int) x4 x5 x6 ((digs D).map cD) x8 x9 (q.map cD) = L_base_WideFloor_5 N (k + 3) n5 ((digs (left % D)).map cD) ((j : Int) - 1) x4 x5 x6 ((digs D).map cD) x8 x9 ((q.set j (left / D)).map cD)
  | e, n + 1, lo, hi, h1, h2, h3, h4, h5, h6 => by
    have lD : (digs D).length ≤ 900 := by have := hDs.len; simpa using this
    have ll : (digs left).length ≤ 902 := by have := hls.len; simpa using this
    rw [L_base_WideFloor_9_eq]
    by_cases hlt : lo < hi
    · obtain ⟨e, rfl⟩ : ∃ m, e = m + 1 := ⟨e - 1, by
        cases e with
        | zero => simp at h5; omega
        | succ e => rfl⟩
      obtain ⟨m, hm⟩ : ∃ m, (lo + hi + 1) / 2 = m := ⟨_, rfl⟩
      have e1 : w64 ((lo : Int) + (hi : Int)) = ((lo + hi : Nat) : Int) := by rw [w64_id] <;> omega
      have e2 : w64 (((lo + hi : Nat) : Int) + 1) = ((lo + hi + 1 : Nat) : Int) := by rw [w64_id] <;> omega
      have e3 : w64 ((m : Nat) : Int) = (m : Int) := by rw [w64_id] <;> omega
      have e4 : w64 ((m : Int) - 1) = ((m - 1 : Nat) : Int) := by rw [w64_id] <;> omega
      have c1 : (lo : Int) < (hi : Int) := by omega
      have hms : Sz 3 (m : Int) := sz_int (by omega)
      have hmul := WideMul_spec (k := k) hN (hDs.mono (n := 2000) (by omega)) (hms.mono (n := 2000) (by omega))
      have lm : (digs (D * m)).length ≤ 903 := by
        have := (hDs.mul hms).len
        rwa [Int.natAbs_mul] at this
      simp only [cond_dec, c1, if_true, wideOf_one (k := k + 1) hN hD (show (digs D).length ≤ 10000 by omega), e1, e2, tdiv2_nat, hm, e3, WideOf_spec (k := k) hN (show I64 (m : Int) by constructor <;> omega), obind, hmul, asA_agg, nth_zero, nth_one, asI_int, asL_sl]
      have hc := cmpDigits_spec (k := k + 2) hN (D * m) left (by omega) (by omega)
      rw [show ((D : Int) * (m : Int)).natAbs = D * m by rw [Int.natAbs_mul]; rfl, hc]
      simp only [obind, asI_int, e4]
      have hp : (2 : Nat) ^ (e + 1) = 2 * 2 ^ e := by rw [Nat.pow_succ]; omega
      by_cases hle : D * m ≤ left
      · rw [if_pos (by split <;> first | omega | (split <;> omega))]
        exact WideFloor_inner hN hD hDs hls n5 j x4 x5 x6 x8 x9 q hj hq e n m hi (by omega) h2 hle h4 (by omega) (by omega)
      · rw [if_neg (by rw [if_neg (by omega), if_pos (by omega)]; decide)]
        refine WideFloor_inner hN hD hDs hls n5 j x4 x5 x6 x8 x9 q hj hq e n lo (m - 1) (by omega) (by omega) h3 ?_ (by omega) (by omega)
        rw [show m - 1 + 1 = m by omega]
        omega
    · have hh : hi = lo := by omega
      subst hh
      have hq' : left / D = hi := by
        rw [Nat.div_eq_iff hD]
        rw [Nat.mul_add, Nat.mul_one] at h4
        rw [Nat.mul_comm hi]
        omega
      have hr : left - D * hi = left % D := by
        have := Nat.div_add_mod left D
        rw [hq'] at this
        omega
      have hms : Sz 3 (hi : Int) := sz_int (by omega)
      have hmul := WideMul_spec (k := k) hN (hDs.mono (n := 2000) (by omega)) (hms.mono (n := 2000) (by omega))
      have lm : (digs (D * hi)).length ≤ 903 := by
        have := (hDs.mul hms).len
        rwa [Int.natAbs_mul] at this
      have c1 : ¬ ((hi : Int) < (hi : Int)) := by omega
      have c2 : (0 : Int) ≤ (j : Int) := by omega
      have c3 : (j : Int) < (q.length : Int) := by omega
      have e1 : w64 ((j : Int) - 1) = (j : Int) - 1 := by rw [w64_id] <;> omega
      simp only [cond_dec, c1, c2, c3, if_true, if_false, List.length_map, wideOf_one (k := k + 1) hN hD (show (digs D).length ≤ 10000 by omega), WideOf_spec (k := k) hN (show I64 (hi : Int) by constructor <;> omega), obind, hmul, asA_agg, nth_zero, nth_one, asI_int, asL_sl, e1, Int.toNat_natCast]
      have hsub := subDigits_spec (k := k + 1) hN h3 (show (digs left).length ≤ 5000 by omega) (show (digs (D * hi)).length ≤ 5000 by omega)
      rw [show ((D : Int) * (hi : Int)).natAbs = D * hi by rw [Int.natAbs_mul]; rfl, hsub]
      simp only [obind, asL_sl, hr, set_cD q j hi hj, hq']

/-- The last lines: the quotient's sign, and rounding down. -/
theorem floor_eq {y : Int} {D : Nat} (hD : 0 < D) : y / (D : Int) = if y < 0 ∧ y.natAbs % D ≠ 0 then y.sign * ((y.natAbs / D : Nat) : Int) - 1 else y.sign * ((y.natAbs / D : Nat) : Int) := by
  have h1 := Nat.div_add_mod y.natAbs D
  have h2 := Nat.mod_lt y.natAbs hD
  rcases Int.lt_or_le y 0 with h | h
  · rw [Int.sign_eq_neg_one_of_neg h]
    have hy : y = -(y.natAbs : Int) := by omega
    obtain ⟨Q, hQ⟩ : ∃ Q, y.natAbs / D = Q := ⟨_, rfl⟩
    obtain ⟨R, hR⟩ : ∃ R, y.natAbs % D = R := ⟨_, rfl⟩
    rw [hQ, hR] at h1
    rw [hR] at h2
    rw [hQ, hR]
    have h3 : ((D * Q : Nat) : Int) = (D : Int) * (Q : Int) := Int.natCast_mul _ _
    by_cases h0 : R = 0
    · rw [if_neg (by omega)]
      have : y = (-(Q : Int)) * (D : Int) := by rw [Int.neg_mul, Int.mul_comm]; omega
      rw [this, Int.mul_ediv_cancel _ (by omega)]
      omega
    · rw [if_pos ⟨h, h0⟩]
      have e : y = ((D : Int) - R) + (-(Q : Int) - 1) * (D : Int) := by rw [Int.sub_mul, Int.neg_mul, Int.one_mul, Int.mul_comm]; omega
      rw [e, Int.add_mul_ediv_right _ _ (by omega), Int.ediv_eq_zero_of_lt (by omega) (by omega)]
      omega
  · rw [if_neg (by omega)]
    by_cases h0 : y = 0
    · subst h0; simp
    · rw [Int.sign_eq_one_of_pos (by omega), Int.one_mul, Int.natCast_ediv]
      congr 1
      omega

theorem sz_nat {m n : Nat} (h : Sz m (n : Int)) : n < 1000000000 ^ m := h
theorem sz_next {m left : Nat} (h : left < 1000000000 ^ m) : Sz (m + 1) ((1000000000 * left + 999999999 : Nat) : Int) := by
  unfold Sz
  rw [Nat.pow_succ, Int.natAbs_natCast]
  omega
theorem sz_step {m D left : Nat} (h : left < D) (hD : Sz m (D : Int)) : Sz (m + 1) ((1000000000 * left + 999999999 : Nat) : Int) := sz_next (Nat.lt_trans h (sz_nat hD))
theorem len_lt {m D left : Nat} (h : left < D) (hD : Sz m (D : Int)) : (digs left).length ≤ m := digs_len _ _ (Nat.lt_trans h (sz_nat hD))
theorem pow_two_le (n : Nat) : 1000000000 ^ n ≤ 2 ^ (30 * n) := by
  rw [Nat.pow_mul]
  exact Nat.pow_le_pow_left (by decide) n

theorem WideFloor_outer (hN : 1000000 ≤ N) {y : Int} {D : Nat} (hD : 0 < D) (hDs : Sz 900 (D : Int)) (hy : Sz 900 y) (x4 : Int) (x6 : Int) (x7 : List (List PV)) : ∀ (r n left : Nat) (q : List Nat), r ≤ (digs y.natAbs).length → q.length = (digs y.natAbs).length → Dig q → left < D →
    val ((digs y.natAbs).drop r) = D * val (q.drop r) + left → r < n →
    L_base_WideFloor_5 N (k + 4) n ((digs left).map cD) ((r : Int) - 1) y.sign ((digs y.natAbs).map cD) x4 ((digs D).map cD) x6 x7 (q.map cD) = some (vW (y / (D : Int)))
  | 0, n + 1, left, q, h1, h2, h3, h4, h5, h6 => by
    have ly := hy.len
    rw [List.drop_zero, List.drop_zero, val_digs] at h5
    have hq : val q = y.natAbs / D := by
      rw [h5, Nat.mul_add_div hD, Nat.div_eq_of_lt h4, Nat.add_zero]
    have hr : left = y.natAbs % D := by
      rw [h5, Nat.mul_add_mod, Nat.mod_eq_of_lt h4]
    rw [L_base_WideFloor_5_eq]
    have c1 : ¬ ((0 : Int) ≤ ((0 : Nat) : Int) - 1) := by omega
    have hw : PV.agg [.int .i64 (if y.natAbs / D = 0 then 0 else y.sign), vD (digs (y.natAbs / D))] = vW (y.sign * ((y.natAbs / D : Nat) : Int)) := by
      refine vW_of ?_ ?_
      · rw [Int.natAbs_mul, Int.natAbs_natCast]
        rcases Int.lt_or_le y 0 with h | h
        · rw [Int.sign_eq_neg_one_of_neg h]; simp
        · by_cases h0 : y = 0
          · subst h0; simp
          · rw [Int.sign_eq_one_of_pos (by omega)]; simp
      · rw [Int.sign_mul, Int.sign_sign]
        by_cases h0 : y.natAbs / D = 0
        · rw [if_pos h0, h0]; simp
        · rw [if_neg h0, Int.sign_eq_one_of_pos (a := ((y.natAbs / D : Nat) : Int)) (by omega), Int.mul_one]
    have hsz : Sz 900 (y.sign * ((y.natAbs / D : Nat) : Int)) := by
      refine hy.le ?_
      rw [Int.natAbs_mul, Int.natAbs_natCast]
      have h7 := Nat.div_le_self y.natAbs D
      have h8 : y.sign.natAbs ≤ 1 := by rcases Int.sign_trichotomy y with h | h | h <;> rw [h] <;> decide
      calc y.sign.natAbs * (y.natAbs / D) ≤ 1 * (y.natAbs / D) := Nat.mul_le_mul_right _ h8
        _ ≤ y.natAbs := by omega
    have hsub := WideSub_spec (k := k) hN (hsz.mono (n := 4000) (by omega)) ((sz_int (x := 1) (by decide)).mono (n := 4000) (by omega))
    simp only [cond_dec, c1, if_false, wideOf_spec (k := k + 2) hN h3 (show q.length ≤ 10000 by omega), hq, obind, hw, asA_agg, nth_zero, nth_one, asI_int, asL_sl, WideOf_spec (k := k + 1) hN (show I64 1 by decide), hsub, List.length_map]
    rw [floor_eq hD, ← hr]
    by_cases hn : y < 0
    · rw [if_pos (by rw [Int.sign_eq_neg_one_of_neg hn]; decide)]
      by_cases h0 : left = 0
      · rw [h0, digs_zero, if_neg (by simp), if_neg (by omega)]
      · rw [digs_pos h0, if_pos (by rw [List.length_cons]; omega), if_pos ⟨hn, h0⟩]
    · have : ¬ y.sign < 0 := by
        rcases Int.sign_trichotomy y with h' | h' | h'
        · rw [h']; decide
        · rw [h']; decide
        · exact absurd (Int.sign_eq_neg_one_iff_neg.1 h') hn
      rw [if_neg this, if_neg (by omega)]
  | r + 1, n + 1, left, q, h1, h2, h3, h4, h5, h6 => by
    have ly := hy.len
    have lD : Sz 901 ((1000000000 * left + 999999999 : Nat) : Int) := sz_step h4 hDs
    have ll : (digs left).length ≤ 900 := len_lt h4 hDs
    have hai := (dig_digs y.natAbs).getD r
    obtain ⟨lf, hlf⟩ : ∃ lf, (digs y.natAbs).getD r 0 + 1000000000 * left = lf := ⟨_, rfl⟩
    have hlfs : Sz 902 (lf : Int) := (lD.mono (by omega)).le (by simp only [Int.natAbs_natCast]; omega)
    have e0 : ((r + 1 : Nat) : Int) - 1 = (r : Int) := by omega
    have c1 : (0 : Int) ≤ (r : Int) := by omega
    have c2 : (r : Int) < ((digs y.natAbs).length : Int) := by omega
    have hroom : room [[PV.int .i64 (((digs y.natAbs).getD r 0 : Nat) : Int)]] ((digs left).map cD) 8 = true := by
      unfold room
      rw [decide_eq_true_eq]
      simp only [List.length_cons, List.length_nil, List.length_map]
      omega
    have et : ([[PV.int .i64 (((digs y.natAbs).getD r 0 : Nat) : Int)]] ++ (digs left).map cD) = ((digs y.natAbs).getD r 0 :: digs left).map cD := rfl
    have htr := trimmed_spec (k := k + 3) hN (l := (digs y.natAbs).getD r 0 :: digs left) (fun x hx => by
      rcases List.mem_cons.1 hx with rfl | hx
      · exact hai
      · exact dig_digs left x hx) (by simp; omega)
    rw [val, val_digs, hlf] at htr
    have hb : lf < D * (999999999 + 1) := by
      have : 1000000000 * left + 1000000000 ≤ D * 1000000000 := by rw [Nat.mul_comm D]; omega
      omega
    have hin := WideFloor_inner (k := k + 1) hN hD hDs hlfs n r y.sign ((digs y.natAbs).map cD) x4 x6 x7 q (by omega) (by omega) 30 N 0 999999999 (by omega) (by omega) (by omega) hb (by decide) (by omega)
    have hqd : lf / D < 1000000000 := by
      rw [Nat.div_lt_iff_lt_mul hD, Nat.mul_comm]
      exact hb
    have ih := WideFloor_outer hN hD hDs hy x4 x6 x7 r n (lf % D) (q.set r (lf / D)) (by omega) (by simpa using h2) (h3.set _ hqd) (Nat.mod_lt _ hD) (by
      rw [val_drop, h5, val_drop (q.set r (lf / D)), List.drop_set_of_lt (by omega), List.getD_eq_getElem?_getD (l := q.set r (lf / D)), List.getElem?_set_self (by omega), Option.getD_some]
      have := Nat.div_add_mod lf D
      have e1 : D * (lf / D + 1000000000 * val (q.drop (r + 1))) = D * (lf / D) + 1000000000 * (D * val (q.drop (r + 1))) := by rw [Nat.mul_add, Nat.mul_left_comm]
      rw [e1]
      omega) (by omega)
    rw [L_base_WideFloor_5_eq]
    simp only [e0, cond_dec, c1, c2, List.length_map, if_true, Int.toNat_natCast, leaf_cD, hroom, cond_t, et, htr, obind, asL_sl]
    exact hin.trans ih

theorem WideFloor_spec (hN : 1000000 ≤ N) {y : Int} {D : Nat} (hD : 0 < D) (hDs : Sz 900 (D : Int)) (hy : Sz 900 y) : ev (envF N) (k + 5) F_base_WideFloor [vW y, vW (D : Int)] = some (vW (y / (D : Int))) := by
  have ly := hy.len
  rw [E_base_WideFloor]
  by_cases h0 : y = 0
  · subst h0
    simp [digs_zero]
  · have c1 : ¬ (y.sign = 0) := by rw [Int.sign_eq_zero_iff_zero]; exact h0
    have c2 : ((digs y.natAbs).length : Int) * 8 ≤ 140737488355328 := by omega
    have e1 : w64 (((digs y.natAbs).length : Int) - 1) = ((digs y.natAbs).length : Int) - 1 := by rw [w64_id] <;> omega
    have er (m : Nat) : List.replicate m [PV.int .i64 0] = (List.replicate m 0).map cD := by rw [List.map_replicate]; rfl
    simp only [cond_dec, c1, c2, if_false, if_true, List.length_map, e1, Int.toNat_natCast, er]
    have := WideFloor_outer (k := k) hN hD hDs hy (D : Int).sign 0 [] (digs y.natAbs).length N 0 (List.replicate (digs y.natAbs).length 0) (Nat.le_refl _) (by simp) (dig_replicate _) hD (by
      rw [List.drop_eq_nil_of_le (Nat.le_refl _), List.drop_eq_nil_of_le (by simp)]; simp [val]) (by omega)
    rw [digs_zero] at this
    exact this

theorem wideSize_spec (z : Int) : ev (envF N) (k + 2) F_base_wideSize [vW z] = some (vW (z.natAbs : Int)) := by
  rw [E_base_wideSize, cond_dec]
  by_cases h : z < 0
  · rw [if_pos (by rw [Int.sign_eq_neg_one_of_neg h]; decide), WideNeg_spec]
    simp only [obind, eta_vW]
    rw [show -z = (z.natAbs : Int) by omega]
  · have hs : ¬ z.sign < 0 := by
      rcases Int.sign_trichotomy z with h' | h' | h'
      · rw [h']; decide
      · rw [h']; decide
      · exact absurd (Int.sign_eq_neg_one_iff_neg.1 h') h
    rw [if_neg hs]
    have : (z.natAbs : Int) = z := by omega
    simp only [this]

theorem wideGcd_loop (hN : 1000000 ≤ N) (x4 : Int) (x5 : List (List PV)) : ∀ (e n a b : Nat), Sz 900 (a : Int) → Sz 900 (b : Int) → b < 2 ^ e → 2 * e + 1 ≤ n →
    L_base_wideGcd_2 N (k + 5) n (a : Int).sign ((digs a).map cD) (b : Int).sign ((digs b).map cD) x4 x5 = some (vW (Nat.gcd a b : Int)) := by
  have done : ∀ (n a : Nat), 1 ≤ n → L_base_wideGcd_2 N (k + 5) n (a : Int).sign ((digs a).map cD) ((0 : Nat) : Int).sign ((digs 0).map cD) x4 x5 = some (vW (Nat.gcd a 0 : Int)) := by
    intro n a hn
    obtain ⟨n, rfl⟩ : ∃ m, n = m + 1 := ⟨n - 1, by omega⟩
    have := WideSign_spec (N := N) (k := k + 4) ((0 : Nat) : Int)
    rw [L_base_wideGcd_2_eq]
    rw [show PV.agg [.int .i64 ((0 : Nat) : Int).sign, .sl none [.int .i64] ((digs 0).map cD)] = vW ((0 : Nat) : Int) from rfl, this]
    simp only [obind, asI_int, cond_ndec, show ((0 : Nat) : Int).sign = 0 from rfl, if_true, Nat.gcd_zero_right]
    rfl
  have step : ∀ (n a b : Nat), Sz 900 (a : Int) → Sz 900 (b : Int) → b ≠ 0 → L_base_wideGcd_2 N (k + 5) (n + 1) (a : Int).sign ((digs a).map cD) (b : Int).sign ((digs b).map cD) x4 x5 =
      L_base_wideGcd_2 N (k + 5) n (b : Int).sign ((digs b).map cD) ((a % b : Nat) : Int).sign ((digs (a % b)).map cD) x4 x5 := by
    intro n a b ha hb h0
    have f1 := WideSign_spec (N := N) (k := k + 4) (b : Int)
    have f2 := WideFloor_spec (k := k) hN (Nat.pos_of_ne_zero h0) hb ha
    have hq : Sz 900 ((a : Int) / (b : Int)) := ha.le (by rw [← Int.natCast_ediv, Int.natAbs_natCast, Int.natAbs_natCast]; exact Nat.div_le_self _ _)
    have f3 := WideMul_spec (k := k + 2) hN (hq.mono (n := 2000) (by omega)) (hb.mono (n := 2000) (by omega))
    have f4 := WideSub_spec (k := k + 1) hN (ha.mono (n := 4000) (by omega)) ((hq.mul hb).mono (n := 4000) (by omega))
    have e : (a : Int) - (a : Int) / (b : Int) * (b : Int) = ((a % b : Nat) : Int) := by
      have := Int.mul_ediv_add_emod (a : Int) (b : Int)
      rw [Int.mul_comm] at this
      rw [Int.natCast_emod]
      omega
    have c1 : ¬ ((b : Int).sign = 0) := by rw [Int.sign_eq_zero_iff_zero]; omega
    have g1 : PV.agg [.int .i64 (a : Int).sign, .sl none [.int .i64] ((digs a).map cD)] = vW (a : Int) := rfl
    have g2 : PV.agg [.int .i64 (b : Int).sign, .sl none [.int .i64] ((digs b).map cD)] = vW (b : Int) := rfl
    rw [L_base_wideGcd_2_eq]
    rw [g1, g2, f1]
    simp only [obind, asI_int, cond_ndec, c1, if_false, f2, asA_agg, nth_zero, nth_one, asL_sl, f3, f4, e]
    rfl
  intro e
  induction e with
  | zero =>
    intro n a b ha hb h1 h2
    have : b = 0 := by simpa using h1
    subst this
    exact done n a (by omega)
  | succ e ih =>
    intro n a b ha hb h1 h2
    by_cases h0 : b = 0
    · subst h0; exact done n a (by omega)
    · obtain ⟨n, rfl⟩ : ∃ m, n = m + 1 := ⟨n - 1, by omega⟩
      have hr : a % b < b := Nat.mod_lt _ (Nat.pos_of_ne_zero h0)
      have hrs : Sz 900 ((a % b : Nat) : Int) := hb.le (by simp only [Int.natAbs_natCast]; omega)
      have g : Nat.gcd a b = Nat.gcd b (a % b) := by rw [Nat.gcd_comm, Nat.gcd_rec, Nat.gcd_comm]
      rw [step n a b ha hb h0, g]
      by_cases h3 : a % b = 0
      · rw [h3]; exact done n b (by omega)
      · obtain ⟨n, rfl⟩ : ∃ m, n = m + 1 := ⟨n - 1, by omega⟩
        have hp : (2 : Nat) ^ (e + 1) = 2 * 2 ^ e := by rw [Nat.pow_succ]; omega
        have h4 : b % (a % b) < a % b := Nat.mod_lt _ (Nat.pos_of_ne_zero h3)
        have h5 := Nat.div_add_mod b (a % b)
        have h6 : 1 ≤ b / (a % b) := (Nat.one_le_div_iff (Nat.pos_of_ne_zero h3)).2 (Nat.le_of_lt hr)
        have h7 : a % b * 1 ≤ a % b * (b / (a % b)) := Nat.mul_le_mul_left _ h6
        have g2 : Nat.gcd b (a % b) = Nat.gcd (a % b) (b % (a % b)) := by rw [Nat.gcd_comm, Nat.gcd_rec, Nat.gcd_comm]
        rw [step n b (a % b) hb hrs h3, g2]
        exact ih n (a % b) (b % (a % b)) hrs (hrs.le (by simp only [Int.natAbs_natCast]; omega)) (by omega) (by omega)

theorem wideGcd_spec (hN : 1000000 ≤ N) {y z : Int} (hy : Sz 900 y) (hz : Sz 900 z) : ev (envF N) (k + 6) F_base_wideGcd [vW y, vW z] = some (vW (Int.gcd y z : Int)) := by
  rw [E_base_wideGcd]
  have g1 := wideSize_spec (N := N) (k := k + 3) y
  have g2 := wideSize_spec (N := N) (k := k + 3) z
  rw [g1, g2]
  simp only [obind, asA_agg, nth_zero, nth_one, asI_int, asL_sl, Int.natAbs_natCast]
  have hy' : Sz 900 (y.natAbs : Int) := hy.le (by simp)
  have hz' : Sz 900 (z.natAbs : Int) := hz.le (by simp)
  exact wideGcd_loop hN 0 [] (30 * 900) N y.natAbs z.natAbs hy' hz' (Nat.lt_of_lt_of_le hz (pow_two_le 900)) (by omega)

end
end Go.PevTab
