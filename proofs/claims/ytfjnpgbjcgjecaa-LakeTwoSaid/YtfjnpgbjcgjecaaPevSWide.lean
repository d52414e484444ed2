/- WHOLE NUMBERS OF ANY SIZE: what the functions on digits give. -/
import Derived.Test.YtfjnpgbjcgjecaaPevSpec
import Derived.Test.YtfjnpgbjcgjecaaPevEq0
import Derived.Test.YtfjnpgbjcgjecaaPevEq1
import Derived.Test.YtfjnpgbjcgjecaaPevEq2
namespace Go.PevTab
open Go.Pev Go.Num

section
variable {N k : Nat}

theorem imax_eq (a b : Int) : imax a b = max a b := by unfold imax; split <;> omega
theorem imin_eq (a b : Int) : imin a b = min a b := by unfold imin; split <;> omega

theorem room_one (xs : List (List PV)) (y : List PV) (h : xs.length ≤ 1000000) : room xs [y] 8 = true := by
  unfold room
  rw [decide_eq_true_eq]
  simp only [List.length_cons, List.length_nil]
  omega

/-- The digits' value. -/
abbrev vD (l : List Nat) : PV := .sl none [.int .i64] (l.map cD)
/-- A whole number's value. -/
abbrev vW (z : Int) : PV := .agg [.int .i64 z.sign, .sl none [.int .i64] ((digs z.natAbs).map cD)]

theorem trimmed_loop (l : List Nat) (hl : Dig l) (hlen : l.length ≤ 1000000) : ∀ (m n : Nat), m ≤ l.length → val (l.take m) = val l → m < n →
    L_base_trimmed_2 N k n (l.map cD) (m : Int) = some (vD (digs (val l)))
  | 0, n + 1, _, hv, _ => by
    rw [L_base_trimmed_2_eq]
    have h1 : ¬ ((0 : Int) < ((0 : Nat) : Int)) := by omega
    have h2 : ((0 : Int) ≤ ((0 : Nat) : Int)) := by omega
    have h3 : (((0 : Nat) : Int) ≤ ((List.map cD l).length : Int)) := by omega
    simp only [cond_dec, h1, h2, h3, if_true, if_false]
    rw [← hv]
    simp [val, digs_zero]
  | m + 1, n + 1, hm, hv, hn => by
    rw [L_base_trimmed_2_eq]
    have h1 : ((0 : Int) < ((m + 1 : Nat) : Int)) := by omega
    have e : w64 (((m + 1 : Nat) : Int) - 1) = (m : Int) := by rw [w64_id] <;> omega
    have h2 : ((0 : Int) ≤ (m : Int)) := by omega
    have h3 : ((m : Int) < (l.length : Int)) := by omega
    have h4 : ((0 : Int) ≤ ((m + 1 : Nat) : Int)) := by omega
    have h5 : (((m + 1 : Nat) : Int) ≤ (l.length : Int)) := by omega
    simp only [cond_dec, List.length_map, h1, e, h2, h3, h4, h5, if_true, Int.toNat_natCast, leaf_cD]
    have hs := val_take_succ l m
    by_cases h0 : l.getD m 0 = 0
    · rw [if_pos (by omega)]
      refine trimmed_loop l hl hlen m n (by omega) ?_ (by omega)
      rw [h0] at hs
      omega
    · rw [if_neg (by omega), List.drop_zero, ← List.map_take, ← hv]
      congr 4
      refine eq_digs (hl.take _) fun _ => ?_
      rw [List.length_take, Nat.min_eq_left hm, Nat.add_sub_cancel, List.getD_eq_getElem?_getD, List.getElem?_take_of_lt (by omega), ← List.getD_eq_getElem?_getD]
      exact h0

theorem trimmed_spec (hN : 1000000 ≤ N) {l : List Nat} (hl : Dig l) (hlen : l.length ≤ 10000) : ev (envF N) (k + 1) F_base_trimmed [vD l] = some (vD (digs (val l))) := by
  rw [E_base_trimmed, List.length_map]
  exact trimmed_loop l hl (by omega) _ N (Nat.le_refl _) (by rw [List.take_length]) (by omega)

theorem wideOf_spec (hN : 1000000 ≤ N) {l : List Nat} (hl : Dig l) (hlen : l.length ≤ 10000) (s : Int) : ev (envF N) (k + 2) F_base_wideOf [.int .i64 s, vD l] = some (.agg [.int .i64 (if val l = 0 then 0 else s), vD (digs (val l))]) := by
  rw [E_base_wideOf, trimmed_spec hN hl hlen]
  simp only [obind, asL_sl, List.length_map, cond_dec]
  by_cases h : val l = 0
  · simp [h, digs_zero]
  · rw [if_neg h, digs_pos h, if_neg (by rw [List.length_cons]; omega)]

/-- A sign and digits that tell a number. -/
theorem vW_of {z : Int} {m : Nat} {s : Int} (h1 : z.natAbs = m) (h2 : z.sign = if m = 0 then 0 else s) : PV.agg [.int .i64 (if m = 0 then 0 else s), vD (digs m)] = vW z := by
  rw [← h2, ← h1]

theorem Size_spec {x : Int} (h : -9223372036854775807 ≤ x ∧ x ≤ 9223372036854775807) : ev (envF N) (k + 1) F_base_Size [.int .i64 x] = some (.int .i64 (x.natAbs : Int)) := by
  rw [E_base_Size, imax_eq, w64_id (by omega) (by omega)]
  congr 2
  omega

theorem tmod_natAbs (x : Int) : (x.tmod 1000000000).natAbs = x.natAbs % 1000000000 := by
  rw [Int.natAbs_tmod]; rfl
theorem tdiv_natAbs (x : Int) : (x.tdiv 1000000000).natAbs = x.natAbs / 1000000000 := by
  rw [Int.natAbs_tdiv]; rfl

theorem WideOf_loop (hN : 1000000 ≤ N) (s : Int) : ∀ (d : Nat) (n : Nat) (x : Int) (l : List Nat) (x3 : Int) (x4 : List (List PV)), x.natAbs < 1000000000 ^ d → d < n → I64 x → Dig l → l.length + d ≤ 10000 → (x = 0 → l ≠ [] → l.getD (l.length - 1) 0 ≠ 0) →
    L_base_WideOf_5 N (k + 2) n x s (l.map cD) x3 x4 = some (.agg [.int .i64 (if val l + 1000000000 ^ l.length * x.natAbs = 0 then 0 else s), vD (digs (val l + 1000000000 ^ l.length * x.natAbs))])
  | 0, n + 1, x, l, x3, x4, hx, hn, hi, hl, hlen, hz => by
    have : x = 0 := by simp at hx; exact hx
    subst this
    rw [L_base_WideOf_5_eq]
    simp only [Int.natAbs_zero, Nat.mul_zero, Nat.add_zero]
    have h1 : ¬ (¬ (0 : Int) = 0) := by simp
    simp only [cond_ndec, if_true, wideOf_spec (k := k) hN hl (by omega) s, obind, asA_agg, nth_zero, nth_one, asI_int, asL_sl]
  | d + 1, n + 1, x, l, x3, x4, hx, hn, hi, hl, hlen, hz => by
    rw [L_base_WideOf_5_eq]
    by_cases h0 : x = 0
    · subst h0
      simp only [Int.natAbs_zero, Nat.mul_zero, Nat.add_zero]
      simp only [cond_ndec, if_true, wideOf_spec (k := k) hN hl (by omega) s, obind, asA_agg, nth_zero, nth_one, asI_int, asL_sl]
    · have hm : -9223372036854775807 ≤ x.tmod 1000000000 ∧ x.tmod 1000000000 ≤ 9223372036854775807 := by
        have := tmod_natAbs x
        have := Nat.mod_lt x.natAbs (show 0 < 1000000000 by decide)
        omega
      have hd : w64 (x.tdiv 1000000000) = x.tdiv 1000000000 := by
        have := tdiv_natAbs x
        have := Nat.div_le_self x.natAbs 1000000000
        rw [w64_id] <;> omega
      have e2 : (l.map cD ++ [[PV.int .i64 ((x.tmod 1000000000).natAbs : Int)]]) = (l ++ [x.natAbs % 1000000000]).map cD := by
        rw [List.map_append, tmod_natAbs]; rfl
      simp only [cond_ndec, h0, if_false, Size_spec hm, obind, asI_int, room_one _ _ (show (l.map cD).length ≤ 1000000 by rw [List.length_map]; omega), cond_t, hd, e2]
      have hdig : Dig (l ++ [x.natAbs % 1000000000]) := hl.append fun y hy => by
        rw [List.mem_singleton.1 hy]; exact Nat.mod_lt _ (by decide)
      have hlt : (x.tdiv 1000000000).natAbs < 1000000000 ^ d := by
        rw [tdiv_natAbs, Nat.div_lt_iff_lt_mul (by decide), ← Nat.pow_succ]
        exact hx
      have hle := tdiv_natAbs x
      rw [WideOf_loop hN s d n _ _ x3 x4 hlt (by omega) (by omega) hdig (by simp; omega) (fun hq _ => ?_)]
      · have key : val (l ++ [x.natAbs % 1000000000]) + 1000000000 ^ (l ++ [x.natAbs % 1000000000]).length * (x.tdiv 1000000000).natAbs = val l + 1000000000 ^ l.length * x.natAbs := by
          rw [val_append, List.length_append, List.length_singleton, Nat.pow_succ, tdiv_natAbs, Nat.mul_assoc, Nat.add_assoc, ← Nat.mul_add]
          congr 2
          simp only [val]
          omega
        rw [key]
      · simp only [List.length_append, List.length_singleton, Nat.add_sub_cancel]
        have h3 := tdiv_natAbs x
        rw [hq, Int.natAbs_zero] at h3
        rw [List.getD_eq_getElem?_getD, List.getElem?_append_right (Nat.le_refl _)]
        simp
        omega

theorem WideOf_spec (hN : 1000000 ≤ N) {x : Int} (h : I64 x) : ev (envF N) (k + 3) F_base_WideOf [.int .i64 x] = some (vW x) := by
  have hlt : x.natAbs < 1000000000 ^ 3 := by have : (1000000000 : Nat) ^ 3 = 1000000000000000000000000000 := by decide
                                             omega
  have key (s : Int) (hs : x.sign = if x.natAbs = 0 then 0 else s) : L_base_WideOf_5 N (k + 2) N x s [] 0 [] = some (vW x) := by
    have := WideOf_loop (k := k) hN s 3 N x [] 0 [] hlt (by omega) h (by intro y hy; cases hy) (by simp) (fun _ h => absurd rfl h)
    simp only [List.map_nil] at this
    rw [this]
    simp only [val, List.length_nil, Nat.pow_zero, Nat.one_mul, Nat.zero_add]
    rw [vW_of rfl hs]
  rw [E_base_WideOf, cond_dec]
  by_cases h0 : x < 0
  · rw [if_pos h0]
    exact key _ (by rw [Int.sign_eq_neg_one_of_neg h0, if_neg (by omega)])
  · rw [if_neg h0]
    refine key _ ?_
    by_cases h1 : x = 0
    · simp [h1]
    · rw [Int.sign_eq_one_of_pos (by omega), if_neg (by omega)]

theorem cmpDigits_loop (l m : List Nat) (hl : Dig l) (hm : Dig m) (he : l.length = m.length) (hlen : l.length ≤ 10000) : ∀ (d n : Nat), d ≤ l.length → (∀ i, d ≤ i → l.getD i 0 = m.getD i 0) → d < n →
    L_base_cmpDigits_6 N k n (l.map cD) (m.map cD) ((d : Int) - 1) = some (.int .i64 (if val l < val m then -1 else if val m < val l then 1 else 0))
  | 0, n + 1, _, hs, _ => by
    rw [L_base_cmpDigits_6_eq]
    have h1 : ¬ ((0 : Int) ≤ ((0 : Nat) : Int) - 1) := by omega
    simp only [cond_dec, h1, if_false]
    have : l = m := List.ext_getElem he fun i h1 h2 => by
      have := hs i (by omega)
      simpa [List.getD_eq_getElem?_getD, h1, h2] using this
    subst this
    simp
  | d + 1, n + 1, hd, hs, hn => by
    rw [L_base_cmpDigits_6_eq]
    have e0 : ((d + 1 : Nat) : Int) - 1 = (d : Int) := by omega
    have h1 : ((0 : Int) ≤ (d : Int)) := by omega
    have h2 : ((d : Int) < (l.length : Int)) := by omega
    have h3 : ((d : Int) < (m.length : Int)) := by omega
    have e1 : w64 ((d : Int) - 1) = (d : Int) - 1 := by rw [w64_id] <;> omega
    simp only [e0, cond_dec, List.length_map, h1, h2, h3, if_true, Int.toNat_natCast, leaf_cD, e1]
    by_cases c1 : l.getD d 0 < m.getD d 0
    · have := val_lt_of hl hm he (n := d) (by omega) c1 (fun i hi => hs i (by omega))
      rw [if_pos (by omega), if_pos this]
    · by_cases c2 : m.getD d 0 < l.getD d 0
      · have := val_lt_of hm hl he.symm (n := d) (by omega) c2 (fun i hi => (hs i (by omega)).symm)
        rw [if_neg (by omega), if_pos (by omega), if_neg (by omega), if_pos this]
      · rw [if_neg (by omega), if_neg (by omega)]
        exact cmpDigits_loop l m hl hm he hlen d n (by omega) (fun i hi => by
          by_cases hh : i = d
          · subst hh; omega
          · exact hs i (by omega)) (by omega)

theorem cmpDigits_spec (hN : 1000000 ≤ N) (a b : Nat) (ha : (digs a).length ≤ 10000) (hb : (digs b).length ≤ 10000) : ev (envF N) (k + 1) F_base_cmpDigits [vD (digs a), vD (digs b)] = some (.int .i64 (if a < b then -1 else if b < a then 1 else 0)) := by
  rw [E_base_cmpDigits, List.length_map, List.length_map]
  by_cases h : (digs a).length = (digs b).length
  · have e : w64 (((digs a).length : Int) - 1) = ((digs a).length : Int) - 1 := by rw [w64_id] <;> omega
    rw [cond_ndec, if_pos (by omega), e, cmpDigits_loop _ _ (dig_digs a) (dig_digs b) h ha _ N (Nat.le_refl _) (fun i hi => ?_) (by omega), val_digs, val_digs]
    rw [List.getD_eq_getElem?_getD, List.getElem?_eq_none hi, List.getD_eq_getElem?_getD, List.getElem?_eq_none (by omega)]
  · rw [cond_ndec, if_neg (by omega), cond_dec]
    by_cases h1 : (digs a).length < (digs b).length
    · rw [if_pos (by omega), if_pos (digs_len_lt h1)]
    · have := digs_len_lt (a := b) (b := a) (by omega)
      rw [if_neg (by omega), if_neg (by omega), if_pos this]

theorem digit_spec (l : List Nat) (i : Nat) (hlen : l.length ≤ 10000) : ev (envF N) (k + 1) F_base_digit [vD l, .int .i64 (i : Int)] = some (.int .i64 (l.getD i 0 : Nat)) := by
  rw [E_base_digit]
  have h2 : ((0 : Int) ≤ (i : Int)) := by omega
  simp only [cond_dec, List.length_map, h2, if_true, Int.toNat_natCast, leaf_cD]
  by_cases h : i < l.length
  · rw [if_pos (by omega), if_pos (by omega)]
  · rw [if_neg (by omega), List.getD_eq_getElem?_getD, List.getElem?_eq_none (by omega)]
    rfl

end
end Go.PevTab
