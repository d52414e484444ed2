/- FRACTIONS OF ANY SIZE: what the functions on them give. -/
import Derived.Test.YtfjnpgbjcgjecaaPevSWide4
namespace Go.PevTab
open Go.Pev Go.Num

section
variable {N k : Nat}

/-- A fraction's value. -/
abbrev vR (r : Rat) : PV := .agg [.int .i64 r.num.sign, .sl none [.int .i64] ((digs r.num.natAbs).map cD), .int .i64 (r.den : Int).sign, .sl none [.int .i64] ((digs (r.den : Int).natAbs).map cD)]

/-- A fraction whose parts have at most m digits. -/
structure SzR (m : Nat) (r : Rat) : Prop where
  num : Sz m r.num
  den : Sz m (r.den : Int)

theorem SzR.mono {m n : Nat} {r : Rat} (h : SzR m r) (hmn : m ≤ n) : SzR n r := ⟨h.num.mono hmn, h.den.mono hmn⟩

theorem divInt_pos {n d : Int} (hd : 0 < d) : (Rat.divInt n d).num = n / (Int.gcd n d : Int) ∧ ((Rat.divInt n d).den : Int) = d / (Int.gcd n d : Int) := by
  obtain ⟨e, rfl⟩ : ∃ e : Nat, d = (e : Int) := ⟨d.toNat, by omega⟩
  have he : e ≠ 0 := by omega
  rw [Rat.divInt_ofNat, Rat.mkRat_def, dif_neg he]
  refine ⟨Rat.num_normalize he, ?_⟩
  rw [Rat.den_normalize he]
  exact Int.natCast_ediv _ _

theorem szR_divInt {m : Nat} {n d : Int} (hd : d ≠ 0) (hn : Sz m n) (hds : Sz m d) : SzR m (Rat.divInt n d) := by
  have main : ∀ {n d : Int}, 0 < d → Sz m n → Sz m d → SzR m (Rat.divInt n d) := by
    intro n d hd hn hds
    obtain ⟨h1, h2⟩ := divInt_pos (n := n) hd
    refine ⟨?_, ?_⟩
    · rw [h1]
      refine hn.le ?_
      rw [Int.natAbs_ediv_of_dvd (Int.gcd_dvd_left ..)]
      exact Nat.div_le_self _ _
    · rw [h2]
      refine hds.le ?_
      rw [Int.natAbs_ediv_of_dvd (Int.gcd_dvd_right ..)]
      exact Nat.div_le_self _ _
  rcases Int.lt_or_le 0 d with h | h
  · exact main h hn hds
  · rw [← Rat.neg_divInt_neg]
    exact main (by omega) hn.neg hds.neg

theorem RatioMake_pos (hN : 1000000 ≤ N) {n d : Int} (hd : 0 < d) (hn : Sz 900 n) (hds : Sz 900 d) : 
    ((ev (envF N) (k + 8) F_base_wideGcd [vW n, vW d]).bind fun r3 =>
   (ev (envF N) (k + 8) F_base_WideOf [.int .i64 1]).bind fun r4 =>
    (ev (envF N) (k + 8) F_base_WideCmp [(.agg [(.int .i64 (asI (nth (asA r3) 0))), (.sl none [.int .i64] (asL (nth (asA r3) 1)))]), (.agg [(.int .i64 (asI (nth (asA r4) 0))), (.sl none [.int .i64] (asL (nth (asA r4) 1)))])]).bind fun r5 =>
     cond (decide ((asI r5) = (0 : Int)))
      (some (.agg [(.int .i64 n.sign), (.sl none [.int .i64] ((digs n.natAbs).map cD)), (.int .i64 d.sign), (.sl none [.int .i64] ((digs d.natAbs).map cD))]))
      ((ev (envF N) (k + 8) F_base_WideFloor [vW n, (.agg [(.int .i64 (asI (nth (asA r3) 0))), (.sl none [.int .i64] (asL (nth (asA r3) 1)))])]).bind fun r7 =>
       (ev (envF N) (k + 8) F_base_WideFloor [vW d, (.agg [(.int .i64 (asI (nth (asA r3) 0))), (.sl none [.int .i64] (asL (nth (asA r3) 1)))])]).bind fun r8 =>
        some (.agg [(.int .i64 (asI (nth (asA r7) 0))), (.sl none [.int .i64] (asL (nth (asA r7) 1))), (.int .i64 (asI (nth (asA r8) 0))), (.sl none [.int .i64] (asL (nth (asA r8) 1)))]))) = some (vR (Rat.divInt n d)) := by
  obtain ⟨h1, h2⟩ := divInt_pos (n := n) hd
  have hg : 0 < Int.gcd n d := Int.gcd_pos_of_ne_zero_right _ (by omega)
  have hgs : Sz 900 (Int.gcd n d : Int) := hds.le (by
    have := Int.gcd_le_right (a := n) (b := d) hd
    omega)
  have f1 := wideGcd_spec (k := k + 2) hN hn hds
  have f2 := WideOf_spec (k := k + 5) hN (x := 1) (by decide)
  have f3 := WideCmp_spec (k := k + 3) hN (hgs.mono (n := 4000) (by omega)) ((sz_int (x := 1) (by decide)).mono (n := 4000) (by omega))
  have f4 := WideFloor_spec (k := k + 3) hN hg hgs hn
  have f5 := WideFloor_spec (k := k + 3) hN hg hgs hds
  rw [f1, f2]
  simp only [obind, asA_agg, nth_zero, nth_one, asI_int, asL_sl, f3, cond_dec]
  have hs : ((Rat.divInt n d).den : Int).natAbs = (Rat.divInt n d).den := Int.natAbs_natCast _
  by_cases hc : Int.gcd n d = 1
  · rw [if_pos (by rw [hc]; decide)]
    rw [hc] at h1 h2
    have h1 : (Rat.divInt n d).num = n := by rw [h1]; exact Int.ediv_one _
    have h2 : ((Rat.divInt n d).den : Int) = d := by rw [h2]; exact Int.ediv_one _
    simp only [vR]
    rw [h1, h2]
  · rw [if_neg (by rw [Int.sign_eq_zero_iff_zero]; omega), f4, f5]
    simp only [obind, asA_agg, nth_zero, nth_one, asI_int, asL_sl]
    simp only [vR]
    rw [h1, h2]

theorem RatioMake_spec (hN : 1000000 ≤ N) {n d : Int} (hd : d ≠ 0) (hn : Sz 900 n) (hds : Sz 900 d) : ev (envF N) (k + 9) F_base_RatioMake [vW n, vW d] = some (vR (Rat.divInt n d)) := by
  rw [E_base_RatioMake]
  have f0 := WideSign_spec (N := N) (k := k + 7) d
  rw [f0]
  simp only [obind, asI_int]
  rw [cond_dec]
  by_cases h : d < 0
  · rw [if_pos (by rw [Int.sign_eq_neg_one_of_neg h]; decide)]
    have f1 := WideNeg_spec (N := N) (k := k + 7) n
    have f2 := WideNeg_spec (N := N) (k := k + 7) d
    rw [f1, f2]
    simp only [obind, asA_agg, nth_zero, nth_one, asI_int, asL_sl]
    rw [← Rat.neg_divInt_neg n d]
    exact RatioMake_pos (k := k) hN (by omega) hn.neg hds.neg
  · have : ¬ d.sign < 0 := by
      rcases Int.sign_trichotomy d with h' | h' | h'
      · rw [h']; decide
      · rw [h']; decide
      · exact absurd (Int.sign_eq_neg_one_iff_neg.1 h') h
    rw [if_neg this]
    exact RatioMake_pos (k := k) hN (by omega) hn hds

theorem den_sz {r : Rat} : (r.den : Int) ≠ 0 := by have := r.den_nz; omega

theorem RatioOf_spec (hN : 1000000 ≤ N) {n d : Int} (hd : d ≠ 0) (hn : I64 n) (hds : I64 d) : ev (envF N) (k + 10) F_base_RatioOf [.int .i64 n, .int .i64 d] = some (vR (Rat.divInt n d)) := by
  rw [E_base_RatioOf, WideOf_spec (k := k + 6) hN hn, WideOf_spec (k := k + 6) hN hds]
  have f := RatioMake_spec (k := k) hN hd ((sz_int hn).mono (n := 900) (by omega)) ((sz_int hds).mono (n := 900) (by omega))
  simp only [obind, asA_agg, nth_zero, nth_one, asI_int, asL_sl, f, nth_two, nth_three]

theorem RatioInt_spec (hN : 1000000 ≤ N) {n : Int} (hn : I64 n) : ev (envF N) (k + 4) F_base_RatioInt [.int .i64 n] = some (vR (n : Rat)) := by
  rw [E_base_RatioInt, WideOf_spec (k := k) hN hn, WideOf_spec (k := k) hN (x := 1) (by decide)]
  simp only [obind, asA_agg, nth_zero, nth_one, asI_int, asL_sl]
  rfl

theorem RatioAdd_spec (hN : 1000000 ≤ N) {a b : Rat} (ha : SzR 400 a) (hb : SzR 400 b) : ev (envF N) (k + 10) F_base_RatioAdd [vR a, vR b] = some (vR (a + b)) := by
  rw [E_base_RatioAdd]
  have m (x : Int) {j : Nat} (h : Sz 400 x) (hj : 400 ≤ j) : Sz j x := h.mono hj
  have f1 := WideMul_spec (k := k + 6) hN (m _ ha.num (show 400 ≤ 2000 by omega)) (m _ hb.den (show 400 ≤ 2000 by omega))
  have f2 := WideMul_spec (k := k + 6) hN (m _ hb.num (show 400 ≤ 2000 by omega)) (m _ ha.den (show 400 ≤ 2000 by omega))
  have f4 := WideMul_spec (k := k + 6) hN (m _ ha.den (show 400 ≤ 2000 by omega)) (m _ hb.den (show 400 ≤ 2000 by omega))
  have f3 := WideAdd_spec (k := k + 6) hN ((ha.num.mul hb.den).mono (n := 4000) (by omega)) ((hb.num.mul ha.den).mono (n := 4000) (by omega))
  have hd : (a.den : Int) * (b.den : Int) ≠ 0 := Int.mul_ne_zero den_sz den_sz
  have f5 := RatioMake_spec (k := k) hN hd (((ha.num.mul hb.den).add (hb.num.mul ha.den)).mono (n := 900) (by omega)) ((ha.den.mul hb.den).mono (n := 900) (by omega))
  simp only [f1, f2, f3, f4, f5, obind, asA_agg, nth_zero, nth_one, asI_int, asL_sl, nth_two, nth_three]
  rw [Rat.add_def' a b, ← Rat.divInt_ofNat, Int.natCast_mul]

theorem RatioMul_spec (hN : 1000000 ≤ N) {a b : Rat} (ha : SzR 400 a) (hb : SzR 400 b) : ev (envF N) (k + 10) F_base_RatioMul [vR a, vR b] = some (vR (a * b)) := by
  rw [E_base_RatioMul]
  have m (x : Int) {j : Nat} (h : Sz 400 x) (hj : 400 ≤ j) : Sz j x := h.mono hj
  have f1 := WideMul_spec (k := k + 6) hN (m _ ha.num (show 400 ≤ 2000 by omega)) (m _ hb.num (show 400 ≤ 2000 by omega))
  have f4 := WideMul_spec (k := k + 6) hN (m _ ha.den (show 400 ≤ 2000 by omega)) (m _ hb.den (show 400 ≤ 2000 by omega))
  have hd : (a.den : Int) * (b.den : Int) ≠ 0 := Int.mul_ne_zero den_sz den_sz
  have f5 := RatioMake_spec (k := k) hN hd ((ha.num.mul hb.num).mono (n := 900) (by omega)) ((ha.den.mul hb.den).mono (n := 900) (by omega))
  simp only [f1, f4, f5, obind, asA_agg, nth_zero, nth_one, asI_int, asL_sl, nth_two, nth_three]
  rw [Rat.mul_def' a b, ← Rat.divInt_ofNat, Int.natCast_mul]

theorem div_eq (a b : Rat) : a / b = Rat.divInt (a.num * b.den) (a.den * b.num) := by
  rw [Rat.div_def, Rat.inv_def, ← Rat.num_divInt_den a, Rat.divInt_mul_divInt, Rat.num_divInt_den]

theorem RatioDiv_spec (hN : 1000000 ≤ N) {a b : Rat} (ha : SzR 400 a) (hb : SzR 400 b) (h0 : b ≠ 0) : ev (envF N) (k + 10) F_base_RatioDiv [vR a, vR b] = some (vR (a / b)) := by
  rw [E_base_RatioDiv]
  have m (x : Int) {j : Nat} (h : Sz 400 x) (hj : 400 ≤ j) : Sz j x := h.mono hj
  have f1 := WideMul_spec (k := k + 6) hN (m _ ha.num (show 400 ≤ 2000 by omega)) (m _ hb.den (show 400 ≤ 2000 by omega))
  have f4 := WideMul_spec (k := k + 6) hN (m _ ha.den (show 400 ≤ 2000 by omega)) (m _ hb.num (show 400 ≤ 2000 by omega))
  have hd : (a.den : Int) * b.num ≠ 0 := Int.mul_ne_zero den_sz (fun h => h0 (Rat.num_eq_zero.1 h))
  have f5 := RatioMake_spec (k := k) hN hd ((ha.num.mul hb.den).mono (n := 900) (by omega)) ((ha.den.mul hb.num).mono (n := 900) (by omega))
  simp only [f1, f4, f5, obind, asA_agg, nth_zero, nth_one, asI_int, asL_sl, nth_two, nth_three]
  rw [div_eq]

theorem RatioCmp_spec (hN : 1000000 ≤ N) {a b : Rat} (ha : SzR 400 a) (hb : SzR 400 b) : ev (envF N) (k + 6) F_base_RatioCmp [vR a, vR b] = some (.int .i64 (a.num * b.den - b.num * a.den).sign) := by
  rw [E_base_RatioCmp]
  have m (x : Int) {j : Nat} (h : Sz 400 x) (hj : 400 ≤ j) : Sz j x := h.mono hj
  have f1 := WideMul_spec (k := k + 2) hN (m _ ha.num (show 400 ≤ 2000 by omega)) (m _ hb.den (show 400 ≤ 2000 by omega))
  have f2 := WideMul_spec (k := k + 2) hN (m _ hb.num (show 400 ≤ 2000 by omega)) (m _ ha.den (show 400 ≤ 2000 by omega))
  have f3 := WideCmp_spec (k := k) hN ((ha.num.mul hb.den).mono (n := 4000) (by omega)) ((hb.num.mul ha.den).mono (n := 4000) (by omega))
  simp only [f1, f2, f3, obind, asA_agg, nth_zero, nth_one, asI_int, asL_sl]

theorem sign_lt (x : Int) : x.sign < 0 ↔ x < 0 := by
  rcases Int.lt_or_le x 0 with h | h
  · rw [Int.sign_eq_neg_one_of_neg h]; omega
  · by_cases h0 : x = 0
    · subst h0; simp
    · rw [Int.sign_eq_one_of_pos (by omega)]; omega
theorem sign_gt (x : Int) : 0 < x.sign ↔ 0 < x := by
  rcases Int.lt_or_le x 0 with h | h
  · rw [Int.sign_eq_neg_one_of_neg h]; omega
  · by_cases h0 : x = 0
    · subst h0; simp
    · rw [Int.sign_eq_one_of_pos (by omega)]; omega
theorem cmp_lt (a b : Rat) : (a.num * b.den - b.num * a.den).sign < 0 ↔ a < b := by
  rw [sign_lt, Rat.lt_iff]; omega
theorem cmp_gt (a b : Rat) : 0 < (a.num * b.den - b.num * a.den).sign ↔ b < a := by
  rw [sign_gt, Rat.lt_iff]; omega

theorem RatioFloor_spec (hN : 1000000 ≤ N) {a : Rat} (ha : SzR 400 a) : ev (envF N) (k + 6) F_base_RatioFloor [vR a] = some (vW a.floor) := by
  rw [E_base_RatioFloor]
  have f := WideFloor_spec (k := k) hN a.den_pos (ha.den.mono (n := 900) (by omega)) (ha.num.mono (n := 900) (by omega))
  simp only [f, obind, asA_agg, nth_zero, nth_one, asI_int, asL_sl]
  rw [Rat.floor_def]

theorem RatioCeil_spec (hN : 1000000 ≤ N) {a : Rat} (ha : SzR 400 a) : ev (envF N) (k + 6) F_base_RatioCeil [vR a] = some (vW a.ceil) := by
  rw [E_base_RatioCeil]
  have f0 := WideNeg_spec (N := N) (k := k + 4) a.num
  have f := WideFloor_spec (k := k) hN a.den_pos (ha.den.mono (n := 900) (by omega)) (ha.num.neg.mono (n := 900) (by omega))
  have f2 := WideNeg_spec (N := N) (k := k + 4) (-a.num / (a.den : Int))
  simp only [f0, f, f2, obind, asA_agg, nth_zero, nth_one, asI_int, asL_sl]
  rw [Rat.ceil_eq_neg_floor_neg, Rat.floor_def, Rat.neg_num, Rat.neg_den]

theorem WideInt_loop (hN : 1000000 ≤ N) (s : Int) (l : List Nat) (hl : Dig l) (h2 : l.length ≤ 2) : ∀ (r n m : Nat), r ≤ l.length → m < 1000000000 ^ (2 - r) → r < n →
    L_base_WideInt_5 N k n (m : Int) ((r : Int) - 1) s (l.map cD) = some (.tup [.int .i64 (w64 (s * ((m * 1000000000 ^ r + val (l.take r) : Nat) : Int))), .bool true])
  | 0, n + 1, m, h1, h3, h4 => by
    rw [L_base_WideInt_5_eq]
    have c1 : ¬ ((0 : Int) ≤ ((0 : Nat) : Int) - 1) := by omega
    simp only [cond_dec, c1, if_false]
    simp [val]
  | r + 1, n + 1, m, h1, h3, h4 => by
    have hd := hl.getD r
    have e0 : ((r + 1 : Nat) : Int) - 1 = (r : Int) := by omega
    have c1 : (0 : Int) ≤ (r : Int) := by omega
    have c2 : (r : Int) < (l.length : Int) := by omega
    have hm : m < 1000000000 := by
      have : (1000000000 : Nat) ^ (2 - (r + 1)) ≤ 1000000000 ^ 1 := Nat.pow_le_pow_right (by decide) (by omega)
      omega
    have e1 : w64 (w64 ((m : Int) * 1000000000) + ((l.getD r 0 : Nat) : Int)) = ((m * 1000000000 + l.getD r 0 : Nat) : Int) := by
      rw [w64_id (x := (m : Int) * 1000000000) (by omega) (by omega), w64_id (by omega) (by omega)]
      omega
    have e2 : w64 ((r : Int) - 1) = (r : Int) - 1 := by rw [w64_id] <;> omega
    rw [L_base_WideInt_5_eq]
    simp only [e0, cond_dec, c1, c2, List.length_map, if_true, Int.toNat_natCast, leaf_cD, e1, e2]
    rw [WideInt_loop hN s l hl h2 r n _ (by omega) (by
      rw [show 2 - r = (2 - (r + 1)) + 1 by omega, Nat.pow_succ]
      omega) (by omega), val_take_succ, Nat.add_mul, Nat.pow_succ, Nat.mul_assoc, Nat.mul_comm 1000000000 (1000000000 ^ r), Nat.mul_comm (l.getD r 0)]
    rw [show m * (1000000000 ^ r * 1000000000) + 1000000000 ^ r * l.getD r 0 + val (l.take r) = m * (1000000000 ^ r * 1000000000) + (val (l.take r) + 1000000000 ^ r * l.getD r 0) by omega]

theorem WideInt_spec (hN : 1000000 ≤ N) {z : Int} (hz : Sz 2 z) : ev (envF N) (k + 1) F_base_WideInt [vW z] = some (.tup [.int .i64 z, .bool true]) := by
  have hl := hz.len
  have e : w64 (((digs z.natAbs).length : Int) - 1) = ((digs z.natAbs).length : Int) - 1 := by rw [w64_id] <;> omega
  rw [E_base_WideInt, List.length_map, cond_dec, if_neg (by omega), e]
  have := WideInt_loop (N := N) (k := k) hN z.sign (digs z.natAbs) (dig_digs _) hl (digs z.natAbs).length N 0 (Nat.le_refl _) (Nat.pow_pos (by decide)) (by omega)
  rw [List.take_length, val_digs, Nat.zero_mul, Nat.zero_add, Int.sign_mul_natAbs] at this
  refine this.trans ?_
  have : z.natAbs < 1000000000 ^ 2 := hz
  have e2 : (1000000000 : Nat) ^ 2 = 1000000000000000000 := by decide
  rw [w64_id] <;> omega

end
end Go.PevTab
