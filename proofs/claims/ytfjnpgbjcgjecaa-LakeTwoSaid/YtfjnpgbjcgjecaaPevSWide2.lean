/- WHOLE NUMBERS OF ANY SIZE: sums, differences and products. -/
import Derived.Test.YtfjnpgbjcgjecaaPevSWide
namespace Go.PevTab
open Go.Pev Go.Num

section
variable {N k : Nat}

theorem tmod_nat (s : Nat) : Int.tmod (s : Int) 1000000000 = ((s % 1000000000 : Nat) : Int) := rfl
theorem tdiv_nat (s : Nat) : Int.tdiv (s : Int) 1000000000 = ((s / 1000000000 : Nat) : Int) := rfl

theorem addDigits_loop (a b : List Nat) (ha : Dig a) (hb : Dig b) (hla : a.length ≤ 10000) (hlb : b.length ≤ 10000) : ∀ (d n : Nat) (out : List Nat) (c i : Nat), max a.length b.length + 1 ≤ i + d → i ≤ max a.length b.length + 1 → c ≤ 1 → (c = 1 → i ≤ max a.length b.length) → out.length + d ≤ 100000 → d < n →
    ∃ r, Dig r ∧ r.length ≤ d ∧ val r = val (a.drop i) + val (b.drop i) + c ∧ L_base_addDigits_4 N (k + 1) n (a.map cD) (b.map cD) (out.map cD) (c : Int) (i : Int) = some (vD (out ++ r))
  | d, n + 1, out, c, i, h1, h1', h2, h3, h4, h5 => by
    rw [L_base_addDigits_4_eq]
    by_cases he : max a.length b.length ≤ i ∧ c = 0
    · obtain ⟨he, rfl⟩ := he
      refine ⟨[], (by intro x hx; cases hx), by simp, ?_, ?_⟩
      · rw [List.drop_eq_nil_of_le (by omega), List.drop_eq_nil_of_le (by omega)]; rfl
      · simp only [cond_dec, List.length_map]
        rw [if_neg (by omega), if_neg (by omega), if_neg (by omega), List.append_nil]
    · obtain ⟨d, rfl⟩ : ∃ m, d = m + 1 := ⟨d - 1, by omega⟩
      have hai := ha.getD i
      have hbi := hb.getD i
      obtain ⟨s, hs⟩ : ∃ s, a.getD i 0 + b.getD i 0 + c = s := ⟨_, rfl⟩
      have hlt : s < 2000000000 := by omega
      have hw : w64 (w64 (((a.getD i 0 : Nat) : Int) + ((b.getD i 0 : Nat) : Int)) + (c : Int)) = (s : Int) := by
        rw [w64_id (x := ((a.getD i 0 : Nat) : Int) + ((b.getD i 0 : Nat) : Int)) (by omega) (by omega), w64_id (by omega) (by omega)]
        omega
      have hq : w64 ((s / 1000000000 : Nat) : Int) = ((s / 1000000000 : Nat) : Int) := by
        rw [w64_id] <;> omega
      have hi : w64 ((i : Int) + 1) = ((i + 1 : Nat) : Int) := by rw [w64_id] <;> omega
      have hr : room (out.map cD) [[.int .i64 ((s % 1000000000 : Nat) : Int)]] 8 = true := room_one _ _ (by rw [List.length_map]; omega)
      have hdig : Dig (out ++ [s % 1000000000]) ∨ True := .inr trivial
      have eo : (out.map cD ++ [[PV.int .i64 ((s % 1000000000 : Nat) : Int)]]) = (out ++ [s % 1000000000]).map cD := by rw [List.map_append]; rfl
      obtain ⟨r, r1, r2, r3, r4⟩ := addDigits_loop a b ha hb hla hlb d n (out ++ [s % 1000000000]) (s / 1000000000) (i + 1) (by omega) (by omega) (by omega) (fun h => by
        by_cases hh : i < max a.length b.length
        · omega
        · have e1 : a.getD i 0 = 0 := by rw [List.getD_eq_getElem?_getD, List.getElem?_eq_none (by omega)]; rfl
          have e2 : b.getD i 0 = 0 := by rw [List.getD_eq_getElem?_getD, List.getElem?_eq_none (by omega)]; rfl
          omega) (by simp; omega) (by omega)
      refine ⟨s % 1000000000 :: r, ?_, by simp; omega, ?_, ?_⟩
      · intro x hx
        rcases List.mem_cons.1 hx with rfl | hx
        · exact Nat.mod_lt _ (by decide)
        · exact r1 x hx
      · rw [val, r3, val_drop a i, val_drop b i]
        omega
      · have body : (((ev (envF N) (k + 1) F_base_digit [vD a, .int .i64 (i : Int)]).bind fun r2 => (ev (envF N) (k + 1) F_base_digit [vD b, .int .i64 (i : Int)]).bind fun r3 =>
            cond (room (out.map cD) [[(.int .i64 (Int.tmod (w64 ((w64 ((asI r2) + (asI r3))) + (c : Int))) (1000000000 : Int)))]] 8)
              (L_base_addDigits_4 N (k + 1) n (a.map cD) (b.map cD) (out.map cD ++ [[(.int .i64 (Int.tmod (w64 ((w64 ((asI r2) + (asI r3))) + (c : Int))) (1000000000 : Int)))]]) (w64 (Int.tdiv (w64 ((w64 ((asI r2) + (asI r3))) + (c : Int))) (1000000000 : Int))) (w64 ((i : Int) + (1 : Int))))
              none)) = some (vD (out ++ s % 1000000000 :: r)) := by
          rw [digit_spec a i hla, digit_spec b i hlb]
          simp only [obind, asI_int, hw, tmod_nat, tdiv_nat, hq, hi, hr, cond_t, eo]
          rw [r4, List.append_assoc]
          rfl
        simp only [cond_dec, List.length_map]
        by_cases c1 : i < a.length
        · rw [if_pos (by omega)]; exact body
        · by_cases c2 : i < b.length
          · rw [if_neg (by omega), if_pos (by omega)]; exact body
          · rw [if_neg (by omega), if_neg (by omega), if_pos (by omega)]; exact body

theorem addDigits_spec (hN : 1000000 ≤ N) {a b : List Nat} (ha : Dig a) (hb : Dig b) (hla : a.length ≤ 5000) (hlb : b.length ≤ 5000) :
    ∃ r, Dig r ∧ r.length ≤ max a.length b.length + 1 ∧ val r = val a + val b ∧ ev (envF N) (k + 2) F_base_addDigits [vD a, vD b] = some (vD r) := by
  obtain ⟨r, h1, h2, h3, h4⟩ := addDigits_loop (N := N) (k := k) a b ha hb (by omega) (by omega) (max a.length b.length + 1) N [] 0 0 (by omega) (by omega) (by omega) (by omega) (by simp; omega) (by omega)
  refine ⟨r, h1, h2, by simpa using h3, ?_⟩
  rw [E_base_addDigits]
  exact h4

theorem subDigits_loop (hN : 1000000 ≤ N) (a b : List Nat) (ha : Dig a) (hb : Dig b) (hla : a.length ≤ 5000) (hlb : b.length ≤ 5000) : ∀ (d n : Nat) (out : List Nat) (c i : Nat), i + d = a.length → Dig out → out.length = i → c ≤ 1 → val (b.drop i) + c ≤ val (a.drop i) → d < n →
    ∃ r, L_base_subDigits_4 N (k + 1) n (a.map cD) (b.map cD) (out.map cD) (c : Int) (i : Int) = some (vD (digs (val out + 1000000000 ^ i * r))) ∧ r + (val (b.drop i) + c) = val (a.drop i)
  | 0, n + 1, out, c, i, h1, h2, h3, h4, h5, h6 => by
    have e1 : val (a.drop i) = 0 := by rw [List.drop_eq_nil_of_le (by omega)]; rfl
    refine ⟨0, ?_, by omega⟩
    rw [L_base_subDigits_4_eq, cond_dec, List.length_map, if_neg (by omega), trimmed_spec hN h2 (by omega)]
    simp only [obind, asL_sl, Nat.mul_zero, Nat.add_zero]
  | d + 1, n + 1, out, c, i, h1, h2, h3, h4, h5, h6 => by
    have hai := ha.getD i
    have hbi := hb.getD i
    have va := val_drop a i
    have vb := val_drop b i
    have hi : w64 ((i : Int) + 1) = ((i + 1 : Nat) : Int) := by rw [w64_id] <;> omega
    have hw : w64 (w64 (((a.getD i 0 : Nat) : Int) - ((b.getD i 0 : Nat) : Int)) - (c : Int)) = ((a.getD i 0 : Nat) : Int) - ((b.getD i 0 : Nat) : Int) - (c : Int) := by
      rw [w64_id (x := ((a.getD i 0 : Nat) : Int) - ((b.getD i 0 : Nat) : Int)) (by omega) (by omega), w64_id (by omega) (by omega)]
    have hlt : (i : Int) < (a.length : Int) := by omega
    have h0 : (0 : Int) ≤ (i : Int) := by omega
    have step : ∀ (x c' : Nat), x < 1000000000 → c' ≤ 1 → (x : Int) = ((a.getD i 0 : Nat) : Int) - ((b.getD i 0 : Nat) : Int) - (c : Int) + 1000000000 * c' →
        ∃ r, L_base_subDigits_4 N (k + 1) n (a.map cD) (b.map cD) ((out ++ [x]).map cD) (c' : Int) ((i + 1 : Nat) : Int) = some (vD (digs (val out + 1000000000 ^ i * r))) ∧ r + (val (b.drop i) + c) = val (a.drop i) := by
      intro x c' hx hc hxe
      obtain ⟨r, r1, r2⟩ := subDigits_loop hN a b ha hb hla hlb d n (out ++ [x]) c' (i + 1) (by omega) (h2.append fun y hy => by rw [List.mem_singleton.1 hy]; exact hx) (by simp; omega) hc (by omega) (by omega)
      refine ⟨x + 1000000000 * r, ?_, by omega⟩
      rw [r1, val_append, h3, Nat.pow_succ, Nat.mul_add, Nat.mul_assoc, Nat.add_assoc]
      simp [val]
    rw [L_base_subDigits_4_eq]
    simp only [cond_dec, List.length_map, hlt, h0, if_true, Int.toNat_natCast, leaf_cD, digit_spec b i (show b.length ≤ 10000 by omega), obind, asI_int, hw, hi]
    by_cases cn : ((a.getD i 0 : Nat) : Int) - ((b.getD i 0 : Nat) : Int) - (c : Int) < 0
    · obtain ⟨x, hx⟩ : ∃ x : Nat, (x : Int) = ((a.getD i 0 : Nat) : Int) - ((b.getD i 0 : Nat) : Int) - (c : Int) + 1000000000 := ⟨(((a.getD i 0 : Nat) : Int) - ((b.getD i 0 : Nat) : Int) - (c : Int) + 1000000000).toNat, by omega⟩
      have hw2 : w64 (((a.getD i 0 : Nat) : Int) - ((b.getD i 0 : Nat) : Int) - (c : Int) + 1000000000) = (x : Int) := by rw [w64_id, ← hx] <;> omega
      rw [if_pos cn, hw2, room_one _ _ (by rw [List.length_map]; omega), cond_t]
      have := step x 1 (by omega) (by omega) (by omega)
      rwa [List.map_append] at this
    · obtain ⟨x, hx⟩ : ∃ x : Nat, (x : Int) = ((a.getD i 0 : Nat) : Int) - ((b.getD i 0 : Nat) : Int) - (c : Int) := ⟨(((a.getD i 0 : Nat) : Int) - ((b.getD i 0 : Nat) : Int) - (c : Int)).toNat, by omega⟩
      rw [if_neg cn, ← hx, room_one _ _ (by rw [List.length_map]; omega), cond_t]
      have := step x 0 (by omega) (by omega) (by omega)
      rwa [List.map_append] at this

theorem subDigits_spec (hN : 1000000 ≤ N) {a b : Nat} (hab : b ≤ a) (hla : (digs a).length ≤ 5000) (hlb : (digs b).length ≤ 5000) : ev (envF N) (k + 2) F_base_subDigits [vD (digs a), vD (digs b)] = some (vD (digs (a - b))) := by
  obtain ⟨r, h1, h2⟩ := subDigits_loop (k := k) hN (digs a) (digs b) (dig_digs a) (dig_digs b) hla hlb (digs a).length N [] 0 0 (by omega) (by intro x hx; cases hx) rfl (by omega) (by simpa [val_digs] using hab) (by omega)
  rw [E_base_subDigits]
  refine h1.trans ?_
  simp only [List.drop_zero, val_digs] at h2
  simp only [val, Nat.pow_zero, Nat.one_mul, Nat.zero_add]
  rw [show r = a - b by omega]

/-- A number of at most m digits. -/
def Sz (m : Nat) (z : Int) : Prop := z.natAbs < 1000000000 ^ m
theorem Sz.len {m : Nat} {z : Int} (h : Sz m z) : (digs z.natAbs).length ≤ m := digs_len _ _ h
theorem Sz.neg {m : Nat} {z : Int} (h : Sz m z) : Sz m (-z) := by unfold Sz at *; rwa [Int.natAbs_neg]
theorem Sz.mono {m n : Nat} {z : Int} (h : Sz m z) (hmn : m ≤ n) : Sz n z := Nat.lt_of_lt_of_le h (Nat.pow_le_pow_right (by decide) hmn)
theorem Sz.le {m : Nat} {y z : Int} (h : Sz m z) (hy : y.natAbs ≤ z.natAbs) : Sz m y := Nat.lt_of_le_of_lt hy h
theorem Sz.mul {m n : Nat} {y z : Int} (hy : Sz m y) (hz : Sz n z) : Sz (m + n) (y * z) := by
  unfold Sz at *
  rw [Int.natAbs_mul, Nat.pow_add]
  exact Nat.mul_lt_mul_of_lt_of_le hy (Nat.le_of_lt hz) (Nat.pow_pos (by decide))
theorem Sz.add {m : Nat} {y z : Int} (hy : Sz m y) (hz : Sz m z) : Sz (m + 1) (y + z) := by
  unfold Sz at *
  rw [Nat.pow_succ]
  have := Int.natAbs_add_le y z
  omega
theorem sz_int {x : Int} (h : I64 x) : Sz 3 x := by
  unfold Sz
  have : (1000000000 : Nat) ^ 3 = 1000000000000000000000000000 := by decide
  omega

theorem WideNeg_spec (z : Int) : ev (envF N) (k + 1) F_base_WideNeg [vW z] = some (vW (-z)) := by
  rw [E_base_WideNeg]
  have e : w64 (0 - z.sign) = (-z).sign := by
    rw [Int.sign_neg, w64_id]
    · omega
    · rcases Int.sign_trichotomy z with h | h | h <;> omega
    · rcases Int.sign_trichotomy z with h | h | h <;> omega
  rw [e]
  simp only [vW, Int.natAbs_neg]

theorem eta_vW (z : Int) : PV.agg [.int .i64 (asI (nth (asA (vW z)) 0)), .sl none [.int .i64] (asL (nth (asA (vW z)) 1))] = vW z := rfl

theorem WideAdd_spec (hN : 1000000 ≤ N) {y z : Int} (hy : Sz 4000 y) (hz : Sz 4000 z) : ev (envF N) (k + 3) F_base_WideAdd [vW y, vW z] = some (vW (y + z)) := by
  have ly := hy.len
  have lz := hz.len
  rw [E_base_WideAdd]
  simp only [cond_dec, Int.sign_eq_zero_iff_zero]
  by_cases h1 : y = 0
  · subst h1
    rw [if_pos rfl, Int.zero_add]
  · rw [if_neg h1]
    by_cases h2 : z = 0
    · subst h2
      rw [if_pos rfl, Int.add_zero]
    · rw [if_neg h2]
      by_cases h3 : y.sign = z.sign
      · rw [if_pos h3]
        obtain ⟨r, r1, r2, r3, r4⟩ := addDigits_spec (N := N) (k := k) hN (dig_digs y.natAbs) (dig_digs z.natAbs) (by omega) (by omega)
        rw [r4]
        simp only [obind, asL_sl, wideOf_spec (k := k) hN r1 (by omega) y.sign]
        rw [val_digs, val_digs] at r3
        have e1 : (y + z).natAbs = val r := by
          rw [r3]
          rcases Int.lt_or_le y 0 with a | a
          · have : z.sign = -1 := by rw [← h3]; exact Int.sign_eq_neg_one_of_neg a
            have := Int.sign_eq_neg_one_iff_neg.1 this
            omega
          · have : z.sign = 1 := by rw [← h3]; exact Int.sign_eq_one_of_pos (by omega)
            have := Int.sign_eq_one_iff_pos.1 this
            omega
        rw [vW_of (s := y.sign) e1 ?sgn]
        case sgn =>
         rw [if_neg (by omega)]
         rcases Int.lt_or_le y 0 with a | a
         · have : z.sign = -1 := by rw [← h3]; exact Int.sign_eq_neg_one_of_neg a
           have := Int.sign_eq_neg_one_iff_neg.1 this
           rw [Int.sign_eq_neg_one_of_neg a, Int.sign_eq_neg_one_of_neg (by omega)]
         · have : z.sign = 1 := by rw [← h3]; exact Int.sign_eq_one_of_pos (by omega)
           have := Int.sign_eq_one_iff_pos.1 this
           rw [Int.sign_eq_one_of_pos (by omega), Int.sign_eq_one_of_pos (by omega)]
        rfl
      · rw [if_neg h3, cmpDigits_spec (k := k + 1) hN _ _ (by omega) (by omega)]
        simp only [obind, asI_int]
        have opp : (y < 0 ∧ 0 < z) ∨ (0 < y ∧ z < 0) := by
          rcases Int.lt_or_le y 0 with a | a
          · rcases Int.lt_or_le z 0 with b | b
            · exact absurd (by rw [Int.sign_eq_neg_one_of_neg a, Int.sign_eq_neg_one_of_neg b]) h3
            · omega
          · rcases Int.lt_or_le z 0 with b | b
            · omega
            · exact absurd (by rw [Int.sign_eq_one_of_pos (by omega), Int.sign_eq_one_of_pos (by omega)]) h3
        by_cases c1 : y.natAbs < z.natAbs
        · rw [if_pos c1, if_neg (show ¬ ((-1 : Int) = 0) by decide), if_neg (show ¬ ((0 : Int) < -1) by decide), subDigits_spec (k := k) hN (by omega) (by omega) (by omega)]
          have := digs_len (z.natAbs - y.natAbs) 4000 (Nat.lt_of_le_of_lt (Nat.sub_le _ _) hz)
          simp only [obind, asL_sl, wideOf_spec (k := k) hN (dig_digs _) (show (digs (z.natAbs - y.natAbs)).length ≤ 10000 by omega) z.sign, val_digs]
          have e1 : (y + z).natAbs = z.natAbs - y.natAbs := by omega
          rw [vW_of (s := z.sign) e1 ?sgn]
          case sgn =>
            rw [if_neg (by omega)]
            rcases opp with ⟨a, b⟩ | ⟨a, b⟩
            · rw [Int.sign_eq_one_of_pos b, Int.sign_eq_one_of_pos (by omega)]
            · rw [Int.sign_eq_neg_one_of_neg b, Int.sign_eq_neg_one_of_neg (by omega)]
          rfl
        · rw [if_neg c1]
          by_cases c2 : z.natAbs < y.natAbs
          · rw [if_pos c2, if_neg (show ¬ ((1 : Int) = 0) by decide), if_pos (show (0 : Int) < 1 by decide), subDigits_spec (k := k) hN (by omega) (by omega) (by omega)]
            have := digs_len (y.natAbs - z.natAbs) 4000 (Nat.lt_of_le_of_lt (Nat.sub_le _ _) hy)
            simp only [obind, asL_sl, wideOf_spec (k := k) hN (dig_digs _) (show (digs (y.natAbs - z.natAbs)).length ≤ 10000 by omega) y.sign, val_digs]
            have e1 : (y + z).natAbs = y.natAbs - z.natAbs := by omega
            rw [vW_of (s := y.sign) e1 ?sgn]
            case sgn =>
              rw [if_neg (by omega)]
              rcases opp with ⟨a, b⟩ | ⟨a, b⟩
              · rw [Int.sign_eq_neg_one_of_neg a, Int.sign_eq_neg_one_of_neg (by omega)]
              · rw [Int.sign_eq_one_of_pos a, Int.sign_eq_one_of_pos (by omega)]
            rfl
          · have e : y + z = 0 := by omega
            rw [if_neg c2, if_pos rfl, e]
            simp [digs_zero]

theorem WideSub_spec (hN : 1000000 ≤ N) {y z : Int} (hy : Sz 4000 y) (hz : Sz 4000 z) : ev (envF N) (k + 4) F_base_WideSub [vW y, vW z] = some (vW (y - z)) := by
  rw [E_base_WideSub, WideNeg_spec (k := k + 2)]
  simp only [obind, eta_vW]
  have := WideAdd_spec (N := N) (k := k) hN hy hz.neg
  rw [this]
  simp only [obind, Int.sub_eq_add_neg, eta_vW]

theorem WideCmp_spec (hN : 1000000 ≤ N) {y z : Int} (hy : Sz 4000 y) (hz : Sz 4000 z) : ev (envF N) (k + 5) F_base_WideCmp [vW y, vW z] = some (.int .i64 (y - z).sign) := by
  rw [E_base_WideCmp, WideSub_spec (k := k) hN hy hz]
  rfl

theorem WideSign_spec (z : Int) : ev (envF N) (k + 1) F_base_WideSign [vW z] = some (.int .i64 z.sign) := by
  rw [E_base_WideSign]

end
end Go.PevTab
