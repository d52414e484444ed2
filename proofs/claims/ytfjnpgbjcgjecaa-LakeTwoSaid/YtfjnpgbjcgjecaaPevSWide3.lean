/- WHOLE NUMBERS OF ANY SIZE: products. -/
import Derived.Test.YtfjnpgbjcgjecaaPevSWide2
namespace Go.PevTab
open Go.Pev Go.Num

section
variable {N k : Nat}

theorem set_cD (l : List Nat) (j x : Nat) (h : j < l.length) : List.set (l.map cD) j (List.set (nths (l.map cD) j) 0 (.int .i64 (x : Int))) = (l.set j x).map cD := by
  rw [nths_map cD l j h, List.map_set]
  rfl

theorem getD_set (l : List Nat) (j x i : Nat) (h : i ≠ j) : (l.set j x).getD i 0 = l.getD i 0 := by
  rw [List.getD_eq_getElem?_getD, List.getElem?_set_ne (Ne.symm h), ← List.getD_eq_getElem?_getD]

theorem WideMul_inner (a b : List Nat) (ha : Dig a) (hb : Dig b) (hla : a.length ≤ 5000) (hlb : b.length ≤ 5000) (sa sb : Int) (x7 : Int) (x8 : List (List PV)) (n3 i : Nat) (hi : i < a.length) : ∀ (d n kk c : Nat) (out : List Nat), kk + d = b.length → Dig out → out.length = a.length + b.length + 1 → c < 1000000000 → (∀ j, i + b.length ≤ j → out.getD j 0 = 0) → d < n →
    ∃ out', L_base_WideMul_7 N k n n3 (i : Int) (c : Int) (kk : Int) sa (a.map cD) sb (b.map cD) x7 x8 (out.map cD) = L_base_WideMul_3 N k n3 ((i + 1 : Nat) : Int) sa (a.map cD) sb (b.map cD) x7 x8 (out'.map cD) ∧
      Dig out' ∧ out'.length = a.length + b.length + 1 ∧ (∀ j, i + 1 + b.length ≤ j → out'.getD j 0 = 0) ∧ val out' = val out + 1000000000 ^ (i + kk) * (c + a.getD i 0 * val (b.drop kk))
  | 0, n + 1, kk, c, out, h1, h2, h3, h4, h5, h6 => by
    have hk : kk = b.length := by omega
    subst hk
    rw [L_base_WideMul_7_eq]
    have e1 : w64 ((i : Int) + ((b.length : Nat) : Int)) = ((i + b.length : Nat) : Int) := by rw [w64_id] <;> omega
    have e2 : w64 ((i : Int) + 1) = ((i + 1 : Nat) : Int) := by rw [w64_id] <;> omega
    have e3 : w64 (((out.getD (i + b.length) 0 : Nat) : Int) + (c : Int)) = (c : Int) := by rw [h5 _ (Nat.le_refl _), w64_id] <;> omega
    have c1 : ¬ ((b.length : Int) < (b.length : Int)) := by omega
    have c2 : (0 : Int) ≤ ((i + b.length : Nat) : Int) := by omega
    have c3 : ((i + b.length : Nat) : Int) < (out.length : Int) := by omega
    have hs : List.set (out.map cD) (i + b.length) (List.set (nths (out.map cD) (i + b.length)) 0 (.int .i64 (c : Int))) = (out.set (i + b.length) c).map cD := set_cD _ _ _ (by omega)
    refine ⟨out.set (i + b.length) c, ?_, h2.set _ h4, by simpa using h3, ?_, ?_⟩
    · simp only [cond_dec, List.length_map, e1, e2, c1, c2, c3, if_true, if_false, Int.toNat_natCast, leaf_cD, e3, hs]
    · intro j hj
      rw [getD_set _ _ _ _ (by omega)]
      exact h5 j (by omega)
    · have := val_set out (i + b.length) c (by omega)
      rw [h5 _ (Nat.le_refl _), Nat.mul_zero, Nat.add_zero] at this
      rw [this, List.drop_length]
      simp [val]
  | d + 1, n + 1, kk, c, out, h1, h2, h3, h4, h5, h6 => by
    have hai := ha.getD i
    have hbi := hb.getD kk
    have hoi := h2.getD (i + kk)
    obtain ⟨p, hp⟩ : ∃ p, a.getD i 0 * b.getD kk 0 = p := ⟨_, rfl⟩
    have hple : p ≤ 999999999 * 999999999 := by rw [← hp]; exact Nat.mul_le_mul (by omega) (by omega)
    obtain ⟨s, hs⟩ : ∃ s, out.getD (i + kk) 0 + p + c = s := ⟨_, rfl⟩
    have hslt : s / 1000000000 < 1000000000 := by omega
    have e1 : w64 ((i : Int) + (kk : Int)) = ((i + kk : Nat) : Int) := by rw [w64_id] <;> omega
    have e2 : w64 ((kk : Int) + 1) = ((kk + 1 : Nat) : Int) := by rw [w64_id] <;> omega
    have ep : ((a.getD i 0 : Nat) : Int) * ((b.getD kk 0 : Nat) : Int) = (p : Int) := by rw [← hp, Int.natCast_mul]
    have e3 : w64 (w64 (((out.getD (i + kk) 0 : Nat) : Int) + w64 (((a.getD i 0 : Nat) : Int) * ((b.getD kk 0 : Nat) : Int))) + (c : Int)) = (s : Int) := by
      rw [ep, w64_id (x := (p : Int)) (by omega) (by omega), w64_id (x := ((out.getD (i + kk) 0 : Nat) : Int) + (p : Int)) (by omega) (by omega), w64_id (by omega) (by omega)]
      omega
    have e4 : w64 ((s / 1000000000 : Nat) : Int) = ((s / 1000000000 : Nat) : Int) := by rw [w64_id] <;> omega
    have c1 : ((kk : Int) < (b.length : Int)) := by omega
    have c2 : (0 : Int) ≤ ((i + kk : Nat) : Int) := by omega
    have c3 : ((i + kk : Nat) : Int) < (out.length : Int) := by omega
    have c4 : (0 : Int) ≤ (i : Int) := by omega
    have c5 : (i : Int) < (a.length : Int) := by omega
    have c6 : (0 : Int) ≤ (kk : Int) := by omega
    have hset : List.set (out.map cD) (i + kk) (List.set (nths (out.map cD) (i + kk)) 0 (.int .i64 ((s % 1000000000 : Nat) : Int))) = (out.set (i + kk) (s % 1000000000)).map cD := set_cD _ _ _ (by omega)
    have hm : s % 1000000000 < 1000000000 := Nat.mod_lt _ (by decide)
    obtain ⟨out', r1, r2, r3, r4, r5⟩ := WideMul_inner a b ha hb hla hlb sa sb x7 x8 n3 i hi d n (kk + 1) (s / 1000000000) (out.set (i + kk) (s % 1000000000)) (by omega) (h2.set _ hm) (by simpa using h3) hslt (fun j hj => by
      rw [getD_set _ _ _ _ (by omega)]
      exact h5 j hj) (by omega)
    refine ⟨out', ?_, r2, r3, r4, ?_⟩
    · rw [L_base_WideMul_7_eq]
      simp only [cond_dec, List.length_map, e1, e2, c1, c2, c3, c4, c5, c6, if_true, Int.toNat_natCast, leaf_cD, e3, tmod_nat, tdiv_nat, e4, hset]
      exact r1
    · have hv := val_set out (i + kk) (s % 1000000000) (by omega)
      have hd := val_drop b kk
      rw [r5, hd]
      have key : 1000000000 ^ (i + (kk + 1)) = 1000000000 ^ (i + kk) * 1000000000 := by rw [← Nat.add_assoc, Nat.pow_succ]
      rw [key, Nat.mul_assoc]
      have split1 : 1000000000 * (s / 1000000000 + a.getD i 0 * val (b.drop (kk + 1))) + s % 1000000000 = out.getD (i + kk) 0 + (c + a.getD i 0 * (b.getD kk 0 + 1000000000 * val (b.drop (kk + 1)))) := by
        have : a.getD i 0 * (b.getD kk 0 + 1000000000 * val (b.drop (kk + 1))) = p + 1000000000 * (a.getD i 0 * val (b.drop (kk + 1))) := by
          rw [Nat.mul_add, hp, Nat.mul_left_comm]
        rw [this]
        omega
      have e5 := congrArg (1000000000 ^ (i + kk) * ·) split1
      rw [Nat.mul_add, Nat.mul_add (1000000000 ^ (i + kk)) (out.getD (i + kk) 0)] at e5
      omega

theorem WideMul_outer (hN : 1000000 ≤ N) (a b : List Nat) (ha : Dig a) (hb : Dig b) (hla : a.length ≤ 4000) (hlb : b.length ≤ 4000) (sa sb : Int) (x5 : Int) (x6 : List (List PV)) : ∀ (d n i : Nat) (out : List Nat), i + d = a.length → Dig out → out.length = a.length + b.length + 1 → (∀ j, i + b.length ≤ j → out.getD j 0 = 0) → val out = val (a.take i) * val b → d < n →
    L_base_WideMul_3 N (k + 2) n (i : Int) sa (a.map cD) sb (b.map cD) x5 x6 (out.map cD) = some (.agg [.int .i64 (if val a * val b = 0 then 0 else w64 (sa * sb)), vD (digs (val a * val b))])
  | 0, n + 1, i, out, h1, h2, h3, h4, h5, h6 => by
    have hi : i = a.length := by omega
    subst hi
    rw [List.take_length] at h5
    rw [L_base_WideMul_3_eq, cond_dec, List.length_map, if_neg (by omega), wideOf_spec hN h2 (by omega)]
    simp only [obind, asA_agg, nth_zero, nth_one, asI_int, asL_sl, h5]
  | d + 1, n + 1, i, out, h1, h2, h3, h4, h5, h6 => by
    obtain ⟨out', r1, r2, r3, r4, r5⟩ := WideMul_inner (N := N) (k := k + 2) a b ha hb (by omega) (by omega) sa sb x5 x6 n i (by omega) b.length N 0 0 out (by omega) h2 h3 (by decide) h4 (by omega)
    rw [L_base_WideMul_3_eq, cond_dec, List.length_map, if_pos (by omega)]
    refine r1.trans (WideMul_outer hN a b ha hb hla hlb sa sb x5 x6 d n (i + 1) out' (by omega) r2 r3 r4 ?_ (by omega))
    rw [r5, h5, val_take_succ, List.drop_zero, Nat.zero_add, Nat.add_zero, Nat.add_mul, Nat.mul_assoc]

theorem WideMul_spec (hN : 1000000 ≤ N) {y z : Int} (hy : Sz 2000 y) (hz : Sz 2000 z) : ev (envF N) (k + 3) F_base_WideMul [vW y, vW z] = some (vW (y * z)) := by
  have ly := hy.len
  have lz := hz.len
  rw [E_base_WideMul]
  have e1 : w64 (w64 (((digs y.natAbs).length : Int) + ((digs z.natAbs).length : Int)) + 1) = (((digs y.natAbs).length + (digs z.natAbs).length + 1 : Nat) : Int) := by
    rw [w64_id (x := ((digs y.natAbs).length : Int) + ((digs z.natAbs).length : Int)) (by omega) (by omega), w64_id (by omega) (by omega)]
    omega
  have c1 : (0 : Int) ≤ (((digs y.natAbs).length + (digs z.natAbs).length + 1 : Nat) : Int) := by omega
  have c2 : (((digs y.natAbs).length + (digs z.natAbs).length + 1 : Nat) : Int) * 8 ≤ 140737488355328 := by omega
  have er (m : Nat) : List.replicate m [PV.int .i64 0] = (List.replicate m 0).map cD := by rw [List.map_replicate]; rfl
  simp only [cond_dec, List.length_map, e1, c1, c2, if_true, Int.toNat_natCast, er]
  have := WideMul_outer (k := k) hN (digs y.natAbs) (digs z.natAbs) (dig_digs _) (dig_digs _) (by omega) (by omega) y.sign z.sign 0 [] (digs y.natAbs).length N 0 (List.replicate ((digs y.natAbs).length + (digs z.natAbs).length + 1) 0) (by omega) (dig_replicate _) (by simp) (fun j _ => by
    rw [List.getD_eq_getElem?_getD, List.getElem?_replicate]; split <;> rfl) (by rw [val_replicate]; simp [val]) (by omega)
  refine this.trans ?_
  rw [val_digs, val_digs]
  refine congrArg some (vW_of (by rw [Int.natAbs_mul]) ?_)
  rw [Int.sign_mul, w64_id]
  · by_cases h1 : y = 0
    · simp [h1]
    · by_cases h2 : z = 0
      · simp [h2]
      · have : y.natAbs * z.natAbs ≠ 0 := by
          intro h
          rcases Nat.mul_eq_zero.1 h with h | h <;> omega
        rw [if_neg this]
  · rcases Int.sign_trichotomy y with h | h | h <;> rcases Int.sign_trichotomy z with h' | h' | h' <;> rw [h, h'] <;> decide
  · rcases Int.sign_trichotomy y with h | h | h <;> rcases Int.sign_trichotomy z with h' | h' | h' <;> rw [h, h'] <;> decide

end
end Go.PevTab
