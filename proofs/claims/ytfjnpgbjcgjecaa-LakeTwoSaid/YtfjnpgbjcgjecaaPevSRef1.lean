/- TABLES in the reference: fractions, and what they come to in whole numbers. -/
import Derived.Test.YtfjnpgbjcgjecaaPevSLake3
namespace Go.PevTab
open Go.Pev Go.Num

/-! Quotients of whole numbers. -/
theorem floor_div {n d : Int} (hd : 0 < d) : ((n : Rat) / (d : Rat)).floor = n / d := by
  have hq : (0 : Rat) < (d : Rat) := Rat.intCast_pos.2 hd
  have key : ∀ x : Int, ((n : Rat) / (d : Rat)).floor < x ↔ n / d < x := by
    intro x
    rw [Rat.floor_lt_iff, Rat.div_lt_iff hq, ← Rat.intCast_mul, Rat.intCast_lt_intCast, Int.ediv_lt_iff_lt_mul hd]
  have h1 := (key (((n : Rat) / (d : Rat)).floor + 1)).1 (by omega)
  have h2 := (key (n / d + 1)).2 (by omega)
  omega
theorem ceil_div {n d : Int} (hd : 0 < d) : ((n : Rat) / (d : Rat)).ceil = cdiv n d := by
  have hq : (0 : Rat) < (d : Rat) := Rat.intCast_pos.2 hd
  have key : ∀ x : Int, x < ((n : Rat) / (d : Rat)).ceil ↔ x < cdiv n d := by
    intro x
    have := cdiv_le (n := n) (x := x) hd
    rw [Rat.lt_ceil_iff, Rat.lt_div_iff hq, ← Rat.intCast_mul, Rat.intCast_lt_intCast]
    omega
  have h1 := (key (((n : Rat) / (d : Rat)).ceil - 1)).1 (by omega)
  have h2 := (key (cdiv n d - 1)).2 (by omega)
  omega
theorem floor_add (l : Int) (q : Rat) : ((l : Rat) + q).floor = l + q.floor := by
  rw [Rat.add_comm, Rat.floor_add_intCast]; omega
theorem ceil_add (l : Int) (q : Rat) : ((l : Rat) + q).ceil = l + q.ceil := by
  rw [Rat.add_comm, Rat.ceil_add_intCast]; omega
theorem div_div_eq (x v h : Rat) : x / (v / h) = (x * h) / v := by
  rw [Rat.div_def, Rat.div_def, Rat.div_def, Rat.inv_mul_rev, Rat.inv_inv, Rat.mul_assoc]
theorem mul_div_eq (x v h : Rat) : x * (v / h) = (x * v) / h := by
  rw [Rat.div_def, Rat.div_def, Rat.mul_assoc]
theorem div_div_eq' (x h y : Rat) : x / h / y = x / (y * h) := by
  rw [Rat.div_def, Rat.div_def, Rat.div_def, Rat.inv_mul_rev, Rat.mul_assoc]
theorem div_lt_div {a b c d : Int} (hb : 0 < b) (hd : 0 < d) : (a : Rat) / (b : Rat) < (c : Rat) / (d : Rat) ↔ a * d < c * b := by
  have hb' : (0 : Rat) < (b : Rat) := Rat.intCast_pos.2 hb
  have hd' : (0 : Rat) < (d : Rat) := Rat.intCast_pos.2 hd
  rw [Rat.div_lt_iff hb', Rat.mul_comm ((c : Rat) / (d : Rat)), mul_div_eq, Rat.lt_div_iff hd', ← Rat.intCast_mul, ← Rat.intCast_mul, Rat.intCast_lt_intCast, Int.mul_comm b]

/-! Sizes. -/
theorem szR_int {x : Int} (h : I64 x) : SzR 3 (x : Rat) := ⟨by simpa using sz_int h, by simpa using sz_int (x := 1) (by decide)⟩
theorem SzR.add {m : Nat} {a b : Rat} (ha : SzR m a) (hb : SzR m b) : SzR (m + m + 1) (a + b) := by
  rw [Rat.add_def' a b, ← Rat.divInt_ofNat, Int.natCast_mul]
  exact szR_divInt (Int.mul_ne_zero den_sz den_sz) ((ha.num.mul hb.den).add (hb.num.mul ha.den)) ((ha.den.mul hb.den).mono (by omega))
theorem SzR.mul {m : Nat} {a b : Rat} (ha : SzR m a) (hb : SzR m b) : SzR (m + m) (a * b) := by
  rw [Rat.mul_def' a b, ← Rat.divInt_ofNat, Int.natCast_mul]
  exact szR_divInt (Int.mul_ne_zero den_sz den_sz) (ha.num.mul hb.num) (ha.den.mul hb.den)
theorem SzR.div {m : Nat} {a b : Rat} (ha : SzR m a) (hb : SzR m b) (h0 : b ≠ 0) : SzR (m + m) (a / b) := by
  rw [div_eq]
  exact szR_divInt (Int.mul_ne_zero den_sz (fun h => h0 (Rat.num_eq_zero.1 h))) (ha.num.mul hb.den) (ha.den.mul hb.num)
theorem SzR.neg {m : Nat} {a : Rat} (ha : SzR m a) : SzR m (-a) := ⟨by rw [Rat.neg_num]; exact ha.num.neg, by rw [Rat.neg_den]; exact ha.den⟩

/-- The area of a piece. -/
def ar (t : Tab) (i : Nat) : Rat := Rat.divInt (vol t i) (hgt t i)
theorem ar_eq (t : Tab) (i : Nat) : ar t i = (vol t i : Rat) / (hgt t i : Rat) := Rat.divInt_eq_div _ _

section
variable {N k : Nat}

theorem ref_piece (hN : 1000000 ≤ N) {t : Tab} {i : Nat} (h1 : 1 ≤ i) (hi : i < t.length) (hl : t.length ≤ 100000) (ha : Kr (kn t i)) (hb : Kr (kn t (i - 1))) (h0 : hgt t i ≠ 0) : ev (envF N) (k + 11) F_ref01_piece [vTab t, .int .i64 (i : Int)] = some (vR (ar t i)) := by
  unfold Kr at ha hb
  have e1 : w64 ((i : Int) - 1) = ((i - 1 : Nat) : Int) := by rw [w64_id] <;> omega
  have c1 : (0 : Int) ≤ ((i - 1 : Nat) : Int) := by omega
  have c2 : ((i - 1 : Nat) : Int) < (t.length : Int) := by omega
  have c3 : (0 : Int) ≤ (i : Int) := by omega
  have c4 : (i : Int) < (t.length : Int) := by omega
  have hV : (kn t i).v - (kn t (i - 1)).v = vol t i := by unfold vol; rfl
  have hH : (kn t i).l - (kn t (i - 1)).l = hgt t i := by unfold hgt; rfl
  have e2 : w64 ((kn t i).v - (kn t (i - 1)).v) = vol t i := by rw [w64_id (by omega) (by omega), hV]
  have e3 : w64 ((kn t i).l - (kn t (i - 1)).l) = hgt t i := by rw [w64_id (by omega) (by omega), hH]
  have g := RatioOf_spec (k := k) hN (n := vol t i) h0 (by constructor <;> omega) (by constructor <;> omega)
  rw [E_ref01_piece]
  simp only [cond_dec, List.length_map, e1, c1, c2, c3, c4, if_true, Int.toNat_natCast, leaf_cKl, leaf_cKv, e2, e3, g, obind, asA_agg, nth_zero, nth_one, nth_two, nth_three, asI_int, asL_sl]
  rfl

theorem ar_sz {t : Tab} {i : Nat} (ha : Kr (kn t i)) (hb : Kr (kn t (i - 1))) (h0 : hgt t i ≠ 0) : SzR 3 (ar t i) := by
  unfold Kr at ha hb
  refine szR_divInt h0 (sz_int ?_) (sz_int ?_)
  · unfold vol; constructor <;> omega
  · unfold hgt; constructor <;> omega

theorem ref_CheckTable_6 (hN : 1000000 ≤ N) (t : Tab) (hl : t.length ≤ 10) : ∀ (d n i : Nat), i + d = t.length → (∀ j, j < i → knotErr t j = 0) → d < n →
    L_ref01_CheckTable_6 N (k + 11) n (i : Int) (t.map cK) = some (.tup [.int .i64 (knotsErr t d i).1, .int .i64 (knotsErr t d i).2])
  | 0, n + 1, i, h, hj, hn => by
    rw [L_ref01_CheckTable_6_eq, cond_dec, List.length_map, if_neg (by omega)]
    rfl
  | d + 1, n + 1, i, h, hj, hn => by
    have c1 : (i : Int) < (t.length : Int) := by omega
    have c2 : (0 : Int) ≤ (i : Int) := by omega
    have e1 : w64 ((i : Int) + 1) = ((i + 1 : Nat) : Int) := by rw [w64_id] <;> omega
    have next (hz : knotErr t i = 0) : L_ref01_CheckTable_6 N (k + 11) n ((i + 1 : Nat) : Int) (t.map cK) = some (.tup [.int .i64 (knotsErr t (d + 1) i).1, .int .i64 (knotsErr t (d + 1) i).2]) := by
      rw [ref_CheckTable_6 hN t hl d n (i + 1) (by omega) (fun j h => by
        by_cases e : j = i
        · rw [e]; exact hz
        · exact hj j (by omega)) (by omega)]
      conv => rhs; rw [knotsErr, if_pos hz]
    have stop (e : Int) (he : knotErr t i = e) (h0 : e ≠ 0) : (some (PV.tup [.int .i64 (i : Int), .int .i64 e])) = some (.tup [.int .i64 (knotsErr t (d + 1) i).1, .int .i64 (knotsErr t (d + 1) i).2]) := by
      rw [knotsErr, if_neg (by rw [he]; exact h0), he]
    rw [L_ref01_CheckTable_6_eq]
    simp only [cond_dec, cond_ndec, c1, c2, List.length_map, if_true, Int.toNat_natCast, leaf_cKl, leaf_cKv, base_Within, obind, asB_bool, e1]
    by_cases r1 : 0 ≤ (kn t i).l ∧ (kn t i).l ≤ 1000000
    · rw [if_pos r1]
      by_cases r2 : 0 ≤ (kn t i).v ∧ (kn t i).v ≤ 1000000000
      · rw [if_pos r2]
        by_cases i0 : i = 0
        · subst i0
          rw [if_pos (by omega)]
          exact next (by unfold knotErr; rw [if_neg (by omega), if_pos rfl])
        · have e2 : w64 ((i : Int) - 1) = ((i - 1 : Nat) : Int) := by rw [w64_id] <;> omega
          have c3 : (0 : Int) ≤ ((i - 1 : Nat) : Int) := by omega
          have c4 : ((i - 1 : Nat) : Int) < (t.length : Int) := by omega
          have p1 : Kr (kn t i) := ⟨r1.1, r1.2, r2.1, r2.2⟩
          have p2 : Kr (kn t (i - 1)) := (knotErr_zero (hj (i - 1) (by omega))).1
          rw [if_neg (by omega)]
          simp only [e2, c3, c4, if_true, Int.toNat_natCast, leaf_cKl, leaf_cKv]
          by_cases o1 : (kn t i).l ≤ (kn t (i - 1)).l
          · rw [if_pos o1]
            exact stop 9 (by unfold knotErr; rw [if_neg (by omega), if_neg i0, if_pos (by omega)]) (by decide)
          · rw [if_neg o1]
            by_cases o2 : (kn t i).v ≤ (kn t (i - 1)).v
            · rw [if_pos o2]
              exact stop 9 (by unfold knotErr; rw [if_neg (by omega), if_neg i0, if_pos (by omega)]) (by decide)
            · rw [if_neg o2]
              by_cases i1 : 1 < i
              · have p3 : Kr (kn t (i - 1 - 1)) := (knotErr_zero (hj (i - 1 - 1) (by omega))).1
                have o3 := (knotErr_zero (hj (i - 1) (by omega))).2.1 (by omega)
                have hp1 : 0 < hgt t i := by unfold hgt; omega
                have hp2 : 0 < hgt t (i - 1) := by unfold hgt; omega
                have g1 := ref_piece (k := k) hN (t := t) (i := i) (by omega) (by omega) (by omega) p1 p2 (by omega)
                have g2 := ref_piece (k := k) hN (t := t) (i := i - 1) (by omega) (by omega) (by omega) p2 p3 (by omega)
                have g3 := RatioCmp_spec (k := k + 5) hN ((ar_sz p1 p2 (by omega)).mono (n := 400) (by omega)) ((ar_sz p2 p3 (by omega)).mono (n := 400) (by omega))
                have hlt : ((ar t i).num * ((ar t (i - 1)).den : Int) - (ar t (i - 1)).num * ((ar t i).den : Int)).sign < 0 ↔ vol t i * hgt t (i - 1) < vol t (i - 1) * hgt t i := by
                  rw [cmp_lt, ar_eq, ar_eq, div_lt_div hp1 hp2]
                rw [if_pos (by omega)]
                simp only [g1, g2, g3, obind, asA_agg, nth_zero, nth_one, nth_two, nth_three, asI_int, asL_sl, hlt]
                have hw : vol t i * hgt t (i - 1) < vol t (i - 1) * hgt t i ↔ ((kn t i).v - (kn t (i - 1)).v) * ((kn t (i - 1)).l - (kn t (i - 2)).l) < ((kn t (i - 1)).v - (kn t (i - 2)).v) * ((kn t i).l - (kn t (i - 1)).l) := by
                  unfold vol hgt
                  rw [show i - 1 - 1 = i - 2 by omega]
                by_cases w : vol t i * hgt t (i - 1) < vol t (i - 1) * hgt t i
                · rw [if_pos w]
                  exact stop 22 (by unfold knotErr; rw [if_neg (by omega), if_neg i0, if_neg (by omega), if_pos ⟨i1, hw.1 w⟩]) (by decide)
                · rw [if_neg w]
                  exact next (by unfold knotErr; rw [if_neg (by omega), if_neg i0, if_neg (by omega), if_neg (fun h => w (hw.2 h.2))])
              · rw [if_neg (by omega)]
                exact next (by unfold knotErr; rw [if_neg (by omega), if_neg i0, if_neg (by omega), if_neg (fun h => i1 h.1)])
      · rw [if_neg r2]
        exact stop 2 (by unfold knotErr; rw [if_pos (by omega)]) (by decide)
    · rw [if_neg r1]
      exact stop 2 (by unfold knotErr; rw [if_pos (by omega)]) (by decide)

theorem ref_CheckTable (hN : 1000000 ≤ N) (t : Tab) : ev (envF N) (k + 12) F_ref01_CheckTable [vTab t] = some (.tup [.int .i64 (tabErr t).1, .int .i64 (tabErr t).2]) := by
  rw [E_ref01_CheckTable, cond_dec, cond_dec, List.length_map]
  unfold tabErr
  by_cases h2 : t.length < 2
  · rw [if_pos (by omega), if_pos h2]
  · rw [if_neg (by omega), if_neg h2]
    by_cases h10 : 10 < t.length
    · rw [if_pos (by omega), if_pos h10]
    · rw [if_neg (by omega), if_neg h10]
      exact ref_CheckTable_6 hN t (by omega) t.length N 0 (by omega) (fun j h => by omega) (by omega)

theorem ref_TableErr (hN : 1000000 ≤ N) (t : Tab) : ev (envF N) (k + 13) F_ref01_TableErr [vTab t] = some (.int .i64 (tErr t)) := by
  rw [E_ref01_TableErr, ref_CheckTable hN]
  simp only [obind, asT_tup, nth_one, asI_int, tErr]

theorem ref_Bottom {t : Tab} (h : 1 ≤ t.length) : ev (envF N) (k + 1) F_ref01_Bottom [vTab t] = some (.agg [.int .i64 (kn t 0).l, .int .i64 (kn t 0).v]) := by
  rw [E_ref01_Bottom, cond_dec, List.length_map, if_pos (by omega), leaf_cKl, leaf_cKv]
  rfl
theorem ref_Top {t : Tab} (h : 1 ≤ t.length) (hl : t.length ≤ 100000) : ev (envF N) (k + 1) F_ref01_Top [vTab t] = some (.agg [.int .i64 (kn t (t.length - 1)).l, .int .i64 (kn t (t.length - 1)).v]) := by
  have e : w64 ((t.length : Int) - 1) = ((t.length - 1 : Nat) : Int) := by rw [w64_id] <;> omega
  rw [E_ref01_Top, cond_dec, cond_dec, List.length_map, e, if_pos (by omega), if_pos (by omega), Int.toNat_natCast, leaf_cKl, leaf_cKv]

theorem ref_IsLevel {t : Tab} (h : Ok t) (l : Int) : ev (envF N) (k + 2) F_ref01_IsLevel [vTab t, .int .i64 l] = some (.bool (decide (IsL t l))) := by
  have h2 := h.two
  have h10 := h.ten
  rw [E_ref01_IsLevel, ref_Bottom (by omega), ref_Top (by omega) (by omega)]
  simp only [obind, asA_agg, nth_zero, asI_int, base_Within, asB_bool]
  rfl
theorem ref_IsVolume {t : Tab} (h : Ok t) (v : Int) : ev (envF N) (k + 2) F_ref01_IsVolume [vTab t, .int .i64 v] = some (.bool (decide (IsV t v))) := by
  have h2 := h.two
  have h10 := h.ten
  rw [E_ref01_IsVolume, ref_Bottom (by omega), ref_Top (by omega) (by omega)]
  simp only [obind, asA_agg, nth_one, asI_int, base_Within, asB_bool]
  rfl

theorem ref_PairErr (hN : 1000000 ≤ N) (p : Pair) : ev (envF N) (k + 14) F_ref01_PairErr [vPair p] = some (.int .i64 (pErr p)) := by
  rw [E_ref01_PairErr, ref_TableErr hN]
  simp only [obind, asI_int, cond_ndec, ref_TableErr (k := k) hN, base_Within, asB_bool]
  unfold pErr
  by_cases h1 : tErr p.u = 0
  · rw [if_pos h1, if_pos h1]
    by_cases h2 : tErr p.l = 0
    · rw [if_pos h2, if_pos h2]
      by_cases h3 : 0 ≤ p.r ∧ p.r ≤ 1000
      · rw [if_pos h3, if_pos h3]
      · rw [if_neg h3, if_neg h3]
    · rw [if_neg h2, if_neg h2]
  · rw [if_neg h1, if_neg h1]

theorem ref_StateErr {p : Pair} (h : POk p) (s : Vols) : ev (envF N) (k + 3) F_ref01_StateErr [vPair p, vVols s] = some (.int .i64 (sErr p s)) := by
  rw [E_ref01_StateErr, ref_IsVolume h.u]
  simp only [obind, asB_bool, cond_ndec, ref_IsVolume h.l]
  unfold sErr
  by_cases hu : IsV p.u s.u
  · by_cases hl : IsV p.l s.l <;> simp [hu, hl]
  · simp [hu]

theorem ref_BothErr (hN : 1000000 ≤ N) (p : Pair) (s : Vols) : ev (envF N) (k + 15) F_ref01_BothErr [vPair p, vVols s] = some (.int .i64 (bErr p s)) := by
  rw [E_ref01_BothErr, ref_PairErr hN]
  simp only [obind, asI_int, cond_ndec]
  unfold bErr
  by_cases h : pErr p = 0
  · rw [if_pos h, if_pos h, ref_StateErr (k := k + 11) (pOk_of h)]
    simp only [obind, asI_int]
  · rw [if_neg h, if_neg h]

theorem ref_FlowsErr (f : Flow) : ev (envF N) (k + 2) F_ref01_FlowsErr [vFlow f] = some (.int .i64 (fErr f)) := by
  rw [E_ref01_FlowsErr, base_Within]
  simp only [obind, asB_bool, cond_ndec, base_Within]
  unfold fErr
  by_cases h1 : 0 ≤ f.a ∧ f.a ≤ 10000000
  · by_cases h2 : 0 ≤ f.b ∧ f.b ≤ 10000000
    · by_cases h3 : -10000000 ≤ f.x ∧ f.x ≤ 10000000 <;> simp [h1, h2, h3]
    · simp [h1, h2]
  · simp [h1]

theorem room_nil (xs : List (List PV)) (b : Nat) (h : xs.length ≤ 100000) (hb : b ≤ 1000) : room [] xs b = true := by
  unfold room
  rw [decide_eq_true_eq]
  simp only [List.length_nil, Nat.zero_add]
  have : xs.length * b ≤ 100000 * 1000 := Nat.mul_le_mul h hb
  omega

theorem ref_Copy (t : Tab) (h : t.length ≤ 100000) : ev (envF N) (k + 1) F_ref01_Copy [vTab t] = some (vTab t) := by
  rw [E_ref01_Copy, room_nil _ _ (by rw [List.length_map]; exact h) (by decide), cond_t]
theorem ref_CopyPair (p : Pair) (h1 : p.u.length ≤ 100000) (h2 : p.l.length ≤ 100000) : ev (envF N) (k + 2) F_ref01_CopyPair [vPair p] = some (vPair p) := by
  rw [E_ref01_CopyPair, ref_Copy _ h1, ref_Copy _ h2]
  simp only [obind, asA_agg, nth_zero, asL_sl]
theorem ref_CopyList (l : List Flow) (h : l.length ≤ 100000) : ev (envF N) (k + 1) F_ref01_CopyList [.sl none [.int .i64, .int .i64, .int .i64] (l.map cF)] = some (.sl none [.int .i64, .int .i64, .int .i64] (l.map cF)) := by
  rw [E_ref01_CopyList, room_nil _ _ (by rw [List.length_map]; exact h) (by decide), cond_t]

theorem law_Few (t : Tab) : ev (envF N) (k + 1) F_law01_Few [vTab t] = some (.bool (decide (t.length ≤ 12))) := by
  rw [E_law01_Few, List.length_map]
  congr 2
  rw [decide_eq_decide]
  omega
theorem law_FewPair (p : Pair) : ev (envF N) (k + 2) F_law01_FewPair [vPair p] = some (.bool (decide (p.u.length ≤ 12 ∧ p.l.length ≤ 12))) := by
  rw [E_law01_FewPair, law_Few, law_Few]
  simp only [obind, asB_bool, cond_dec]
  by_cases h : p.u.length ≤ 12 <;> simp [h]

end
end Go.PevTab
