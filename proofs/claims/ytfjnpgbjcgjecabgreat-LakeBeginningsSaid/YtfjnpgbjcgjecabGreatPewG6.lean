/- TABLES in the reference: fractions, and what they come to in whole numbers. -/
/- LEVELS, VOLUMES, AREAS AND STEPS in the reference. -/
/- RUNS: step after step, in the program and in the reference. -/
/- LIMITS AND VIOLATIONS in the program. -/
/- LEVELS AS FRACTIONS: the program's and the reference's comparisons agree. -/
/- VIOLATIONS in the reference: they are those of the program. -/
/- RUNS: more of them, in plain data. -/
/- LIMITS AND TASKS in the reference: their errors. -/
/- VIOLATIONS AND PERMITTED TICKS: the reference's and the program's functions. -/
/- PERMITTED TICKS in the program; limits checked. -/
/- EVERY BEGINNING: first violations, of beginnings, of more flows, under wider limits: plain data. -/
/- EQUATIONS OF FUNCTIONS, by the kernel's own reckoning; written by a program. -/
/- THE LAW OF LIMITS over the evaluator: it gives true. -/
/- A PIECE OF CODE BY ITS PLACE, and all that follows it. -/
import Derived.Test.YtfjnpgbjcgjecabGreatPewG5
import Derived.Test.YtfjnpgbjcgjecabGreatPewG4
import Derived.Test.YtfjnpgbjcgjecabGreatPewG3

namespace Go.PewTab
set_option linter.unusedSimpArgs false
set_option linter.unusedVariables false
open Go.Pew Go.Num

/-! Quotients of whole numbers. -/
theorem floor_div {n d : Int} (hd : 0 < d) : ((n : Rat) / (d : Rat)).floor = n / d := by
  have hq : (0 : Rat) < (d : Rat) := Rat.intCast_pos.2 hd
  have key : ∀ x : Int, ((n : Rat) / (d : Rat)).floor < x ↔ n / d < x := by
    intro x
    rw [Rat.floor_lt_iff, Rat.div_lt_iff hq, ← Rat.intCast_mul, Rat.intCast_lt_intCast, Int.ediv_lt_iff_lt_mul hd]
  have h1 := (key (((n : Rat) / (d : Rat)).floor + 1)).1 (by omega)
  have h2 := (key (n / d + 1)).2 (by omega)
  omega
theorem ceil_div {n d : Int} (hd : 0 < d) : ((n : Rat) / (d : Rat)).ceil = cdiv n d := by
  have hq : (0 : Rat) < (d : Rat) := Rat.intCast_pos.2 hd
  have key : ∀ x : Int, x < ((n : Rat) / (d : Rat)).ceil ↔ x < cdiv n d := by
    intro x
    have := cdiv_le (n := n) (x := x) hd
    rw [Rat.lt_ceil_iff, Rat.lt_div_iff hq, ← Rat.intCast_mul, Rat.intCast_lt_intCast]
    omega
  have h1 := (key (((n : Rat) / (d : Rat)).ceil - 1)).1 (by omega)
  have h2 := (key (cdiv n d - 1)).2 (by omega)
  omega
theorem floor_add (l : Int) (q : Rat) : ((l : Rat) + q).floor = l + q.floor := by
  rw [Rat.add_comm, Rat.floor_add_intCast]; omega
theorem ceil_add (l : Int) (q : Rat) : ((l : Rat) + q).ceil = l + q.ceil := by
  rw [Rat.add_comm, Rat.ceil_add_intCast]; omega
theorem div_div_eq (x v h : Rat) : x / (v / h) = (x * h) / v := by
  rw [Rat.div_def, Rat.div_def, Rat.div_def, Rat.inv_mul_rev, Rat.inv_inv, Rat.mul_assoc]
theorem mul_div_eq (x v h : Rat) : x * (v / h) = (x * v) / h := by
  rw [Rat.div_def, Rat.div_def, Rat.mul_assoc]
theorem div_div_eq' (x h y : Rat) : x / h / y = x / (y * h) := by
  rw [Rat.div_def, Rat.div_def, Rat.div_def, Rat.inv_mul_rev, Rat.mul_assoc]
theorem div_lt_div {a b c d : Int} (hb : 0 < b) (hd : 0 < d) : (a : Rat) / (b : Rat) < (c : Rat) / (d : Rat) ↔ a * d < c * b := by
  have hb' : (0 : Rat) < (b : Rat) := Rat.intCast_pos.2 hb
  have hd' : (0 : Rat) < (d : Rat) := Rat.intCast_pos.2 hd
  rw [Rat.div_lt_iff hb', Rat.mul_comm ((c : Rat) / (d : Rat)), mul_div_eq, Rat.lt_div_iff hd', ← Rat.intCast_mul, ← Rat.intCast_mul, Rat.intCast_lt_intCast, Int.mul_comm b]

/-! Sizes. -/
theorem szR_int {x : Int} (h : I64 x) : SzR 3 (x : Rat) := ⟨by simpa using sz_int h, by simpa using sz_int (x := 1) (by decide)⟩
theorem SzR.add {m : Nat} {a b : Rat} (ha : SzR m a) (hb : SzR m b) : SzR (m + m + 1) (a + b) := by
  rw [Rat.add_def' a b, ← Rat.divInt_ofNat, Int.natCast_mul]
  exact szR_divInt (Int.mul_ne_zero den_sz den_sz) ((ha.num.mul hb.den).add (hb.num.mul ha.den)) ((ha.den.mul hb.den).mono (by omega))
theorem SzR.mul {m : Nat} {a b : Rat} (ha : SzR m a) (hb : SzR m b) : SzR (m + m) (a * b) := by
  rw [Rat.mul_def' a b, ← Rat.divInt_ofNat, Int.natCast_mul]
  exact szR_divInt (Int.mul_ne_zero den_sz den_sz) (ha.num.mul hb.num) (ha.den.mul hb.den)
theorem SzR.div {m : Nat} {a b : Rat} (ha : SzR m a) (hb : SzR m b) (h0 : b ≠ 0) : SzR (m + m) (a / b) := by
  rw [div_eq]
  exact szR_divInt (Int.mul_ne_zero den_sz (fun h => h0 (Rat.num_eq_zero.1 h))) (ha.num.mul hb.den) (ha.den.mul hb.num)
theorem SzR.neg {m : Nat} {a : Rat} (ha : SzR m a) : SzR m (-a) := ⟨by rw [Rat.neg_num]; exact ha.num.neg, by rw [Rat.neg_den]; exact ha.den⟩

/-- The area of a piece. -/
def ar (t : Tab) (i : Nat) : Rat := Rat.divInt (vol t i) (hgt t i)
theorem ar_eq (t : Tab) (i : Nat) : ar t i = (vol t i : Rat) / (hgt t i : Rat) := Rat.divInt_eq_div _ _

section
variable {N k : Nat}

theorem ref_piece (hN : 1000000 ≤ N) {t : Tab} {i : Nat} (h1 : 1 ≤ i) (hi : i < t.length) (hl : t.length ≤ 100000) (ha : Kr (kn t i)) (hb : Kr (kn t (i - 1))) (h0 : hgt t i ≠ 0) : ev (envF N) (k + 11) F_ref01_piece [vTab t, .int .i64 (i : Int)] = some (vR (ar t i)) := by
  unfold Kr at ha hb
  have e1 : w64 ((i : Int) - 1) = ((i - 1 : Nat) : Int) := by rw [w64_id] <;> omega
  have c1 : (0 : Int) ≤ ((i - 1 : Nat) : Int) := by omega
  have c2 : ((i - 1 : Nat) : Int) < (t.length : Int) := by omega
  have c3 : (0 : Int) ≤ (i : Int) := by omega
  have c4 : (i : Int) < (t.length : Int) := by omega
  have hV : (kn t i).v - (kn t (i - 1)).v = vol t i := by unfold vol; rfl
  have hH : (kn t i).l - (kn t (i - 1)).l = hgt t i := by unfold hgt; rfl
  have e2 : w64 ((kn t i).v - (kn t (i - 1)).v) = vol t i := by rw [w64_id (by omega) (by omega), hV]
  have e3 : w64 ((kn t i).l - (kn t (i - 1)).l) = hgt t i := by rw [w64_id (by omega) (by omega), hH]
  have g := RatioOf_spec (k := k) hN (n := vol t i) h0 (by constructor <;> omega) (by constructor <;> omega)
  rw [E_ref01_piece]
  simp only [cond_dec, List.length_map, e1, c1, c2, c3, c4, if_true, Int.toNat_natCast, leaf_cKl, leaf_cKv, e2, e3, g, obind, asA_agg, nth_zero, nth_one, nth_two, nth_three, asI_int, asL_sl]
  rfl

theorem ar_sz {t : Tab} {i : Nat} (ha : Kr (kn t i)) (hb : Kr (kn t (i - 1))) (h0 : hgt t i ≠ 0) : SzR 3 (ar t i) := by
  unfold Kr at ha hb
  refine szR_divInt h0 (sz_int ?_) (sz_int ?_)
  · unfold vol; constructor <;> omega
  · unfold hgt; constructor <;> omega

theorem ref_CheckTable_6 (hN : 1000000 ≤ N) (t : Tab) (hl : t.length ≤ 10) : ∀ (d n i : Nat), i + d = t.length → (∀ j, j < i → knotErr t j = 0) → d < n →
    L_ref01_CheckTable_6 N (k + 11) n (i : Int) (t.map cK) = some (.tup [.int .i64 (knotsErr t d i).1, .int .i64 (knotsErr t d i).2])
  | 0, n + 1, i, h, hj, hn => by
    rw [L_ref01_CheckTable_6_eq, cond_dec, List.length_map, if_neg (by omega)]
    rfl
  | d + 1, n + 1, i, h, hj, hn => by
    have c1 : (i : Int) < (t.length : Int) := by omega
    have c2 : (0 : Int) ≤ (i : Int) := by omega
    have e1 : w64 ((i : Int) + 1) = ((i + 1 : Nat) : Int) := by rw [w64_id] <;> omega
    have next (hz : knotErr t i = 0) : L_ref01_CheckTable_6 N (k + 11) n ((i + 1 : Nat) : Int) (t.map cK) = some (.tup [.int .i64 (knotsErr t (d + 1) i).1, .int .i64 (knotsErr t (d + 1) i).2]) := by
      rw [ref_CheckTable_6 hN t hl d n (i + 1) (by omega) (fun j h => by
        by_cases e : j = i
        · rw [e]; exact hz
        · exact hj j (by omega)) (by omega)]
      conv => rhs; rw [knotsErr, if_pos hz]
    have stop (e : Int) (he : knotErr t i = e) (h0 : e ≠ 0) : (some (PV.tup [.int .i64 (i : Int), .int .i64 e])) = some (.tup [.int .i64 (knotsErr t (d + 1) i).1, .int .i64 (knotsErr t (d + 1) i).2]) := by
      rw [knotsErr, if_neg (by rw [he]; exact h0), he]
    rw [L_ref01_CheckTable_6_eq]
    simp only [cond_dec, cond_ndec, c1, c2, List.length_map, if_true, Int.toNat_natCast, leaf_cKl, leaf_cKv, base_Within, obind, asB_bool, e1]
    by_cases r1 : 0 ≤ (kn t i).l ∧ (kn t i).l ≤ 1000000
    · rw [if_pos r1]
      by_cases r2 : 0 ≤ (kn t i).v ∧ (kn t i).v ≤ 1000000000
      · rw [if_pos r2]
        by_cases i0 : i = 0
        · subst i0
          rw [if_pos (by omega)]
          exact next (by unfold knotErr; rw [if_neg (by omega), if_pos rfl])
        · have e2 : w64 ((i : Int) - 1) = ((i - 1 : Nat) : Int) := by rw [w64_id] <;> omega
          have c3 : (0 : Int) ≤ ((i - 1 : Nat) : Int) := by omega
          have c4 : ((i - 1 : Nat) : Int) < (t.length : Int) := by omega
          have p1 : Kr (kn t i) := ⟨r1.1, r1.2, r2.1, r2.2⟩
          have p2 : Kr (kn t (i - 1)) := (knotErr_zero (hj (i - 1) (by omega))).1
          rw [if_neg (by omega)]
          simp only [e2, c3, c4, if_true, Int.toNat_natCast, leaf_cKl, leaf_cKv]
          by_cases o1 : (kn t i).l ≤ (kn t (i - 1)).l
          · rw [if_pos o1]
            exact stop 9 (by unfold knotErr; rw [if_neg (by omega), if_neg i0, if_pos (by omega)]) (by decide)
          · rw [if_neg o1]
            by_cases o2 : (kn t i).v ≤ (kn t (i - 1)).v
            · rw [if_pos o2]
              exact stop 9 (by unfold knotErr; rw [if_neg (by omega), if_neg i0, if_pos (by omega)]) (by decide)
            · rw [if_neg o2]
              by_cases i1 : 1 < i
              · have p3 : Kr (kn t (i - 1 - 1)) := (knotErr_zero (hj (i - 1 - 1) (by omega))).1
                have o3 := (knotErr_zero (hj (i - 1) (by omega))).2.1 (by omega)
                have hp1 : 0 < hgt t i := by unfold hgt; omega
                have hp2 : 0 < hgt t (i - 1) := by unfold hgt; omega
                have g1 := ref_piece (k := k) hN (t := t) (i := i) (by omega) (by omega) (by omega) p1 p2 (by omega)
                have g2 := ref_piece (k := k) hN (t := t) (i := i - 1) (by omega) (by omega) (by omega) p2 p3 (by omega)
                have g3 := RatioCmp_spec (k := k + 5) hN ((ar_sz p1 p2 (by omega)).mono (n := 400) (by omega)) ((ar_sz p2 p3 (by omega)).mono (n := 400) (by omega))
                have hlt : ((ar t i).num * ((ar t (i - 1)).den : Int) - (ar t (i - 1)).num * ((ar t i).den : Int)).sign < 0 ↔ vol t i * hgt t (i - 1) < vol t (i - 1) * hgt t i := by
                  rw [cmp_lt, ar_eq, ar_eq, div_lt_div hp1 hp2]
                rw [if_pos (by omega)]
                simp only [g1, g2, g3, obind, asA_agg, nth_zero, nth_one, nth_two, nth_three, asI_int, asL_sl, hlt]
                have hw : vol t i * hgt t (i - 1) < vol t (i - 1) * hgt t i ↔ ((kn t i).v - (kn t (i - 1)).v) * ((kn t (i - 1)).l - (kn t (i - 2)).l) < ((kn t (i - 1)).v - (kn t (i - 2)).v) * ((kn t i).l - (kn t (i - 1)).l) := by
                  unfold vol hgt
                  rw [show i - 1 - 1 = i - 2 by omega]
                by_cases w : vol t i * hgt t (i - 1) < vol t (i - 1) * hgt t i
                · rw [if_pos w]
                  exact stop 22 (by unfold knotErr; rw [if_neg (by omega), if_neg i0, if_neg (by omega), if_pos ⟨i1, hw.1 w⟩]) (by decide)
                · rw [if_neg w]
                  exact next (by unfold knotErr; rw [if_neg (by omega), if_neg i0, if_neg (by omega), if_neg (fun h => w (hw.2 h.2))])
              · rw [if_neg (by omega)]
                exact next (by unfold knotErr; rw [if_neg (by omega), if_neg i0, if_neg (by omega), if_neg (fun h => i1 h.1)])
      · rw [if_neg r2]
        exact stop 2 (by unfold knotErr; rw [if_pos (by omega)]) (by decide)
    · rw [if_neg r1]
      exact stop 2 (by unfold knotErr; rw [if_pos (by omega)]) (by decide)

theorem ref_CheckTable (hN : 1000000 ≤ N) (t : Tab) : ev (envF N) (k + 12) F_ref01_CheckTable [vTab t] = some (.tup [.int .i64 (tabErr t).1, .int .i64 (tabErr t).2]) := by
  rw [E_ref01_CheckTable, cond_dec, cond_dec, List.length_map]
  unfold tabErr
  by_cases h2 : t.length < 2
  · rw [if_pos (by omega), if_pos h2]
  · rw [if_neg (by omega), if_neg h2]
    by_cases h10 : 10 < t.length
    · rw [if_pos (by omega), if_pos h10]
    · rw [if_neg (by omega), if_neg h10]
      exact ref_CheckTable_6 hN t (by omega) t.length N 0 (by omega) (fun j h => by omega) (by omega)

theorem ref_TableErr (hN : 1000000 ≤ N) (t : Tab) : ev (envF N) (k + 13) F_ref01_TableErr [vTab t] = some (.int .i64 (tErr t)) := by
  rw [E_ref01_TableErr, ref_CheckTable hN]
  simp only [obind, asT_tup, nth_one, asI_int, tErr]

theorem ref_Bottom {t : Tab} (h : 1 ≤ t.length) : ev (envF N) (k + 1) F_ref01_Bottom [vTab t] = some (.agg [.int .i64 (kn t 0).l, .int .i64 (kn t 0).v]) := by
  rw [E_ref01_Bottom, cond_dec, List.length_map, if_pos (by omega), leaf_cKl, leaf_cKv]
  rfl
theorem ref_Top {t : Tab} (h : 1 ≤ t.length) (hl : t.length ≤ 100000) : ev (envF N) (k + 1) F_ref01_Top [vTab t] = some (.agg [.int .i64 (kn t (t.length - 1)).l, .int .i64 (kn t (t.length - 1)).v]) := by
  have e : w64 ((t.length : Int) - 1) = ((t.length - 1 : Nat) : Int) := by rw [w64_id] <;> omega
  rw [E_ref01_Top, cond_dec, cond_dec, List.length_map, e, if_pos (by omega), if_pos (by omega), Int.toNat_natCast, leaf_cKl, leaf_cKv]

theorem ref_IsLevel {t : Tab} (h : Ok t) (l : Int) : ev (envF N) (k + 2) F_ref01_IsLevel [vTab t, .int .i64 l] = some (.bool (decide (IsL t l))) := by
  have h2 := h.two
  have h10 := h.ten
  rw [E_ref01_IsLevel, ref_Bottom (by omega), ref_Top (by omega) (by omega)]
  simp only [obind, asA_agg, nth_zero, asI_int, base_Within, asB_bool]
  rfl
theorem ref_IsVolume {t : Tab} (h : Ok t) (v : Int) : ev (envF N) (k + 2) F_ref01_IsVolume [vTab t, .int .i64 v] = some (.bool (decide (IsV t v))) := by
  have h2 := h.two
  have h10 := h.ten
  rw [E_ref01_IsVolume, ref_Bottom (by omega), ref_Top (by omega) (by omega)]
  simp only [obind, asA_agg, nth_one, asI_int, base_Within, asB_bool]
  rfl

theorem ref_PairErr (hN : 1000000 ≤ N) (p : Pair) : ev (envF N) (k + 14) F_ref01_PairErr [vPair p] = some (.int .i64 (pErr p)) := by
  rw [E_ref01_PairErr, ref_TableErr hN]
  simp only [obind, asI_int, cond_ndec, ref_TableErr (k := k) hN, base_Within, asB_bool]
  unfold pErr
  by_cases h1 : tErr p.u = 0
  · rw [if_pos h1, if_pos h1]
    by_cases h2 : tErr p.l = 0
    · rw [if_pos h2, if_pos h2]
      by_cases h3 : 0 ≤ p.r ∧ p.r ≤ 1000
      · rw [if_pos h3, if_pos h3]
      · rw [if_neg h3, if_neg h3]
    · rw [if_neg h2, if_neg h2]
  · rw [if_neg h1, if_neg h1]

theorem ref_StateErr {p : Pair} (h : POk p) (s : Vols) : ev (envF N) (k + 3) F_ref01_StateErr [vPair p, vVols s] = some (.int .i64 (sErr p s)) := by
  rw [E_ref01_StateErr, ref_IsVolume h.u]
  simp only [obind, asB_bool, cond_ndec, ref_IsVolume h.l]
  unfold sErr
  by_cases hu : IsV p.u s.u
  · by_cases hl : IsV p.l s.l <;> simp [hu, hl]
  · simp [hu]

theorem ref_BothErr (hN : 1000000 ≤ N) (p : Pair) (s : Vols) : ev (envF N) (k + 15) F_ref01_BothErr [vPair p, vVols s] = some (.int .i64 (bErr p s)) := by
  rw [E_ref01_BothErr, ref_PairErr hN]
  simp only [obind, asI_int, cond_ndec]
  unfold bErr
  by_cases h : pErr p = 0
  · rw [if_pos h, if_pos h, ref_StateErr (k := k + 11) (pOk_of h)]
    simp only [obind, asI_int]
  · rw [if_neg h, if_neg h]

theorem ref_FlowsErr (f : Flow) : ev (envF N) (k + 2) F_ref01_FlowsErr [vFlow f] = some (.int .i64 (fErr f)) := by
  rw [E_ref01_FlowsErr, base_Within]
  simp only [obind, asB_bool, cond_ndec, base_Within]
  unfold fErr
  by_cases h1 : 0 ≤ f.a ∧ f.a ≤ 10000000
  · by_cases h2 : 0 ≤ f.b ∧ f.b ≤ 10000000
    · by_cases h3 : -10000000 ≤ f.x ∧ f.x ≤ 10000000 <;> simp [h1, h2, h3]
    · simp [h1, h2]
  · simp [h1]

theorem room_nil (xs : List (List PV)) (b : Nat) (h : xs.length ≤ 100000) (hb : b ≤ 1000) : room [] xs b = true := by
  unfold room
  rw [decide_eq_true_eq]
  simp only [List.length_nil, Nat.zero_add]
  have : xs.length * b ≤ 100000 * 1000 := Nat.mul_le_mul h hb
  omega

theorem ref_Copy (t : Tab) (h : t.length ≤ 100000) : ev (envF N) (k + 1) F_ref01_Copy [vTab t] = some (vTab t) := by
  rw [E_ref01_Copy, room_nil _ _ (by rw [List.length_map]; exact h) (by decide), cond_t]
theorem ref_CopyPair (p : Pair) (h1 : p.u.length ≤ 100000) (h2 : p.l.length ≤ 100000) : ev (envF N) (k + 2) F_ref01_CopyPair [vPair p] = some (vPair p) := by
  rw [E_ref01_CopyPair, ref_Copy _ h1, ref_Copy _ h2]
  simp only [obind, asA_agg, nth_zero, asL_sl]
theorem ref_CopyList (l : List Flow) (h : l.length ≤ 100000) : ev (envF N) (k + 1) F_ref01_CopyList [.sl none [.int .i64, .int .i64, .int .i64] (l.map cF)] = some (.sl none [.int .i64, .int .i64, .int .i64] (l.map cF)) := by
  rw [E_ref01_CopyList, room_nil _ _ (by rw [List.length_map]; exact h) (by decide), cond_t]

theorem law_Few (t : Tab) : ev (envF N) (k + 1) F_law01_Few [vTab t] = some (.bool (decide (t.length ≤ 12))) := by
  rw [E_law01_Few, List.length_map]
  congr 2
  rw [decide_eq_decide]
  omega
theorem law_FewPair (p : Pair) : ev (envF N) (k + 2) F_law01_FewPair [vPair p] = some (.bool (decide (p.u.length ≤ 12 ∧ p.l.length ≤ 12))) := by
  rw [E_law01_FewPair, law_Few, law_Few]
  simp only [obind, asB_bool, cond_dec]
  by_cases h : p.u.length ≤ 12 <;> simp [h]

end
end Go.PewTab

namespace Go.PewTab
set_option linter.unusedSimpArgs false
set_option linter.unusedVariables false
open Go.Pew Go.Num

section
variable {N k : Nat}

theorem ref_above_loop {t : Tab} (hl : t.length ≤ 100000) {v : Int} {i0 : Nat} (hat : At t Knot.v v i0) : ∀ (d n i : Nat), i + d = i0 → 1 ≤ i → d < n →
    L_ref01_above_2 N k n v (i : Int) (t.map cK) = some (.int .i64 (i0 : Int))
  | 0, n + 1, i, h, h1, hn => by
    have hi : i = i0 := by omega
    subst hi
    have c1 : (0 : Int) ≤ (i : Int) := by omega
    have c2 : (i : Int) < (t.length : Int) := by have := hat.lt; omega
    have c3 : ¬ ((kn t i).v < v) := by have := hat.reach; omega
    rw [L_ref01_above_2_eq]
    simp only [cond_dec, List.length_map, c1, c2, if_true, Int.toNat_natCast, leaf_cKv, c3, if_false]
  | d + 1, n + 1, i, h, h1, hn => by
    have c1 : (0 : Int) ≤ (i : Int) := by omega
    have c2 : (i : Int) < (t.length : Int) := by have := hat.lt; omega
    have c3 : (kn t i).v < v := hat.first i h1 (by omega)
    have e1 : w64 ((i : Int) + 1) = ((i + 1 : Nat) : Int) := by rw [w64_id] <;> omega
    rw [L_ref01_above_2_eq]
    simp only [cond_dec, List.length_map, c1, c2, if_true, Int.toNat_natCast, leaf_cKv, c3, e1]
    exact ref_above_loop hl hat d n (i + 1) (by omega) (by omega) (by omega)

theorem ref_above (hN : 1000000 ≤ N) {t : Tab} (h : Ok t) {v : Int} (hv : IsV t v) : ev (envF N) (k + 1) F_ref01_above [vTab t, .int .i64 v] = some (.int .i64 (byV t v : Int)) := by
  have a := h.atV hv.2
  have hten := h.ten
  rw [E_ref01_above]
  exact ref_above_loop (by omega) a (byV t v - 1) N 1 (by have := a.one; omega) (by omega) (by have := a.lt; omega)

theorem ref_rounded (hN : 1000000 ≤ N) {q : Rat} (hq : SzR 400 q) (h1 : Sz 2 q.floor) (h2 : Sz 2 q.ceil) : ev (envF N) (k + 7) F_ref01_rounded [vR q] = some (.agg [.int .i64 q.floor, .int .i64 q.ceil]) := by
  have g1 := RatioFloor_spec (k := k) hN hq
  have g2 := RatioCeil_spec (k := k) hN hq
  have g3 := WideInt_spec (k := k + 5) hN h1
  have g4 := WideInt_spec (k := k + 5) hN h2
  rw [E_ref01_rounded]
  simp only [g1, g2, g3, g4, obind, asA_agg, asT_tup, nth_zero, nth_one, asI_int, asL_sl]

theorem sz2_of {x : Int} (h : -999999999999999999 ≤ x ∧ x ≤ 999999999999999999) : Sz 2 x := by
  unfold Sz
  have : (1000000000 : Nat) ^ 2 = 1000000000000000000 := by decide
  omega

/-- The level at a volume, the volume at a level, as fractions. -/
def Lv (t : Tab) (v : Int) : Rat := ((kn t (byV t v - 1)).l : Rat) + ((v - (kn t (byV t v - 1)).v : Int) : Rat) / ar t (byV t v)
def Vl (t : Tab) (l : Int) : Rat := ((kn t (byL t l - 1)).v : Rat) + ((l - (kn t (byL t l - 1)).l : Int) : Rat) * ar t (byL t l)

theorem Lv_eq {t : Tab} (v : Int) : Lv t v = ((kn t (byV t v - 1)).l : Rat) + (lvN t v : Rat) / (vol t (byV t v) : Rat) := by
  unfold Lv lvN
  rw [ar_eq, div_div_eq, Rat.intCast_mul]
theorem Vl_eq {t : Tab} (l : Int) : Vl t l = ((kn t (byL t l - 1)).v : Rat) + (vlN t l : Rat) / (hgt t (byL t l) : Rat) := by
  unfold Vl vlN
  rw [ar_eq, mul_div_eq, Rat.intCast_mul]

theorem Lv_floor {t : Tab} (h : Ok t) {v : Int} (hv : IsV t v) : (Lv t v).floor = lvLo t v ∧ (Lv t v).ceil = lvHi t v := by
  obtain ⟨i1, i2, i3, i4⟩ := h.pieceV hv
  obtain ⟨p1, p2, p3, p4⟩ := Ok.hv_le h i1 i2
  rw [Lv_eq, floor_add, ceil_add, floor_div p3, ceil_div p3]
  unfold lvLo lvHi
  exact ⟨rfl, rfl⟩
theorem Vl_floor {t : Tab} (h : Ok t) {l : Int} (hl : IsL t l) : (Vl t l).floor = vlLo t l ∧ (Vl t l).ceil = vlHi t l := by
  obtain ⟨i1, i2, i3, i4⟩ := h.pieceL hl
  obtain ⟨p1, p2, p3, p4⟩ := Ok.hv_le h i1 i2
  rw [Vl_eq, floor_add, ceil_add, floor_div p1, ceil_div p1]
  unfold vlLo vlHi
  exact ⟨rfl, rfl⟩

theorem ar_ne {t : Tab} {i : Nat} (h1 : 0 < vol t i) (h2 : 0 < hgt t i) : ar t i ≠ 0 := by
  intro h
  have a : (0 : Rat) < ar t i := by
    rw [ar_eq, Rat.lt_div_iff (Rat.intCast_pos.2 h2), Rat.zero_mul]
    exact Rat.intCast_pos.2 h1
  rw [h] at a
  exact Rat.lt_irrefl a

theorem ref_Level (hN : 1000000 ≤ N) {t : Tab} (h : Ok t) {v : Int} (hv : IsV t v) : ev (envF N) (k + 12) F_ref01_Level [vTab t, .int .i64 v] = some (vR (Lv t v)) ∧ SzR 300 (Lv t v) := by
  obtain ⟨i1, i2, i3, i4⟩ := h.pieceV hv
  obtain ⟨p1, p2, p3, p4⟩ := Ok.hv_le h i1 i2
  have hten := h.ten
  have a := Ok.kr h i2
  have b := Ok.kr h (i := byV t v - 1) (by omega)
  have a' := a
  have b' := b
  unfold Kr at a' b'
  have e1 : w64 (((byV t v : Nat) : Int) - 1) = ((byV t v - 1 : Nat) : Int) := by rw [w64_id] <;> omega
  have e2 : w64 (v - (kn t (byV t v - 1)).v) = v - (kn t (byV t v - 1)).v := by rw [w64_id] <;> omega
  have c1 : (0 : Int) ≤ ((byV t v - 1 : Nat) : Int) := by omega
  have c2 : ((byV t v - 1 : Nat) : Int) < (t.length : Int) := by omega
  have i64a : I64 (kn t (byV t v - 1)).l := by constructor <;> omega
  have i64b : I64 (v - (kn t (byV t v - 1)).v) := by constructor <;> omega
  have sa := ar_sz a b (by omega)
  have s1 := szR_int i64a
  have s2 := szR_int i64b
  have hne := ar_ne p3 p1
  have sd := s2.div sa hne
  have ss := (s1.mono (n := 6) (by omega)).add sd
  have g0 := ref_above (k := k + 10) hN h hv
  have g1 := RatioInt_spec (k := k + 7) hN i64a
  have g2 := RatioInt_spec (k := k + 7) hN i64b
  have g3 := ref_piece (k := k) hN (t := t) (i := byV t v) i1 i2 (by omega) a b (by omega)
  have g4 := RatioDiv_spec (k := k + 1) hN (s2.mono (n := 400) (by omega)) (sa.mono (n := 400) (by omega)) hne
  have g5 := RatioAdd_spec (k := k + 1) hN (s1.mono (n := 400) (by omega)) (sd.mono (n := 400) (by omega))
  refine ⟨?_, ss.mono (by omega)⟩
  rw [E_ref01_Level]
  simp only [g0, obind, asI_int, e1, cond_dec, c1, c2, List.length_map, if_true, Int.toNat_natCast, leaf_cKl, leaf_cKv, g1, e2, g2, g3, asA_agg, nth_zero, nth_one, nth_two, nth_three, asL_sl, g4, g5]
  rfl

theorem Vl_sz {t : Tab} (h : Ok t) {l : Int} (hl : IsL t l) : SzR 300 (Vl t l) := by
  obtain ⟨i1, i2, i3, i4⟩ := h.pieceL hl
  obtain ⟨p1, p2, p3, p4⟩ := Ok.hv_le h i1 i2
  have a := Ok.kr h i2
  have b := Ok.kr h (i := byL t l - 1) (by omega)
  have a' := a
  have b' := b
  unfold Kr at a' b'
  have sa := ar_sz a b (by omega)
  have s1 := szR_int (x := (kn t (byL t l - 1)).v) (by constructor <;> omega)
  have s2 := szR_int (x := l - (kn t (byL t l - 1)).l) (by constructor <;> omega)
  exact ((s1.mono (n := 6) (by omega)).add (s2.mul sa)).mono (by omega)

/-! The base's own greatest common divisor, and lowest terms. -/
theorem ref_evaporated (hN : 1000000 ≤ N) {t : Tab} (h : Ok t) {r v : Int} (h0 : 0 ≤ r) (h1 : r ≤ 1000) (hv : IsV t v) : ev (envF N) (k + 12) F_ref01_evaporated [vTab t, .int .i64 r, .int .i64 v] = some (.int .i64 (evap t r v)) := by
  obtain ⟨i1, i2, i3, i4⟩ := h.pieceV hv
  obtain ⟨p1, p2, p3, p4⟩ := Ok.hv_le h i1 i2
  have h2 := h.two
  have hten := h.ten
  have bb := Ok.lo_hi h
  have hv1 := hv.1
  have hv2 := hv.2
  have a := Ok.kr h i2
  have b := Ok.kr h (i := byV t v - 1) (by omega)
  have sa := ar_sz a b (by omega)
  have i64r : I64 r := by constructor <;> omega
  have s1 := szR_int i64r
  have s2 := szR_int (x := 1000) (by decide)
  have s3 := s1.mul sa
  have hne : ((1000 : Int) : Rat) ≠ 0 := by decide
  have s4 := s3.div (s2.mono (n := 6) (by omega)) hne
  have hq : (r : Rat) * ar t (byV t v) / ((1000 : Int) : Rat) = ((r * vol t (byV t v) : Int) : Rat) / ((1000 * hgt t (byV t v) : Int) : Rat) := by
    rw [ar_eq, mul_div_eq, div_div_eq', Rat.intCast_mul, Rat.intCast_mul]
  have hpos : 0 < 1000 * hgt t (byV t v) := by omega
  have m := mul_le_big (x := r) (y := vol t (byV t v)) (by omega) (by omega) (by omega) (by omega)
  have f1 : ((r : Rat) * ar t (byV t v) / ((1000 : Int) : Rat)).floor = r * vol t (byV t v) / (1000 * hgt t (byV t v)) := by rw [hq, floor_div hpos]
  have f2 : ((r : Rat) * ar t (byV t v) / ((1000 : Int) : Rat)).ceil = cdiv (r * vol t (byV t v)) (1000 * hgt t (byV t v)) := by rw [hq, ceil_div hpos]
  have b1 : 0 ≤ r * vol t (byV t v) / (1000 * hgt t (byV t v)) := Int.ediv_nonneg m.1 (by omega)
  have b2 : r * vol t (byV t v) / (1000 * hgt t (byV t v)) ≤ r * vol t (byV t v) := Int.ediv_le_self _ m.1
  have b3 := cdiv_eq (n := r * vol t (byV t v)) hpos
  have b4 := Int.emod_nonneg (r * vol t (byV t v)) (Int.ne_of_gt hpos)
  have hlo : lo t = (kn t 0).v := by unfold lo; rfl
  have hhi : hi t = (kn t (t.length - 1)).v := by unfold hi; rfl
  have e4 : w64 (v - (kn t 0).v) = v - lo t := by rw [w64_id] <;> omega
  have g0 := ref_above (k := k + 10) hN h hv
  have g1 := RatioInt_spec (k := k + 7) hN i64r
  have g2 := RatioInt_spec (k := k + 7) hN (n := 1000) (by decide)
  have g3 := ref_piece (k := k) hN (t := t) (i := byV t v) i1 i2 (by omega) a b (by omega)
  have g4 := RatioMul_spec (k := k + 1) hN (s1.mono (n := 400) (by omega)) (sa.mono (n := 400) (by omega))
  have g5 := RatioDiv_spec (k := k + 1) hN (s3.mono (n := 400) (by omega)) (s2.mono (n := 400) (by omega)) hne
  have g6 := ref_rounded (k := k + 4) hN (s4.mono (n := 400) (by omega)) (by rw [f1]; exact sz2_of (by omega)) (by rw [f2]; exact sz2_of (by omega))
  have g7 := ref_Bottom (N := N) (k := k + 10) (t := t) (by omega)
  rw [f1, f2] at g6
  rw [E_ref01_evaporated]
  simp only [g0, g1, g2, g3, obind, asI_int, asA_agg, nth_zero, nth_one, nth_two, nth_three, asL_sl, g4, g5, g6, g7, e4, imin_eq]
  rfl

/-- A step's results and whether it is possible. -/
def stepB : Option (Vols × Loss) → PV
  | some (s', x) => .tup [vVols s', vLoss x, .bool true]
  | none => .tup [vVols ⟨0, 0⟩, vLoss ⟨0, 0⟩, .bool false]

theorem ref_Step (hN : 1000000 ≤ N) {p : Pair} (h : POk p) {s : Vols} (hu : IsV p.u s.u) (hl : IsV p.l s.l) {f : Flow} (hf : FlowIn f) : ev (envF N) (k + 13) F_ref01_Step [vPair p, vVols s, vFlow f] = some (stepB (step p s f)) := by
  have a := evap_bounds h.u h.r0 hu
  have b := evap_bounds h.l h.r0 hl
  have c := Ok.lo_hi h.u
  have d := Ok.lo_hi h.l
  have hu2 : s.u ≤ hi p.u := hu.2
  have hl2 : s.l ≤ hi p.l := hl.2
  have t1 := h.u.two
  have t2 := h.l.two
  have t3 := h.u.ten
  have t4 := h.l.ten
  have u0 : (kn p.u 0).v = lo p.u := by unfold lo; rfl
  have u1 : (kn p.u (p.u.length - 1)).v = hi p.u := by unfold hi; rfl
  have l0 : (kn p.l 0).v = lo p.l := by unfold lo; rfl
  have l1 : (kn p.l (p.l.length - 1)).v = hi p.l := by unfold hi; rfl
  have g1 := ref_evaporated (k := k) hN h.u h.r0 h.r1 hu
  have g2 := ref_evaporated (k := k) hN h.l h.r0 h.r1 hl
  have g3 := ref_Bottom (N := N) (k := k + 11) (t := p.u) (by omega)
  have g4 := ref_Bottom (N := N) (k := k + 11) (t := p.l) (by omega)
  have g5 := ref_Top (N := N) (k := k + 11) (t := p.u) (by omega) (by omega)
  have g6 := ref_Top (N := N) (k := k + 11) (t := p.l) (by omega) (by omega)
  obtain ⟨A, hA⟩ : ∃ A, evap p.u p.r s.u = A := ⟨_, rfl⟩
  obtain ⟨B, hB⟩ : ∃ B, evap p.l p.r s.l = B := ⟨_, rfl⟩
  rw [hA] at a g1
  rw [hB] at b g2
  unfold FlowIn at hf
  have eu : w64 (w64 (w64 (s.u - A) + f.a) + f.x) = s.u - A + f.a + f.x := by
    rw [w64_id (x := s.u - A) (by omega) (by omega), w64_id (x := s.u - A + f.a) (by omega) (by omega), w64_id (by omega) (by omega)]
  have el : w64 (w64 (w64 (s.l - B) + f.b) - f.x) = s.l - B + f.b - f.x := by
    rw [w64_id (x := s.l - B) (by omega) (by omega), w64_id (x := s.l - B + f.b) (by omega) (by omega), w64_id (by omega) (by omega)]
  have eab : w64 (A + B) = A + B := by rw [w64_id] <;> omega
  rw [E_ref01_Step]
  simp only [g1, g2, g3, g4, g5, g6, obind, asA_agg, nth_zero, nth_one, asI_int, eu, el, eab, u0, u1, l0, l1, imax_eq, cond_dec]
  unfold step
  simp only [hA, hB]
  obtain ⟨U, hU⟩ : ∃ U, s.u - A + f.a + f.x = U := ⟨_, rfl⟩
  obtain ⟨L, hL⟩ : ∃ L, s.l - B + f.b - f.x = L := ⟨_, rfl⟩
  simp only [hU, hL]
  have e1 : w64 (U - hi p.u) = U - hi p.u := by rw [w64_id] <;> omega
  have e2 : w64 (L - hi p.l) = L - hi p.l := by rw [w64_id] <;> omega
  have e3 : w64 (U - max 0 (U - hi p.u)) = U - max 0 (U - hi p.u) := by rw [w64_id] <;> omega
  have e4 : w64 (L - max 0 (L - hi p.l)) = L - max 0 (L - hi p.l) := by rw [w64_id] <;> omega
  have e6 : w64 (max 0 (U - hi p.u) + max 0 (L - hi p.l)) = max 0 (U - hi p.u) + max 0 (L - hi p.l) := by rw [w64_id] <;> omega
  simp only [e1, e2, e3, e4, e6]
  by_cases h1 : U < lo p.u
  · rw [if_pos h1, if_pos (Or.inl h1), stepB]
  · by_cases h2 : L < lo p.l
    · rw [if_neg h1, if_pos h2, if_pos (Or.inr h2), stepB]
    · rw [if_neg h1, if_neg h2, if_neg (by omega), stepB]

end
end Go.PewTab

namespace Go.PewTab
set_option linter.unusedSimpArgs false
set_option linter.unusedVariables false
open Go.Pew Go.Num

/-- The states of a run as far as its steps are possible, what is lost, and whether all are possible. -/
structure RunR where
  ss : List Vols
  y : Loss
  ok : Bool
def runG (p : Pair) : Vols → List Flow → RunR
  | _, [] => ⟨[], ⟨0, 0⟩, true⟩
  | s, f :: fs => match step p s f with
    | none => ⟨[], ⟨0, 0⟩, false⟩
    | some (s', x) => ⟨s' :: (runG p s' fs).ss, ⟨x.e + (runG p s' fs).y.e, x.s + (runG p s' fs).y.s⟩, (runG p s' fs).ok⟩

def FlowsIn (l : List Flow) : Prop := ∀ f ∈ l, FlowIn f
def allOk (l : List Flow) : Bool := l.all fun f => decide (fErr f = 0)
def lErr (l : List Flow) : Int := if 200 < l.length then 8 else if allOk l = true then 0 else 2

theorem lErr_zero {l : List Flow} (h : lErr l = 0) : l.length ≤ 200 ∧ FlowsIn l := by
  unfold lErr at h
  split at h
  · simp at h
  · split at h
    · rename_i h1 h2
      refine ⟨by omega, fun f hf => flowIn_of ?_⟩
      unfold allOk at h2
      simpa using List.all_eq_true.1 h2 f hf
    · simp at h

def Valid (p : Pair) (s : Vols) : Prop := IsV p.u s.u ∧ IsV p.l s.l

theorem run_len (p : Pair) : ∀ (l : List Flow) (s : Vols), (runG p s l).ok = true → (runG p s l).ss.length = l.length
  | [], s, _ => rfl
  | f :: fs, s, h => by
    unfold runG at h ⊢
    split at h <;> rename_i hs
    · cases h
    · simp only [List.length_cons]
      rw [run_len p fs _ h]

theorem run_ok {p : Pair} (hp : POk p) : ∀ (l : List Flow) (s : Vols), Valid p s → FlowsIn l → (∀ t ∈ (runG p s l).ss, Valid p t) ∧ 0 ≤ (runG p s l).y.e ∧ (runG p s l).y.e ≤ 2000000000 * l.length ∧ 0 ≤ (runG p s l).y.s ∧ (runG p s l).y.s ≤ 2000000000 * l.length
  | [], s, _, _ => by simp [runG]
  | f :: fs, s, hs, hf => by
    unfold runG
    split
    · refine ⟨(fun t ht => by cases ht), ?_⟩
      simp only
      omega
    · rename_i s' x hst
      obtain ⟨a1, a2, a3, a4, a5, a6, _⟩ := step_ok hp hs.1 hs.2 hst (hf f (List.mem_cons_self ..))
      obtain ⟨b1, b2, b3, b4, b5⟩ := run_ok hp fs s' ⟨a1, a2⟩ fun g hg => hf g (List.mem_cons_of_mem _ hg)
      refine ⟨fun t ht => ?_, ?_⟩
      · rcases List.mem_cons.1 ht with rfl | ht
        · exact ⟨a1, a2⟩
        · exact b1 t ht
      · simp only [List.length_cons]
        omega

theorem run_none {p : Pair} {s : Vols} {f : Flow} (fs : List Flow) (h : step p s f = none) : runG p s (f :: fs) = ⟨[], ⟨0, 0⟩, false⟩ := by
  conv => lhs; unfold runG
  rw [h]
theorem run_some {p : Pair} {s s' : Vols} {x : Loss} {f : Flow} (fs : List Flow) (h : step p s f = some (s', x)) : runG p s (f :: fs) = ⟨s' :: (runG p s' fs).ss, ⟨x.e + (runG p s' fs).y.e, x.s + (runG p s' fs).y.s⟩, (runG p s' fs).ok⟩ := by
  conv => lhs; unfold runG
  rw [h]

/-- A run in two parts. -/
theorem run_append {p : Pair} : ∀ (a b : List Flow) (s : Vols), (runG p s (a ++ b)).ok = true →
    (runG p s a).ok = true ∧ (runG p ((runG p s a).ss.getLastD s) b).ok = true ∧ (runG p s (a ++ b)).ss = (runG p s a).ss ++ (runG p ((runG p s a).ss.getLastD s) b).ss ∧
      (runG p s (a ++ b)).y.e = (runG p s a).y.e + (runG p ((runG p s a).ss.getLastD s) b).y.e ∧ (runG p s (a ++ b)).y.s = (runG p s a).y.s + (runG p ((runG p s a).ss.getLastD s) b).y.s
  | [], b, s, h => by simpa [runG] using h
  | f :: fs, b, s, h => by
    rw [List.cons_append] at h ⊢
    cases hst : step p s f with
    | none => rw [run_none _ hst] at h; cases h
    | some r =>
      obtain ⟨s', x⟩ := r
      rw [run_some _ hst] at h
      obtain ⟨c1, c2, c3, c4, c5⟩ := run_append fs b s' h
      have hl : (s' :: (runG p s' fs).ss).getLastD s = (runG p s' fs).ss.getLastD s' := by
        cases (runG p s' fs).ss <;> simp [List.getLastD]
      rw [run_some fs hst, run_some (fs ++ b) hst]
      simp only [hl]
      refine ⟨c1, c2, by rw [c3]; rfl, by omega, by omega⟩

abbrev vStates (l : List Vols) : PV := .sl none [.int .i64, .int .i64] (l.map cV)
abbrev vFlows (l : List Flow) : PV := .sl none [.int .i64, .int .i64, .int .i64] (l.map cF)

theorem flo_drop (l : List Flow) (i : Nat) (h : i < l.length) : l.drop i = flo l i :: l.drop (i + 1) := by
  rw [List.drop_eq_getElem_cons h]
  congr 1
  unfold flo
  rw [List.getD_eq_getElem?_getD, List.getElem?_eq_getElem h, Option.getD_some]
theorem flo_mem (l : List Flow) (i : Nat) (h : i < l.length) : flo l i ∈ l := by
  unfold flo
  rw [List.getD_eq_getElem?_getD, List.getElem?_eq_getElem h, Option.getD_some]
  exact List.getElem_mem h

theorem fErr_cases (f : Flow) : fErr f = 0 ∨ fErr f = 2 := by unfold fErr; split <;> simp

section
variable {N k : Nat}

theorem lake_ticksErr_loop (l : List Flow) (hl : l.length ≤ 200) : ∀ (d n i : Nat), i + d = l.length → d < n →
    L_lake_ticksErr_4 N (k + 3) n (l.map cF) (l.length : Int) (i : Int) = some (.int .i64 (if allOk (l.drop i) = true then 0 else 2))
  | 0, n + 1, i, h, hn => by
    rw [L_lake_ticksErr_4_eq, cond_dec, if_neg (by omega), List.drop_eq_nil_of_le (by omega)]
    rfl
  | d + 1, n + 1, i, h, hn => by
    have c1 : (i : Int) < (l.length : Int) := by omega
    have c2 : (0 : Int) ≤ (i : Int) := by omega
    have e1 : w64 ((i : Int) + 1) = ((i + 1 : Nat) : Int) := by rw [w64_id] <;> omega
    have g := lake_flowsErr (N := N) (k := k) (flo l i)
    have ih := lake_ticksErr_loop l hl d n (i + 1) (by omega) (by omega)
    rw [L_lake_ticksErr_4_eq, flo_drop l i (by omega)]
    simp only [cond_dec, cond_ndec, c1, c2, List.length_map, if_true, Int.toNat_natCast, leaf_cF0, leaf_cF1, leaf_cF2, g, obind, asI_int, e1, ih]
    unfold allOk
    rw [List.all_cons]
    rcases fErr_cases (flo l i) with h0 | h0
    · simp [h0]
    · simp [h0]

theorem lake_ticksErr (hN : 1000000 ≤ N) (l : List Flow) : ev (envF N) (k + 4) F_lake_ticksErr [vFlows l] = some (.int .i64 (lErr l)) := by
  rw [E_lake_ticksErr, cond_dec, List.length_map]
  unfold lErr
  by_cases h : 200 < l.length
  · rw [if_pos (by omega), if_pos h]
  · have := lake_ticksErr_loop (N := N) (k := k) l (by omega) l.length N 0 (by omega) (by omega)
    rw [List.drop_zero] at this
    rw [if_neg (by omega), if_neg h]
    exact this

theorem ref_ListErr_loop (l : List Flow) (hl : l.length ≤ 200) : ∀ (d n i : Nat), i + d = l.length → d < n →
    L_ref01_ListErr_4 N (k + 2) n (l.map cF) (i : Int) = some (.int .i64 (if allOk (l.drop i) = true then 0 else 2))
  | 0, n + 1, i, h, hn => by
    rw [L_ref01_ListErr_4_eq, cond_dec, List.length_map, if_neg (by omega), List.drop_eq_nil_of_le (by omega)]
    rfl
  | d + 1, n + 1, i, h, hn => by
    have c1 : (i : Int) < (l.length : Int) := by omega
    have c2 : (0 : Int) ≤ (i : Int) := by omega
    have e1 : w64 ((i : Int) + 1) = ((i + 1 : Nat) : Int) := by rw [w64_id] <;> omega
    have g := ref_FlowsErr (N := N) (k := k) (flo l i)
    have ih := ref_ListErr_loop l hl d n (i + 1) (by omega) (by omega)
    rw [L_ref01_ListErr_4_eq, flo_drop l i (by omega)]
    simp only [cond_dec, cond_ndec, c1, c2, List.length_map, if_true, Int.toNat_natCast, leaf_cF0, leaf_cF1, leaf_cF2, g, obind, asI_int, e1, ih]
    unfold allOk
    rw [List.all_cons]
    rcases fErr_cases (flo l i) with h0 | h0
    · simp [h0]
    · simp [h0]

theorem ref_ListErr (hN : 1000000 ≤ N) (l : List Flow) : ev (envF N) (k + 3) F_ref01_ListErr [vFlows l] = some (.int .i64 (lErr l)) := by
  rw [E_ref01_ListErr, cond_dec, List.length_map]
  unfold lErr
  by_cases h : 200 < l.length
  · rw [if_pos (by omega), if_pos h]
  · have := ref_ListErr_loop (N := N) (k := k) l (by omega) l.length N 0 (by omega) (by omega)
    rw [List.drop_zero] at this
    rw [if_neg (by omega), if_neg h]
    exact this

theorem room_row (xs : List (List PV)) (y : List PV) (b : Nat) (h : xs.length ≤ 100000) (hb : b ≤ 1000) : room xs [y] b = true := by
  unfold room
  rw [decide_eq_true_eq]
  simp only [List.length_cons, List.length_nil, Nat.zero_add]
  have : (xs.length + 1) * b ≤ 100001 * 1000 := Nat.mul_le_mul (by omega) hb
  omega

/-- The results of a run. -/
def runE (out : List Vols) (e s : Int) (r : RunR) : PV :=
  if r.ok = true then .tup [vStates (out ++ r.ss), vLoss ⟨e + r.y.e, s + r.y.s⟩, .int .i64 0] else .tup [vStates [], vLoss ⟨0, 0⟩, .int .i64 22]

/-- The results of a run, or its error. -/
def runR (p : Pair) (s : Vols) (l : List Flow) : PV :=
  if bErr p s ≠ 0 then .tup [vStates [], vLoss ⟨0, 0⟩, .int .i64 (bErr p s)]
  else if lErr l ≠ 0 then .tup [vStates [], vLoss ⟨0, 0⟩, .int .i64 (lErr l)]
  else runE [] 0 0 (runG p s l)

/-- The reference's results of a run. -/
def runF (out : List Vols) (e s : Int) (r : RunR) : PV := .tup [vStates (out ++ r.ss), vLoss ⟨e + r.y.e, s + r.y.s⟩, .bool r.ok]

theorem ref_RunOf_loop (hN : 1000000 ≤ N) {p : Pair} (hp : POk p) (l : List Flow) (hf : FlowsIn l) (hl : l.length ≤ 200) (y8 y9 : Int) : ∀ (d n i : Nat) (out : List Vols) (s : Vols) (e x : Int), i + d = l.length → d < n → Valid p s → out.length = i → 0 ≤ e → e ≤ 2000000000 * i → 0 ≤ x → x ≤ 2000000000 * i →
    L_ref01_RunOf_4 N (k + 13) n (l.map cF) (out.map cV) (i : Int) (p.u.map cK) (p.l.map cK) p.r s.u s.l y8 y9 e x = some (runF out e x (runG p s (l.drop i)))
  | 0, n + 1, i, out, s, e, x, h, hn, hs, ho, e0, e1, x0, x1 => by
    rw [L_ref01_RunOf_4_eq, cond_dec, List.length_map, if_neg (by omega), List.drop_eq_nil_of_le (by omega)]
    simp [runF, runG]
  | d + 1, n + 1, i, out, s, e, x, h, hn, hs, ho, e0, e1, x0, x1 => by
    have c1 : (i : Int) < (l.length : Int) := by omega
    have c2 : (0 : Int) ≤ (i : Int) := by omega
    have ei : w64 ((i : Int) + 1) = ((i + 1 : Nat) : Int) := by rw [w64_id] <;> omega
    have hfi := hf _ (flo_mem l i (by omega))
    have g := ref_Step (k := k) hN hp hs.1 hs.2 hfi
    rw [L_ref01_RunOf_4_eq, flo_drop l i (by omega)]
    simp only [cond_dec, c1, c2, List.length_map, if_true, Int.toNat_natCast, leaf_cF0, leaf_cF1, leaf_cF2, g, obind, runG]
    cases hst : step p s (flo l i) with
    | none =>
      simp only [stepB, asT_tup, nth_two, asB_bool, Bool.not_false, cond_t]
      simp [runF]
    | some r =>
      obtain ⟨s', z⟩ := r
      obtain ⟨a1, a2, a3, a4, a5, a6, _⟩ := step_ok hp hs.1 hs.2 hst hfi
      have w1 : w64 (e + z.e) = e + z.e := by rw [w64_id] <;> omega
      have w2 : w64 (x + z.s) = x + z.s := by rw [w64_id] <;> omega
      have hr : room (out.map cV) [[PV.int .i64 s'.u, PV.int .i64 s'.l]] 16 = true := room_row _ _ _ (by rw [List.length_map]; omega) (by decide)
      have eo : out.map cV ++ [[PV.int .i64 s'.u, PV.int .i64 s'.l]] = (out ++ [s']).map cV := by rw [List.map_append]; rfl
      simp only [stepB, asT_tup, asA_agg, nth_zero, nth_one, nth_two, asI_int, asB_bool, Bool.not_true, cond_f, hr, cond_t, eo, ei, w1, w2]
      rw [ref_RunOf_loop hN hp l hf hl y8 y9 d n (i + 1) (out ++ [s']) s' (e + z.e) (x + z.s) (by omega) (by omega) ⟨a1, a2⟩ (by simp; omega) (by omega) (by omega) (by omega) (by omega)]
      unfold runF
      simp only [List.append_assoc, List.singleton_append, Int.add_assoc]

theorem ref_RunOf (hN : 1000000 ≤ N) {p : Pair} (hp : POk p) {s : Vols} (hs : Valid p s) {l : List Flow} (hf : FlowsIn l) (hl : l.length ≤ 200) : ev (envF N) (k + 14) F_ref01_RunOf [vPair p, vVols s, vFlows l] = some (.tup [vStates (runG p s l).ss, vLoss (runG p s l).y, .bool (runG p s l).ok]) := by
  rw [E_ref01_RunOf]
  have := ref_RunOf_loop (k := k) hN hp l hf hl 0 0 l.length N 0 [] s 0 0 (by omega) (by omega) hs rfl (by omega) (by omega) (by omega) (by omega)
  rw [List.drop_zero] at this
  refine this.trans ?_
  simp [runF]

theorem law_short {n : Nat} : ev (envF N) (k + 1) F_law01_short [.int .i64 (n : Int)] = some (.bool (decide (n ≤ 24 ∨ (200 < n ∧ n ≤ 202)))) := by
  rw [E_law01_short, cond_dec, cond_dec]
  by_cases h : n ≤ 24
  · rw [if_pos (by omega), decide_eq_true (Or.inl h)]
  · rw [if_neg (by omega)]
    by_cases h2 : 200 < n
    · rw [if_pos (by omega)]
      congr 2
      rw [decide_eq_decide]
      omega
    · rw [if_neg (by omega), decide_eq_false (by omega)]

end
end Go.PewTab

namespace Go.PewTab
set_option linter.unusedSimpArgs false
set_option linter.unusedVariables false
open Go.Pew Go.Num

/-- A level: a whole number and a fraction. -/
structure Hgt where
  w : Int
  n : Int
  d : Int
/-- The limits of a lake, of both lakes. -/
structure Lim where
  lo : Int
  hi : Int
  fall : Int
  rise : Int
  win : Int
structure Lims where
  u : Lim
  l : Lim

abbrev vH (h : Hgt) : PV := .agg [.int .i64 h.w, .int .i64 h.n, .int .i64 h.d]
def cH (h : Hgt) : List PV := [.int .i64 h.w, .int .i64 h.n, .int .i64 h.d]
def hat (l : List Hgt) (i : Nat) : Hgt := l.getD i ⟨0, 0, 0⟩
theorem leaf_cH0 (l : List Hgt) (i : Nat) : asI (nth (nths (l.map cH) i) 0) = (hat l i).w := leafI cH Hgt.w 0 ⟨0, 0, 0⟩ (fun _ => rfl) rfl l i
theorem leaf_cH1 (l : List Hgt) (i : Nat) : asI (nth (nths (l.map cH) i) 1) = (hat l i).n := leafI cH Hgt.n 1 ⟨0, 0, 0⟩ (fun _ => rfl) rfl l i
theorem leaf_cH2 (l : List Hgt) (i : Nat) : asI (nth (nths (l.map cH) i) 2) = (hat l i).d := leafI cH Hgt.d 2 ⟨0, 0, 0⟩ (fun _ => rfl) rfl l i
abbrev vLim (L : Lim) : PV := .agg [.int .i64 L.lo, .int .i64 L.hi, .int .i64 L.fall, .int .i64 L.rise, .int .i64 L.win]
abbrev vLims (L : Lims) : PV := .agg [.int .i64 L.u.lo, .int .i64 L.u.hi, .int .i64 L.u.fall, .int .i64 L.u.rise, .int .i64 L.u.win, .int .i64 L.l.lo, .int .i64 L.l.hi, .int .i64 L.l.fall, .int .i64 L.l.rise, .int .i64 L.l.win]
abbrev vTask (L : Lims) (l : List Flow) : PV := .agg [.int .i64 L.u.lo, .int .i64 L.u.hi, .int .i64 L.u.fall, .int .i64 L.u.rise, .int .i64 L.u.win, .int .i64 L.l.lo, .int .i64 L.l.hi, .int .i64 L.l.fall, .int .i64 L.l.rise, .int .i64 L.l.win, .sl none [.int .i64, .int .i64, .int .i64] (l.map cF)]

/-- Is a level greater than another one plus a whole number? -/
def abv (a b : Hgt) (m : Int) : Bool := if a.w - b.w - m = 0 then decide (b.n * a.d < a.n * b.d) else decide (0 < a.w - b.w - m)
def wh (n : Int) : Hgt := ⟨n, 0, 1⟩
/-- The level at a volume. -/
def lvl (t : Tab) (v : Int) : Hgt := ⟨lvLo t v, lvN t v % vol t (byV t v), vol t (byV t v)⟩

def HIn (h : Hgt) : Prop := (0 ≤ h.w ∧ h.w ≤ 1000000) ∧ (0 ≤ h.n ∧ h.n < h.d) ∧ h.d ≤ 1000000000 ∧ (h.n = 0 ∨ h.w < 1000000)
def LimIn (L : Lim) : Prop := (0 ≤ L.lo ∧ L.lo ≤ 1000000) ∧ (0 ≤ L.hi ∧ L.hi ≤ 1000000) ∧ (0 ≤ L.fall ∧ L.fall ≤ 1000000) ∧ (0 ≤ L.rise ∧ L.rise ≤ 1000000) ∧ (1 ≤ L.win ∧ L.win ≤ 200)

theorem wh_in {n : Int} (h : 0 ≤ n ∧ n ≤ 1000000) : HIn (wh n) := by
  show ((0 : Int) ≤ n ∧ n ≤ 1000000) ∧ ((0 : Int) ≤ 0 ∧ (0 : Int) < 1) ∧ (1 : Int) ≤ 1000000000 ∧ ((0 : Int) = 0 ∨ n < 1000000)
  omega
theorem lvl_in {t : Tab} (h : Ok t) {v : Int} (hv : IsV t v) : HIn (lvl t v) := by
  obtain ⟨i1, i2, i3, i4⟩ := h.pieceV hv
  obtain ⟨p1, p2, p3, p4⟩ := Ok.hv_le h i1 i2
  obtain ⟨v1, v2, v3⟩ := h.lv_between hv
  have a := Ok.kr h i2
  have b := Ok.kr h (i := byV t v - 1) (by omega)
  unfold Kr at a b
  have m1 := Int.emod_nonneg (lvN t v) (Int.ne_of_gt p3)
  have m2 := Int.emod_lt_of_pos (lvN t v) p3
  have e := cdiv_eq (n := lvN t v) p3
  have e2 : lvLo t v + min (lvN t v % vol t (byV t v)) 1 = lvHi t v := by unfold lvLo lvHi; omega
  unfold lvl HIn
  simp only
  omega

/-- The first limit that is violated. -/
def kindOf (L : Lim) (now before : Hgt) : Option Nat :=
  if abv (wh L.lo) now 0 = true then some 0 else if abv now (wh L.hi) 0 = true then some 1 else if abv before now L.fall = true then some 2 else if abv now before L.rise = true then some 3 else none
def kindPV : Option Nat → PV
  | some k => .tup [.int .i64 (k : Int), .bool true]
  | none => .tup [.int .i64 0, .bool false]

/-- The errors of limits and tasks. -/
def limErr (t : Tab) (L : Lim) : Int :=
  if IsL t L.lo ∧ IsL t L.hi ∧ (0 ≤ L.fall ∧ L.fall ≤ 1000000) ∧ (0 ≤ L.rise ∧ L.rise ≤ 1000000) ∧ (1 ≤ L.win ∧ L.win ≤ 200) then if L.lo ≤ L.hi then 0 else 9 else 2
def limsErr (p : Pair) (L : Lims) : Int := if limErr p.u L.u = 0 then limErr p.l L.l else limErr p.u L.u
def taskErr (p : Pair) (L : Lims) (l : List Flow) : Int := if limsErr p L = 0 then lErr l else limsErr p L
def openErr (p : Pair) (s : Vols) (L : Lims) (l : List Flow) : Int := if bErr p s = 0 then taskErr p L l else bErr p s

theorem limErr_zero {t : Tab} {L : Lim} (h : limErr t L = 0) : IsL t L.lo ∧ IsL t L.hi ∧ (0 ≤ L.fall ∧ L.fall ≤ 1000000) ∧ (0 ≤ L.rise ∧ L.rise ≤ 1000000) ∧ (1 ≤ L.win ∧ L.win ≤ 200) ∧ L.lo ≤ L.hi := by
  unfold limErr at h
  split at h
  · rename_i h1
    split at h
    · rename_i h2
      exact ⟨h1.1, h1.2.1, h1.2.2.1, h1.2.2.2.1, h1.2.2.2.2, h2⟩
    · simp at h
  · simp at h
theorem level_range {t : Tab} (h : Ok t) {l : Int} (hl : IsL t l) : 0 ≤ l ∧ l ≤ 1000000 := by
  have h2 := h.two
  have a := Ok.kr h (i := 0) (by omega)
  have b := Ok.kr h (i := t.length - 1) (by omega)
  unfold Kr at a b
  unfold IsL at hl
  omega
theorem limIn_of {t : Tab} (h : Ok t) {L : Lim} (hL : limErr t L = 0) : LimIn L := by
  obtain ⟨h1, h2, h3, h4, h5, _⟩ := limErr_zero hL
  exact ⟨level_range h h1, level_range h h2, h3, h4, h5⟩
theorem limsErr_zero {p : Pair} {L : Lims} (h : limsErr p L = 0) : limErr p.u L.u = 0 ∧ limErr p.l L.l = 0 := by
  unfold limsErr at h
  split at h
  · rename_i h1; exact ⟨h1, h⟩
  · rename_i h1; exact absurd h h1
theorem taskErr_zero {p : Pair} {L : Lims} {l : List Flow} (h : taskErr p L l = 0) : limsErr p L = 0 ∧ lErr l = 0 := by
  unfold taskErr at h
  split at h
  · rename_i h1; exact ⟨h1, h⟩
  · rename_i h1; exact absurd h h1

/-- The first violation at the last one of some states. -/
def now (hist : List Vols) : Vols := vls hist (hist.length - 1)
def bef (hist : List Vols) (w : Int) : Vols := vls hist (hist.length - 1 - w.toNat)
def atG (p : Pair) (L : Lims) (hist : List Vols) : Option (Nat × Nat) :=
  match kindOf L.u (lvl p.u (now hist).u) (lvl p.u (bef hist L.u.win).u) with
  | some k => some (0, k)
  | none => match kindOf L.l (lvl p.l (now hist).l) (lvl p.l (bef hist L.l.win).l) with
    | some k => some (1, k)
    | none => none

def foundPV (tick : Nat) : Option (Nat × Nat) → PV
  | none => .nilp
  | some (i, k) => .rp [.int .i64 (tick : Int), .int .i64 (i : Int), .int .i64 (k : Int)] 0

/-- What is seen tick by tick. -/
def trG (p : Pair) (L : Lims) : List Vols → Vols → List Flow → List (List PV)
  | _, _, [] => []
  | hist, s, f :: fs => match step p s f with
    | none => [[.bool false, .nilp]]
    | some (s', _) => [.bool true, foundPV hist.length (atG p L (hist ++ [s']))] :: trG p L (hist ++ [s']) s' fs

/-- A violation: the tick, the lake, the kind. -/
structure Viol where
  t : Int
  i : Int
  k : Int
abbrev vViol (v : Viol) : PV := .agg [.int .i64 v.t, .int .i64 v.i, .int .i64 v.k]
def viol (p : Pair) (L : Lims) : List Vols → Vols → List Flow → Viol × Int
  | _, _, [] => (⟨0, 0, 0⟩, 12)
  | hist, s, f :: fs => match step p s f with
    | none => (⟨0, 0, 0⟩, 22)
    | some (s', _) => match atG p L (hist ++ [s']) with
      | some (i, k) => (⟨hist.length, i, k⟩, 0)
      | none => viol p L (hist ++ [s']) s' fs

section
variable {N k : Nat}

theorem lake_above {a b : Hgt} (ha : HIn a) (hb : HIn b) {m : Int} (hm : 0 ≤ m ∧ m ≤ 1000000) : ev (envF N) (k + 1) F_lake_height_above [vH a, vH b, .int .i64 m] = some (.bool (abv a b m)) := by
  obtain ⟨a1, a2, a3, _⟩ := ha
  obtain ⟨b1, b2, b3, _⟩ := hb
  have mul : ∀ x y : Int, 0 ≤ x → x ≤ 1000000000 → 0 ≤ y → y ≤ 1000000000 → 0 ≤ x * y ∧ x * y ≤ 1000000000 * 1000000000 := by
    intro x y h1 h2 h3 h4
    exact ⟨Int.mul_nonneg h1 h3, Int.mul_le_mul h2 h4 h3 (by decide)⟩
  have m1 := mul b.n a.d (by omega) (by omega) (by omega) (by omega)
  have m2 := mul a.n b.d (by omega) (by omega) (by omega) (by omega)
  have e1 : w64 (w64 (a.w - b.w) - m) = a.w - b.w - m := by
    rw [w64_id (x := a.w - b.w) (by omega) (by omega), w64_id] <;> omega
  have e2 : w64 (b.n * a.d) = b.n * a.d := by rw [w64_id] <;> omega
  have e3 : w64 (a.n * b.d) = a.n * b.d := by rw [w64_id] <;> omega
  rw [E_lake_height_above]
  simp only [e1, e2, e3, cond_ndec]
  unfold abv
  by_cases h : a.w - b.w - m = 0
  · rw [if_pos h, if_pos h]
  · rw [if_neg h, if_neg h]

theorem lake_whole (n : Int) : ev (envF N) (k + 1) F_lake_whole [.int .i64 n] = some (vH (wh n)) := by
  rw [E_lake_whole]
  rfl

/-- The first of four that is true. -/
def first4 (a b c d : Bool) : Int := if a = true then 0 else if b = true then 1 else if c = true then 2 else if d = true then 3 else -1

theorem slices_Index (hN : 1000000 ≤ N) (a b c d : Bool) : ev (envF N) (k + 1) F_slices_Index_bool [.sl none [.bool] [[.bool a], [.bool b], [.bool c], [.bool d]], .bool true] = some (.int .i64 (first4 a b c d)) := by
  obtain ⟨M, rfl⟩ : ∃ M, N = M + 5 := ⟨N - 5, by omega⟩
  have e0 : nths [[PV.bool a], [PV.bool b], [PV.bool c], [PV.bool d]] (Int.toNat 0) = [.bool a] := rfl
  have e1 : nths [[PV.bool a], [PV.bool b], [PV.bool c], [PV.bool d]] (Int.toNat 1) = [.bool b] := rfl
  have e2 : nths [[PV.bool a], [PV.bool b], [PV.bool c], [PV.bool d]] (Int.toNat 2) = [.bool c] := rfl
  have e3 : nths [[PV.bool a], [PV.bool b], [PV.bool c], [PV.bool d]] (Int.toNat 3) = [.bool d] := rfl
  have w1 : w64 (0 + 1) = 1 := by rw [w64_id] <;> omega
  have w2 : w64 (1 + 1) = 2 := by rw [w64_id] <;> omega
  have w3 : w64 (2 + 1) = 3 := by rw [w64_id] <;> omega
  have w4 : w64 (3 + 1) = 4 := by rw [w64_id] <;> omega
  have hl : (List.length [[PV.bool a], [PV.bool b], [PV.bool c], [PV.bool d]] : Int) = 4 := rfl
  have t (x : Bool) : (true == x) = x := by cases x <;> rfl
  rw [E_slices_Index_bool, hl]
  rw [L_slices_Index_bool_2_eq, hl, e0, w1, L_slices_Index_bool_2_eq, hl, e1, w2, L_slices_Index_bool_2_eq, hl, e2, w3, L_slices_Index_bool_2_eq, hl, e3, w4, L_slices_Index_bool_2_eq]
  simp only [nth_zero, asB_bool, t]
  unfold first4
  cases a <;> cases b <;> cases c <;> cases d <;> simp

theorem first4_kind (L : Lim) (a b : Hgt) : PV.tup [.int .i64 (imax (first4 (abv (wh L.lo) a 0) (abv a (wh L.hi) 0) (abv b a L.fall) (abv a b L.rise)) 0), .bool (decide (0 ≤ first4 (abv (wh L.lo) a 0) (abv a (wh L.hi) 0) (abv b a L.fall) (abv a b L.rise)))] = kindPV (kindOf L a b) := by
  unfold kindOf first4
  rw [imax_eq]
  split
  · rfl
  · split
    · rfl
    · split
      · rfl
      · split <;> rfl

theorem lake_violated (hN : 1000000 ≤ N) {L : Lim} (hL : LimIn L) (hs : List Hgt) (h1 : 1 ≤ hs.length) (h2 : hs.length ≤ 100000) (hin : ∀ i, i < hs.length → HIn (hat hs i)) :
    ev (envF N) (k + 2) F_lake_violated [vLim L, .sl none [.int .i64, .int .i64, .int .i64] (hs.map cH)] = some (kindPV (kindOf L (hat hs (hs.length - 1)) (hat hs (hs.length - 1 - L.win.toNat)))) := by
  obtain ⟨l1, l2, l3, l4, l5⟩ := hL
  have w1 : w64 ((hs.length : Int) - 1) = ((hs.length - 1 : Nat) : Int) := by rw [w64_id] <;> omega
  have w2 : w64 (((hs.length - 1 : Nat) : Int) - L.win) = ((hs.length - 1 : Nat) : Int) - L.win := by rw [w64_id] <;> omega
  have w3 : max (0 : Int) (((hs.length - 1 : Nat) : Int) - L.win) = ((hs.length - 1 - L.win.toNat : Nat) : Int) := by omega
  have c1 : (0 : Int) ≤ ((hs.length - 1 : Nat) : Int) := by omega
  have c2 : ((hs.length - 1 : Nat) : Int) < (hs.length : Int) := by omega
  have c3 : (0 : Int) ≤ ((hs.length - 1 - L.win.toNat : Nat) : Int) := by omega
  have c4 : ((hs.length - 1 - L.win.toNat : Nat) : Int) < (hs.length : Int) := by omega
  have i1 := hin (hs.length - 1) (by omega)
  have i2 := hin (hs.length - 1 - L.win.toNat) (by omega)
  have g1 := lake_above (N := N) (k := k) (wh_in l1) i1 (m := 0) (by omega)
  have g2 := lake_above (N := N) (k := k) i1 (wh_in l2) (m := 0) (by omega)
  have g3 := lake_above (N := N) (k := k) i2 i1 l3
  have g4 := lake_above (N := N) (k := k) i1 i2 l4
  rw [E_lake_violated]
  simp only [List.length_map, w1, cond_t, imax_eq, w2, w3, cond_dec, c1, c2, c3, c4, if_true, Int.toNat_natCast, leaf_cH0, leaf_cH1, leaf_cH2, lake_whole, obind, asA_agg, nth_zero, nth_one, nth_two, asI_int, g1, g2, g3, g4, asB_bool, slices_Index hN]
  rw [← first4_kind, imax_eq]

theorem lake_limErr1 {t : Tab} (h : Ok t) (l : Int) : ev (envF N) (k + 2) F_lake_table_limitErr_c1 [.int .i64 l, .rp [.sl none [.int .i64, .int .i64] (t.map cK)] 0] = some (.bool (decide (IsL t l))) := by
  have h2 := h.two
  have h10 := h.ten
  rw [E_lake_table_limitErr_c1, lake_bottom (by omega), lake_top (by omega) (by omega)]
  simp only [obind, asA_agg, nth_zero, asI_int, lake_within, asB_bool]
  rfl
theorem lake_limErr2 (l : Int) : ev (envF N) (k + 2) F_lake_table_limitErr_c2 [.int .i64 l] = some (.bool (decide (0 ≤ l ∧ l ≤ 1000000))) := by
  rw [E_lake_table_limitErr_c2, lake_within]
  simp only [obind, asB_bool]

theorem lake_limitErr (hN : 1000000 ≤ N) {t : Tab} (h : Ok t) (L : Lim) : ev (envF N) (k + 3) F_lake_table_limitErr [vTab t, vLim L] = some (.int .i64 (limErr t L)) := by
  have z : ¬ ((2 : Int) = 0) := by decide
  rw [E_lake_table_limitErr, lake_limErr1 h]
  simp only [obind, asB_bool, cond_dec]
  unfold limErr
  by_cases c1 : IsL t L.lo
  · rw [if_pos c1, lake_limErr1 h]
    simp only [obind, asB_bool, cond_dec]
    by_cases c2 : IsL t L.hi
    · rw [if_pos c2, lake_limErr2]
      simp only [obind, asB_bool, cond_dec]
      by_cases c3 : 0 ≤ L.fall ∧ L.fall ≤ 1000000
      · rw [if_pos c3, lake_limErr2]
        simp only [obind, asB_bool, cond_dec]
        by_cases c4 : 0 ≤ L.rise ∧ L.rise ≤ 1000000
        · rw [if_pos c4]
          simp only [lake_within, lake_unless, obind, asB_bool, asI_int, lake_first2 hN, decide_eq_true_eq]
          by_cases c5 : 1 ≤ L.win ∧ L.win ≤ 200
          · rw [if_pos c5, if_pos rfl]
            rw [if_pos (show IsL t L.lo ∧ IsL t L.hi ∧ (0 ≤ L.fall ∧ L.fall ≤ 1000000) ∧ (0 ≤ L.rise ∧ L.rise ≤ 1000000) ∧ (1 ≤ L.win ∧ L.win ≤ 200) from ⟨c1, c2, c3, c4, c5⟩)]
          · rw [if_neg c5, if_neg z, if_neg (fun h => c5 h.2.2.2.2)]
        · rw [if_neg c4, if_neg (fun h => c4 h.2.2.2.1)]
          simp only [lake_unless, obind, asI_int, lake_first2 hN, Bool.false_eq_true, if_false, z]
      · rw [if_neg c3, if_neg (fun h => c3 h.2.2.1)]
        simp only [lake_unless, obind, asI_int, lake_first2 hN, Bool.false_eq_true, if_false, z]
    · rw [if_neg c2, if_neg (fun h => c2 h.2.1)]
      simp only [lake_unless, obind, asI_int, lake_first2 hN, Bool.false_eq_true, if_false, z]
  · rw [if_neg c1, if_neg (fun h => c1 h.1)]
    simp only [lake_unless, obind, asI_int, lake_first2 hN, Bool.false_eq_true, if_false, z]

theorem lake_limitsErr (hN : 1000000 ≤ N) {p : Pair} (h : POk p) (L : Lims) : ev (envF N) (k + 4) F_lake_pair_limitsErr [vPair p, vLims L] = some (.int .i64 (limsErr p L)) := by
  have g1 := lake_limitErr (k := k) hN h.u L.u
  have g2 := lake_limitErr (k := k) hN h.l L.l
  rw [E_lake_pair_limitsErr, g1, g2]
  simp only [obind, asI_int, lake_first2 hN]
  rfl

theorem lake_openTask (hN : 1000000 ≤ N) (p : Pair) (s : Vols) (L : Lims) (l : List Flow) : ev (envF N) (k + 8) F_lake_openTask [vPair p, vVols s, vTask L l] = some (.tup [vPair p, .int .i64 (openErr p s L l)]) := by
  rw [E_lake_openTask, lake_openState hN]
  simp only [obind, asT_tup, nth_zero, nth_one, nth_two, asA_agg, asI_int, asL_sl, cond_dec]
  unfold openErr
  by_cases h : bErr p s = 0
  · have g1 := lake_limitsErr (k := k + 3) hN (bErr_zero h).1 L
    have g2 := lake_ticksErr (k := k + 3) hN l
    rw [if_pos h, if_pos h, g1, g2]
    simp only [obind, asI_int, lake_first2 hN]
    rfl
  · rw [if_neg h, if_neg h]

theorem flows_vals (l : List Flow) (hl : l.length ≤ 100000) : ∀ (d n i : Nat), i + d = l.length → d < n → I_Values N k n (l.map cF) (l.length : Int) (i : Int) = some ((l.drop i).map fun f => [vFlow f])
  | 0, n + 1, i, h, hn => by
    rw [I_Values_eq, cond_dec, if_neg (by omega), List.drop_eq_nil_of_le (by omega)]
    rfl
  | d + 1, n + 1, i, h, hn => by
    have c1 : (i : Int) < (l.length : Int) := by omega
    have c2 : (0 : Int) ≤ (i : Int) := by omega
    have ei : w64 ((i : Int) + 1) = ((i + 1 : Nat) : Int) := by rw [w64_id] <;> omega
    rw [I_Values_eq, flo_drop l i (by omega)]
    simp only [cond_dec, c1, c2, List.length_map, if_true, Int.toNat_natCast, leaf_cF0, leaf_cF1, leaf_cF2, ei]
    rw [flows_vals l hl d n (i + 1) (by omega) (by omega)]
    rfl

theorem Values_spec (hN : 1000000 ≤ N) (l : List Flow) (hl : l.length ≤ 100000) : evI (envF N) (k + 1) F_slices_Values_LakeFlows_c1 [.rp [vFlows l] 0] none [] = some (l.map fun f => [vFlow f]) := by
  have g := flows_vals (N := N) (k := k) l hl l.length N 0 (by omega) (by omega)
  rw [List.drop_zero] at g
  refine Eq.trans ?_ g
  have e := E_Values N k (l.map cF)
  rw [List.length_map] at e
  exact e

theorem emit_some (x : List PV) (tr : List (List PV)) : emitI x (some tr) (some []) = some (x :: tr) := id rfl
theorem emit_end (x : List PV) : emitI x (some []) (some []) = some [x] := id rfl

theorem hat_map {α : Type} (g : α → Hgt) (l : List α) (i : Nat) (d : α) (h : i < l.length) : hat (l.map g) i = g (l.getD i d) := by
  unfold hat
  simp [List.getD_eq_getElem?_getD, h]

theorem hist_hat {p : Pair} (hist : List Vols) (i : Nat) (h : i < hist.length) : hat (hist.map fun s => lvl p.u s.u) i = lvl p.u (vls hist i).u ∧ hat (hist.map fun s => lvl p.l s.l) i = lvl p.l (vls hist i).l :=
  ⟨hat_map (fun s : Vols => lvl p.u s.u) hist i ⟨0, 0⟩ h, hat_map (fun s : Vols => lvl p.l s.l) hist i ⟨0, 0⟩ h⟩

theorem vls_valid {p : Pair} {hist : List Vols} (hv : ∀ s ∈ hist, Valid p s) {i : Nat} (h : i < hist.length) : Valid p (vls hist i) := by
  unfold vls
  rw [List.getD_eq_getElem?_getD, List.getElem?_eq_getElem h, Option.getD_some]
  exact hv _ (List.getElem_mem h)

theorem found_two (tick : Nat) (a b : Option Nat) : (match (match a with | some k => some (0, k) | none => match b with | some k => some (1, k) | none => none : Option (Nat × Nat)) with
    | none => PV.nilp
    | some (i, k) => .rp [.int .i64 (tick : Int), .int .i64 (i : Int), .int .i64 (k : Int)] 0) = match a with
      | some k => .rp [.int .i64 (tick : Int), .int .i64 0, .int .i64 (k : Int)] 0
      | none => match b with
        | some k => .rp [.int .i64 (tick : Int), .int .i64 1, .int .i64 (k : Int)] 0
        | none => .nilp := by
  cases a <;> cases b <;> rfl

theorem cH_fold (h : Hgt) : [PV.int .i64 h.w, .int .i64 h.n, .int .i64 h.d] = cH h := rfl
theorem lake_lvl (hN : 1000000 ≤ N) {t : Tab} (h : Ok t) {v : Int} (hv : IsV t v) : ev (envF N) (k + 5) F_lake_table_levelAt [vTab t, .int .i64 v] = some (vH (lvl t v)) := lake_levelAt hN h hv

theorem watch_loop (hN3 : 1000000 ≤ N + 3) {p : Pair} (hp : POk p) {L : Lims} (hu : LimIn L.u) (hl : LimIn L.l) (x3 : List (List PV)) : ∀ (fs : List Flow) (hist : List Vols) (s : Vols), FlowsIn fs → (∀ t ∈ hist, Valid p t) → Valid p s → 1 ≤ hist.length → hist.length + fs.length ≤ 1000 →
    R_lake_pair_watch_c1_5 N (k + 6) (fs.map fun f => [vFlow f]) (p.u.map cK) (p.l.map cK) p.r x3 L.u.lo L.u.hi L.u.fall L.u.rise L.u.win L.l.lo L.l.hi L.l.fall L.l.rise L.l.win s.u s.l ((hist.map fun s => lvl p.u s.u).map cH) ((hist.map fun s => lvl p.l s.l).map cH) (((hist.length - 1 : Nat) : Int)) = some (trG p L hist s fs)
  | [], hist, s, hf, hv, hs, h1, h2 => by
    exact R_lake_pair_watch_c1_5_end ..
  | f :: fs, hist, s, hf, hv, hs, h1, h2 => by
    have hfi := hf f (List.mem_cons_self ..)
    have g1 := lake_step (k := k) hN3 hp hs.1 hs.2 hfi
    have h3 : hist.length + (fs.length + 1) ≤ 1000 := h2
    rw [List.map_cons, R_lake_pair_watch_c1_5_eq0, g1]
    unfold trG
    cases hst : step p s f with
    | none =>
      simp only [obind, asT_tup, nth_two, asB_bool, Bool.not_false, cond_t]
      rfl
    | some r =>
      obtain ⟨s', z⟩ := r
      obtain ⟨a1, a2, _⟩ := step_ok hp hs.1 hs.2 hst hfi
      have hv' : ∀ t ∈ hist ++ [s'], Valid p t := by
        intro t ht
        rcases List.mem_append.1 ht with ht | ht
        · exact hv t ht
        · rw [List.mem_singleton.1 ht]; exact ⟨a1, a2⟩
      have hlen : (hist ++ [s']).length = hist.length + 1 := by simp
      have b1 := lake_lvl (k := k + 1) hN3 hp.u a1
      have b2 := lake_lvl (k := k + 1) hN3 hp.l a2
      have r1 : room ((hist.map fun s => lvl p.u s.u).map cH) [cH (lvl p.u s'.u)] 24 = true := room_row _ _ _ (by simp; omega) (by decide)
      have r2 : room ((hist.map fun s => lvl p.l s.l).map cH) [cH (lvl p.l s'.l)] 24 = true := room_row _ _ _ (by simp; omega) (by decide)
      have e1 : (hist.map fun s => lvl p.u s.u).map cH ++ [cH (lvl p.u s'.u)] = ((hist ++ [s']).map fun s => lvl p.u s.u).map cH := by simp
      have e2 : (hist.map fun s => lvl p.l s.l).map cH ++ [cH (lvl p.l s'.l)] = ((hist ++ [s']).map fun s => lvl p.l s.l).map cH := by simp
      have v1 := lake_violated (k := k + 4) hN3 hu ((hist ++ [s']).map fun s => lvl p.u s.u) (by simp) (by simp; omega) (fun i hi => by
        have hi' : i < (hist ++ [s']).length := by simpa using hi
        rw [(hist_hat (p := p) _ i hi').1]; exact lvl_in hp.u (vls_valid hv' hi').1)
      have v2 := lake_violated (k := k + 4) hN3 hl ((hist ++ [s']).map fun s => lvl p.l s.l) (by simp) (by simp; omega) (fun i hi => by
        have hi' : i < (hist ++ [s']).length := by simpa using hi
        rw [(hist_hat (p := p) _ i hi').2]; exact lvl_in hp.l (vls_valid hv' hi').2)
      rw [List.length_map, (hist_hat (p := p) _ _ (by omega)).1, (hist_hat (p := p) _ _ (by omega)).1] at v1
      rw [List.length_map, (hist_hat (p := p) _ _ (by omega)).2, (hist_hat (p := p) _ _ (by omega)).2] at v2
      have t1 : w64 (((hist.length - 1 : Nat) : Int) + 1) = ((hist.length : Nat) : Int) := by rw [w64_id] <;> omega
      have t2 : w64 ((0 : Int) + 1) = 1 := by rw [w64_id] <;> omega
      have ih := watch_loop hN3 hp hu hl x3 fs (hist ++ [s']) s' (fun g hg => hf g (List.mem_cons_of_mem _ hg)) hv' ⟨a1, a2⟩ (by omega) (by omega)
      rw [show (hist ++ [s']).length - 1 = hist.length by omega] at ih
      have ha : atG p L (hist ++ [s']) = match kindOf L.u (lvl p.u (vls (hist ++ [s']) ((hist ++ [s']).length - 1)).u) (lvl p.u (vls (hist ++ [s']) ((hist ++ [s']).length - 1 - L.u.win.toNat)).u) with
        | some k => some (0, k)
        | none => match kindOf L.l (lvl p.l (vls (hist ++ [s']) ((hist ++ [s']).length - 1)).l) (lvl p.l (vls (hist ++ [s']) ((hist ++ [s']).length - 1 - L.l.win.toNat)).l) with
          | some k => some (1, k)
          | none => none := by unfold atG now bef; rfl
      obtain ⟨K1, hK1⟩ : ∃ K, kindOf L.u (lvl p.u (vls (hist ++ [s']) ((hist ++ [s']).length - 1)).u) (lvl p.u (vls (hist ++ [s']) ((hist ++ [s']).length - 1 - L.u.win.toNat)).u) = K := ⟨_, rfl⟩
      obtain ⟨K2, hK2⟩ : ∃ K, kindOf L.l (lvl p.l (vls (hist ++ [s']) ((hist ++ [s']).length - 1)).l) (lvl p.l (vls (hist ++ [s']) ((hist ++ [s']).length - 1 - L.l.win.toNat)).l) = K := ⟨_, rfl⟩
      rw [hK1] at v1 ha
      rw [hK2] at v2 ha
      simp only [obind, asT_tup, asA_agg, nth_zero, nth_one, nth_two, asI_int, asB_bool, Bool.not_true, cond_f, b1, b2, t1, t2]
      simp only [cH_fold, r1, r2, cond_t, e1, e2, v1, v2, ih, ha, obind]
      cases K1 with
      | some k1 =>
        cases K2 <;> (simp only [kindPV, asT_tup, nth_zero, nth_one, asB_bool, cond_t, cond_f, asI_int, emit_some]; rfl)
      | none =>
        cases K2 <;> (simp only [kindPV, asT_tup, nth_zero, nth_one, asB_bool, cond_t, cond_f, asI_int, emit_some]; rfl)

theorem watch_spec (hN : 1000000 ≤ N) {p : Pair} (hp : POk p) {L : Lims} (hu : LimIn L.u) (hl : LimIn L.l) {s : Vols} (hs : Valid p s) {l : List Flow} (hf : FlowsIn l) (hl2 : l.length ≤ 200) :
    evI (envF N) (k + 8) F_lake_pair_watch_c1 [.rp [.sl none [.int .i64, .int .i64] (p.u.map cK), .sl none [.int .i64, .int .i64] (p.l.map cK), .int .i64 p.r] 0] (some [.int .i64 s.u, .int .i64 s.l])
      [.rp [.fn F_slices_Values_LakeFlows_c1 [.rp [vFlows l] 0]] 0, .rp [.int .i64 L.u.lo, .int .i64 L.u.hi, .int .i64 L.u.fall, .int .i64 L.u.rise, .int .i64 L.u.win, .int .i64 L.l.lo, .int .i64 L.l.hi, .int .i64 L.l.fall, .int .i64 L.l.rise, .int .i64 L.l.win] 0] = some (trG p L [s] s l) := by
  obtain ⟨M, rfl⟩ : ∃ M, N = M + 3 := ⟨N - 3, by omega⟩
  have b1 := lake_lvl (N := M + 3) (k := k + 2) (by omega) hp.u hs.1
  have b2 := lake_lvl (N := M + 3) (k := k + 2) (by omega) hp.l hs.2
  have b3 := Values_spec (N := M + 3) (k := k + 6) (by omega) l (by omega)
  rw [E_lake_pair_watch_c1, b1, b2]
  simp only [obind, asA_agg, nth_zero, nth_one, nth_two, asI_int, b3]
  simp only [cH_fold]
  exact watch_loop (N := M) (k := k + 1) hN hp hu hl (l.map cF) l [s] s hf (fun t ht => by rw [List.mem_singleton.1 ht]; exact hs) hs (by simp) (by simp; omega)

def violR (p : Pair) (s : Vols) (L : Lims) (l : List Flow) : PV :=
  if openErr p s L l = 0 then .tup [vViol (viol p L [s] s l).1, .int .i64 (viol p L [s] s l).2] else .tup [vViol ⟨0, 0, 0⟩, .int .i64 (openErr p s L l)]

/-- Whoever stops at what is not possible and at what is found, finds the first violation. -/
theorem consume {p : Pair} {L : Lims} (R : List (List PV) → Option PV)
    (h0 : ∀ b rest, R ([.bool b, .nilp] :: rest) = cond (!b) (some (.tup [vViol ⟨0, 0, 0⟩, .int .i64 22])) (R rest))
    (h1 : ∀ b rest x y z, R ([.bool b, .rp [.int .i64 x, .int .i64 y, .int .i64 z] 0] :: rest) = cond (!b) (some (.tup [vViol ⟨0, 0, 0⟩, .int .i64 22])) (some (.tup [vViol ⟨x, y, z⟩, .int .i64 0])))
    (h2 : R [] = some (.tup [vViol ⟨0, 0, 0⟩, .int .i64 12])) : ∀ (fs : List Flow) (hist : List Vols) (s : Vols), R (trG p L hist s fs) = some (.tup [vViol (viol p L hist s fs).1, .int .i64 (viol p L hist s fs).2])
  | [], hist, s => h2
  | f :: fs, hist, s => by
    unfold trG viol
    cases hst : step p s f with
    | none => exact h0 false []
    | some r =>
      obtain ⟨s', z⟩ := r
      simp only
      cases ha : atG p L (hist ++ [s']) with
      | none =>
        simp only [foundPV]
        rw [h0]
        simp only [Bool.not_true, cond_f]
        exact consume R h0 h1 h2 fs (hist ++ [s']) s'
      | some q =>
        obtain ⟨i, j⟩ := q
        simp only [foundPV]
        rw [h1]
        simp only [Bool.not_true, cond_f]

theorem lake_ViolationOf (hN0 : 1000000 ≤ N) (p : Pair) (s : Vols) (L : Lims) (l : List Flow) : ev (envF N) (k + 9) F_lake_ViolationOf [vPair p, vVols s, vTask L l] = some (violR p s L l) := by
  rw [E_lake_ViolationOf, lake_openTask (k := k) hN0]
  simp only [obind, asT_tup, nth_zero, nth_one, nth_two, asA_agg, asI_int, asL_sl, cond_ndec]
  unfold violR
  by_cases h : openErr p s L l = 0
  · rw [if_pos h, if_pos h]
    have h' := h
    unfold openErr at h'
    by_cases hb : bErr p s = 0
    · rw [if_pos hb] at h'
      obtain ⟨hp, hu, hl⟩ := bErr_zero hb
      obtain ⟨q1, q2⟩ := taskErr_zero h'
      obtain ⟨q3, q4⟩ := limsErr_zero q1
      obtain ⟨q5, q6⟩ := lErr_zero q2
      have w := watch_spec (k := k) hN0 hp (limIn_of hp.u q3) (limIn_of hp.l q4) ⟨hu, hl⟩ q6 q5
      rw [w]
      simp only [obind]
      exact consume (p := p) (L := L) (fun tr => R_lake_ViolationOf_7 N (k + 8) tr _ _ _ _ _ _ _ _ _ _ _ _ _ _ _ _ _ _ _ _ _ _ _ _ _ _ _ _ _ _ _ _ _ _ _ _ _ _ _ _ _ _ _ _ _ _ _ _ _ _ _ _ _ _ _ _ _ _ _ _ _ _ _ _ _ _ _ _ _ _ _ _ _ _ _ _ _ _ _ _ _ _ _ _ _ _ _) (fun b rest => R_lake_ViolationOf_7_eq0 ..) (fun b rest x y z => R_lake_ViolationOf_7_eq1 ..) (R_lake_ViolationOf_7_end ..) l [s] s
    · rw [if_neg hb] at h'; exact absurd h' hb
  · rw [if_neg h, if_neg h]

end
end Go.PewTab

namespace Go.PewTab
set_option linter.unusedSimpArgs false
set_option linter.unusedVariables false
open Go.Pew Go.Num

/-- The level as a fraction. -/
def hv (h : Hgt) : Rat := ((h.w * h.d + h.n : Int) : Rat) / (h.d : Rat)

theorem Lv_hv {t : Tab} (h : Ok t) {v : Int} (hvv : IsV t v) : Lv t v = hv (lvl t v) := by
  obtain ⟨i1, i2, i3, i4⟩ := h.pieceV hvv
  obtain ⟨p1, p2, p3, p4⟩ := Ok.hv_le h i1 i2
  have hq : (vol t (byV t v) : Rat) ≠ 0 := by
    intro e
    have := Rat.intCast_pos.2 p3
    rw [e] at this
    exact Rat.lt_irrefl this
  rw [Lv_eq]
  unfold hv lvl lvLo
  simp only
  have e := Int.mul_ediv_add_emod (lvN t v) (vol t (byV t v))
  have e2 : ((kn t (byV t v - 1)).l + lvN t v / vol t (byV t v)) * vol t (byV t v) + lvN t v % vol t (byV t v) = (kn t (byV t v - 1)).l * vol t (byV t v) + lvN t v := by
    rw [Int.add_mul, Int.mul_comm (lvN t v / vol t (byV t v))]
    omega
  rw [e2, Rat.intCast_add, Rat.intCast_mul, Rat.div_def, Rat.div_def, Rat.add_mul, Rat.mul_assoc, Rat.mul_inv_cancel _ hq, Rat.mul_one]

theorem abv_int {a b : Hgt} (ha : HIn a) (hb : HIn b) (m : Int) : abv a b m = true ↔ ((b.w + m) * b.d + b.n) * a.d < (a.w * a.d + a.n) * b.d := by
  obtain ⟨a1, a2, a3, _⟩ := ha
  obtain ⟨b1, b2, b3, _⟩ := hb
  have e : (a.w * a.d + a.n) * b.d - ((b.w + m) * b.d + b.n) * a.d = (a.w - b.w - m) * (a.d * b.d) + (a.n * b.d - b.n * a.d) := by
    simp only [Int.add_mul, Int.sub_mul, Int.mul_assoc]
    rw [Int.mul_comm b.d a.d]
    omega
  obtain ⟨D, hD⟩ : ∃ D, a.w - b.w - m = D := ⟨_, rfl⟩
  obtain ⟨P, hP⟩ : ∃ P, a.d * b.d = P := ⟨_, rfl⟩
  obtain ⟨X, hX⟩ : ∃ X, a.n * b.d = X := ⟨_, rfl⟩
  obtain ⟨Y, hY⟩ : ∃ Y, b.n * a.d = Y := ⟨_, rfl⟩
  have x0 : 0 ≤ X := by rw [← hX]; exact Int.mul_nonneg a2.1 (by omega)
  have y0 : 0 ≤ Y := by rw [← hY]; exact Int.mul_nonneg b2.1 (by omega)
  have x1 : X < P := by rw [← hX, ← hP]; exact Int.mul_lt_mul_of_pos_right a2.2 (by omega)
  have y1 : Y < P := by rw [← hY, ← hP, Int.mul_comm a.d]; exact Int.mul_lt_mul_of_pos_right b2.2 (by omega)
  rw [hD, hP, hX, hY] at e
  unfold abv
  rw [hD, hX, hY]
  have key : D * P + (X - Y) > 0 ↔ (if D = 0 then decide (Y < X) else decide (0 < D)) = true := by
    rcases Int.lt_trichotomy D 0 with h | h | h
    · have : D * P ≤ (-1) * P := Int.mul_le_mul_of_nonneg_right (by omega) (by omega)
      rw [if_neg (by omega), decide_eq_true_eq]
      omega
    · rw [if_pos h, h, Int.zero_mul, decide_eq_true_eq]
      omega
    · have : 1 * P ≤ D * P := Int.mul_le_mul_of_nonneg_right (by omega) (by omega)
      rw [if_neg (by omega), decide_eq_true_eq]
      omega
  rw [← key]
  omega

theorem hv_add (b : Hgt) (hb : 0 < b.d) (m : Int) : hv b + (m : Rat) = (((b.w + m) * b.d + b.n : Int) : Rat) / (b.d : Rat) := by
  have hq : (b.d : Rat) ≠ 0 := by
    intro e
    have := Rat.intCast_pos.2 hb
    rw [e] at this
    exact Rat.lt_irrefl this
  have e : (b.w + m) * b.d + b.n = (b.w * b.d + b.n) + m * b.d := by rw [Int.add_mul]; omega
  unfold hv
  rw [e, Rat.intCast_add (b.w * b.d + b.n), Rat.div_def, Rat.div_def, Rat.add_mul, Rat.intCast_mul m, Rat.mul_assoc, Rat.mul_inv_cancel _ hq, Rat.mul_one]

theorem abv_rat {a b : Hgt} (ha : HIn a) (hb : HIn b) (m : Int) : abv a b m = true ↔ hv b + (m : Rat) < hv a := by
  have h1 := ha.2.1
  have h2 := hb.2.1
  rw [abv_int ha hb, hv_add b (by omega)]
  unfold hv
  rw [div_lt_div (by omega) (by omega)]

theorem hv_wh (n : Int) : hv (wh n) = (n : Rat) := by
  unfold hv wh
  simp only [Int.mul_one, Int.add_zero]
  rw [Rat.div_def]
  have : ((1 : Int) : Rat)⁻¹ = 1 := Rat.inv_eq_of_mul_eq_one (by simp)
  rw [this, Rat.mul_one]

theorem lt_sub {a b c : Rat} : c < a - b ↔ b + c < a := by
  rw [Rat.lt_iff_sub_pos, Rat.lt_iff_sub_pos (a := b + c)]
  have : a - b - c = a - (b + c) := by
    rw [Rat.sub_eq_add_neg, Rat.sub_eq_add_neg, Rat.sub_eq_add_neg, Rat.neg_add, Rat.add_assoc]
  rw [this]

/-- The four comparisons. -/
theorem low_iff {t : Tab} (h : Ok t) {v : Int} (hvv : IsV t v) {n : Int} (hn : 0 ≤ n ∧ n ≤ 1000000) : abv (wh n) (lvl t v) 0 = true ↔ Lv t v < (n : Rat) := by
  rw [abv_rat (wh_in hn) (lvl_in h hvv), hv_wh, Lv_hv h hvv]
  have : ((0 : Int) : Rat) = 0 := rfl
  rw [this, Rat.add_zero]
theorem high_iff {t : Tab} (h : Ok t) {v : Int} (hvv : IsV t v) {n : Int} (hn : 0 ≤ n ∧ n ≤ 1000000) : abv (lvl t v) (wh n) 0 = true ↔ (n : Rat) < Lv t v := by
  rw [abv_rat (lvl_in h hvv) (wh_in hn), hv_wh, Lv_hv h hvv]
  have : ((0 : Int) : Rat) = 0 := rfl
  rw [this, Rat.add_zero]
theorem more_iff {t : Tab} (h : Ok t) {v w : Int} (hvv : IsV t v) (hw : IsV t w) (n : Int) : abv (lvl t v) (lvl t w) n = true ↔ (n : Rat) < Lv t v - Lv t w := by
  rw [abv_rat (lvl_in h hvv) (lvl_in h hw), lt_sub, Lv_hv h hvv, Lv_hv h hw]

theorem Lv_sz {t : Tab} (h : Ok t) {v : Int} (hvv : IsV t v) : SzR 3 (Lv t v) := by
  have hin := lvl_in h hvv
  obtain ⟨a1, a2, a3, _⟩ := hin
  rw [Lv_hv h hvv]
  unfold hv
  rw [← Rat.divInt_eq_div]
  have m : (lvl t v).w * (lvl t v).d ≤ 1000000 * 1000000000 := Int.mul_le_mul a1.2 a3 (by omega) (by decide)
  have m0 : 0 ≤ (lvl t v).w * (lvl t v).d := Int.mul_nonneg a1.1 (by omega)
  exact szR_divInt (by omega) (sz_int (by constructor <;> omega)) (sz_int (by constructor <;> omega))
theorem Lv_sub_sz {t : Tab} (h : Ok t) {v w : Int} (hvv : IsV t v) (hw : IsV t w) : SzR 400 (Lv t v - Lv t w) := by
  rw [Rat.sub_eq_add_neg]
  exact ((Lv_sz h hvv).add (Lv_sz h hw).neg).mono (by omega)

end Go.PewTab

namespace Go.PewTab
set_option linter.unusedSimpArgs false
set_option linter.unusedVariables false
open Go.Pew Go.Num

/-- The first violation at a tick of some states. -/
def atI (p : Pair) (L : Lims) (ss : List Vols) (i : Nat) : Option (Nat × Nat) :=
  match kindOf L.u (lvl p.u (vls ss i).u) (lvl p.u (vls ss (i - L.u.win.toNat)).u) with
  | some k => some (0, k)
  | none => match kindOf L.l (lvl p.l (vls ss i).l) (lvl p.l (vls ss (i - L.l.win.toNat)).l) with
    | some k => some (1, k)
    | none => none

theorem vls_append {a b : List Vols} {i : Nat} (h : i < a.length) : vls (a ++ b) i = vls a i := by
  unfold vls
  rw [List.getD_eq_getElem?_getD, List.getD_eq_getElem?_getD, List.getElem?_append_left h]

theorem atI_snoc (p : Pair) (L : Lims) (hist : List Vols) (s : Vols) (rest : List Vols) : atI p L (hist ++ s :: rest) hist.length = atG p L (hist ++ [s]) := by
  have e : hist ++ s :: rest = (hist ++ [s]) ++ rest := by simp
  have hl : (hist ++ [s]).length - 1 = hist.length := by simp
  unfold atG now bef atI
  rw [e, hl]
  rw [vls_append (i := hist.length) (by simp), vls_append (i := hist.length - L.u.win.toNat) (by simp; omega), vls_append (i := hist.length - L.l.win.toNat) (by simp; omega)]
  all_goals rfl

def atPV (tick : Nat) : Option (Nat × Nat) → PV
  | some (a, k) => .tup [.agg [.int .i64 (tick : Int), .int .i64 (a : Int), .int .i64 (k : Int)], .bool true]
  | none => .tup [.agg [.int .i64 0, .int .i64 0, .int .i64 0], .bool false]

theorem nth_four (x y z u v : PV) (l : List PV) : nth (x :: y :: z :: u :: v :: l) 4 = v := id rfl

section
variable {N k : Nat}

theorem RatioSub_spec (hN : 1000000 ≤ N) {a b : Rat} (ha : SzR 400 a) (hb : SzR 400 b) : ev (envF N) (k + 11) F_base_RatioSub [vR a, vR b] = some (vR (a - b)) := by
  have f0 := WideNeg_spec (N := N) (k := k + 8) b.num
  have hb' : SzR 400 (-b) := hb.neg
  have f1 := RatioAdd_spec (k := k) hN ha hb'
  have e : ev (envF N) (k + 10) F_base_RatioNeg [vR b] = some (vR (-b)) := by
    rw [E_base_RatioNeg, f0]
    simp only [obind, asA_agg, nth_zero, nth_one, asI_int, asL_sl]
    simp only [vR, Rat.neg_num, Rat.neg_den]
  rw [E_base_RatioSub, e]
  simp only [obind, asA_agg, nth_zero, nth_one, nth_two, nth_three, asI_int, asL_sl, f1]
  rw [Rat.sub_eq_add_neg]

theorem dec_low {t : Tab} (h : Ok t) {v : Int} (hv : IsV t v) {n : Int} (hn : 0 ≤ n ∧ n ≤ 1000000) : decide (((Lv t v).num * ((n : Rat).den : Int) - (n : Rat).num * ((Lv t v).den : Int)).sign < 0) = abv (wh n) (lvl t v) 0 := by
  rw [Bool.eq_iff_iff, decide_eq_true_eq, cmp_lt, low_iff h hv hn]
theorem dec_high {t : Tab} (h : Ok t) {v : Int} (hv : IsV t v) {n : Int} (hn : 0 ≤ n ∧ n ≤ 1000000) : decide (0 < ((Lv t v).num * ((n : Rat).den : Int) - (n : Rat).num * ((Lv t v).den : Int)).sign) = abv (lvl t v) (wh n) 0 := by
  rw [Bool.eq_iff_iff, decide_eq_true_eq, cmp_gt, high_iff h hv hn]
theorem dec_more {t : Tab} (h : Ok t) {v w : Int} (hv : IsV t v) (hw : IsV t w) (n : Int) : decide (0 < ((Lv t v - Lv t w).num * ((n : Rat).den : Int) - (n : Rat).num * ((Lv t v - Lv t w).den : Int)).sign) = abv (lvl t v) (lvl t w) n := by
  rw [Bool.eq_iff_iff, decide_eq_true_eq, cmp_gt, more_iff h hv hw]

theorem szR_level {n : Int} (hn : 0 ≤ n ∧ n ≤ 1000000) : SzR 400 (n : Rat) := (szR_int (by constructor <;> omega)).mono (by omega)

/-- Four comparisons, one after the other. -/
theorem four_kinds (A B C D : Bool) (tick : Nat) (a : Nat) (E : Option PV) (o : Option (Nat × Nat)) (hE : E = some (atPV tick o)) :
    cond A (some (.tup [.agg [.int .i64 (tick : Int), .int .i64 (a : Int), .int .i64 0], .bool true])) (cond B (some (.tup [.agg [.int .i64 (tick : Int), .int .i64 (a : Int), .int .i64 1], .bool true])) (cond C (some (.tup [.agg [.int .i64 (tick : Int), .int .i64 (a : Int), .int .i64 2], .bool true])) (cond D (some (.tup [.agg [.int .i64 (tick : Int), .int .i64 (a : Int), .int .i64 3], .bool true])) E))) =
    some (atPV tick (match (if A = true then some 0 else if B = true then some 1 else if C = true then some 2 else if D = true then some 3 else none : Option Nat) with
      | some k => some (a, k)
      | none => o)) := by
  subst hE
  cases A
  · cases B
    · cases C
      · cases D
        · rfl
        · rfl
      · rfl
    · rfl
  · rfl

theorem ref_At (hN : 1000000 ≤ N) {p : Pair} (hp : POk p) {L : Lims} (hu : LimIn L.u) (hl : LimIn L.l) {ss : List Vols} (hv : ∀ t ∈ ss, Valid p t) (h2 : ss.length ≤ 1000) {i : Nat} (hi : i < ss.length) :
    ev (envF N) (k + 13) F_ref01_At [vPair p, vLims L, vStates ss, .int .i64 (i : Int)] = some (atPV i (atI p L ss i)) := by
  obtain ⟨M, rfl⟩ : ∃ M, N = M + 5 := ⟨N - 5, by omega⟩
  obtain ⟨u1, u2, u3, u4, u5⟩ := hu
  obtain ⟨l1, l2, l3, l4, l5⟩ := hl
  have v1 := vls_valid hv hi
  have v2 := vls_valid hv (show i - L.u.win.toNat < ss.length by omega)
  have v3 := vls_valid hv (show i - L.l.win.toNat < ss.length by omega)
  have c1 : (0 : Int) ≤ (i : Int) := by omega
  have c2 : (i : Int) < (ss.length : Int) := by omega
  have w1 : w64 ((i : Int) - L.u.win) = (i : Int) - L.u.win := by rw [w64_id] <;> omega
  have w2 : w64 ((i : Int) - L.l.win) = (i : Int) - L.l.win := by rw [w64_id] <;> omega
  have m1 : max (0 : Int) ((i : Int) - L.u.win) = ((i - L.u.win.toNat : Nat) : Int) := by omega
  have m2 : max (0 : Int) ((i : Int) - L.l.win) = ((i - L.l.win.toNat : Nat) : Int) := by omega
  have c3 : (0 : Int) ≤ ((i - L.u.win.toNat : Nat) : Int) := by omega
  have c4 : ((i - L.u.win.toNat : Nat) : Int) < (ss.length : Int) := by omega
  have c5 : (0 : Int) ≤ ((i - L.l.win.toNat : Nat) : Int) := by omega
  have c6 : ((i - L.l.win.toNat : Nat) : Int) < (ss.length : Int) := by omega
  have t1 : w64 ((0 : Int) + 1) = 1 := by rw [w64_id] <;> omega
  have t2 : w64 ((1 : Int) + 1) = 2 := by rw [w64_id] <;> omega
  have t3 : w64 ((2 : Int) + 1) = 3 := by rw [w64_id] <;> omega
  have z : ¬ ((1 : Int) = 0) := by decide
  have g1 := (ref_Level (k := k) hN hp.u v1.1).1
  have g2 := (ref_Level (k := k) hN hp.u v2.1).1
  have g3 := (ref_Level (k := k) hN hp.l v1.2).1
  have g4 := (ref_Level (k := k) hN hp.l v3.2).1
  have i1 := RatioInt_spec (k := k + 8) hN (n := L.u.lo) (by constructor <;> omega)
  have i2 := RatioInt_spec (k := k + 8) hN (n := L.u.hi) (by constructor <;> omega)
  have i3 := RatioInt_spec (k := k + 8) hN (n := L.u.fall) (by constructor <;> omega)
  have i4 := RatioInt_spec (k := k + 8) hN (n := L.u.rise) (by constructor <;> omega)
  have i5 := RatioInt_spec (k := k + 8) hN (n := L.l.lo) (by constructor <;> omega)
  have i6 := RatioInt_spec (k := k + 8) hN (n := L.l.hi) (by constructor <;> omega)
  have i7 := RatioInt_spec (k := k + 8) hN (n := L.l.fall) (by constructor <;> omega)
  have i8 := RatioInt_spec (k := k + 8) hN (n := L.l.rise) (by constructor <;> omega)
  have s1 := (Lv_sz hp.u v1.1).mono (n := 400) (by omega)
  have s2 := (Lv_sz hp.u v2.1).mono (n := 400) (by omega)
  have s3 := (Lv_sz hp.l v1.2).mono (n := 400) (by omega)
  have s4 := (Lv_sz hp.l v3.2).mono (n := 400) (by omega)
  have d1 := RatioSub_spec (k := k + 1) hN s2 s1
  have d2 := RatioSub_spec (k := k + 1) hN s1 s2
  have d3 := RatioSub_spec (k := k + 1) hN s4 s3
  have d4 := RatioSub_spec (k := k + 1) hN s3 s4
  have q1 := RatioCmp_spec (k := k + 6) hN s1 (szR_level u1)
  have q2 := RatioCmp_spec (k := k + 6) hN s1 (szR_level u2)
  have q3 := RatioCmp_spec (k := k + 6) hN (Lv_sub_sz hp.u v2.1 v1.1) (szR_level u3)
  have q4 := RatioCmp_spec (k := k + 6) hN (Lv_sub_sz hp.u v1.1 v2.1) (szR_level u4)
  have q5 := RatioCmp_spec (k := k + 6) hN s3 (szR_level l1)
  have q6 := RatioCmp_spec (k := k + 6) hN s3 (szR_level l2)
  have q7 := RatioCmp_spec (k := k + 6) hN (Lv_sub_sz hp.l v3.2 v1.2) (szR_level l3)
  have q8 := RatioCmp_spec (k := k + 6) hN (Lv_sub_sz hp.l v1.2 v3.2) (szR_level l4)
  rw [E_ref01_At]
  simp only [E_ref01_tableOf, E_ref01_limitOf, E_ref01_volumeOf, decide_true, cond_t, t1, decide_eq_false z, cond_f, obind, asA_agg, nth_zero, nth_one, nth_two, nth_three, nth_four, asI_int, asL_sl, c1, c2, List.length_map, Int.toNat_natCast, leaf_cV0, leaf_cV1, imax_eq, w1, w2, m1, m2, c3, c4, c5, c6, g1, g2, g3, g4, i1, i2, i3, i4, i5, i6, i7, i8]
  simp only [d1, d2, d3, d4, obind, asA_agg, nth_zero, nth_one, nth_two, nth_three, asI_int, asL_sl, q1, q2, q3, q4, q5, q6, q7, q8]
  simp only [dec_low hp.u v1.1 u1, dec_high hp.u v1.1 u2, dec_more hp.u v2.1 v1.1, dec_more hp.u v1.1 v2.1, dec_low hp.l v1.2 l1, dec_high hp.l v1.2 l2, dec_more hp.l v3.2 v1.2, dec_more hp.l v1.2 v3.2, t1, t2, t3]
  unfold atI kindOf
  refine four_kinds _ _ _ _ i 0 _ _ ?_
  refine (four_kinds _ _ _ _ i 1 _ none ?_)
  rfl

end
end Go.PewTab

namespace Go.PewTab
set_option linter.unusedSimpArgs false
set_option linter.unusedVariables false
open Go.Pew Go.Num

theorem fErr_of {f : Flow} (h : FlowIn f) : fErr f = 0 := by
  unfold fErr FlowIn at *
  rw [if_pos h]
theorem lErr_of {l : List Flow} (h1 : l.length ≤ 200) (h2 : FlowsIn l) : lErr l = 0 := by
  unfold lErr
  rw [if_neg (by omega), if_pos]
  unfold allOk
  rw [List.all_eq_true]
  intro f hf
  simp [fErr_of (h2 f hf)]
theorem bErr_of {p : Pair} {s t : Vols} (h : bErr p s = 0) (ht : Valid p t) : bErr p t = 0 := by
  unfold bErr at h ⊢
  split at h
  · rename_i h1
    rw [if_pos h1]
    unfold sErr
    exact if_pos ht
  · rename_i h1; exact absurd h h1
theorem sErr_of {p : Pair} {t : Vols} (ht : Valid p t) : sErr p t = 0 := by
  unfold sErr
  exact if_pos ht

theorem flo_eq (l : List Flow) (i : Nat) (h : i < l.length) : flo l i = l[i] := by
  unfold flo
  rw [List.getD_eq_getElem?_getD, List.getElem?_eq_getElem h, Option.getD_some]
theorem vls_eq (l : List Vols) (i : Nat) (h : i < l.length) : vls l i = l[i] := by
  unfold vls
  rw [List.getD_eq_getElem?_getD, List.getElem?_eq_getElem h, Option.getD_some]
theorem run_app {p : Pair} : ∀ (a b : List Flow) (s : Vols), (runG p s a).ok = true →
    runG p s (a ++ b) = ⟨(runG p s a).ss ++ (runG p ((runG p s a).ss.getLastD s) b).ss, ⟨(runG p s a).y.e + (runG p ((runG p s a).ss.getLastD s) b).y.e, (runG p s a).y.s + (runG p ((runG p s a).ss.getLastD s) b).y.s⟩, (runG p ((runG p s a).ss.getLastD s) b).ok⟩
  | [], b, s, h => by
    simp [runG]
  | f :: fs, b, s, h => by
    rw [List.cons_append]
    cases hst : step p s f with
    | none => rw [run_none _ hst] at h; cases h
    | some r =>
      obtain ⟨s', x⟩ := r
      rw [run_some _ hst] at h
      have hl : (s' :: (runG p s' fs).ss).getLastD s = (runG p s' fs).ss.getLastD s' := by
        cases (runG p s' fs).ss <;> simp [List.getLastD]
      rw [run_some fs hst, run_some (fs ++ b) hst, run_app fs b s' h]
      simp only [hl, List.cons_append, Int.add_assoc]

theorem vls_rev (l : List Vols) (i : Nat) (h : i < l.length) : vls l.reverse i = vls l (l.length - 1 - i) := by
  rw [vls_eq _ _ (by simpa using h), vls_eq _ _ (by omega), List.getElem_reverse]

theorem now_snoc (hist : List Vols) (s : Vols) : now (hist ++ [s]) = s := by
  unfold now
  rw [vls_eq _ _ (by simp)]
  simp

theorem run_le (p : Pair) : ∀ (l : List Flow) (s : Vols), (runG p s l).ss.length ≤ l.length
  | [], s => Nat.le_refl _
  | f :: fs, s => by
    cases hst : step p s f with
    | none => rw [run_none _ hst]; simp
    | some r =>
      obtain ⟨s', x⟩ := r
      rw [run_some _ hst]
      have := run_le p fs s'
      simp only [List.length_cons]
      omega

end Go.PewTab

namespace Go.PewTab
set_option linter.unusedSimpArgs false
set_option linter.unusedVariables false
open Go.Pew Go.Num

section
variable {N k : Nat}

theorem ref_limitErr {t : Tab} (h : Ok t) (L : Lim) : ev (envF N) (k + 3) F_ref01_limitErr [vTab t, vLim L] = some (.int .i64 (limErr t L)) := by
  rw [E_ref01_limitErr, ref_IsLevel h]
  simp only [obind, asB_bool, cond_ndec]
  unfold limErr
  by_cases c1 : IsL t L.lo
  · rw [if_pos c1, ref_IsLevel h]
    simp only [obind, asB_bool, cond_ndec]
    by_cases c2 : IsL t L.hi
    · rw [if_pos c2]
      simp only [base_Within, obind, asB_bool, cond_ndec, cond_dec]
      by_cases c3 : 0 ≤ L.fall ∧ L.fall ≤ 1000000
      · rw [if_pos c3]
        by_cases c4 : 0 ≤ L.rise ∧ L.rise ≤ 1000000
        · rw [if_pos c4]
          by_cases c5 : 1 ≤ L.win ∧ L.win ≤ 200
          · have cc : IsL t L.lo ∧ IsL t L.hi ∧ (0 ≤ L.fall ∧ L.fall ≤ 1000000) ∧ (0 ≤ L.rise ∧ L.rise ≤ 1000000) ∧ (1 ≤ L.win ∧ L.win ≤ 200) := ⟨c1, c2, c3, c4, c5⟩
            rw [if_pos c5, if_pos cc]
            by_cases c6 : L.lo ≤ L.hi
            · rw [if_neg (by omega), if_pos c6]
            · rw [if_pos (by omega), if_neg c6]
          · rw [if_neg c5, if_neg (fun h => c5 h.2.2.2.2)]
        · rw [if_neg c4, if_neg (fun h => c4 h.2.2.2.1)]
      · rw [if_neg c3, if_neg (fun h => c3 h.2.2.1)]
    · rw [if_neg c2, if_neg (fun h => c2 h.2.1)]
  · rw [if_neg c1, if_neg (fun h => c1 h.1)]

theorem ref_LimitsErr {p : Pair} (h : POk p) (L : Lims) : ev (envF N) (k + 4) F_ref01_LimitsErr [vPair p, vLims L] = some (.int .i64 (limsErr p L)) := by
  have g1 := ref_limitErr (N := N) (k := k) h.u L.u
  have g2 := ref_limitErr (N := N) (k := k) h.l L.l
  rw [E_ref01_LimitsErr, g1]
  simp only [obind, asI_int, cond_ndec, g2]
  unfold limsErr
  by_cases c : limErr p.u L.u = 0
  · rw [if_pos c, if_pos c]
  · rw [if_neg c, if_neg c]

theorem ref_TaskErr (hN : 1000000 ≤ N) {p : Pair} (h : POk p) (L : Lims) (l : List Flow) : ev (envF N) (k + 5) F_ref01_TaskErr [vPair p, vTask L l] = some (.int .i64 (taskErr p L l)) := by
  have g1 := ref_LimitsErr (N := N) (k := k) h L
  have g2 := ref_ListErr (k := k + 1) hN l
  rw [E_ref01_TaskErr, g1]
  simp only [obind, asI_int, cond_ndec, g2]
  unfold taskErr
  by_cases c : limsErr p L = 0
  · rw [if_pos c, if_pos c]
  · rw [if_neg c, if_neg c]

end
end Go.PewTab

namespace Go.PewTab
set_option linter.unusedSimpArgs false
set_option linter.unusedVariables false
open Go.Pew Go.Num

/-- For how many ticks nothing is violated. -/
def permG (p : Pair) (L : Lims) : List Vols → Vols → List Flow → Nat
  | _, _, [] => 0
  | hist, s, f :: fs => match step p s f with
    | none => 0
    | some (s', _) => match atG p L (hist ++ [s']) with
      | some _ => 0
      | none => permG p L (hist ++ [s']) s' fs + 1

theorem permG_le (p : Pair) (L : Lims) : ∀ (fs : List Flow) (hist : List Vols) (s : Vols), permG p L hist s fs ≤ fs.length
  | [], hist, s => Nat.le_refl _
  | f :: fs, hist, s => by
    unfold permG
    cases hst : step p s f with
    | none => simp
    | some r =>
      obtain ⟨s', x⟩ := r
      simp only
      cases ha : atG p L (hist ++ [s']) with
      | some q => simp
      | none =>
        simp only [List.length_cons]
        have := permG_le p L fs (hist ++ [s']) s'
        omega

section
variable {N k : Nat}

theorem room_states (x : List PV) (xs : List (List PV)) (b : Nat) (h : xs.length ≤ 100000) (hb : b ≤ 1000) : room [x] xs b = true := by
  unfold room
  rw [decide_eq_true_eq]
  simp only [List.length_cons, List.length_nil, Nat.zero_add]
  have : (1 + xs.length) * b ≤ 100001 * 1000 := Nat.mul_le_mul (by omega) hb
  omega

theorem ref_viol_loop (hN : 1000000 ≤ N) {p : Pair} (hp : POk p) {L : Lims} (hu : LimIn L.u) (hl : LimIn L.l) (x6 x7 : Int) (x18 : List (List PV)) (x19 x20 x21 x22 x23 : Int) : ∀ (fs : List Flow) (n : Nat) (hist : List Vols) (s : Vols), FlowsIn fs → (∀ t ∈ hist, Valid p t) → Valid p s → hist.length + fs.length ≤ 500 → fs.length < n →
    L_ref01_ViolationOf_4 N (k + 13) n (runG p s fs).ok ((hist ++ (runG p s fs).ss).map cV) (hist.length : Int) (p.u.map cK) (p.l.map cK) p.r x6 x7 L.u.lo L.u.hi L.u.fall L.u.rise L.u.win L.l.lo L.l.hi L.l.fall L.l.rise L.l.win x18 x19 x20 x21 x22 x23 = some (.tup [vViol (viol p L hist s fs).1, .int .i64 (viol p L hist s fs).2])
  | [], n + 1, hist, s, hf, hv, hs, h2, hn => by
    rw [L_ref01_ViolationOf_4_eq]
    have e : hist ++ (runG p s []).ss = hist := by simp [runG]
    rw [e, List.length_map, cond_dec, if_neg (by omega)]
    rfl
  | f :: fs, n + 1, hist, s, hf, hv, hs, h2, hn => by
    have hfi := hf f (List.mem_cons_self ..)
    cases hst : step p s f with
    | none =>
      rw [run_none _ hst]
      rw [L_ref01_ViolationOf_4_eq]
      have e : hist ++ ([] : List Vols) = hist := by simp
      simp only [e]
      rw [List.length_map, cond_dec, if_neg (by omega)]
      unfold viol
      rw [hst]
      rfl
    | some r =>
      obtain ⟨s', x⟩ := r
      obtain ⟨a1, a2, _⟩ := step_ok hp hs.1 hs.2 hst hfi
      have hf' : FlowsIn fs := fun g hg => hf g (List.mem_cons_of_mem _ hg)
      obtain ⟨v0, _⟩ := run_ok hp fs s' ⟨a1, a2⟩ hf'
      have hv' : ∀ t ∈ hist ++ [s'], Valid p t := by
        intro t ht
        rcases List.mem_append.1 ht with ht | ht
        · exact hv t ht
        · rw [List.mem_singleton.1 ht]; exact ⟨a1, a2⟩
      have hlr : (runG p s' fs).ss.length ≤ fs.length := run_le p fs s'
      have h3 : hist.length + (fs.length + 1) ≤ 500 := h2
      have hva : ∀ t ∈ hist ++ s' :: (runG p s' fs).ss, Valid p t := by
        intro t ht
        rcases List.mem_append.1 ht with ht | ht
        · exact hv t ht
        · rcases List.mem_cons.1 ht with rfl | ht
          · exact ⟨a1, a2⟩
          · exact v0 t ht
      have g := ref_At (k := k) hN hp hu hl hva (by simp; omega) (i := hist.length) (by simp)
      rw [atI_snoc] at g
      have c1 : ((hist.length : Nat) : Int) < ((hist ++ s' :: (runG p s' fs).ss).length : Int) := by
        simp only [List.length_append, List.length_cons]
        omega
      have ei : w64 ((hist.length : Int) + 1) = (((hist ++ [s']).length : Nat) : Int) := by
        rw [List.length_append, List.length_cons, List.length_nil, w64_id] <;> omega
      have e : hist ++ s' :: (runG p s' fs).ss = (hist ++ [s']) ++ (runG p s' fs).ss := by simp
      have hn' : fs.length < n := by simp only [List.length_cons] at hn; omega
      have ih := ref_viol_loop hN hp hu hl x6 x7 x18 x19 x20 x21 x22 x23 fs n (hist ++ [s']) s' hf' hv' ⟨a1, a2⟩ (by simp; omega) hn'
      rw [run_some _ hst, L_ref01_ViolationOf_4_eq]
      simp only [List.length_map, c1, decide_true, cond_t, g, obind]
      unfold viol
      rw [hst]
      simp only
      cases ha : atG p L (hist ++ [s']) with
      | some q =>
        obtain ⟨a, j⟩ := q
        simp only [atPV, asT_tup, asA_agg, nth_zero, nth_one, nth_two, asI_int, asB_bool, cond_t]
      | none =>
        simp only [atPV, asT_tup, nth_one, asB_bool, cond_f, ei]
        rw [e]
        exact ih

theorem matchL (v : PV) : (match v with | PV.sl tag ls xs => xs | x => []) = asL v := by cases v <;> rfl

theorem ref_ViolationOf (hN : 1000000 ≤ N) {p : Pair} (hp : POk p) {L : Lims} (hu : LimIn L.u) (hl : LimIn L.l) {s : Vols} (hs : Valid p s) {l : List Flow} (hf : FlowsIn l) (hl2 : l.length ≤ 200) :
    ev (envF N) (k + 15) F_ref01_ViolationOf [vPair p, vVols s, vTask L l] = some (.tup [vViol (viol p L [s] s l).1, .int .i64 (viol p L [s] s l).2]) := by
  have g := ref_RunOf (k := k) hN hp hs hf hl2
  have hlr : (runG p s l).ss.length ≤ l.length := run_le p l s
  have r1 : room [[PV.int .i64 s.u, .int .i64 s.l]] ((runG p s l).ss.map cV) 16 = true := room_states _ _ _ (by rw [List.length_map]; omega) (by decide)
  have e : [[PV.int .i64 s.u, .int .i64 s.l]] ++ (runG p s l).ss.map cV = ([s] ++ (runG p s l).ss).map cV := rfl
  rw [E_ref01_ViolationOf, g]
  simp only [obind, asT_tup, asA_agg, nth_zero, nth_one, nth_two, asI_int, asL_sl, asB_bool, matchL, r1, cond_t, e]
  exact ref_viol_loop (k := k + 1) hN hp hu hl s.u s.l (l.map cF) 0 0 0 _ _ l N [s] s hf (fun t ht => by rw [List.mem_singleton.1 ht]; exact hs) hs (by simp; omega) (by omega)

theorem ref_perm_loop (hN : 1000000 ≤ N) {p : Pair} (hp : POk p) {L : Lims} (hu : LimIn L.u) (hl : LimIn L.l) (x6 x7 : Int) (x18 : List (List PV)) (x19 x20 : Int) : ∀ (fs : List Flow) (n : Nat) (hist : List Vols) (s : Vols) (x0 : List (List PV)), FlowsIn fs → (∀ t ∈ hist, Valid p t) → Valid p s → 1 ≤ hist.length → hist.length + fs.length ≤ 500 → fs.length < n → x0.length + 1 = (hist ++ (runG p s fs).ss).length →
    L_ref01_PermittedFor_9 N (k + 13) n x0 ((hist ++ (runG p s fs).ss).map cV) (hist.length : Int) (p.u.map cK) (p.l.map cK) p.r x6 x7 L.u.lo L.u.hi L.u.fall L.u.rise L.u.win L.l.lo L.l.hi L.l.fall L.l.rise L.l.win x18 x19 x20 = some (.int .i64 ((hist.length - 1 + permG p L hist s fs : Nat) : Int))
  | [], n + 1, hist, s, x0, hf, hv, hs, h1, h2, hn, hx => by
    rw [L_ref01_PermittedFor_9_eq]
    have e : hist ++ (runG p s []).ss = hist := by simp [runG]
    rw [e] at hx ⊢
    rw [List.length_map, cond_dec, if_neg (by omega)]
    unfold permG
    rw [show x0.length = hist.length - 1 + 0 by omega]
  | f :: fs, n + 1, hist, s, x0, hf, hv, hs, h1, h2, hn, hx => by
    have hfi := hf f (List.mem_cons_self ..)
    cases hst : step p s f with
    | none =>
      rw [run_none _ hst] at hx ⊢
      rw [L_ref01_PermittedFor_9_eq]
      have e : hist ++ ([] : List Vols) = hist := by simp
      simp only [e] at hx ⊢
      rw [List.length_map, cond_dec, if_neg (by omega)]
      unfold permG
      rw [hst]
      simp only
      rw [show x0.length = hist.length - 1 + 0 by omega]
    | some r =>
      obtain ⟨s', x⟩ := r
      obtain ⟨a1, a2, _⟩ := step_ok hp hs.1 hs.2 hst hfi
      have hf' : FlowsIn fs := fun g hg => hf g (List.mem_cons_of_mem _ hg)
      obtain ⟨v0, _⟩ := run_ok hp fs s' ⟨a1, a2⟩ hf'
      have hv' : ∀ t ∈ hist ++ [s'], Valid p t := by
        intro t ht
        rcases List.mem_append.1 ht with ht | ht
        · exact hv t ht
        · rw [List.mem_singleton.1 ht]; exact ⟨a1, a2⟩
      have hlr : (runG p s' fs).ss.length ≤ fs.length := run_le p fs s'
      have h3 : hist.length + (fs.length + 1) ≤ 500 := h2
      have hva : ∀ t ∈ hist ++ s' :: (runG p s' fs).ss, Valid p t := by
        intro t ht
        rcases List.mem_append.1 ht with ht | ht
        · exact hv t ht
        · rcases List.mem_cons.1 ht with rfl | ht
          · exact ⟨a1, a2⟩
          · exact v0 t ht
      have g := ref_At (k := k) hN hp hu hl hva (by simp; omega) (i := hist.length) (by simp)
      rw [atI_snoc] at g
      have c1 : ((hist.length : Nat) : Int) < ((hist ++ s' :: (runG p s' fs).ss).length : Int) := by
        simp only [List.length_append, List.length_cons]
        omega
      have ei : w64 ((hist.length : Int) + 1) = (((hist ++ [s']).length : Nat) : Int) := by
        rw [List.length_append, List.length_cons, List.length_nil, w64_id] <;> omega
      have em : w64 ((hist.length : Int) - 1) = ((hist.length - 1 + 0 : Nat) : Int) := by rw [w64_id] <;> omega
      have e : hist ++ s' :: (runG p s' fs).ss = (hist ++ [s']) ++ (runG p s' fs).ss := by simp
      have hn' : fs.length < n := by simp only [List.length_cons] at hn; omega
      rw [run_some _ hst] at hx ⊢
      simp only at hx ⊢
      rw [e] at hx
      have ih := ref_perm_loop hN hp hu hl x6 x7 x18 x19 x20 fs n (hist ++ [s']) s' x0 hf' hv' ⟨a1, a2⟩ (by simp) (by simp; omega) hn' hx
      rw [L_ref01_PermittedFor_9_eq]
      simp only [List.length_map, c1, decide_true, cond_t, g, obind]
      unfold permG
      rw [hst]
      simp only
      cases ha : atG p L (hist ++ [s']) with
      | some q =>
        obtain ⟨a, j⟩ := q
        simp only [atPV, asT_tup, asA_agg, nth_zero, nth_one, nth_two, asI_int, asB_bool, cond_t, em]
      | none =>
        simp only [atPV, asT_tup, nth_one, asB_bool, cond_f, ei]
        rw [e, ih]
        have : (hist ++ [s']).length - 1 + permG p L (hist ++ [s']) s' fs = hist.length - 1 + (permG p L (hist ++ [s']) s' fs + 1) := by
          rw [List.length_append, List.length_cons, List.length_nil]
          omega
        rw [this]

/-- The last flows, many times. -/
def lastF (l : List Flow) : Flow := flo l (l.length - 1)
def again (l : List Flow) : List Flow := List.replicate 200 (lastF l)

theorem ref_perm_build {l : List Flow} (h1 : 1 ≤ l.length) (h2 : l.length ≤ 200) (x2 x3 : List (List PV)) (x4 x5 x6 x7 x8 x9 x10 x11 x12 x13 x14 x15 x16 : Int) : ∀ (d n i : Nat), i + d = 200 → d < n →
    L_ref01_PermittedFor_3 N k n ((List.replicate i (lastF l)).map cF) (i : Int) x2 x3 x4 x5 x6 x7 x8 x9 x10 x11 x12 x13 x14 x15 x16 (l.map cF) =
    L_ref01_PermittedFor_3 N k (n - d) ((again l).map cF) 200 x2 x3 x4 x5 x6 x7 x8 x9 x10 x11 x12 x13 x14 x15 x16 (l.map cF)
  | 0, n, i, h, hn => by
    have hi : i = 200 := by omega
    subst hi
    rfl
  | d + 1, n + 1, i, h, hn => by
    have c1 : (i : Int) < 200 := by omega
    have ei : w64 ((i : Int) + 1) = ((i + 1 : Nat) : Int) := by rw [w64_id] <;> omega
    have w1 : w64 ((l.length : Int) - 1) = ((l.length - 1 : Nat) : Int) := by rw [w64_id] <;> omega
    have c3 : (0 : Int) ≤ ((l.length - 1 : Nat) : Int) := by omega
    have c4 : ((l.length - 1 : Nat) : Int) < (l.length : Int) := by omega
    have f1 : [PV.int .i64 (flo l (l.length - 1)).a, .int .i64 (flo l (l.length - 1)).b, .int .i64 (flo l (l.length - 1)).x] = cF (lastF l) := rfl
    have r1 : room ((List.replicate i (lastF l)).map cF) [cF (lastF l)] 24 = true := room_row _ _ _ (by simp; omega) (by decide)
    have e1 : (List.replicate i (lastF l)).map cF ++ [cF (lastF l)] = (List.replicate (i + 1) (lastF l)).map cF := by
      rw [List.replicate_succ', List.map_append]
      rfl
    rw [L_ref01_PermittedFor_3_eq]
    simp only [c1, decide_true, cond_t, List.length_map, w1, c3, c4, Int.toNat_natCast, leaf_cF0, leaf_cF1, leaf_cF2]
    simp only [f1, r1, cond_t, e1, ei]
    rw [ref_perm_build h1 h2 x2 x3 x4 x5 x6 x7 x8 x9 x10 x11 x12 x13 x14 x15 x16 d n (i + 1) (by omega) (by omega), show n + 1 - (d + 1) = n - d by omega]

theorem again_in {l : List Flow} (h1 : 1 ≤ l.length) (hf : FlowsIn l) : FlowsIn (again l) := by
  intro f h
  rw [List.eq_of_mem_replicate h]
  exact hf _ (flo_mem l _ (by omega))
theorem again_len (l : List Flow) : (again l).length = 200 := List.length_replicate

theorem ref_PermittedFor (hN : 1000000 ≤ N) {p : Pair} (hp : POk p) {L : Lims} (hu : LimIn L.u) (hl : LimIn L.l) {s : Vols} (hs : Valid p s) {l : List Flow} (hf : FlowsIn l) (h1 : 1 ≤ l.length) (hl2 : l.length ≤ 200) :
    ev (envF N) (k + 15) F_ref01_PermittedFor [vPair p, vVols s, vTask L l] = some (.int .i64 (permG p L [s] s (again l) : Int)) := by
  have hfa := again_in h1 hf
  have hla := again_len l
  have g := ref_RunOf (k := k) hN hp hs hfa (by omega)
  have hlr : (runG p s (again l)).ss.length ≤ (again l).length := run_le p (again l) s
  have r1 : room [[PV.int .i64 s.u, .int .i64 s.l]] ((runG p s (again l)).ss.map cV) 16 = true := room_states _ _ _ (by rw [List.length_map]; omega) (by decide)
  have e : [[PV.int .i64 s.u, .int .i64 s.l]] ++ (runG p s (again l)).ss.map cV = ([s] ++ (runG p s (again l)).ss).map cV := rfl
  rw [E_ref01_PermittedFor]
  have m := ref_perm_build (N := N) (k := k + 14) h1 hl2 (p.u.map cK) (p.l.map cK) p.r s.u s.l L.u.lo L.u.hi L.u.fall L.u.rise L.u.win L.l.lo L.l.hi L.l.fall L.l.rise L.l.win 200 N 0 (by omega) (by omega)
  refine Eq.trans m ?_
  obtain ⟨n', hn'⟩ : ∃ n', N - 200 = n' + 1 := ⟨N - 200 - 1, by omega⟩
  rw [hn', L_ref01_PermittedFor_3_eq]
  simp only [show ¬ ((200 : Int) < 200) by decide, decide_false, cond_f, g, obind, asT_tup, asA_agg, nth_zero, nth_one, nth_two, asI_int, asL_sl, matchL, r1, cond_t, e]
  have q := ref_perm_loop (k := k + 1) hN hp hu hl s.u s.l (l.map cF) (runG p s (again l)).y.e (runG p s (again l)).y.s (again l) N [s] s ((runG p s (again l)).ss.map cV) hfa (fun t ht => by rw [List.mem_singleton.1 ht]; exact hs) hs (by simp) (by rw [hla]; simp) (by omega) (by simp)
  refine q.trans ?_
  simp

end
end Go.PewTab

namespace Go.PewTab
set_option linter.unusedSimpArgs false
set_option linter.unusedVariables false
open Go.Pew Go.Num
set_option maxRecDepth 100000

section
variable {N k : Nat}

theorem lake_CheckLimits (hN : 1000000 ≤ N) (p : Pair) (L : Lims) : ev (envF N) (k + 7) F_lake_CheckLimits [vPair p, vLims L] = some (.int .i64 (if pErr p = 0 then limsErr p L else pErr p)) := by
  rw [E_lake_CheckLimits, lake_openPair (k := k) hN]
  simp only [obind, asT_tup, asA_agg, nth_zero, nth_one, nth_two, asI_int, asL_sl, cond_dec]
  by_cases h : pErr p = 0
  · have g := lake_limitsErr (k := k + 2) hN (pOk_of h) L
    rw [if_pos h, if_pos h, g]
    simp only [obind, asI_int]
  · rw [if_neg h, if_neg h]

theorem repeat_spec (f : Flow) : ev (envF N) (k + 1) F_slices_Repeat_LakeFlows [.sl none [.int .i64, .int .i64, .int .i64] [cF f], .int .i64 200] = some (.sl none [.int .i64, .int .i64, .int .i64] (List.replicate 200 (cF f))) := by kernel_rfl

theorem last_drop {l : List Flow} (h1 : 1 ≤ l.length) : List.drop (l.length - 1) (List.take l.length (l.map cF)) = [cF (lastF l)] := by
  rw [List.take_of_length_le (by rw [List.length_map]; exact Nat.le_refl _), ← List.map_drop, flo_drop l (l.length - 1) (by omega), List.drop_eq_nil_of_le (by omega)]
  rfl

theorem consume2 {p : Pair} {L : Lims} (R : Int → List (List PV) → Option PV)
    (h0 : ∀ t b rest, R t ([.bool b, .nilp] :: rest) = cond (!b) (some (.tup [.int .i64 t, .int .i64 0])) (R (w64 (t + 1)) rest))
    (h1 : ∀ t b rest x y z, R t ([.bool b, .rp [.int .i64 x, .int .i64 y, .int .i64 z] 0] :: rest) = cond (!b) (some (.tup [.int .i64 t, .int .i64 0])) (some (.tup [.int .i64 t, .int .i64 0])))
    (h2 : ∀ t, R t [] = some (.tup [.int .i64 t, .int .i64 0])) : ∀ (fs : List Flow) (hist : List Vols) (s : Vols) (t : Nat), t + fs.length ≤ 1000 → R (t : Int) (trG p L hist s fs) = some (.tup [.int .i64 ((t + permG p L hist s fs : Nat) : Int), .int .i64 0])
  | [], hist, s, t, h => h2 t
  | f :: fs, hist, s, t, h => by
    simp only [List.length_cons] at h
    unfold trG permG
    cases hst : step p s f with
    | none => exact h0 t false []
    | some r =>
      obtain ⟨s', z⟩ := r
      simp only
      cases ha : atG p L (hist ++ [s']) with
      | none =>
        have e : w64 ((t : Int) + 1) = ((t + 1 : Nat) : Int) := by rw [w64_id] <;> omega
        simp only [foundPV]
        rw [h0]
        simp only [Bool.not_true, cond_f, e]
        rw [consume2 R h0 h1 h2 fs (hist ++ [s']) s' (t + 1) (by omega)]
        rw [show t + 1 + permG p L (hist ++ [s']) s' fs = t + (permG p L (hist ++ [s']) s' fs + 1) by omega]
      | some q =>
        obtain ⟨i, j⟩ := q
        simp only [foundPV]
        rw [h1]
        simp only [Bool.not_true, cond_f]
        rfl

def permR (p : Pair) (s : Vols) (L : Lims) (l : List Flow) : PV :=
  if openErr p s L l = 0 then if 0 < l.length then .tup [.int .i64 (permG p L [s] s (again l) : Int), .int .i64 0] else .tup [.int .i64 0, .int .i64 10] else .tup [.int .i64 0, .int .i64 (openErr p s L l)]

theorem lake_PermittedFor (hN0 : 1000000 ≤ N) (p : Pair) (s : Vols) (L : Lims) (l : List Flow) : ev (envF N) (k + 9) F_lake_PermittedFor [vPair p, vVols s, vTask L l] = some (permR p s L l) := by
  have z : ¬ ((10 : Int) = 0) := by decide
  rw [E_lake_PermittedFor, lake_openTask (k := k) hN0]
  simp only [obind, asT_tup, nth_zero, nth_one, nth_two, asA_agg, asI_int, asL_sl, List.length_map, lake_unless, lake_first2 hN0, decide_eq_true_eq, cond_ndec]
  unfold permR
  by_cases h : openErr p s L l = 0
  · rw [if_pos h]
    by_cases h1 : 0 < l.length
    · rw [if_pos (show (0 : Int) < (l.length : Int) by omega), if_pos rfl, if_pos h, if_pos h1]
      have h' := h
      unfold openErr at h'
      by_cases hb : bErr p s = 0
      · rw [if_pos hb] at h'
        obtain ⟨hp, hu, hl⟩ := bErr_zero hb
        obtain ⟨q1, q2⟩ := taskErr_zero h'
        obtain ⟨q3, q4⟩ := limsErr_zero q1
        obtain ⟨q5, q6⟩ := lErr_zero q2
        have w1 : w64 ((l.length : Int) - 1) = ((l.length - 1 : Nat) : Int) := by rw [w64_id] <;> omega
        have c3 : (0 : Int) ≤ ((l.length - 1 : Nat) : Int) := by omega
        have c4 : ((l.length - 1 : Nat) : Int) ≤ (l.length : Int) := by omega
        have er : List.replicate 200 (cF (lastF l)) = (again l).map cF := by
          unfold again
          rw [List.map_replicate]
        have w := watch_spec (k := k) hN0 hp (limIn_of hp.u q3) (limIn_of hp.l q4) ⟨hu, hl⟩ (again_in (by omega) q6) (by rw [again_len]; omega)
        simp only [w1, c3, c4, decide_true, cond_t, Int.toNat_natCast, last_drop (l := l) (by omega), repeat_spec, obind, asL_sl, er, w]
        refine (consume2 (p := p) (L := L) (fun t tr => R_lake_PermittedFor_10 N (k + 8) tr _ _ _ _ _ _ _ _ _ _ _ _ _ _ _ _ _ _ _ _ _ _ _ _ _ _ _ _ _ _ _ _ _ _ _ _ _ _ _ _ _ _ _ _ _ _ _ _ _ _ _ _ _ _ _ _ _ _ _ _ _ _ _ _ _ _ _ _ _ _ _ _ _ _ _ _ _ _ _ _ _ _ _ _ _ _ _ _ _ _ _ _ _ _ _ _ _ _ _ t) (fun t b rest => R_lake_PermittedFor_10_eq0 ..) (fun t b rest x y z => R_lake_PermittedFor_10_eq1 ..) (fun t => R_lake_PermittedFor_10_end ..) (again l) [s] s 0 (by rw [again_len]; omega)).trans ?_
        rw [Nat.zero_add]
      · rw [if_neg hb] at h'; exact absurd h' hb
    · rw [if_neg (show ¬ ((0 : Int) < (l.length : Int)) by omega), if_neg z, if_pos h, if_neg h1]
  · rw [if_neg h, if_neg h, if_neg h]

end
end Go.PewTab

namespace Go.PewTab
set_option linter.unusedSimpArgs false
set_option linter.unusedVariables false
open Go.Pew Go.Num

theorem abv_mono {a b c d : Hgt} {m m' : Int} (hD : a.w - b.w - m ≤ c.w - d.w - m') (hN : b.n * a.d < a.n * b.d → d.n * c.d < c.n * d.d) (h : abv a b m = true) : abv c d m' = true := by
  unfold abv at *
  split at h
  · rw [decide_eq_true_eq] at h
    split
    · rw [decide_eq_true_eq]; exact hN h
    · rw [decide_eq_true_eq]; omega
  · rw [decide_eq_true_eq] at h
    rw [if_neg (by omega), decide_eq_true_eq]; omega

/-- Limits that are wider by a millimetre. -/
def wider (t : Tab) (L : Lim) : Lim := ⟨max (kn t 0).l (L.lo - 1), min (kn t (t.length - 1)).l (L.hi + 1), min 1000000 (L.fall + 1), min 1000000 (L.rise + 1), L.win⟩

theorem wider_ok {t : Tab} (ht : Ok t) {L : Lim} (h : limErr t L = 0) : limErr t (wider t L) = 0 := by
  obtain ⟨h1, h2, h3, h4, h5, h6⟩ := limErr_zero h
  have r1 := h1
  have r2 := h2
  unfold IsL at r1 r2
  have h2' := ht.two
  have lt := (ht.lt (i := 0) (j := t.length - 1) (by omega) (by omega)).1
  unfold limErr
  rw [if_pos (show IsL t (wider t L).lo ∧ IsL t (wider t L).hi ∧ (0 ≤ (wider t L).fall ∧ (wider t L).fall ≤ 1000000) ∧ (0 ≤ (wider t L).rise ∧ (wider t L).rise ≤ 1000000) ∧ (1 ≤ (wider t L).win ∧ (wider t L).win ≤ 200) from by
    unfold IsL wider
    simp only
    omega)]
  exact if_pos (by unfold wider; simp only; omega)

theorem kind_none {L : Lim} {a b : Hgt} : kindOf L a b = none ↔ abv (wh L.lo) a 0 = false ∧ abv a (wh L.hi) 0 = false ∧ abv b a L.fall = false ∧ abv a b L.rise = false := by
  unfold kindOf
  cases abv (wh L.lo) a 0 <;> cases abv a (wh L.hi) 0 <;> cases abv b a L.fall <;> cases abv a b L.rise <;> simp

theorem kind_wider {t : Tab} {L : Lim} (hL : limErr t L = 0) {a b : Hgt} (h : kindOf L a b = none) : kindOf (wider t L) a b = none := by
  obtain ⟨h1, h2, h3, h4, h5, h6⟩ := limErr_zero hL
  unfold IsL at h1 h2
  obtain ⟨q1, q2, q3, q4⟩ := kind_none.1 h
  refine kind_none.2 ⟨?_, ?_, ?_, ?_⟩
  · cases e : abv (wh (wider t L).lo) a 0 with
    | false => rfl
    | true =>
      rw [abv_mono (a := wh (wider t L).lo) (b := a) (m := 0) (c := wh L.lo) (d := a) (m' := 0) (by unfold wider wh; simp only; omega) (fun h => h) e] at q1
      cases q1
  · cases e : abv a (wh (wider t L).hi) 0 with
    | false => rfl
    | true =>
      rw [abv_mono (a := a) (b := wh (wider t L).hi) (m := 0) (c := a) (d := wh L.hi) (m' := 0) (by unfold wider wh; simp only; omega) (fun h => h) e] at q2
      cases q2
  · cases e : abv b a (wider t L).fall with
    | false => rfl
    | true =>
      rw [abv_mono (c := b) (d := a) (m' := L.fall) (by unfold wider; simp only; omega) (fun h => h) e] at q3
      cases q3
  · cases e : abv a b (wider t L).rise with
    | false => rfl
    | true =>
      rw [abv_mono (c := a) (d := b) (m' := L.rise) (by unfold wider; simp only; omega) (fun h => h) e] at q4
      cases q4

theorem at_none {p : Pair} {L : Lims} {hist : List Vols} : atG p L hist = none ↔ kindOf L.u (lvl p.u (now hist).u) (lvl p.u (bef hist L.u.win).u) = none ∧ kindOf L.l (lvl p.l (now hist).l) (lvl p.l (bef hist L.l.win).l) = none := by
  unfold atG
  cases kindOf L.u (lvl p.u (now hist).u) (lvl p.u (bef hist L.u.win).u) <;> cases kindOf L.l (lvl p.l (now hist).l) (lvl p.l (bef hist L.l.win).l) <;> simp

def widerL (p : Pair) (L : Lims) : Lims := ⟨wider p.u L.u, wider p.l L.l⟩

theorem at_wider {p : Pair} {L : Lims} (hL : limsErr p L = 0) {hist : List Vols} (h : atG p L hist = none) : atG p (widerL p L) hist = none := by
  obtain ⟨h1, h2⟩ := limsErr_zero hL
  obtain ⟨q1, q2⟩ := at_none.1 h
  exact at_none.2 ⟨kind_wider h1 q1, kind_wider h2 q2⟩

theorem kind_le {L : Lim} {a b : Hgt} {k : Nat} (h : kindOf L a b = some k) : k ≤ 3 := by
  unfold kindOf at h
  split at h
  · cases h; omega
  · split at h
    · cases h; omega
    · split at h
      · cases h; omega
      · split at h
        · cases h; omega
        · cases h
theorem at_range {p : Pair} {L : Lims} {hist : List Vols} {a k : Nat} (h : atG p L hist = some (a, k)) : a ≤ 1 ∧ k ≤ 3 := by
  unfold atG at h
  split at h
  · rename_i j hj
    cases h
    exact ⟨by omega, kind_le hj⟩
  · split at h
    · rename_i j hj
      cases h
      exact ⟨by omega, kind_le hj⟩
    · cases h

section
variable {p : Pair} {L : Lims} {hist : List Vols} {s s' : Vols} {x : Loss} {f : Flow} {fs : List Flow}

theorem viol_no (h : step p s f = none) : viol p L hist s (f :: fs) = (⟨0, 0, 0⟩, 22) := by
  unfold viol
  rw [h]
theorem viol_hit {a k : Nat} (h : step p s f = some (s', x)) (ha : atG p L (hist ++ [s']) = some (a, k)) : viol p L hist s (f :: fs) = (⟨hist.length, a, k⟩, 0) := by
  unfold viol
  rw [h]
  simp only [ha]
theorem viol_go (h : step p s f = some (s', x)) (ha : atG p L (hist ++ [s']) = none) : viol p L hist s (f :: fs) = viol p L (hist ++ [s']) s' fs := by
  conv => lhs; unfold viol
  rw [h]
  simp only [ha]
theorem perm_no (h : step p s f = none) : permG p L hist s (f :: fs) = 0 := by
  unfold permG
  rw [h]
theorem perm_hit {q : Nat × Nat} (h : step p s f = some (s', x)) (ha : atG p L (hist ++ [s']) = some q) : permG p L hist s (f :: fs) = 0 := by
  unfold permG
  rw [h]
  simp only [ha]
theorem perm_go (h : step p s f = some (s', x)) (ha : atG p L (hist ++ [s']) = none) : permG p L hist s (f :: fs) = permG p L (hist ++ [s']) s' fs + 1 := by
  conv => lhs; unfold permG
  rw [h]
  simp only [ha]
end

theorem viol_shape (p : Pair) (L : Lims) : ∀ (fs : List Flow) (hist : List Vols) (s : Vols), viol p L hist s fs = (⟨0, 0, 0⟩, 12) ∨ viol p L hist s fs = (⟨0, 0, 0⟩, 22) ∨
    ∃ j a k, j < fs.length ∧ a ≤ 1 ∧ k ≤ 3 ∧ viol p L hist s fs = (⟨((hist.length + j : Nat) : Int), (a : Nat), (k : Nat)⟩, 0) ∧ viol p L hist s (fs.take j) = (⟨0, 0, 0⟩, 12) ∧ viol p L hist s (fs.take (j + 1)) = viol p L hist s fs
  | [], hist, s => .inl rfl
  | f :: fs, hist, s => by
    cases hst : step p s f with
    | none => exact .inr (.inl (viol_no hst))
    | some r =>
      obtain ⟨s', x⟩ := r
      cases ha : atG p L (hist ++ [s']) with
      | some q =>
        obtain ⟨a, k⟩ := q
        obtain ⟨r1, r2⟩ := at_range ha
        refine .inr (.inr ⟨0, a, k, by simp, r1, r2, viol_hit hst ha, rfl, ?_⟩)
        rw [viol_hit hst ha]
        exact viol_hit hst ha
      | none =>
        rcases viol_shape p L fs (hist ++ [s']) s' with h | h | ⟨j, a, k, h1, h2, h3, h4, h5, h6⟩
        · exact .inl ((viol_go hst ha).trans h)
        · exact .inr (.inl ((viol_go hst ha).trans h))
        · refine .inr (.inr ⟨j + 1, a, k, by simp; omega, h2, h3, ?_, ?_, ?_⟩)
          · rw [viol_go hst ha, h4]
            simp only [List.length_append, List.length_cons, List.length_nil]
            rw [show hist.length + (0 + 1) + j = hist.length + (j + 1) by omega]
          · rw [List.take_succ_cons, viol_go hst ha]
            exact h5
          · rw [List.take_succ_cons, viol_go hst ha, viol_go hst ha]
            exact h6

theorem viol_wider {p : Pair} {L W : Lims} (hW : ∀ h, atG p L h = none → atG p W h = none) : ∀ (fs : List Flow) (hist : List Vols) (s : Vols), (viol p W hist s fs).2 = 0 → (viol p L hist s fs).2 = 0 → (viol p L hist s fs).1.t ≤ (viol p W hist s fs).1.t
  | [], hist, s, h1, h2 => by cases h1
  | f :: fs, hist, s, h1, h2 => by
    cases hst : step p s f with
    | none => rw [viol_no hst] at h1; cases h1
    | some r =>
      obtain ⟨s', x⟩ := r
      cases ha : atG p L (hist ++ [s']) with
      | some q =>
        obtain ⟨a, k⟩ := q
        rw [viol_hit hst ha]
        rcases viol_shape p W (f :: fs) hist s with h | h | ⟨j, a', k', _, _, _, h4, _⟩
        · rw [h] at h1; cases h1
        · rw [h] at h1; cases h1
        · rw [h4]
          simp only
          omega
      | none =>
        rw [viol_go hst (hW _ ha)] at h1 ⊢
        rw [viol_go hst ha] at h2 ⊢
        exact viol_wider hW fs (hist ++ [s']) s' h1 h2

theorem perm_ok (p : Pair) (L : Lims) : ∀ (fs : List Flow) (hist : List Vols) (s : Vols), viol p L hist s (fs.take (permG p L hist s fs)) = (⟨0, 0, 0⟩, 12) ∧
    (permG p L hist s fs < fs.length → (viol p L hist s (fs.take (permG p L hist s fs + 1))).2 = 0 ∨ (viol p L hist s (fs.take (permG p L hist s fs + 1))).2 = 22)
  | [], hist, s => ⟨rfl, fun h => by simp at h⟩
  | f :: fs, hist, s => by
    cases hst : step p s f with
    | none =>
      rw [perm_no hst]
      exact ⟨rfl, fun _ => .inr (by rw [List.take_succ_cons, viol_no hst])⟩
    | some r =>
      obtain ⟨s', x⟩ := r
      cases ha : atG p L (hist ++ [s']) with
      | some q =>
        obtain ⟨a, k⟩ := q
        rw [perm_hit hst ha]
        exact ⟨rfl, fun _ => .inl (by rw [List.take_succ_cons, viol_hit hst ha])⟩
      | none =>
        obtain ⟨h1, h2⟩ := perm_ok p L fs (hist ++ [s']) s'
        rw [perm_go hst ha]
        refine ⟨?_, fun h => ?_⟩
        · rw [List.take_succ_cons, viol_go hst ha]
          exact h1
        · rw [List.take_succ_cons, viol_go hst ha]
          exact h2 (by simp only [List.length_cons] at h; omega)

section
variable {N k : Nat}

theorem law_wider {t : Tab} (ht : Ok t) {L : Lim} (h : limErr t L = 0) : ev (envF N) (k + 2) F_law01_wider [vTab t, vLim L] = some (vLim (wider t L)) := by
  obtain ⟨h1, h2, h3, h4, h5, h6⟩ := limErr_zero h
  have r1 := level_range ht h1
  have r2 := level_range ht h2
  have h2' := ht.two
  have h10 := ht.ten
  have w1 : w64 (L.lo - 1) = L.lo - 1 := by rw [w64_id] <;> omega
  have w2 : w64 (L.hi + 1) = L.hi + 1 := by rw [w64_id] <;> omega
  have w3 : w64 (L.fall + 1) = L.fall + 1 := by rw [w64_id] <;> omega
  have w4 : w64 (L.rise + 1) = L.rise + 1 := by rw [w64_id] <;> omega
  have g1 := ref_Bottom (N := N) (k := k) (t := t) (by omega)
  have g2 := ref_Top (N := N) (k := k) (t := t) (by omega) (by omega)
  rw [E_law01_wider, g1, g2]
  simp only [obind, asA_agg, nth_zero, asI_int, w1, w2, w3, w4, imax_eq, imin_eq]
  rfl

end
end Go.PewTab

namespace Go.PewTab
set_option linter.unusedSimpArgs false
set_option linter.unusedVariables false
open Go.Pew Go
set_option maxRecDepth 100000
set_option linter.unusedVariables false

theorem E_law01_LakeLimits (N k : Nat) (x0 : List (List PV)) (x1 : List (List PV)) (x2 : Int) (x3 : Int) (x4 : Int) (x5 : Int) (x6 : Int) (x7 : Int) (x8 : Int) (x9 : Int) (x10 : Int) (x11 : Int) (x12 : Int) (x13 : Int) (x14 : Int) (x15 : List (List PV)) : ev (envF N) (k + 1) F_law01_LakeLimits [(.agg [(.sl none [.int .i64, .int .i64] x0), (.sl none [.int .i64, .int .i64] x1), (.int .i64 x2)]), (.agg [(.int .i64 x3), (.int .i64 x4)]), (.agg [(.int .i64 x5), (.int .i64 x6), (.int .i64 x7), (.int .i64 x8), (.int .i64 x9), (.int .i64 x10), (.int .i64 x11), (.int .i64 x12), (.int .i64 x13), (.int .i64 x14), (.sl none [.int .i64, .int .i64, .int .i64] x15)])] =
 ((ev (envF N) k F_law01_awake []).bind fun r1 =>
 cond (!(asB r1))
  (some (.bool (false)))
  ((ev (envF N) k F_law01_FewPair [(.agg [(.sl none [.int .i64, .int .i64] x0), (.sl none [.int .i64, .int .i64] x1), (.int .i64 x2)])]).bind fun r3 =>
   cond (!(asB r3))
    (some (.bool (true)))
    ((ev (envF N) k F_law01_short [(.int .i64 ((List.length x15) : Int))]).bind fun r5 =>
     cond (!(asB r5))
      (some (.bool (true)))
      ((ev (envF N) k F_ref01_CopyPair [(.agg [(.sl none [.int .i64, .int .i64] x0), (.sl none [.int .i64, .int .i64] x1), (.int .i64 x2)])]).bind fun r7 =>
       (ev (envF N) k F_ref01_CopyTask [(.agg [(.int .i64 x5), (.int .i64 x6), (.int .i64 x7), (.int .i64 x8), (.int .i64 x9), (.int .i64 x10), (.int .i64 x11), (.int .i64 x12), (.int .i64 x13), (.int .i64 x14), (.sl none [.int .i64, .int .i64, .int .i64] x15)])]).bind fun r8 =>
        (ev (envF N) k F_lake_ViolationOf [(.agg [(.sl none [.int .i64, .int .i64] (asL (nth (asA r7) 0))), (.sl none [.int .i64, .int .i64] (asL (nth (asA r7) 1))), (.int .i64 (asI (nth (asA r7) 2)))]), (.agg [(.int .i64 x3), (.int .i64 x4)]), (.agg [(.int .i64 (asI (nth (asA r8) 0))), (.int .i64 (asI (nth (asA r8) 1))), (.int .i64 (asI (nth (asA r8) 2))), (.int .i64 (asI (nth (asA r8) 3))), (.int .i64 (asI (nth (asA r8) 4))), (.int .i64 (asI (nth (asA r8) 5))), (.int .i64 (asI (nth (asA r8) 6))), (.int .i64 (asI (nth (asA r8) 7))), (.int .i64 (asI (nth (asA r8) 8))), (.int .i64 (asI (nth (asA r8) 9))), (.sl none [.int .i64, .int .i64, .int .i64] (asL (nth (asA r8) (10))))])]).bind fun r9 =>
         (ev (envF N) k F_ref01_PairErr [(.agg [(.sl none [.int .i64, .int .i64] x0), (.sl none [.int .i64, .int .i64] x1), (.int .i64 x2)])]).bind fun r10 =>
          cond (decide ((asI r10) = (0 : Int)))
           ((ev (envF N) k F_ref01_LimitsErr [(.agg [(.sl none [.int .i64, .int .i64] x0), (.sl none [.int .i64, .int .i64] x1), (.int .i64 x2)]), (.agg [(.int .i64 x5), (.int .i64 x6), (.int .i64 x7), (.int .i64 x8), (.int .i64 x9), (.int .i64 x10), (.int .i64 x11), (.int .i64 x12), (.int .i64 x13), (.int .i64 x14)])]).bind fun r12 =>
            (ev (envF N) k F_ref01_CopyPair [(.agg [(.sl none [.int .i64, .int .i64] x0), (.sl none [.int .i64, .int .i64] x1), (.int .i64 x2)])]).bind fun r13 =>
             (ev (envF N) k F_lake_CheckLimits [(.agg [(.sl none [.int .i64, .int .i64] (asL (nth (asA r13) 0))), (.sl none [.int .i64, .int .i64] (asL (nth (asA r13) 1))), (.int .i64 (asI (nth (asA r13) 2)))]), (.agg [(.int .i64 x5), (.int .i64 x6), (.int .i64 x7), (.int .i64 x8), (.int .i64 x9), (.int .i64 x10), (.int .i64 x11), (.int .i64 x12), (.int .i64 x13), (.int .i64 x14)])]).bind fun r14 =>
              cond (!(decide ((asI r14) = (asI r12))))
               (some (.bool (false)))
               ((ev (envF N) k F_ref01_BothErr [(.agg [(.sl none [.int .i64, .int .i64] x0), (.sl none [.int .i64, .int .i64] x1), (.int .i64 x2)]), (.agg [(.int .i64 x3), (.int .i64 x4)])]).bind fun r16 =>
                cond (decide ((asI r16) = (0 : Int)))
                 ((ev (envF N) k F_ref01_TaskErr [(.agg [(.sl none [.int .i64, .int .i64] x0), (.sl none [.int .i64, .int .i64] x1), (.int .i64 x2)]), (.agg [(.int .i64 x5), (.int .i64 x6), (.int .i64 x7), (.int .i64 x8), (.int .i64 x9), (.int .i64 x10), (.int .i64 x11), (.int .i64 x12), (.int .i64 x13), (.int .i64 x14), (.sl none [.int .i64, .int .i64, .int .i64] x15)])]).bind fun r18 =>
                  cond (!(decide ((asI r18) = (0 : Int))))
                   (cond (decide ((asI (nth (asT r9) 1)) = (asI r18)))
                    (some (.bool ((decide ((asI (nth (asA (nth (asT r9) 0)) 0)) = (0 : Int))) && ((decide ((asI (nth (asA (nth (asT r9) 0)) 1)) = (0 : Int))) && (decide ((asI (nth (asA (nth (asT r9) 0)) 2)) = (0 : Int)))))))
                    (some (.bool (false))))
                   ((ev (envF N) k F_ref01_ViolationOf [(.agg [(.sl none [.int .i64, .int .i64] x0), (.sl none [.int .i64, .int .i64] x1), (.int .i64 x2)]), (.agg [(.int .i64 x3), (.int .i64 x4)]), (.agg [(.int .i64 x5), (.int .i64 x6), (.int .i64 x7), (.int .i64 x8), (.int .i64 x9), (.int .i64 x10), (.int .i64 x11), (.int .i64 x12), (.int .i64 x13), (.int .i64 x14), (.sl none [.int .i64, .int .i64, .int .i64] x15)])]).bind fun r20 =>
                    cond (decide ((asI (nth (asT r9) 1)) = (asI (nth (asT r20) 1))))
                     (some (.bool ((decide ((asI (nth (asA (nth (asT r9) 0)) 0)) = (asI (nth (asA (nth (asT r20) 0)) 0)))) && ((decide ((asI (nth (asA (nth (asT r9) 0)) 1)) = (asI (nth (asA (nth (asT r20) 0)) 1)))) && (decide ((asI (nth (asA (nth (asT r9) 0)) 2)) = (asI (nth (asA (nth (asT r20) 0)) 2))))))))
                     (some (.bool (false)))))
                 (cond (!(decide ((asI r16) = (0 : Int))))
                  (cond (decide ((asI (nth (asT r9) 1)) = (asI r16)))
                   (some (.bool ((decide ((asI (nth (asA (nth (asT r9) 0)) 0)) = (0 : Int))) && ((decide ((asI (nth (asA (nth (asT r9) 0)) 1)) = (0 : Int))) && (decide ((asI (nth (asA (nth (asT r9) 0)) 2)) = (0 : Int)))))))
                   (some (.bool (false))))
                  ((ev (envF N) k F_ref01_ViolationOf [(.agg [(.sl none [.int .i64, .int .i64] x0), (.sl none [.int .i64, .int .i64] x1), (.int .i64 x2)]), (.agg [(.int .i64 x3), (.int .i64 x4)]), (.agg [(.int .i64 x5), (.int .i64 x6), (.int .i64 x7), (.int .i64 x8), (.int .i64 x9), (.int .i64 x10), (.int .i64 x11), (.int .i64 x12), (.int .i64 x13), (.int .i64 x14), (.sl none [.int .i64, .int .i64, .int .i64] x15)])]).bind fun r19 =>
                   cond (decide ((asI (nth (asT r9) 1)) = (asI (nth (asT r19) 1))))
                    (some (.bool ((decide ((asI (nth (asA (nth (asT r9) 0)) 0)) = (asI (nth (asA (nth (asT r19) 0)) 0)))) && ((decide ((asI (nth (asA (nth (asT r9) 0)) 1)) = (asI (nth (asA (nth (asT r19) 0)) 1)))) && (decide ((asI (nth (asA (nth (asT r9) 0)) 2)) = (asI (nth (asA (nth (asT r19) 0)) 2))))))))
                    (some (.bool (false)))))))
           ((ev (envF N) k F_ref01_CopyPair [(.agg [(.sl none [.int .i64, .int .i64] x0), (.sl none [.int .i64, .int .i64] x1), (.int .i64 x2)])]).bind fun r12 =>
            (ev (envF N) k F_lake_CheckLimits [(.agg [(.sl none [.int .i64, .int .i64] (asL (nth (asA r12) 0))), (.sl none [.int .i64, .int .i64] (asL (nth (asA r12) 1))), (.int .i64 (asI (nth (asA r12) 2)))]), (.agg [(.int .i64 x5), (.int .i64 x6), (.int .i64 x7), (.int .i64 x8), (.int .i64 x9), (.int .i64 x10), (.int .i64 x11), (.int .i64 x12), (.int .i64 x13), (.int .i64 x14)])]).bind fun r13 =>
             cond (!(decide ((asI r13) = (asI r10))))
              (some (.bool (false)))
              ((ev (envF N) k F_ref01_BothErr [(.agg [(.sl none [.int .i64, .int .i64] x0), (.sl none [.int .i64, .int .i64] x1), (.int .i64 x2)]), (.agg [(.int .i64 x3), (.int .i64 x4)])]).bind fun r15 =>
               cond (decide ((asI r15) = (0 : Int)))
                ((ev (envF N) k F_ref01_TaskErr [(.agg [(.sl none [.int .i64, .int .i64] x0), (.sl none [.int .i64, .int .i64] x1), (.int .i64 x2)]), (.agg [(.int .i64 x5), (.int .i64 x6), (.int .i64 x7), (.int .i64 x8), (.int .i64 x9), (.int .i64 x10), (.int .i64 x11), (.int .i64 x12), (.int .i64 x13), (.int .i64 x14), (.sl none [.int .i64, .int .i64, .int .i64] x15)])]).bind fun r17 =>
                 cond (!(decide ((asI r17) = (0 : Int))))
                  (cond (decide ((asI (nth (asT r9) 1)) = (asI r17)))
                   (some (.bool ((decide ((asI (nth (asA (nth (asT r9) 0)) 0)) = (0 : Int))) && ((decide ((asI (nth (asA (nth (asT r9) 0)) 1)) = (0 : Int))) && (decide ((asI (nth (asA (nth (asT r9) 0)) 2)) = (0 : Int)))))))
                   (some (.bool (false))))
                  ((ev (envF N) k F_ref01_ViolationOf [(.agg [(.sl none [.int .i64, .int .i64] x0), (.sl none [.int .i64, .int .i64] x1), (.int .i64 x2)]), (.agg [(.int .i64 x3), (.int .i64 x4)]), (.agg [(.int .i64 x5), (.int .i64 x6), (.int .i64 x7), (.int .i64 x8), (.int .i64 x9), (.int .i64 x10), (.int .i64 x11), (.int .i64 x12), (.int .i64 x13), (.int .i64 x14), (.sl none [.int .i64, .int .i64, .int .i64] x15)])]).bind fun r19 =>
                   cond (decide ((asI (nth (asT r9) 1)) = (asI (nth (asT r19) 1))))
                    (some (.bool ((decide ((asI (nth (asA (nth (asT r9) 0)) 0)) = (asI (nth (asA (nth (asT r19) 0)) 0)))) && ((decide ((asI (nth (asA (nth (asT r9) 0)) 1)) = (asI (nth (asA (nth (asT r19) 0)) 1)))) && (decide ((asI (nth (asA (nth (asT r9) 0)) 2)) = (asI (nth (asA (nth (asT r19) 0)) 2))))))))
                    (some (.bool (false)))))
                (cond (!(decide ((asI r15) = (0 : Int))))
                 (cond (decide ((asI (nth (asT r9) 1)) = (asI r15)))
                  (some (.bool ((decide ((asI (nth (asA (nth (asT r9) 0)) 0)) = (0 : Int))) && ((decide ((asI (nth (asA (nth (asT r9) 0)) 1)) = (0 : Int))) && (decide ((asI (nth (asA (nth (asT r9) 0)) 2)) = (0 : Int)))))))
                  (some (.bool (false))))
                 ((ev (envF N) k F_ref01_ViolationOf [(.agg [(.sl none [.int .i64, .int .i64] x0), (.sl none [.int .i64, .int .i64] x1), (.int .i64 x2)]), (.agg [(.int .i64 x3), (.int .i64 x4)]), (.agg [(.int .i64 x5), (.int .i64 x6), (.int .i64 x7), (.int .i64 x8), (.int .i64 x9), (.int .i64 x10), (.int .i64 x11), (.int .i64 x12), (.int .i64 x13), (.int .i64 x14), (.sl none [.int .i64, .int .i64, .int .i64] x15)])]).bind fun r18 =>
                  cond (decide ((asI (nth (asT r9) 1)) = (asI (nth (asT r18) 1))))
                   (some (.bool ((decide ((asI (nth (asA (nth (asT r9) 0)) 0)) = (asI (nth (asA (nth (asT r18) 0)) 0)))) && ((decide ((asI (nth (asA (nth (asT r9) 0)) 1)) = (asI (nth (asA (nth (asT r18) 0)) 1)))) && (decide ((asI (nth (asA (nth (asT r9) 0)) 2)) = (asI (nth (asA (nth (asT r18) 0)) 2))))))))
                   (some (.bool (false))))))))))) := by kernel_rfl

end Go.PewTab

namespace Go.PewTab
set_option linter.unusedSimpArgs false
set_option linter.unusedVariables false
open Go.Pew Go.Num

theorem nth_five (a0 a1 a2 a3 a4 v : PV) (l : List PV) : nth (a0 :: a1 :: a2 :: a3 :: a4 :: v :: l) 5 = v := id rfl
theorem nth_six (a0 a1 a2 a3 a4 a5 v : PV) (l : List PV) : nth (a0 :: a1 :: a2 :: a3 :: a4 :: a5 :: v :: l) 6 = v := id rfl
theorem nth_seven (a0 a1 a2 a3 a4 a5 a6 v : PV) (l : List PV) : nth (a0 :: a1 :: a2 :: a3 :: a4 :: a5 :: a6 :: v :: l) 7 = v := id rfl
theorem nth_eight (a0 a1 a2 a3 a4 a5 a6 a7 v : PV) (l : List PV) : nth (a0 :: a1 :: a2 :: a3 :: a4 :: a5 :: a6 :: a7 :: v :: l) 8 = v := id rfl
theorem nth_nine (a0 a1 a2 a3 a4 a5 a6 a7 a8 v : PV) (l : List PV) : nth (a0 :: a1 :: a2 :: a3 :: a4 :: a5 :: a6 :: a7 :: a8 :: v :: l) 9 = v := id rfl
theorem nth_ten (a0 a1 a2 a3 a4 a5 a6 a7 a8 a9 v : PV) (l : List PV) : nth (a0 :: a1 :: a2 :: a3 :: a4 :: a5 :: a6 :: a7 :: a8 :: a9 :: v :: l) 10 = v := id rfl

section
variable {N k : Nat}

theorem ref_CopyTask (L : Lims) (l : List Flow) (h : l.length ≤ 100000) : ev (envF N) (k + 2) F_ref01_CopyTask [vTask L l] = some (vTask L l) := by
  rw [E_ref01_CopyTask, ref_CopyList (N := N) (k := k) l h]
  simp only [obind, asL_sl]

theorem LakeLimits_ev (hN : 1000000 ≤ N) (hA : ev (envF N) (k + 15) F_law01_awake [] = some (.bool true)) (p : Pair) (s : Vols) (L : Lims) (l : List Flow) : ev (envF N) (k + 16) F_law01_LakeLimits [vPair p, vVols s, vTask L l] = some (.bool true) := by
  rw [E_law01_LakeLimits, hA]
  simp only [obind, asB_bool, Bool.not_true, cond_f, law_FewPair (k := k + 13), cond_ndec, List.length_map]
  by_cases hfew : p.u.length ≤ 12 ∧ p.l.length ≤ 12
  · rw [if_pos hfew, law_short]
    simp only [obind, asB_bool, cond_ndec]
    by_cases hsh : l.length ≤ 24 ∨ (200 < l.length ∧ l.length ≤ 202)
    · have g1 := ref_CopyPair (N := N) (k := k + 13) p (by omega) (by omega)
      have g2 := ref_CopyTask (N := N) (k := k + 13) L l (by omega)
      have g3 := lake_ViolationOf (k := k + 6) hN p s L l
      have g4 := ref_PairErr (k := k + 1) hN p
      have g5 := lake_CheckLimits (k := k + 8) hN p L
      have g6 := ref_BothErr (k := k) hN p s
      rw [if_pos hsh, g1]
      simp only [obind, asA_agg, nth_zero, nth_one, nth_two, nth_three, nth_four, nth_five, nth_six, nth_seven, nth_eight, nth_nine, nth_ten, asI_int, asL_sl, g2]
      simp only [g3, g4, g5, g6, obind, asI_int, cond_dec]
      unfold violR openErr
      by_cases hp : pErr p = 0
      · have g7 := ref_LimitsErr (N := N) (k := k + 11) (pOk_of hp) L
        have g8 := ref_TaskErr (k := k + 10) hN (pOk_of hp) L l
        simp only [if_pos hp, g7, g8, obind, asI_int]
        by_cases hb : bErr p s = 0
        · obtain ⟨hpo, hu, hl⟩ := bErr_zero hb
          simp only [if_pos hb]
          by_cases ht : taskErr p L l = 0
          · obtain ⟨q1, q2⟩ := taskErr_zero ht
            obtain ⟨q3, q4⟩ := limsErr_zero q1
            obtain ⟨q5, q6⟩ := lErr_zero q2
            have g9 := ref_ViolationOf (k := k) hN hpo (limIn_of hpo.u q3) (limIn_of hpo.l q4) ⟨hu, hl⟩ q6 q5
            simp only [if_pos ht, g9, obind, asT_tup, asA_agg, nth_zero, nth_one, nth_two, asI_int, if_true, decide_true, Bool.and_self]
          · simp only [if_neg ht, asT_tup, asA_agg, nth_zero, nth_one, nth_two, asI_int, if_true, decide_true, Bool.and_self]
        · simp only [if_neg hb, asT_tup, asA_agg, nth_zero, nth_one, nth_two, asI_int, if_true, decide_true, Bool.and_self]
      · have hb : bErr p s = pErr p := by unfold bErr; rw [if_neg hp]
        simp only [hb, if_neg hp, if_true, asT_tup, asA_agg, nth_zero, nth_one, nth_two, asI_int, decide_true, Bool.and_self]
    · rw [if_neg hsh]
  · rw [if_neg hfew]

end
end Go.PewTab

namespace Go.Pew
set_option linter.unusedSimpArgs false
set_option linter.unusedVariables false

def codeAt (E : Env) (call : Nat → List PV → Option PV) (it : Nat → List PV → Option (List PV) → List PV → Option (List (List PV))) (f : Nat) (fn : Func) (ds : List Dir) (s : St) : Option PV :=
  match fn.body with
  | none => none
  | some c => match atK E call { it := it, emit := fun _ _ _ => none } (E.loops f) (fun _ => none) ds c fun e s => match e with
      | .normal | .ret => giveBack E f fn s
      | _ => none with
    | (c, κ) => codeK E call { it := it, emit := fun _ _ _ => none } false (E.loops f) (fun _ => none) c s κ

end Go.Pew
