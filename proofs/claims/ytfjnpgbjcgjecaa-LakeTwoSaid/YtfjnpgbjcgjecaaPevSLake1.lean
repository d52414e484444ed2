/- TABLES in the program: checked, and levels and volumes in them. -/
import Derived.Test.YtfjnpgbjcgjecaaPevSSmall
namespace Go.PevTab
open Go.Pev Go.Num

section
variable {N k : Nat}

theorem lake_height (a b : Knot) (h : I64 (b.l - a.l)) : ev (envF N) (k + 1) F_lake_piece_height [.agg [.int .i64 a.l, .int .i64 a.v, .int .i64 b.l, .int .i64 b.v]] = some (.int .i64 (b.l - a.l)) := by
  rw [E_lake_piece_height, w64_id h.1 h.2]
theorem lake_volume (a b : Knot) (h : I64 (b.v - a.v)) : ev (envF N) (k + 1) F_lake_piece_volume [.agg [.int .i64 a.l, .int .i64 a.v, .int .i64 b.l, .int .i64 b.v]] = some (.int .i64 (b.v - a.v)) := by
  rw [E_lake_piece_volume, w64_id h.1 h.2]

/-- A knot within its range. -/
def Kr (a : Knot) : Prop := 0 ≤ a.l ∧ a.l ≤ 1000000 ∧ 0 ≤ a.v ∧ a.v ≤ 1000000000

theorem lake_narrower (a b c d : Knot) (ha : Kr a) (hb : Kr b) (hc : Kr c) (hd : Kr d) : ev (envF N) (k + 2) F_lake_piece_narrower [.agg [.int .i64 a.l, .int .i64 a.v, .int .i64 b.l, .int .i64 b.v], .agg [.int .i64 c.l, .int .i64 c.v, .int .i64 d.l, .int .i64 d.v]] =
    some (.bool (decide ((b.v - a.v) * (d.l - c.l) < (d.v - c.v) * (b.l - a.l)))) := by
  obtain ⟨a1, a2, a3, a4⟩ := ha
  obtain ⟨b1, b2, b3, b4⟩ := hb
  obtain ⟨c1, c2, c3, c4⟩ := hc
  obtain ⟨d1, d2, d3, d4⟩ := hd
  have mul : ∀ x y : Int, -1000000000 ≤ x → x ≤ 1000000000 → -1000000 ≤ y → y ≤ 1000000 → I64 (x * y) := by
    intro x y h1 h2 h3 h4
    have h5 : (x * y).natAbs ≤ 1000000000 * 1000000 := by
      rw [Int.natAbs_mul]
      exact Nat.mul_le_mul (by omega) (by omega)
    constructor <;> omega
  have m1 := mul (b.v - a.v) (d.l - c.l) (by omega) (by omega) (by omega) (by omega)
  have m2 := mul (d.v - c.v) (b.l - a.l) (by omega) (by omega) (by omega) (by omega)
  rw [E_lake_piece_narrower, lake_volume a b (by constructor <;> omega), lake_height c d (by constructor <;> omega), lake_volume c d (by constructor <;> omega), lake_height a b (by constructor <;> omega)]
  simp only [obind, asI_int, w64_id m1.1 m1.2, w64_id m2.1 m2.2]

theorem lake_CheckTable_5 (hN : 1000000 ≤ N) (t : Tab) (hl : t.length ≤ 10) : ∀ (d n i : Nat), i + d = t.length → (∀ j, j < i → knotErr t j = 0) → d < n →
    L_lake_CheckTable_5 N (k + 2) n (t.map cK) (t.length : Int) (i : Int) (t.map cK) = some (.tup [.int .i64 (knotsErr t d i).1, .int .i64 (knotsErr t d i).2])
  | 0, n + 1, i, h, hj, hn => by
    rw [L_lake_CheckTable_5_eq, cond_dec, if_neg (by omega)]
    rfl
  | d + 1, n + 1, i, h, hj, hn => by
    have c1 : (i : Int) < (t.length : Int) := by omega
    have c2 : (0 : Int) ≤ (i : Int) := by omega
    have e1 : w64 ((i : Int) + 1) = ((i + 1 : Nat) : Int) := by rw [w64_id] <;> omega
    have next (hz : knotErr t i = 0) : L_lake_CheckTable_5 N (k + 2) n (t.map cK) (t.length : Int) ((i + 1 : Nat) : Int) (t.map cK) = some (.tup [.int .i64 (knotsErr t (d + 1) i).1, .int .i64 (knotsErr t (d + 1) i).2]) := by
      rw [lake_CheckTable_5 hN t hl d n (i + 1) (by omega) (fun j h => by
        by_cases e : j = i
        · rw [e]; exact hz
        · exact hj j (by omega)) (by omega)]
      conv => rhs; rw [knotsErr, if_pos hz]
    have stop (e : Int) (he : knotErr t i = e) (h0 : e ≠ 0) : (some (PV.tup [.int .i64 (i : Int), .int .i64 e])) = some (.tup [.int .i64 (knotsErr t (d + 1) i).1, .int .i64 (knotsErr t (d + 1) i).2]) := by
      rw [knotsErr, if_neg (by rw [he]; exact h0), he]
    rw [L_lake_CheckTable_5_eq]
    simp only [cond_dec, cond_ndec, c1, c2, List.length_map, if_true, Int.toNat_natCast, leaf_cKl, leaf_cKv, lake_within, obind, asB_bool, e1]
    by_cases r1 : 0 ≤ (kn t i).l ∧ (kn t i).l ≤ 1000000
    · rw [if_pos r1]
      by_cases r2 : 0 ≤ (kn t i).v ∧ (kn t i).v ≤ 1000000000
      · rw [if_pos r2]
        by_cases i0 : i = 0
        · subst i0
          rw [if_pos (by omega)]
          exact next (by unfold knotErr; rw [if_neg (by omega), if_pos rfl])
        · have e2 : w64 ((i : Int) - 1) = ((i - 1 : Nat) : Int) := by rw [w64_id] <;> omega
          have c3 : (0 : Int) ≤ ((i - 1 : Nat) : Int) := by omega
          have c4 : ((i - 1 : Nat) : Int) < (t.length : Int) := by omega
          have p1 : Kr (kn t i) := ⟨r1.1, r1.2, r2.1, r2.2⟩
          have p2 : Kr (kn t (i - 1)) := (knotErr_zero (hj (i - 1) (by omega))).1
          have h1 : I64 ((kn t i).l - (kn t (i - 1)).l) := by unfold Kr at p1 p2; constructor <;> omega
          have h2 : I64 ((kn t i).v - (kn t (i - 1)).v) := by unfold Kr at p1 p2; constructor <;> omega
          rw [if_neg (by omega)]
          simp only [e2, c3, c4, if_true, Int.toNat_natCast, leaf_cKl, leaf_cKv, lake_height (kn t (i - 1)) (kn t i) h1, lake_volume (kn t (i - 1)) (kn t i) h2, obind, asI_int]
          by_cases o1 : (kn t i).l - (kn t (i - 1)).l ≤ 0
          · rw [if_pos o1]
            exact stop 9 (by unfold knotErr; rw [if_neg (by omega), if_neg i0, if_pos (by omega)]) (by decide)
          · rw [if_neg o1]
            by_cases o2 : (kn t i).v - (kn t (i - 1)).v ≤ 0
            · rw [if_pos o2]
              exact stop 9 (by unfold knotErr; rw [if_neg (by omega), if_neg i0, if_pos (by omega)]) (by decide)
            · rw [if_neg o2]
              by_cases i1 : 1 < i
              · have e3 : w64 ((i : Int) - 2) = ((i - 2 : Nat) : Int) := by rw [w64_id] <;> omega
                have c5 : (0 : Int) ≤ ((i - 2 : Nat) : Int) := by omega
                have c6 : ((i - 2 : Nat) : Int) < (t.length : Int) := by omega
                have p3 : Kr (kn t (i - 2)) := (knotErr_zero (hj (i - 2) (by omega))).1
                rw [if_pos (by omega)]
                simp only [e3, c5, c6, if_true, Int.toNat_natCast, leaf_cKl, leaf_cKv, lake_narrower (k := k) (kn t (i - 1)) (kn t i) (kn t (i - 2)) (kn t (i - 1)) p2 p1 p3 p2, obind, asB_bool, cond_dec]
                by_cases w : ((kn t i).v - (kn t (i - 1)).v) * ((kn t (i - 1)).l - (kn t (i - 2)).l) < ((kn t (i - 1)).v - (kn t (i - 2)).v) * ((kn t i).l - (kn t (i - 1)).l)
                · rw [if_pos w]
                  exact stop 22 (by unfold knotErr; rw [if_neg (by omega), if_neg i0, if_neg (by omega), if_pos ⟨i1, w⟩]) (by decide)
                · rw [if_neg w]
                  exact next (by unfold knotErr; rw [if_neg (by omega), if_neg i0, if_neg (by omega), if_neg (fun h => w h.2)])
              · rw [if_neg (by omega)]
                exact next (by unfold knotErr; rw [if_neg (by omega), if_neg i0, if_neg (by omega), if_neg (fun h => i1 h.1)])
      · rw [if_neg r2]
        exact stop 2 (by unfold knotErr; rw [if_pos (by omega)]) (by decide)
    · rw [if_neg r1]
      exact stop 2 (by unfold knotErr; rw [if_pos (by omega)]) (by decide)

theorem lake_CheckTable (hN : 1000000 ≤ N) (t : Tab) : ev (envF N) (k + 3) F_lake_CheckTable [vTab t] = some (.tup [.int .i64 (tabErr t).1, .int .i64 (tabErr t).2]) := by
  rw [E_lake_CheckTable, lake_unless, lake_unless]
  simp only [obind, asI_int, List.length_map, lake_first2 hN, decide_eq_true_eq, cond_ndec]
  unfold tabErr
  by_cases h2 : t.length < 2
  · rw [if_neg (show ¬ ((1 : Int) < (t.length : Int)) by omega), if_pos h2]
    simp only [show ¬ ((10 : Int) = 0) by decide, if_false]
  · rw [if_pos (show ((1 : Int) < (t.length : Int)) by omega), if_neg h2, if_pos rfl]
    by_cases h10 : 10 < t.length
    · rw [if_neg (show ¬ ((t.length : Int) ≤ 10) by omega), if_pos h10]
      rfl
    · rw [if_pos (show ((t.length : Int) ≤ 10) by omega), if_neg h10, if_pos rfl]
      exact lake_CheckTable_5 hN t (by omega) t.length N 0 (by omega) (fun j h => by omega) (by omega)

/-- The error of a table alone. -/
def tErr (t : Tab) : Int := (tabErr t).2

theorem lake_tableErr (hN : 1000000 ≤ N) (t : Tab) : ev (envF N) (k + 4) F_lake_tableErr [vTab t] = some (.int .i64 (tErr t)) := by
  rw [E_lake_tableErr, lake_CheckTable hN]
  simp only [obind, asT_tup, nth_one, asI_int, tErr]

theorem lake_bottom {t : Tab} (h : 1 ≤ t.length) : ev (envF N) (k + 1) F_lake_table_bottom [vTab t] = some (.agg [.int .i64 (kn t 0).l, .int .i64 (kn t 0).v]) := by
  rw [E_lake_table_bottom, cond_dec, List.length_map, if_pos (by omega), leaf_cKl, leaf_cKv]
  rfl
theorem lake_top {t : Tab} (h : 1 ≤ t.length) (hl : t.length ≤ 100000) : ev (envF N) (k + 1) F_lake_table_top [vTab t] = some (.agg [.int .i64 (kn t (t.length - 1)).l, .int .i64 (kn t (t.length - 1)).v]) := by
  have e : w64 ((t.length : Int) - 1) = ((t.length - 1 : Nat) : Int) := by rw [w64_id] <;> omega
  rw [E_lake_table_top, cond_dec, cond_dec, List.length_map, e, if_pos (by omega), if_pos (by omega), Int.toNat_natCast, leaf_cKl, leaf_cKv]

instance (t : Tab) (v : Int) : Decidable (IsV t v) := by unfold IsV; infer_instance
instance (t : Tab) (v : Int) : Decidable (IsL t v) := by unfold IsL; infer_instance

theorem lake_holds {t : Tab} (h : Ok t) (v : Int) : ev (envF N) (k + 2) F_lake_table_holds [vTab t, .int .i64 v] = some (.bool (decide (IsV t v))) := by
  have h2 := h.two
  have h10 := h.ten
  rw [E_lake_table_holds, lake_bottom (by omega), lake_top (by omega) (by omega)]
  simp only [obind, asA_agg, nth_one, asI_int, lake_within, asB_bool]
  rfl

theorem lake_openVolume (hN : 1000000 ≤ N) (t : Tab) (v : Int) : ev (envF N) (k + 5) F_lake_openVolume [vTab t, .int .i64 v] =
    some (.tup [if tErr t = 0 then vTab t else vTab [], .int .i64 (if tErr t = 0 then if IsV t v then 0 else 2 else tErr t)]) := by
  rw [E_lake_openVolume, lake_tableErr hN]
  simp only [obind, asI_int, cond_ndec]
  by_cases h : tErr t = 0
  · rw [if_pos h, lake_holds (k := k + 2) (ok_of h)]
    simp only [obind, asB_bool, lake_unless, asI_int, decide_eq_true_eq, h, if_true]
  · rw [if_neg h, if_neg h, if_neg h]
    rfl

theorem byV_index (t : Tab) (v : Int) (h : 1 ≤ t.length) (hl : t.length ≤ 100000) : ∀ (d n i : Nat), i + d = t.length - 1 → d < n → i ≤ ((t.drop 1).findIdx fun k => decide (v ≤ k.v)) →
    L_slices_IndexFunc_LakeKnot_2 N (k + 1) n ((t.drop 1).map cK) v ((t.drop 1).length : Int) (i : Int) = some (.int .i64 (if (t.drop 1).findIdx (fun k => decide (v ≤ k.v)) = t.length - 1 then -1 else (((t.drop 1).findIdx fun k => decide (v ≤ k.v) : Nat) : Int)))
  | 0, n + 1, i, h1, h2, h3 => by
    have hle := List.findIdx_le_length (p := fun k : Knot => decide (v ≤ k.v)) (xs := t.drop 1)
    rw [List.length_drop] at hle
    rw [L_slices_IndexFunc_LakeKnot_2_eq, cond_dec, List.length_drop, if_neg (by omega), if_pos (by omega)]
  | d + 1, n + 1, i, h1, h2, h3 => by
    have hle := List.findIdx_le_length (p := fun k : Knot => decide (v ≤ k.v)) (xs := t.drop 1)
    rw [List.length_drop] at hle
    have hi : i < (t.drop 1).length := by rw [List.length_drop]; omega
    have c1 : (i : Int) < ((t.drop 1).length : Int) := by omega
    have c2 : (0 : Int) ≤ (i : Int) := by omega
    have e1 : w64 ((i : Int) + 1) = ((i + 1 : Nat) : Int) := by rw [w64_id] <;> omega
    have hk : kn (t.drop 1) i = (t.drop 1)[i] := by unfold kn; rw [List.getD_eq_getElem?_getD, List.getElem?_eq_getElem hi, Option.getD_some]
    rw [L_slices_IndexFunc_LakeKnot_2_eq]
    simp only [cond_dec, c1, c2, List.length_map, if_true, Int.toNat_natCast, leaf_cKl, leaf_cKv, E_lake_table_byVolume_c1, obind, asB_bool, e1]
    by_cases hv : v ≤ (kn (t.drop 1) i).v
    · rw [if_pos hv]
      have : (t.drop 1).findIdx (fun k => decide (v ≤ k.v)) = i := by
        rcases Nat.lt_or_ge i ((t.drop 1).findIdx fun k => decide (v ≤ k.v)) with h4 | h4
        · have := List.not_of_lt_findIdx h4
          rw [← hk, decide_eq_true hv] at this
          cases this
        · omega
      rw [this, if_neg (by rw [List.length_drop] at hi; omega)]
    · rw [if_neg hv]
      refine byV_index t v h hl d n (i + 1) (by omega) (by omega) ?_
      rcases Nat.lt_or_ge i ((t.drop 1).findIdx fun k => decide (v ≤ k.v)) with h4 | h4
      · omega
      · have h5 : (t.drop 1).findIdx (fun k => decide (v ≤ k.v)) = i := by omega
        have := List.findIdx_getElem (xs := t.drop 1) (p := fun k => decide (v ≤ k.v)) (w := by omega)
        rw [hk] at hv
        simp only [h5, decide_eq_true_eq] at this
        exact absurd this hv

theorem byL_index (t : Tab) (v : Int) (h : 1 ≤ t.length) (hl : t.length ≤ 100000) : ∀ (d n i : Nat), i + d = t.length - 1 → d < n → i ≤ ((t.drop 1).findIdx fun k => decide (v ≤ k.l)) →
    L_slices_IndexFunc_LakeKnot_v1_2 N (k + 1) n ((t.drop 1).map cK) v ((t.drop 1).length : Int) (i : Int) = some (.int .i64 (if (t.drop 1).findIdx (fun k => decide (v ≤ k.l)) = t.length - 1 then -1 else (((t.drop 1).findIdx fun k => decide (v ≤ k.l) : Nat) : Int)))
  | 0, n + 1, i, h1, h2, h3 => by
    have hle := List.findIdx_le_length (p := fun k : Knot => decide (v ≤ k.l)) (xs := t.drop 1)
    rw [List.length_drop] at hle
    rw [L_slices_IndexFunc_LakeKnot_v1_2_eq, cond_dec, List.length_drop, if_neg (by omega), if_pos (by omega)]
  | d + 1, n + 1, i, h1, h2, h3 => by
    have hle := List.findIdx_le_length (p := fun k : Knot => decide (v ≤ k.l)) (xs := t.drop 1)
    rw [List.length_drop] at hle
    have hi : i < (t.drop 1).length := by rw [List.length_drop]; omega
    have c1 : (i : Int) < ((t.drop 1).length : Int) := by omega
    have c2 : (0 : Int) ≤ (i : Int) := by omega
    have e1 : w64 ((i : Int) + 1) = ((i + 1 : Nat) : Int) := by rw [w64_id] <;> omega
    have hk : kn (t.drop 1) i = (t.drop 1)[i] := by unfold kn; rw [List.getD_eq_getElem?_getD, List.getElem?_eq_getElem hi, Option.getD_some]
    rw [L_slices_IndexFunc_LakeKnot_v1_2_eq]
    simp only [cond_dec, c1, c2, List.length_map, if_true, Int.toNat_natCast, leaf_cKl, leaf_cKv, E_lake_table_volumeAt_c1, obind, asB_bool, e1]
    by_cases hv : v ≤ (kn (t.drop 1) i).l
    · rw [if_pos hv]
      have : (t.drop 1).findIdx (fun k => decide (v ≤ k.l)) = i := by
        rcases Nat.lt_or_ge i ((t.drop 1).findIdx fun k => decide (v ≤ k.l)) with h4 | h4
        · have := List.not_of_lt_findIdx h4
          rw [← hk, decide_eq_true hv] at this
          cases this
        · omega
      rw [this, if_neg (by rw [List.length_drop] at hi; omega)]
    · rw [if_neg hv]
      refine byL_index t v h hl d n (i + 1) (by omega) (by omega) ?_
      rcases Nat.lt_or_ge i ((t.drop 1).findIdx fun k => decide (v ≤ k.l)) with h4 | h4
      · omega
      · have h5 : (t.drop 1).findIdx (fun k => decide (v ≤ k.l)) = i := by omega
        have := List.findIdx_getElem (xs := t.drop 1) (p := fun k => decide (v ≤ k.l)) (w := by omega)
        rw [hk] at hv
        simp only [h5, decide_eq_true_eq] at this
        exact absurd this hv

/-- A piece's value. -/
abbrev vPiece (a b : Knot) : PV := .agg [.int .i64 a.l, .int .i64 a.v, .int .i64 b.l, .int .i64 b.v]

theorem drop_take_map (t : Tab) : List.drop (Int.toNat 1) (List.take (List.length (t.map cK)) (t.map cK)) = (t.drop 1).map cK := by
  rw [List.take_length, List.map_drop]
  rfl

theorem lake_pieceTo_v (hN : 1000000 ≤ N) {t : Tab} (h : Ok t) {v : Int} (hv : IsV t v) : ev (envF N) (k + 3) F_lake_table_pieceTo [vTab t, .fn F_lake_table_byVolume_c1 [.rp [.int .i64 v] 0]] = some (vPiece (kn t (byV t v - 1)) (kn t (byV t v))) := by
  obtain ⟨h1, h2, h3, h4⟩ := h.pieceV hv
  have hten := h.ten
  have e0 : byV t v = 1 + (t.drop 1).findIdx (fun k => decide (v ≤ k.v)) := rfl
  obtain ⟨i, hi⟩ : ∃ i, (t.drop 1).findIdx (fun k => decide (v ≤ k.v)) = i := ⟨_, rfl⟩
  rw [hi] at e0
  have hix := byV_index (N := N) (k := k) t v (by omega) (by omega) (t.length - 1) N 0 (by omega) (by omega) (by omega)
  rw [hi, if_neg (by omega)] at hix
  have e1 : w64 (1 + (i : Int)) = ((byV t v : Nat) : Int) := by rw [w64_id] <;> omega
  have e2 : w64 (((byV t v : Nat) : Int) - 1) = ((byV t v - 1 : Nat) : Int) := by rw [w64_id] <;> omega
  have c0 : (1 : Int) ≤ (t.length : Int) := by omega
  have c1 : (0 : Int) ≤ ((byV t v : Nat) : Int) := by omega
  have c2 : ((byV t v : Nat) : Int) < (t.length : Int) := by omega
  have c3 : (0 : Int) ≤ ((byV t v - 1 : Nat) : Int) := by omega
  have c4 : ((byV t v - 1 : Nat) : Int) < (t.length : Int) := by omega
  rw [E_lake_table_pieceTo, drop_take_map, E_slices_IndexFunc_LakeKnot, List.length_map, List.length_map]
  simp only [cond_dec, c0, if_true]
  rw [show ((0 : Int)) = ((0 : Nat) : Int) from rfl, hix]
  simp only [obind, asI_int, e1, e2]
  simp only [show ((0 : Nat) : Int) = 0 from rfl, c1, c2, c3, c4, if_true, Int.toNat_natCast, leaf_cKl, leaf_cKv]

theorem lake_pieceTo_l (hN : 1000000 ≤ N) {t : Tab} (h : Ok t) {v : Int} (hv : IsL t v) : ev (envF N) (k + 3) F_lake_table_pieceTo [vTab t, .fn F_lake_table_volumeAt_c1 [.rp [.int .i64 v] 0]] = some (vPiece (kn t (byL t v - 1)) (kn t (byL t v))) := by
  obtain ⟨h1, h2, h3, h4⟩ := h.pieceL hv
  have hten := h.ten
  have e0 : byL t v = 1 + (t.drop 1).findIdx (fun k => decide (v ≤ k.l)) := rfl
  obtain ⟨i, hi⟩ : ∃ i, (t.drop 1).findIdx (fun k => decide (v ≤ k.l)) = i := ⟨_, rfl⟩
  rw [hi] at e0
  have hix := byL_index (N := N) (k := k) t v (by omega) (by omega) (t.length - 1) N 0 (by omega) (by omega) (by omega)
  rw [hi, if_neg (by omega)] at hix
  have e1 : w64 (1 + (i : Int)) = ((byL t v : Nat) : Int) := by rw [w64_id] <;> omega
  have e2 : w64 (((byL t v : Nat) : Int) - 1) = ((byL t v - 1 : Nat) : Int) := by rw [w64_id] <;> omega
  have c0 : (1 : Int) ≤ (t.length : Int) := by omega
  have c1 : (0 : Int) ≤ ((byL t v : Nat) : Int) := by omega
  have c2 : ((byL t v : Nat) : Int) < (t.length : Int) := by omega
  have c3 : (0 : Int) ≤ ((byL t v - 1 : Nat) : Int) := by omega
  have c4 : ((byL t v - 1 : Nat) : Int) < (t.length : Int) := by omega
  rw [E_lake_table_pieceTo_v1, drop_take_map, E_slices_IndexFunc_LakeKnot_v1, List.length_map, List.length_map]
  simp only [cond_dec, c0, if_true]
  rw [show ((0 : Int)) = ((0 : Nat) : Int) from rfl, hix]
  simp only [obind, asI_int, e1, e2]
  simp only [show ((0 : Nat) : Int) = 0 from rfl, c1, c2, c3, c4, if_true, Int.toNat_natCast, leaf_cKl, leaf_cKv]

theorem lake_byVolume (hN : 1000000 ≤ N) {t : Tab} (h : Ok t) {v : Int} (hv : IsV t v) : ev (envF N) (k + 4) F_lake_table_byVolume [vTab t, .int .i64 v] = some (vPiece (kn t (byV t v - 1)) (kn t (byV t v))) := by
  rw [E_lake_table_byVolume, lake_pieceTo_v hN h hv]
  simp only [obind, asA_agg, nth_zero, nth_one, nth_two, nth_three, asI_int]

end
end Go.PevTab
