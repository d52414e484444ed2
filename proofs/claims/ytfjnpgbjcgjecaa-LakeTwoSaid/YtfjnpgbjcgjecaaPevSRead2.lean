/- READINGS OF GAUGES: what they have in common, and which contradict each other. -/
import Derived.Test.YtfjnpgbjcgjecaaPevSRead
namespace Go.PevTab
open Go.Pev Go.Num

def inter (a b : Rg) : Rg := ⟨max a.lo b.lo, min a.hi b.hi⟩
def meet (a : Rg) (l : List Rg) : Rg := l.foldl inter a
/-- What the ranges of readings have in common. -/
def agr (t : Tab) (net : List Int) : List Reading → Rg
  | [] => ⟨0, 0⟩
  | r :: l => meet (perm t net r) (l.map (perm t net))

def find1 (rs : List Rg) : Nat → Nat → Option Nat
  | 0, _ => none
  | d + 1, i => if (rgs rs i).hi < (rgs rs i).lo then some i else find1 rs d (i + 1)
def find2 (rs : List Rg) (i : Nat) : Nat → Nat → Option Nat
  | 0, _ => none
  | d + 1, j => if (inter (rgs rs i) (rgs rs j)).hi < (inter (rgs rs i) (rgs rs j)).lo then some j else find2 rs i d (j + 1)
def find3 (rs : List Rg) : Nat → Nat → Option (Nat × Nat)
  | 0, _ => none
  | d + 1, i => match find2 rs i (rs.length - (i + 1)) (i + 1) with
    | some j => some (i, j)
    | none => find3 rs d (i + 1)
/-- The minimum set of readings that contradict each other. -/
def contra (rs : List Rg) : List Int := match find1 rs rs.length 0 with
  | some i => [(i : Int)]
  | none => match find3 rs rs.length 0 with
    | some (i, j) => [(i : Int), (j : Int)]
    | none => []

theorem rgs_map (t : Tab) (net : List Int) (l : List Reading) (i : Nat) (h : i < l.length) : rgs (l.map (perm t net)) i = perm t net (rdg l i) := by
  unfold rgs rdg
  rw [List.getD_eq_getElem?_getD, List.getD_eq_getElem?_getD, List.getElem?_map, List.getElem?_eq_getElem h]
  rfl
theorem rgs_drop (l : List Rg) (i : Nat) (h : i < l.length) : l.drop i = rgs l i :: l.drop (i + 1) := by
  rw [List.drop_eq_getElem_cons h]
  congr 1
  unfold rgs
  rw [List.getD_eq_getElem?_getD, List.getElem?_eq_getElem h, Option.getD_some]

section
variable {N k : Nat}

theorem lake_common_loop (l : List Rg) (hl : l.length ≤ 1000) (x3 x4 : Int) : ∀ (d n i : Nat) (a : Rg), i + d = l.length → d < n →
    L_lake_common_3 N k n (l.map cG) (l.length : Int) (i : Int) x3 x4 a.lo a.hi = some (.tup [vG (meet a (l.drop i)), .bool (decide ((meet a (l.drop i)).lo ≤ (meet a (l.drop i)).hi))])
  | 0, n + 1, i, a, h, hn => by
    rw [L_lake_common_3_eq, cond_dec, if_neg (by omega), List.drop_eq_nil_of_le (by omega)]
    rfl
  | d + 1, n + 1, i, a, h, hn => by
    have c1 : (i : Int) < (l.length : Int) := by omega
    have c2 : (0 : Int) ≤ (i : Int) := by omega
    have e1 : w64 ((i : Int) + 1) = ((i + 1 : Nat) : Int) := by rw [w64_id] <;> omega
    rw [L_lake_common_3_eq, rgs_drop l i (by omega)]
    simp only [cond_dec, c1, c2, List.length_map, if_true, Int.toNat_natCast, leaf_cG0, leaf_cG1, e1, imax_eq, imin_eq]
    exact lake_common_loop l hl x3 x4 d n (i + 1) (inter a (rgs l i)) (by omega) (by omega)

theorem lake_common (hN : 1000000 ≤ N) (a : Rg) (l : List Rg) (hl : l.length ≤ 1000) : ev (envF N) (k + 1) F_lake_common [vRgs (a :: l)] = some (.tup [vG (meet a l), .bool (decide ((meet a l).lo ≤ (meet a l).hi))]) := by
  have c1 : (0 : Int) < ((a :: l).length : Int) := by rw [List.length_cons]; omega
  have c2 : (1 : Int) ≤ ((a :: l).length : Int) := by rw [List.length_cons]; omega
  have f1 : List.drop (Int.toNat 1) (List.take ((a :: l).map cG).length ((a :: l).map cG)) = l.map cG := by rw [List.take_length]; rfl
  have := lake_common_loop (N := N) (k := k) l hl 0 0 l.length N 0 a (by omega) (by omega)
  rw [List.drop_zero] at this
  rw [List.length_map] at f1
  rw [E_lake_common]
  simp only [cond_dec, List.length_map, c1, c2, if_true, f1, leaf_cG0, leaf_cG1]
  exact this

theorem lake_common1 (hN : 1000000 ≤ N) (a : Rg) : ev (envF N) (k + 1) F_lake_common [.sl none [.int .i64, .int .i64] [[.int .i64 a.lo, .int .i64 a.hi]]] = some (.tup [vG a, .bool (decide (a.lo ≤ a.hi))]) :=
  lake_common (k := k) hN a [] (by simp)
theorem lake_common2 (hN : 1000000 ≤ N) (a b : Rg) : ev (envF N) (k + 1) F_lake_common [.sl none [.int .i64, .int .i64] [[.int .i64 a.lo, .int .i64 a.hi], [.int .i64 b.lo, .int .i64 b.hi]]] = some (.tup [vG (inter a b), .bool (decide ((inter a b).lo ≤ (inter a b).hi))]) :=
  lake_common (k := k) hN a [b] (by simp)

/-- The program's agreed range, or the error. -/
def agR (t : Tab) (net : List Int) (l : List Reading) : PV :=
  if aErr t net l = 0 then if (agr t net l).lo ≤ (agr t net l).hi then .tup [vG (agr t net l), .int .i64 0] else .tup [vG ⟨0, 0⟩, .int .i64 13] else .tup [vG ⟨0, 0⟩, .int .i64 (aErr t net l)]

theorem lake_AgreedOf (hN : 1000000 ≤ N) (t : Tab) (net : List Int) (l : List Reading) : ev (envF N) (k + 7) F_lake_AgreedOf [vTab t, .sl none [.int .i64] (net.map cI), vReadings l] = some (agR t net l) := by
  rw [E_lake_AgreedOf, lake_permitted hN]
  simp only [obind, asT_tup, nth_zero, nth_one, asI_int, asL_sl, cond_ndec]
  unfold agR
  by_cases h : aErr t net l = 0
  · have ho := rdOk_of h
    rw [if_pos h, if_pos h, if_pos h]
    cases l with
    | nil => have := ho.l1; simp at this
    | cons r l =>
      have := ho.l2
      have g := lake_common (k := k + 5) hN (perm t net r) (l.map (perm t net)) (by rw [List.length_map]; simp at this; omega)
      rw [List.map_cons, g]
      simp only [obind, asT_tup, asA_agg, nth_zero, nth_one, asB_bool, asI_int, cond_ndec]
      have he : agr t net (r :: l) = meet (perm t net r) (l.map (perm t net)) := rfl
      rw [he]
      split <;> rfl
  · rw [if_neg h, if_neg h]

theorem lake_contra15 (hN : 1000000 ≤ N) (rs : List Rg) (hl : rs.length ≤ 10) (n12 i : Nat) (hi : i < rs.length) (x8 : List (List PV)) : ∀ (d n j : Nat), i + 1 + j + d = rs.length → d < n →
    L_lake_Contradicting_15 N (k + 1) n n12 (rs.map cG) (i : Int) (rs.map cG) (rs.length : Int) (i : Int) ((rs.drop (i + 1)).map cG) ((rs.drop (i + 1)).length : Int) (j : Int) x8 (rgs rs i).lo (rgs rs i).hi =
      match find2 rs i d (i + 1 + j) with
      | some m => some (.tup [.sl none [.int .i64] [[.int .i64 (i : Int)], [.int .i64 (m : Int)]], .int .i64 0])
      | none => L_lake_Contradicting_12 N (k + 1) n12 (rs.map cG) (rs.map cG) (rs.length : Int) ((i + 1 : Nat) : Int) x8
  | 0, n + 1, j, h, hn => by
    have e1 : w64 ((i : Int) + 1) = ((i + 1 : Nat) : Int) := by rw [w64_id] <;> omega
    rw [L_lake_Contradicting_15_eq, cond_dec, List.length_drop, if_neg (by omega), e1]
    rfl
  | d + 1, n + 1, j, h, hn => by
    have hlen : (rs.drop (i + 1)).length = rs.length - (i + 1) := List.length_drop
    have c1 : (j : Int) < ((rs.drop (i + 1)).length : Int) := by omega
    have c2 : (0 : Int) ≤ (j : Int) := by omega
    have e1 : w64 ((j : Int) + 1) = ((j + 1 : Nat) : Int) := by rw [w64_id] <;> omega
    have e2 : w64 (w64 ((i : Int) + 1) + (j : Int)) = ((i + 1 + j : Nat) : Int) := by
      rw [w64_id (x := (i : Int) + 1) (by omega) (by omega), w64_id (by omega) (by omega)]
      omega
    have hj : rgs (rs.drop (i + 1)) j = rgs rs (i + 1 + j) := by
      unfold rgs
      rw [List.getD_eq_getElem?_getD, List.getElem?_drop, ← List.getD_eq_getElem?_getD]
    rw [L_lake_Contradicting_15_eq]
    simp only [cond_dec, c1, c2, List.length_map, if_true, Int.toNat_natCast, leaf_cG0, leaf_cG1, hj, lake_common2 (k := k) hN (rgs rs i) (rgs rs (i + 1 + j)), obind, asT_tup, nth_one, asB_bool, cond_ndec, e1, e2, find2]
    by_cases hc : (inter (rgs rs i) (rgs rs (i + 1 + j))).hi < (inter (rgs rs i) (rgs rs (i + 1 + j))).lo
    · rw [if_neg (by omega), if_pos hc]
    · rw [if_pos (by omega), if_neg hc]
      exact lake_contra15 hN rs hl n12 i hi x8 d n (j + 1) (by omega) (by omega)

theorem lake_contra12 (hN : 1000000 ≤ N) (rs : List Rg) (hl : rs.length ≤ 10) (x8 : List (List PV)) : ∀ (d n i : Nat), i + d = rs.length → d < n →
    L_lake_Contradicting_12 N (k + 1) n (rs.map cG) (rs.map cG) (rs.length : Int) (i : Int) x8 =
      match find3 rs d i with
      | some (a, b) => some (.tup [.sl none [.int .i64] [[.int .i64 (a : Int)], [.int .i64 (b : Int)]], .int .i64 0])
      | none => some (.tup [.sl none [.int .i64] [], .int .i64 12])
  | 0, n + 1, i, h, hn => by
    rw [L_lake_Contradicting_12_eq, cond_dec, if_neg (by omega)]
    rfl
  | d + 1, n + 1, i, h, hn => by
    have c1 : (i : Int) < (rs.length : Int) := by omega
    have c2 : (0 : Int) ≤ (i : Int) := by omega
    have e1 : w64 ((i : Int) + 1) = ((i + 1 : Nat) : Int) := by rw [w64_id] <;> omega
    have c3 : (0 : Int) ≤ ((i + 1 : Nat) : Int) := by omega
    have c4 : ((i + 1 : Nat) : Int) ≤ (rs.length : Int) := by omega
    have f1 : List.drop (i + 1) (List.take (rs.map cG).length (rs.map cG)) = (rs.drop (i + 1)).map cG := by rw [List.take_length, List.map_drop]
    rw [List.length_map] at f1
    have hin := lake_contra15 (k := k) hN rs hl n i (by omega) x8 (rs.length - (i + 1)) N 0 (by omega) (by omega)
    rw [L_lake_Contradicting_12_eq]
    simp only [cond_dec, c1, c2, e1, c3, c4, List.length_map, if_true, Int.toNat_natCast, f1, leaf_cG0, leaf_cG1, find3]
    refine hin.trans ?_
    rw [Nat.add_zero]
    cases find2 rs i (rs.length - (i + 1)) (i + 1) with
    | some m => rfl
    | none => exact lake_contra12 hN rs hl x8 d n (i + 1) (by omega) (by omega)

theorem lake_contra5 (hN : 1000000 ≤ N) (rs : List Rg) (hl : rs.length ≤ 10) (x8 : List (List PV)) : ∀ (d n i : Nat), i + d = rs.length → d < n →
    L_lake_Contradicting_5 N (k + 1) n (rs.map cG) (rs.map cG) (rs.length : Int) (i : Int) x8 =
      match find1 rs d i with
      | some a => some (.tup [.sl none [.int .i64] [[.int .i64 (a : Int)]], .int .i64 0])
      | none => L_lake_Contradicting_12 N (k + 1) N (rs.map cG) (rs.map cG) (rs.length : Int) ((0 : Nat) : Int) x8
  | 0, n + 1, i, h, hn => by
    rw [L_lake_Contradicting_5_eq, cond_dec, if_neg (by omega), List.length_map]
    rfl
  | d + 1, n + 1, i, h, hn => by
    have c1 : (i : Int) < (rs.length : Int) := by omega
    have c2 : (0 : Int) ≤ (i : Int) := by omega
    have e1 : w64 ((i : Int) + 1) = ((i + 1 : Nat) : Int) := by rw [w64_id] <;> omega
    rw [L_lake_Contradicting_5_eq]
    simp only [cond_dec, c1, c2, List.length_map, if_true, Int.toNat_natCast, leaf_cG0, leaf_cG1, lake_common1 (k := k) hN (rgs rs i), obind, asT_tup, nth_one, asB_bool, cond_ndec, e1, find1]
    by_cases hc : (rgs rs i).hi < (rgs rs i).lo
    · rw [if_neg (by omega), if_pos hc]
    · rw [if_pos (by omega), if_neg hc]
      exact lake_contra5 hN rs hl x8 d n (i + 1) (by omega) (by omega)

/-- The program's contradicting readings, or the error. -/
def coR (t : Tab) (net : List Int) (l : List Reading) : PV :=
  if aErr t net l = 0 then .tup [.sl none [.int .i64] ((contra (l.map (perm t net))).map cI), .int .i64 (if contra (l.map (perm t net)) = [] then 12 else 0)] else .tup [.sl none [.int .i64] [], .int .i64 (aErr t net l)]

theorem lake_Contradicting (hN : 1000000 ≤ N) (t : Tab) (net : List Int) (l : List Reading) : ev (envF N) (k + 7) F_lake_Contradicting [vTab t, .sl none [.int .i64] (net.map cI), vReadings l] = some (coR t net l) := by
  rw [E_lake_Contradicting, lake_permitted hN]
  simp only [obind, asT_tup, nth_zero, nth_one, asI_int, asL_sl, cond_ndec]
  unfold coR
  by_cases h : aErr t net l = 0
  · have ho := rdOk_of h
    rw [if_pos h, if_pos h, if_pos h]
    obtain ⟨rs, hrs⟩ : ∃ rs, l.map (perm t net) = rs := ⟨_, rfl⟩
    have hlen : rs.length ≤ 10 := by rw [← hrs, List.length_map]; exact ho.l2
    rw [hrs, List.length_map]
    have g := lake_contra5 (k := k + 5) hN rs hlen (t.map cK) rs.length N 0 (by omega) (by omega)
    refine g.trans ?_
    unfold contra
    cases h1 : find1 rs rs.length 0 with
    | some a => simp [cI]
    | none =>
      have g2 := lake_contra12 (k := k + 5) hN rs hlen (t.map cK) rs.length N 0 (by omega) (by omega)
      simp only
      refine g2.trans ?_
      cases h2 : find3 rs rs.length 0 with
      | some ab => obtain ⟨a, b⟩ := ab; simp [cI]
      | none => simp
  · rw [if_neg h, if_neg h]

/-! The reference. -/
theorem ref_net_loop (l : List Int) (hl : l.length ≤ 200) : ∀ (d n i : Nat), i + d = l.length → d < n →
    L_ref01_NetErr_4 N (k + 1) n (l.map cI) (i : Int) = some (.int .i64 (if (l.drop i).all netOk = true then 0 else 2))
  | 0, n + 1, i, h, hn => by
    rw [L_ref01_NetErr_4_eq, cond_dec, List.length_map, if_neg (by omega), List.drop_eq_nil_of_le (by omega)]
    rfl
  | d + 1, n + 1, i, h, hn => by
    have c1 : (i : Int) < (l.length : Int) := by omega
    have c2 : (0 : Int) ≤ (i : Int) := by omega
    have e1 : w64 ((i : Int) + 1) = ((i + 1 : Nat) : Int) := by rw [w64_id] <;> omega
    have ih := ref_net_loop l hl d n (i + 1) (by omega) (by omega)
    rw [L_ref01_NetErr_4_eq, int_drop l i (by omega), List.all_cons]
    simp only [cond_dec, cond_ndec, c1, c2, List.length_map, if_true, Int.toNat_natCast, leaf_cI, base_Within, obind, asB_bool, e1, ih]
    unfold netOk
    by_cases hc : -10000000 ≤ l.getD i 0 ∧ l.getD i 0 ≤ 10000000
    · simp only [hc, and_self, if_true, decide_true, Bool.true_and]
    · simp only [hc, if_false, decide_false, Bool.false_and, Bool.false_eq_true]

theorem ref_NetErr (hN : 1000000 ≤ N) (l : List Int) : ev (envF N) (k + 2) F_ref01_NetErr [.sl none [.int .i64] (l.map cI)] = some (.int .i64 (nErr l)) := by
  rw [E_ref01_NetErr, cond_dec, List.length_map]
  unfold nErr
  by_cases h : 200 < l.length
  · rw [if_pos (by omega), if_pos h]
  · have := ref_net_loop (N := N) (k := k) l (by omega) l.length N 0 (by omega) (by omega)
    rw [List.drop_zero] at this
    rw [if_neg (by omega), if_neg h]
    exact this

theorem ref_readings_loop (hN : 1000000 ≤ N) {t : Tab} (h : Ok t) (net : List Int) (l : List Reading) (hl : l.length ≤ 10) : ∀ (d n i : Nat), i + d = l.length → d < n →
    L_ref01_ReadingsErr_6 N (k + 2) n (net.map cI) (l.map cR) (i : Int) (t.map cK) = some (.int .i64 (firstErr t net.length (l.drop i)))
  | 0, n + 1, i, hd, hn => by
    rw [L_ref01_ReadingsErr_6_eq, cond_dec, List.length_map, if_neg (by omega), List.drop_eq_nil_of_le (by omega)]
    rfl
  | d + 1, n + 1, i, hd, hn => by
    have c1 : (i : Int) < (l.length : Int) := by omega
    have c2 : (0 : Int) ≤ (i : Int) := by omega
    have e1 : w64 ((i : Int) + 1) = ((i + 1 : Nat) : Int) := by rw [w64_id] <;> omega
    have ih := ref_readings_loop hN h net l hl d n (i + 1) (by omega) (by omega)
    rw [L_ref01_ReadingsErr_6_eq, rdg_drop l i (by omega)]
    simp only [cond_dec, cond_ndec, c1, c2, List.length_map, if_true, Int.toNat_natCast, leaf_cR0, leaf_cR1, leaf_cR2, base_Within (k := k + 1), obind, asB_bool, ref_IsLevel (k := k) h, e1, ih]
    rw [firstErr]
    unfold rdErr1
    by_cases a1 : 0 ≤ (rdg l i).t ∧ (rdg l i).t ≤ (net.length : Int)
    · by_cases a2 : IsL t (rdg l i).lo
      · by_cases a3 : IsL t (rdg l i).hi
        · by_cases a4 : (rdg l i).lo ≤ (rdg l i).hi
          · have : ¬ ((rdg l i).hi < (rdg l i).lo) := by omega
            simp [a1, a2, a3, a4, this]
          · have : (rdg l i).hi < (rdg l i).lo := by omega
            simp [a1, a2, a3, a4, this]
        · simp [a1, a2, a3]
      · simp [a1, a2]
    · simp [a1]

theorem ref_ReadingsErr (hN : 1000000 ≤ N) {t : Tab} (h : Ok t) (net : List Int) (l : List Reading) : ev (envF N) (k + 3) F_ref01_ReadingsErr [vTab t, .sl none [.int .i64] (net.map cI), vReadings l] = some (.int .i64 (rdErr t net.length l)) := by
  rw [E_ref01_ReadingsErr, cond_dec, cond_dec, List.length_map]
  unfold rdErr
  by_cases h2 : l.length = 0
  · rw [if_pos (by omega), if_pos h2]
  · rw [if_neg (by omega), if_neg h2]
    by_cases h10 : 10 < l.length
    · rw [if_pos (by omega), if_pos h10]
    · have := ref_readings_loop (k := k) hN h net l (by omega) l.length N 0 (by omega) (by omega)
      rw [List.drop_zero] at this
      rw [if_neg (by omega), if_neg h10]
      exact this

theorem ref_AllErr (hN : 1000000 ≤ N) (t : Tab) (net : List Int) (l : List Reading) : ev (envF N) (k + 14) F_ref01_AllErr [vTab t, .sl none [.int .i64] (net.map cI), vReadings l] = some (.int .i64 (aErr t net l)) := by
  have g2 := ref_NetErr (k := k + 11) hN net
  rw [E_ref01_AllErr, ref_TableErr hN]
  simp only [obind, asI_int, cond_ndec, g2]
  unfold aErr
  by_cases h1 : tErr t = 0
  · rw [if_pos h1, if_pos h1]
    by_cases h2 : nErr net = 0
    · have g3 := ref_ReadingsErr (k := k + 10) hN (ok_of h1) net l
      rw [if_pos h2, if_pos h2, g3]
      simp only [obind, asI_int]
    · rw [if_neg h2, if_neg h2]
  · rw [if_neg h1, if_neg h1]

theorem ref_perm_loop (hN : 1000000 ≤ N) {t : Tab} (h : Ok t) {net : List Int} (hn1 : net.length ≤ 200) (hnet : ∀ n ∈ net, -10000000 ≤ n ∧ n ≤ 10000000) {r : Reading} (hr : ReadIn t net.length r) (x7 x8 : Int) : ∀ (d n j : Nat), j + d = r.t.toNat → d < n →
    L_ref01_permitted_3 N (k + 13) n (net.map cI) (psum net j) (j : Int) (t.map cK) r.t r.lo r.hi x7 x8 = some (vG (perm t net r))
  | 0, n + 1, j, hd, hn => by
    have b := psum_bound hnet j
    have hjl : (j : Int) = r.t := by have := hr.1; omega
    have hjl2 : (j : Int) ≤ 200 := by have := hr.2.1; omega
    obtain ⟨v1, v2, v3, v4⟩ := vl_range h hr.2.2.1
    obtain ⟨u1, u2, u3, u4⟩ := vl_range h hr.2.2.2.1
    have g1 := ref_VolumeAt (k := k) hN h hr.2.2.1
    have g2 := ref_VolumeAt (k := k) hN h hr.2.2.2.1
    have e1 : w64 (vlHi t r.lo - psum net j) = vlHi t r.lo - psum net j := by rw [w64_id] <;> omega
    have e2 : w64 (vlLo t r.hi - psum net j) = vlLo t r.hi - psum net j := by rw [w64_id] <;> omega
    rw [L_ref01_permitted_3_eq, cond_dec, if_neg (by omega), g1, g2]
    simp only [obind, asA_agg, nth_zero, nth_one, asI_int, e1, e2]
    unfold perm
    rw [show r.t.toNat = j by omega]
  | d + 1, n + 1, j, hd, hn => by
    have hr0 := hr.1
    have hr1 := hr.2.1
    have b := psum_bound hnet j
    have b2 := psum_bound hnet (j + 1)
    have c1 : (j : Int) < r.t := by omega
    have c2 : (0 : Int) ≤ (j : Int) := by omega
    have c3 : (j : Int) < (net.length : Int) := by omega
    have e1 : w64 ((j : Int) + 1) = ((j + 1 : Nat) : Int) := by rw [w64_id] <;> omega
    have e2 : w64 (psum net j + net.getD j 0) = psum net (j + 1) := by
      show w64 (psum net (j + 1)) = psum net (j + 1)
      rw [w64_id] <;> omega
    rw [L_ref01_permitted_3_eq]
    simp only [cond_dec, c1, c2, c3, List.length_map, if_true, Int.toNat_natCast, leaf_cI, e1, e2]
    exact ref_perm_loop hN h hn1 hnet hr x7 x8 d n (j + 1) (by omega) (by omega)

theorem ref_permitted (hN : 1000000 ≤ N) {t : Tab} (h : Ok t) {net : List Int} (hn1 : net.length ≤ 200) (hnet : ∀ n ∈ net, -10000000 ≤ n ∧ n ≤ 10000000) {r : Reading} (hr : ReadIn t net.length r) : ev (envF N) (k + 14) F_ref01_permitted [vTab t, .sl none [.int .i64] (net.map cI), vReading r] = some (vG (perm t net r)) := by
  rw [E_ref01_permitted]
  exact ref_perm_loop hN h hn1 hnet hr 0 0 r.t.toNat N 0 (by omega) (by have := hr.2.1; omega)

theorem ref_Agreed_loop (hN : 1000000 ≤ N) {t : Tab} (h : Ok t) {net : List Int} (hn1 : net.length ≤ 200) (hnet : ∀ n ∈ net, -10000000 ≤ n ∧ n ≤ 10000000) {l : List Reading} (hl : l.length ≤ 10) (hr : ∀ r ∈ l, ReadIn t net.length r) (x4 x5 : Int) : ∀ (d n i : Nat) (a : Rg), i + d = l.length → d < n →
    L_ref01_AgreedOf_3 N (k + 14) n (net.map cI) (l.map cR) (i : Int) (t.map cK) x4 x5 a.lo a.hi =
      some (if (meet a ((l.drop i).map (perm t net))).lo ≤ (meet a ((l.drop i).map (perm t net))).hi then .tup [vG (meet a ((l.drop i).map (perm t net))), .bool true] else .tup [vG ⟨0, 0⟩, .bool false])
  | 0, n + 1, i, a, hd, hn => by
    have hm : meet a (([] : List Reading).map (perm t net)) = a := rfl
    rw [L_ref01_AgreedOf_3_eq, cond_dec, List.length_map, if_neg (by omega), cond_dec, List.drop_eq_nil_of_le (by omega), hm]
    by_cases hc : a.hi < a.lo
    · rw [if_pos hc, if_neg (by omega)]
    · rw [if_neg hc, if_pos (by omega)]
  | d + 1, n + 1, i, a, hd, hn => by
    have c1 : (i : Int) < (l.length : Int) := by omega
    have c2 : (0 : Int) ≤ (i : Int) := by omega
    have e1 : w64 ((i : Int) + 1) = ((i + 1 : Nat) : Int) := by rw [w64_id] <;> omega
    have g := ref_permitted (k := k) hN h hn1 hnet (hr _ (rdg_mem l i (by omega)))
    rw [L_ref01_AgreedOf_3_eq, rdg_drop l i (by omega)]
    simp only [cond_dec, c1, c2, List.length_map, if_true, Int.toNat_natCast, leaf_cR0, leaf_cR1, leaf_cR2, g, obind, asA_agg, nth_zero, nth_one, asI_int, e1, imax_eq, imin_eq]
    exact ref_Agreed_loop hN h hn1 hnet hl hr x4 x5 d n (i + 1) (inter a (perm t net (rdg l i))) (by omega) (by omega)

theorem ref_AgreedOf (hN : 1000000 ≤ N) {t : Tab} (h : Ok t) {net : List Int} (hn1 : net.length ≤ 200) (hnet : ∀ n ∈ net, -10000000 ≤ n ∧ n ≤ 10000000) (r : Reading) (l : List Reading) (hl : l.length ≤ 9) (hr : ∀ q ∈ r :: l, ReadIn t net.length q) : ev (envF N) (k + 15) F_ref01_AgreedOf [vTab t, .sl none [.int .i64] (net.map cI), vReadings (r :: l)] =
    some (if (agr t net (r :: l)).lo ≤ (agr t net (r :: l)).hi then .tup [vG (agr t net (r :: l)), .bool true] else .tup [vG ⟨0, 0⟩, .bool false]) := by
  have c1 : (0 : Int) < ((r :: l).length : Int) := by rw [List.length_cons]; omega
  have g := ref_permitted (k := k) hN h hn1 hnet (hr r (List.mem_cons_self ..))
  have g2 := ref_Agreed_loop (k := k) hN h hn1 hnet (l := r :: l) (by rw [List.length_cons]; omega) hr 0 0 l.length N 1 (perm t net r) (by rw [List.length_cons]; omega) (by omega)
  have r0 : rdg (r :: l) 0 = r := rfl
  rw [E_ref01_AgreedOf]
  simp only [cond_dec, List.length_map, c1, if_true, leaf_cR0, leaf_cR1, leaf_cR2, show Int.toNat 0 = 0 from rfl, r0, g, obind, asA_agg, nth_zero, nth_one, asI_int]
  exact g2

theorem ref_contra11 (hN : 1000000 ≤ N) {t : Tab} {net : List Int} {l : List Reading} (h : RdOk t net l) (n8 i : Nat) (hi : i < l.length) : ∀ (d n j : Nat), j + d = l.length → d < n →
    L_ref01_Contradicting_11 N (k + 15) n n8 (net.map cI) (l.map cR) (i : Int) (j : Int) (t.map cK) =
      match find2 (l.map (perm t net)) i d j with
      | some m => some (.tup [.sl none [.int .i64] [[.int .i64 (i : Int)], [.int .i64 (m : Int)]], .bool true])
      | none => L_ref01_Contradicting_8 N (k + 15) n8 (net.map cI) (l.map cR) ((i + 1 : Nat) : Int) (t.map cK)
  | 0, n + 1, j, hd, hn => by
    have := h.l2
    have e1 : w64 ((i : Int) + 1) = ((i + 1 : Nat) : Int) := by rw [w64_id] <;> omega
    rw [L_ref01_Contradicting_11_eq, cond_dec, List.length_map, if_neg (by omega), e1]
    rfl
  | d + 1, n + 1, j, hd, hn => by
    have hl2 := h.l2
    have c1 : (j : Int) < (l.length : Int) := by omega
    have c2 : (0 : Int) ≤ (j : Int) := by omega
    have c3 : (i : Int) < (l.length : Int) := by omega
    have c4 : (0 : Int) ≤ (i : Int) := by omega
    have e1 : w64 ((j : Int) + 1) = ((j + 1 : Nat) : Int) := by rw [w64_id] <;> omega
    have g : ev (envF N) (k + 15) F_ref01_AgreedOf [vTab t, .sl none [.int .i64] (net.map cI), .sl none [.int .i64, .int .i64, .int .i64] [[.int .i64 (rdg l i).t, .int .i64 (rdg l i).lo, .int .i64 (rdg l i).hi], [.int .i64 (rdg l j).t, .int .i64 (rdg l j).lo, .int .i64 (rdg l j).hi]]] = _ :=
      ref_AgreedOf (k := k) hN h.tab h.n1 h.n2 (rdg l i) [rdg l j] (by simp) (by
        intro q hq
        simp only [List.mem_cons, List.not_mem_nil, or_false] at hq
        rcases hq with rfl | rfl
        · exact h.l3 _ (rdg_mem l i hi)
        · exact h.l3 _ (rdg_mem l j (by omega)))
    have ha : agr t net [rdg l i, rdg l j] = inter (rgs (l.map (perm t net)) i) (rgs (l.map (perm t net)) j) := by
      rw [rgs_map t net l i hi, rgs_map t net l j (by omega)]
      rfl
    rw [ha] at g
    rw [L_ref01_Contradicting_11_eq]
    simp only [cond_dec, c1, c2, c3, c4, List.length_map, if_true, Int.toNat_natCast, leaf_cR0, leaf_cR1, leaf_cR2, g, obind, e1, find2]
    by_cases hc : (inter (rgs (l.map (perm t net)) i) (rgs (l.map (perm t net)) j)).hi < (inter (rgs (l.map (perm t net)) i) (rgs (l.map (perm t net)) j)).lo
    · rw [if_neg (by omega), if_pos hc]
      simp only [asT_tup, nth_one, asB_bool, Bool.not_false, cond_t]
    · rw [if_pos (by omega), if_neg hc]
      simp only [asT_tup, nth_one, asB_bool, Bool.not_true, cond_f]
      exact ref_contra11 hN h n8 i hi d n (j + 1) (by omega) (by omega)

theorem ref_contra8 (hN : 1000000 ≤ N) {t : Tab} {net : List Int} {l : List Reading} (h : RdOk t net l) : ∀ (d n i : Nat), i + d = l.length → d < n →
    L_ref01_Contradicting_8 N (k + 15) n (net.map cI) (l.map cR) (i : Int) (t.map cK) =
      match find3 (l.map (perm t net)) d i with
      | some (a, b) => some (.tup [.sl none [.int .i64] [[.int .i64 (a : Int)], [.int .i64 (b : Int)]], .bool true])
      | none => some (.tup [.sl none [.int .i64] [], .bool false])
  | 0, n + 1, i, hd, hn => by
    rw [L_ref01_Contradicting_8_eq, cond_dec, List.length_map, if_neg (by omega)]
    rfl
  | d + 1, n + 1, i, hd, hn => by
    have hl2 := h.l2
    have e1 : w64 ((i : Int) + 1) = ((i + 1 : Nat) : Int) := by rw [w64_id] <;> omega
    have hin := ref_contra11 (k := k) hN h n i (by omega) (l.length - (i + 1)) N (i + 1) (by omega) (by omega)
    rw [L_ref01_Contradicting_8_eq, cond_dec, List.length_map, if_pos (by omega), e1]
    refine hin.trans ?_
    simp only [find3, List.length_map]
    cases find2 (l.map (perm t net)) i (l.length - (i + 1)) (i + 1) with
    | some m => rfl
    | none => exact ref_contra8 hN h d n (i + 1) (by omega) (by omega)

theorem ref_contra2 (hN : 1000000 ≤ N) {t : Tab} {net : List Int} {l : List Reading} (h : RdOk t net l) : ∀ (d n i : Nat), i + d = l.length → d < n →
    L_ref01_Contradicting_2 N (k + 15) n (net.map cI) (l.map cR) (i : Int) (t.map cK) =
      match find1 (l.map (perm t net)) d i with
      | some a => some (.tup [.sl none [.int .i64] [[.int .i64 (a : Int)]], .bool true])
      | none => L_ref01_Contradicting_8 N (k + 15) N (net.map cI) (l.map cR) ((0 : Nat) : Int) (t.map cK)
  | 0, n + 1, i, hd, hn => by
    rw [L_ref01_Contradicting_2_eq, cond_dec, List.length_map, if_neg (by omega)]
    rfl
  | d + 1, n + 1, i, hd, hn => by
    have hl2 := h.l2
    have c1 : (i : Int) < (l.length : Int) := by omega
    have c2 : (0 : Int) ≤ (i : Int) := by omega
    have e1 : w64 ((i : Int) + 1) = ((i + 1 : Nat) : Int) := by rw [w64_id] <;> omega
    have g : ev (envF N) (k + 15) F_ref01_AgreedOf [vTab t, .sl none [.int .i64] (net.map cI), .sl none [.int .i64, .int .i64, .int .i64] [[.int .i64 (rdg l i).t, .int .i64 (rdg l i).lo, .int .i64 (rdg l i).hi]]] = _ :=
      ref_AgreedOf (k := k) hN h.tab h.n1 h.n2 (rdg l i) [] (by simp) (by
        intro q hq
        simp only [List.mem_cons, List.not_mem_nil, or_false] at hq
        rw [hq]
        exact h.l3 _ (rdg_mem l i (by omega)))
    have ha : agr t net [rdg l i] = rgs (l.map (perm t net)) i := by
      rw [rgs_map t net l i (by omega)]
      rfl
    rw [ha] at g
    rw [L_ref01_Contradicting_2_eq]
    simp only [cond_dec, c1, c2, List.length_map, if_true, Int.toNat_natCast, leaf_cR0, leaf_cR1, leaf_cR2, g, obind, e1, find1]
    by_cases hc : (rgs (l.map (perm t net)) i).hi < (rgs (l.map (perm t net)) i).lo
    · rw [if_neg (by omega), if_pos hc]
      simp only [asT_tup, nth_one, asB_bool, Bool.not_false, cond_t]
    · rw [if_pos (by omega), if_neg hc]
      simp only [asT_tup, nth_one, asB_bool, Bool.not_true, cond_f]
      exact ref_contra2 hN h d n (i + 1) (by omega) (by omega)

theorem ref_Contradicting (hN : 1000000 ≤ N) {t : Tab} {net : List Int} {l : List Reading} (h : RdOk t net l) : ∃ b, ev (envF N) (k + 16) F_ref01_Contradicting [vTab t, .sl none [.int .i64] (net.map cI), vReadings l] = some (.tup [.sl none [.int .i64] ((contra (l.map (perm t net))).map cI), .bool b]) := by
  have hl2 := h.l2
  have g := ref_contra2 (k := k) hN h l.length N 0 (by omega) (by omega)
  rw [E_ref01_Contradicting]
  unfold contra
  rw [List.length_map]
  cases h1 : find1 (l.map (perm t net)) l.length 0 with
  | some a => rw [h1] at g; exact ⟨true, g⟩
  | none =>
    rw [h1] at g
    have g2 := ref_contra8 (k := k) hN h l.length N 0 (by omega) (by omega)
    cases h2 : find3 (l.map (perm t net)) l.length 0 with
    | some ab =>
      obtain ⟨a, b⟩ := ab
      rw [h2] at g2
      exact ⟨true, g.trans g2⟩
    | none =>
      rw [h2] at g2
      exact ⟨false, g.trans g2⟩

theorem base_Ints_loop (l : List Int) (hl : l.length ≤ 100000) : ∀ (d n i : Nat), i + d = l.length → d < n → L_base_Ints_4 N k n (l.map cI) (l.map cI) (i : Int) = some (.bool true)
  | 0, n + 1, i, h, hn => by
    rw [L_base_Ints_4_eq, cond_dec, List.length_map, if_neg (by omega)]
  | d + 1, n + 1, i, h, hn => by
    have c1 : (i : Int) < (l.length : Int) := by omega
    have c2 : (0 : Int) ≤ (i : Int) := by omega
    have ei : w64 ((i : Int) + 1) = ((i + 1 : Nat) : Int) := by rw [w64_id] <;> omega
    rw [L_base_Ints_4_eq]
    simp only [cond_dec, cond_ndec, c1, c2, List.length_map, if_true, Int.toNat_natCast, leaf_cI, ei]
    exact base_Ints_loop l hl d n (i + 1) (by omega) (by omega)
theorem base_Ints (hN : 1000000 ≤ N) (l : List Int) (hl : l.length ≤ 100000) : ev (envF N) (k + 1) F_base_Ints [.sl none [.int .i64] (l.map cI), .sl none [.int .i64] (l.map cI)] = some (.bool true) := by
  rw [E_base_Ints, cond_ndec, if_pos rfl]
  exact base_Ints_loop l hl l.length N 0 (by omega) (by omega)

theorem base_CopyInts (l : List Int) (h : l.length ≤ 100000) : ev (envF N) (k + 1) F_base_CopyInts [.sl none [.int .i64] (l.map cI)] = some (.sl none [.int .i64] (l.map cI)) := by
  rw [E_base_CopyInts, room_nil _ _ (by rw [List.length_map]; exact h) (by decide), cond_t]
theorem ref_CopyReadings (l : List Reading) (h : l.length ≤ 100000) : ev (envF N) (k + 1) F_ref01_CopyReadings [vReadings l] = some (vReadings l) := by
  rw [E_ref01_CopyReadings, room_nil _ _ (by rw [List.length_map]; exact h) (by decide), cond_t]

end

/-! Two gauges. -/
theorem meet_le : ∀ (l : List Rg) (a : Rg), (∀ r ∈ a :: l, r.lo ≤ (meet a l).lo ∧ (meet a l).hi ≤ r.hi) ∧ (∃ r ∈ a :: l, (meet a l).lo = r.lo) ∧ (∃ r ∈ a :: l, (meet a l).hi = r.hi)
  | [], a => by simp [meet]
  | b :: l, a => by
    obtain ⟨h1, h2, h3⟩ := meet_le l (inter a b)
    have e : meet a (b :: l) = meet (inter a b) l := rfl
    rw [e]
    have hi := h1 _ (List.mem_cons_self ..)
    have hil : (inter a b).lo = max a.lo b.lo := rfl
    have hih : (inter a b).hi = min a.hi b.hi := rfl
    refine ⟨fun r hr => ?_, ?_, ?_⟩
    · rcases List.mem_cons.1 hr with rfl | hr
      · omega
      · rcases List.mem_cons.1 hr with rfl | hr
        · omega
        · exact h1 r (List.mem_cons_of_mem _ hr)
    · obtain ⟨r, hr, hr2⟩ := h2
      rcases List.mem_cons.1 hr with rfl | hr
      · by_cases hc : a.lo ≤ b.lo
        · exact ⟨b, by simp, by omega⟩
        · exact ⟨a, by simp, by omega⟩
      · exact ⟨r, by simp [hr], hr2⟩
    · obtain ⟨r, hr, hr2⟩ := h3
      rcases List.mem_cons.1 hr with rfl | hr
      · by_cases hc : a.hi ≤ b.hi
        · exact ⟨a, by simp, by omega⟩
        · exact ⟨b, by simp, by omega⟩
      · exact ⟨r, by simp [hr], hr2⟩

theorem find1_some {rs : List Rg} : ∀ {d i a : Nat}, find1 rs d i = some a → i ≤ a ∧ a < i + d ∧ (rgs rs a).hi < (rgs rs a).lo
  | 0, _, _, h => by cases h
  | d + 1, i, a, h => by
    unfold find1 at h
    split at h
    · cases h; rename_i hc; exact ⟨Nat.le_refl _, by omega, hc⟩
    · obtain ⟨h1, h2, h3⟩ := find1_some h
      exact ⟨by omega, by omega, h3⟩
theorem find1_none {rs : List Rg} : ∀ {d i : Nat}, find1 rs d i = none → ∀ a, i ≤ a → a < i + d → (rgs rs a).lo ≤ (rgs rs a).hi
  | 0, i, _, a, h1, h2 => by omega
  | d + 1, i, h, a, h1, h2 => by
    unfold find1 at h
    split at h
    · cases h
    · rename_i hc
      by_cases e : a = i
      · rw [e]; omega
      · exact find1_none h a (by omega) (by omega)
theorem find2_some {rs : List Rg} {i : Nat} : ∀ {d j a : Nat}, find2 rs i d j = some a → j ≤ a ∧ a < j + d ∧ (inter (rgs rs i) (rgs rs a)).hi < (inter (rgs rs i) (rgs rs a)).lo
  | 0, _, _, h => by cases h
  | d + 1, j, a, h => by
    unfold find2 at h
    split at h
    · cases h; rename_i hc; exact ⟨Nat.le_refl _, by omega, hc⟩
    · obtain ⟨h1, h2, h3⟩ := find2_some h
      exact ⟨by omega, by omega, h3⟩
theorem find2_none {rs : List Rg} {i : Nat} : ∀ {d j : Nat}, find2 rs i d j = none → ∀ a, j ≤ a → a < j + d → (inter (rgs rs i) (rgs rs a)).lo ≤ (inter (rgs rs i) (rgs rs a)).hi
  | 0, j, _, a, h1, h2 => by omega
  | d + 1, j, h, a, h1, h2 => by
    unfold find2 at h
    split at h
    · cases h
    · rename_i hc
      by_cases e : a = j
      · rw [e]; omega
      · exact find2_none h a (by omega) (by omega)
theorem find3_some {rs : List Rg} : ∀ {d i a b : Nat}, find3 rs d i = some (a, b) → i ≤ a ∧ a < i + d ∧ a < b ∧ b < rs.length ∧ (inter (rgs rs a) (rgs rs b)).hi < (inter (rgs rs a) (rgs rs b)).lo
  | 0, _, _, _, h => by cases h
  | d + 1, i, a, b, h => by
    unfold find3 at h
    split at h
    · cases h
      rename_i h1
      obtain ⟨h2, h3, h4⟩ := find2_some h1
      exact ⟨Nat.le_refl _, by omega, by omega, by omega, h4⟩
    · obtain ⟨h2, h3, h4⟩ := find3_some h
      exact ⟨by omega, by omega, h4⟩
theorem find3_none {rs : List Rg} : ∀ {d i : Nat}, find3 rs d i = none → ∀ a, i ≤ a → a < i + d → ∀ b, a < b → b < rs.length → (inter (rgs rs a) (rgs rs b)).lo ≤ (inter (rgs rs a) (rgs rs b)).hi
  | 0, i, _, a, h1, h2 => by omega
  | d + 1, i, h, a, h1, h2 => by
    unfold find3 at h
    split at h
    · cases h
    · rename_i hc
      intro b h3 h4
      by_cases e : a = i
      · rw [e]; exact find2_none hc b (by omega) (by omega)
      · exact find3_none h a (by omega) (by omega) b h3 h4

theorem mem_rgs {rs : List Rg} {r : Rg} (h : r ∈ rs) : ∃ i, i < rs.length ∧ rgs rs i = r := by
  obtain ⟨i, hi, rfl⟩ := List.getElem_of_mem h
  refine ⟨i, hi, ?_⟩
  unfold rgs
  rw [List.getD_eq_getElem?_getD, List.getElem?_eq_getElem hi, Option.getD_some]
theorem rgs_mem {rs : List Rg} {i : Nat} (h : i < rs.length) : rgs rs i ∈ rs := by
  unfold rgs
  rw [List.getD_eq_getElem?_getD, List.getElem?_eq_getElem h, Option.getD_some]
  exact List.getElem_mem h

/-- Ranges have something in common exactly if each two of them have, and none is empty. -/
theorem helly (a : Rg) (l : List Rg) : contra (a :: l) = [] ↔ (meet a l).lo ≤ (meet a l).hi := by
  obtain ⟨h1, ⟨p, hp, hp2⟩, ⟨q, hq, hq2⟩⟩ := meet_le l a
  unfold contra
  constructor
  · intro h
    cases f1 : find1 (a :: l) (a :: l).length 0 with
    | some i => rw [f1] at h; cases h
    | none =>
      rw [f1] at h
      cases f3 : find3 (a :: l) (a :: l).length 0 with
      | some ij => rw [f3] at h; cases h
      | none =>
        obtain ⟨i, hi, rfl⟩ := mem_rgs hp
        obtain ⟨j, hj, rfl⟩ := mem_rgs hq
        rw [hp2, hq2]
        have il (x y : Rg) : (inter x y).lo = max x.lo y.lo := rfl
        have ih (x y : Rg) : (inter x y).hi = min x.hi y.hi := rfl
        rcases Nat.lt_trichotomy i j with e | e | e
        · have := find3_none f3 i (by omega) (by omega) j e hj
          rw [il, ih] at this
          omega
        · subst e
          exact find1_none f1 i (by omega) (by omega)
        · have := find3_none f3 j (by omega) (by omega) i e hi
          rw [il, ih] at this
          omega
  · intro h
    cases f1 : find1 (a :: l) (a :: l).length 0 with
    | some i =>
      obtain ⟨g1, g2, g3⟩ := find1_some f1
      have := h1 _ (rgs_mem (rs := a :: l) (i := i) (by omega))
      omega
    | none =>
      cases f3 : find3 (a :: l) (a :: l).length 0 with
      | some ij =>
        obtain ⟨i, j⟩ := ij
        obtain ⟨g1, g2, g3, g4, g5⟩ := find3_some f3
        have hb : j < (a :: l).length := g4
        have m1 := h1 _ (rgs_mem (rs := a :: l) (i := i) (by omega))
        have m2 := h1 _ (rgs_mem (rs := a :: l) (i := j) hb)
        have il (x y : Rg) : (inter x y).lo = max x.lo y.lo := rfl
        have ih (x y : Rg) : (inter x y).hi = min x.hi y.hi := rfl
        rw [il, ih] at g5
        omega
      | none => rfl

end Go.PevTab
