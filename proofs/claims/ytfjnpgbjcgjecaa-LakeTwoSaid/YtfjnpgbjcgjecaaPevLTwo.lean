/- THE LAW OF TWO GAUGES over the evaluator: it gives true. -/
import Derived.Test.YtfjnpgbjcgjecaaPevSRead2
import Derived.Test.YtfjnpgbjcgjecaaPevSRuns
import Derived.Test.YtfjnpgbjcgjecaaPevEqLakeTwo
namespace Go.PevTab
open Go.Pev Go.Num

theorem aErr_sub {t : Tab} {net : List Int} {l l' : List Reading} (h : aErr t net l = 0) (hs : ∀ r ∈ l', r ∈ l) (h1 : 1 ≤ l'.length) (h2 : l'.length ≤ 10) : aErr t net l' = 0 := by
  have ho := rdOk_of h
  unfold aErr at h ⊢
  split at h
  · rename_i e1
    rw [if_pos e1]
    split at h
    · rename_i e2
      rw [if_pos e2]
      unfold rdErr
      rw [if_neg (by omega), if_neg (by omega)]
      exact firstErr_zero.2 fun r hr => ho.l3 r (hs r hr)
    · rename_i e2; exact absurd h e2
  · rename_i e1; exact absurd h e1
theorem aErr_tab {t : Tab} {net : List Int} {l : List Reading} (h : aErr t net l = 0) : tErr t = 0 := by
  unfold aErr at h
  split at h
  · assumption
  · rename_i e1; exact absurd h e1

/-- Does a volume at the beginning fit to a reading? -/
def fitsR (t : Tab) (net : List Int) (v : Int) (r : Reading) : Bool := decide ((perm t net r).lo ≤ v ∧ v ≤ (perm t net r).hi)

theorem fits_all (t : Tab) (net : List Int) (v : Int) (r : Reading) (l : List Reading) : (r :: l).all (fitsR t net v) = decide ((agr t net (r :: l)).lo ≤ v ∧ v ≤ (agr t net (r :: l)).hi) := by
  obtain ⟨h1, ⟨p, hp, hp2⟩, ⟨q, hq, hq2⟩⟩ := meet_le (l.map (perm t net)) (perm t net r)
  have he : agr t net (r :: l) = meet (perm t net r) (l.map (perm t net)) := rfl
  have hm : perm t net r :: l.map (perm t net) = (r :: l).map (perm t net) := rfl
  rw [hm] at h1 hp hq
  rw [he, Bool.eq_iff_iff, List.all_eq_true, decide_eq_true_eq]
  constructor
  · intro h
    obtain ⟨a, ha, rfl⟩ := List.mem_map.1 hp
    obtain ⟨b, hb, rfl⟩ := List.mem_map.1 hq
    have h3 := h a ha
    have h4 := h b hb
    unfold fitsR at h3 h4
    rw [decide_eq_true_eq] at h3 h4
    omega
  · intro h a ha
    have := h1 _ (List.mem_map.2 ⟨a, ha, rfl⟩)
    unfold fitsR
    rw [decide_eq_true_eq]
    omega

section
variable {N k : Nat}

theorem Two_round (hN : 1000000 ≤ N) {t : Tab} {net : List Int} {l : List Reading} (h : aErr t net l = 0) (hfew : t.length ≤ 12) (S : List Int) (v y7 y8 : Int) (hS : S.length ≤ 2) (n m : Nat) (hm : m < S.length) (a : Nat) (ha : a < l.length) (hav : S.getD m 0 = (a : Int)) (hord : 0 < m → S.getD (m - 1) 0 < (a : Int)) (hone : (perm t net (rdg l a)).hi < (perm t net (rdg l a)).lo ↔ S.length = 1) (some : List Reading) (hsome : some.length ≤ 10) :
    L_law01_LakeTwo_12 N (k + 15) (n + 1) (net.map cI) (S.map cI) (some.map cR) (m : Int) (t.map cK) (l.map cR) v y7 y8 = L_law01_LakeTwo_12 N (k + 15) n (net.map cI) (S.map cI) ((some ++ [rdg l a]).map cR) ((m + 1 : Nat) : Int) (t.map cK) (l.map cR) v y7 y8 := by
  have ho := rdOk_of h
  have hl2 := ho.l2
  have hn1 := ho.n1
  have c1 : (m : Int) < (S.length : Int) := by omega
  have c2 : (0 : Int) ≤ (m : Int) := by omega
  have e1 : w64 ((m : Int) + 1) = ((m + 1 : Nat) : Int) := by rw [w64_id] <;> omega
  have e2 : w64 ((l.length : Int) - 1) = (l.length : Int) - 1 := by rw [w64_id] <;> omega
  have c3 : (0 : Int) ≤ (a : Int) ∧ (a : Int) ≤ (l.length : Int) - 1 := by omega
  have c4 : (0 : Int) ≤ (a : Int) := by omega
  have c5 : (a : Int) < (l.length : Int) := by omega
  have hr : room (some.map cR) [[PV.int .i64 (rdg l a).t, PV.int .i64 (rdg l a).lo, PV.int .i64 (rdg l a).hi]] 24 = true := room_row _ _ _ (by rw [List.length_map]; omega) (by decide)
  have eo : some.map cR ++ [[PV.int .i64 (rdg l a).t, PV.int .i64 (rdg l a).lo, PV.int .i64 (rdg l a).hi]] = (some ++ [rdg l a]).map cR := by rw [List.map_append]; rfl
  have g1 := ref_Copy (N := N) (k := k + 14) t (by omega)
  have g2 := base_CopyInts (N := N) (k := k + 14) net (by omega)
  have g3 : ev (envF N) (k + 15) F_lake_AgreedOf [vTab t, .sl none [.int .i64] (net.map cI), .sl none [.int .i64, .int .i64, .int .i64] [[.int .i64 (rdg l a).t, .int .i64 (rdg l a).lo, .int .i64 (rdg l a).hi]]] = Option.some (agR t net [rdg l a]) := lake_AgreedOf (k := k + 8) hN t net [rdg l a]
  have hag : agR t net [rdg l a] = if (perm t net (rdg l a)).lo ≤ (perm t net (rdg l a)).hi then .tup [vG (perm t net (rdg l a)), .int .i64 0] else .tup [vG ⟨0, 0⟩, .int .i64 13] := by
    unfold agR
    rw [if_pos (aErr_sub h (by intro r hr; rw [List.mem_singleton.1 hr]; exact rdg_mem l a ha) (by simp) (by simp))]
    rfl
  have hlen : ((S.length : Int) = 1) ↔ S.length = 1 := by omega
  have hcl : (decide (asI (nth (asT (agR t net [rdg l a])) 1) = 13) == decide ((S.length : Int) = 1)) = true := by
    rw [hag, beq_iff_eq, decide_eq_decide, hlen, ← hone]
    by_cases hc : (perm t net (rdg l a)).lo ≤ (perm t net (rdg l a)).hi
    · rw [if_pos hc]
      simp only [asT_tup, nth_one, asI_int]
      constructor
      · intro h; simp at h
      · intro h; omega
    · rw [if_neg hc]
      simp only [asT_tup, nth_one, asI_int]
      constructor
      · intro _; omega
      · intro _; trivial
  rw [L_law01_LakeTwo_12_eq]
  by_cases h0 : 0 < m
  · have c6 : (0 : Int) < (m : Int) := by omega
    have e3 : w64 ((m : Int) - 1) = ((m - 1 : Nat) : Int) := by rw [w64_id] <;> omega
    have c7 : (0 : Int) ≤ ((m - 1 : Nat) : Int) := by omega
    have c8 : ((m - 1 : Nat) : Int) < (S.length : Int) := by omega
    have c9 : ¬ ((a : Int) ≤ S.getD (m - 1) 0) := by have := hord h0; omega
    simp only [cond_dec, cond_ndec, c1, c2, c3, c4, c5, c6, List.length_map, if_true, Int.toNat_natCast, leaf_cI, leaf_cR0, leaf_cR1, leaf_cR2, hav, e1, e2, e3, c7, c8, c9, if_false, base_Within (k := k + 14), obind, asB_bool, hr, cond_t, cond_f, g1, g2, asA_agg, nth_zero, asL_sl, g3, hcl, Bool.not_true, eo, and_self, decide_true]
  · have c6 : ¬ ((0 : Int) < (m : Int)) := by omega
    simp only [cond_dec, cond_ndec, c1, c2, c3, c4, c5, c6, List.length_map, if_true, if_false, Int.toNat_natCast, leaf_cI, leaf_cR0, leaf_cR1, leaf_cR2, hav, e1, e2, base_Within (k := k + 14), obind, asB_bool, hr, cond_t, cond_f, g1, g2, asA_agg, nth_zero, asL_sl, g3, hcl, Bool.not_true, eo, and_self, decide_true]

theorem Two_last (hN : 1000000 ≤ N) {t : Tab} {net : List Int} {l : List Reading} (h : aErr t net l = 0) (hfew : t.length ≤ 12) (S : List Int) (v y7 y8 : Int) (hS : S.length ≤ 2) (n : Nat) (r : Reading) (some : List Reading) (hsome : ∀ q ∈ r :: some, q ∈ l) (hlen : some.length ≤ 9) (hcl : (agr t net (r :: some)).hi < (agr t net (r :: some)).lo) :
    L_law01_LakeTwo_12 N (k + 15) (n + 1) (net.map cI) (S.map cI) ((r :: some).map cR) (S.length : Int) (t.map cK) (l.map cR) v y7 y8 = Option.some (.bool true) := by
  have ho := rdOk_of h
  have hn1 := ho.n1
  have g1 := ref_Copy (N := N) (k := k + 14) t (by omega)
  have g2 := base_CopyInts (N := N) (k := k + 14) net (by omega)
  have g3 := lake_AgreedOf (k := k + 8) hN t net (r :: some)
  unfold agR at g3
  rw [if_pos (aErr_sub h hsome (by simp) (by simp; omega)), if_neg (by omega)] at g3
  rw [L_law01_LakeTwo_12_eq, cond_dec, List.length_map, if_neg (by omega), g1]
  simp only [obind, g2, asA_agg, nth_zero, asL_sl, g3, asT_tup, nth_one, asI_int, decide_true]

theorem Two_clash (hN : 1000000 ≤ N) {t : Tab} {net : List Int} {l : List Reading} (h : aErr t net l = 0) (hfew : t.length ≤ 12) (v y7 y8 : Int) (hc : contra (l.map (perm t net)) ≠ []) :
    (1 ≤ (contra (l.map (perm t net))).length ∧ (contra (l.map (perm t net))).length ≤ 2) ∧ L_law01_LakeTwo_12 N (k + 15) N (net.map cI) ((contra (l.map (perm t net))).map cI) [] ((0 : Nat) : Int) (t.map cK) (l.map cR) v y7 y8 = Option.some (.bool true) := by
  obtain ⟨M, rfl⟩ : ∃ M, N = M + 3 := ⟨N - 3, by omega⟩
  cases f1 : find1 (l.map (perm t net)) (l.map (perm t net)).length 0 with
  | some i =>
    have hco : contra (l.map (perm t net)) = [(i : Int)] := by unfold contra; rw [f1]
    obtain ⟨_, g2, g3⟩ := find1_some f1
    rw [List.length_map] at g2
    have hi : i < l.length := by omega
    rw [rgs_map t net l i hi] at g3
    rw [hco]
    refine ⟨by simp, ?_⟩
    have r1 := Two_round (k := k) hN h hfew [(i : Int)] v y7 y8 (by simp) (M + 2) 0 (by simp) i hi rfl (fun h => by omega) (by simp [g3]) [] (by simp)
    have r2 := Two_last (k := k) hN h hfew [(i : Int)] v y7 y8 (by simp) (M + 1) (rdg l i) [] (by
      intro q hq
      rw [List.mem_singleton.1 hq]
      exact rdg_mem l i hi) (by simp) g3
    exact r1.trans r2
  | none =>
    cases f3 : find3 (l.map (perm t net)) (l.map (perm t net)).length 0 with
    | none => exact absurd (by unfold contra; rw [f1, f3]) hc
    | some ij =>
      obtain ⟨i, j⟩ := ij
      have hco : contra (l.map (perm t net)) = [(i : Int), (j : Int)] := by unfold contra; rw [f1, f3]
      obtain ⟨_, g2, g3, g4, g5⟩ := find3_some f3
      rw [List.length_map] at g2 g4
      have hi : i < l.length := by omega
      have n1 := find1_none f1 i (by omega) (by rw [List.length_map]; omega)
      have n2 := find1_none f1 j (by omega) (by rw [List.length_map]; omega)
      rw [rgs_map t net l i hi] at n1 g5
      rw [rgs_map t net l j g4] at n2 g5
      rw [hco]
      refine ⟨by simp, ?_⟩
      have r1 := Two_round (k := k) hN h hfew [(i : Int), (j : Int)] v y7 y8 (by simp) (M + 2) 0 (by simp) i hi rfl (fun h => by omega) (by simp; omega) [] (by simp)
      have r2 := Two_round (k := k) hN h hfew [(i : Int), (j : Int)] v y7 y8 (by simp) (M + 1) 1 (by simp) j g4 rfl (fun _ => by simp; omega) (by simp; omega) [rdg l i] (by simp)
      have r3 := Two_last (k := k) hN h hfew [(i : Int), (j : Int)] v y7 y8 (by simp) M (rdg l i) [rdg l j] (by
        intro q hq
        simp only [List.mem_cons, List.not_mem_nil, or_false] at hq
        rcases hq with rfl | rfl
        · exact rdg_mem l i hi
        · exact rdg_mem l j g4) (by simp) g5
      exact (r1.trans r2).trans r3

theorem Two_sum (hN : 1000000 ≤ N) {t : Tab} {net : List Int} {l : List Reading} (h : aErr t net l = 0) (hfew : t.length ≤ 12) (v y8 y9 : Int) (hv : -1000000000 ≤ v ∧ v ≤ 2000000000) (n26 i : Nat) (hi : i < l.length) (all : Bool) : ∀ (d n j : Nat), j + d = (rdg l i).t.toNat → d < n →
    L_law01_LakeTwo_30 N (k + 15) n n26 (net.map cI) all (i : Int) (v + psum net j) (j : Int) (t.map cK) (l.map cR) v y8 y9 = L_law01_LakeTwo_26 N (k + 15) n26 (net.map cI) (all && fitsR t net v (rdg l i)) ((i + 1 : Nat) : Int) (t.map cK) (l.map cR) v y8 y9
  | 0, n + 1, j, hd, hn => by
    have ho := rdOk_of h
    have hl2 := ho.l2
    have hn1 := ho.n1
    have hr := ho.l3 _ (rdg_mem l i hi)
    have ht := aErr_tab h
    have c1 : (0 : Int) ≤ (i : Int) := by omega
    have c2 : (i : Int) < (l.length : Int) := by omega
    have c3 : ¬ ((j : Int) < (rdg l i).t) := by have := hr.1; omega
    have e1 : w64 ((i : Int) + 1) = ((i + 1 : Nat) : Int) := by rw [w64_id] <;> omega
    have g1 := ref_Copy (N := N) (k := k + 14) t (by omega)
    have g2 := lake_LevelAt (k := k + 9) hN t (v + psum net j)
    have hj : (rdg l i).t.toNat = j := by omega
    have hp : fitsR t net v (rdg l i) = decide (vlHi t (rdg l i).lo ≤ v + psum net j ∧ v + psum net j ≤ vlLo t (rdg l i).hi) := by
      unfold fitsR perm
      rw [decide_eq_decide, hj]
      simp only
      omega
    rw [L_law01_LakeTwo_30_eq]
    by_cases hV : IsV t (v + psum net j)
    · have a1 := ho.tab.galois_lo hV hr.2.2.1
      have a2 := ho.tab.galois_hi hV hr.2.2.2.1
      simp only [ht, hV, and_self, if_true] at g2
      simp only [cond_dec, cond_ndec, c1, c2, c3, List.length_map, if_true, if_false, Int.toNat_natCast, leaf_cR0, leaf_cR1, leaf_cR2, g1, obind, asA_agg, nth_zero, asL_sl, g2, asT_tup, nth_one, asI_int, e1]
      rw [hp]
      cases all with
      | false => simp only [cond_f, Bool.false_and]
      | true =>
        simp only [cond_t, Bool.true_and]
        by_cases b1 : (rdg l i).lo ≤ lvLo t (v + psum net j)
        · have hd : decide (lvHi t (v + psum net j) ≤ (rdg l i).hi) = decide (vlHi t (rdg l i).lo ≤ v + psum net j ∧ v + psum net j ≤ vlLo t (rdg l i).hi) := by
            rw [decide_eq_decide, a2]
            have := a1.1 b1
            omega
          rw [if_pos b1, hd]
        · rw [if_neg b1]
          have : ¬ (vlHi t (rdg l i).lo ≤ v + psum net j) := fun h => b1 (a1.2 h)
          have hd : decide (vlHi t (rdg l i).lo ≤ v + psum net j ∧ v + psum net j ≤ vlLo t (rdg l i).hi) = false := by
            rw [decide_eq_false_iff_not]
            omega
          rw [hd]
    · have hnp : fitsR t net v (rdg l i) = false := by
        rw [hp, decide_eq_false_iff_not]
        intro hh
        obtain ⟨_, u1⟩ := ho.tab.vl_volume hr.2.2.1
        obtain ⟨u2, _⟩ := ho.tab.vl_volume hr.2.2.2.1
        exact hV ⟨Int.le_trans u1.1 hh.1, Int.le_trans hh.2 u2.2⟩
      simp only [ht, hV, and_false, if_true, if_false] at g2
      simp only [cond_dec, cond_ndec, c1, c2, c3, List.length_map, if_true, if_false, Int.toNat_natCast, leaf_cR0, leaf_cR1, leaf_cR2, g1, obind, asA_agg, nth_zero, asL_sl, g2, asT_tup, nth_one, asI_int, e1, show ¬ ((2 : Int) = 0) by decide, hnp, Bool.and_false]
      cases all <;> rfl
  | d + 1, n + 1, j, hd, hn => by
    have ho := rdOk_of h
    have hl2 := ho.l2
    have hn1 := ho.n1
    have hr := ho.l3 _ (rdg_mem l i hi)
    have hr1 := hr.1
    have hr2 := hr.2.1
    have b := psum_bound ho.n2 j
    have b2 := psum_bound ho.n2 (j + 1)
    have c1 : (0 : Int) ≤ (i : Int) := by omega
    have c2 : (i : Int) < (l.length : Int) := by omega
    have c3 : (j : Int) < (rdg l i).t := by omega
    have c4 : (0 : Int) ≤ (j : Int) := by omega
    have c5 : (j : Int) < (net.length : Int) := by omega
    have e1 : w64 ((j : Int) + 1) = ((j + 1 : Nat) : Int) := by rw [w64_id] <;> omega
    have e2 : w64 (v + psum net j + net.getD j 0) = v + psum net (j + 1) := by
      have : v + psum net j + net.getD j 0 = v + psum net (j + 1) := by simp only [psum]; omega
      rw [this, w64_id] <;> omega
    rw [L_law01_LakeTwo_30_eq]
    simp only [cond_dec, c1, c2, c3, c4, c5, List.length_map, if_true, Int.toNat_natCast, leaf_cR0, leaf_cI, e1, e2]
    exact Two_sum hN h hfew v y8 y9 hv n26 i hi all d n (j + 1) (by omega) (by omega)

theorem Two_all (hN : 1000000 ≤ N) {t : Tab} {net : List Int} {l : List Reading} (h : aErr t net l = 0) (hfew : t.length ≤ 12) (v y8 y9 : Int) (hv : -1000000000 ≤ v ∧ v ≤ 2000000000) : ∀ (d n i : Nat) (all : Bool), i + d = l.length → d < n →
    L_law01_LakeTwo_26 N (k + 15) n (net.map cI) all (i : Int) (t.map cK) (l.map cR) v y8 y9 = some (.bool ((all && (l.drop i).all (fitsR t net v)) == decide (y8 ≤ v ∧ v ≤ y9)))
  | 0, n + 1, i, all, hd, hn => by
    rw [L_law01_LakeTwo_26_eq, cond_dec, List.length_map, if_neg (by omega), base_Within, List.drop_eq_nil_of_le (by omega)]
    simp only [obind, asB_bool, List.all_nil, Bool.and_true]
  | d + 1, n + 1, i, all, hd, hn => by
    have ho := rdOk_of h
    have hl2 := ho.l2
    have hn1 := ho.n1
    have hr := ho.l3 _ (rdg_mem l i (by omega))
    have hr2 := hr.2.1
    have := Two_sum (k := k) hN h hfew v y8 y9 hv n i (by omega) all (rdg l i).t.toNat N 0 (by omega) (by omega)
    rw [show v + psum net 0 = v by simp [psum]] at this
    rw [L_law01_LakeTwo_26_eq, cond_dec, List.length_map, if_pos (by omega)]
    refine this.trans ?_
    rw [Two_all hN h hfew v y8 y9 hv d n (i + 1) _ (by omega) (by omega), rdg_drop l i (by omega), List.all_cons, Bool.and_assoc]

theorem LakeTwo_ev (hN : 1000000 ≤ N) (hA : ev (envF N) (k + 15) F_law01_awake [] = some (.bool true)) (t : Tab) (net : List Int) (l : List Reading) (v : Int) : ev (envF N) (k + 16) F_law01_LakeTwo [vTab t, .sl none [.int .i64] (net.map cI), .agg [.sl none [.int .i64, .int .i64, .int .i64] (l.map cR), .int .i64 v]] = some (.bool true) := by
  rw [E_law01_LakeTwo, hA]
  simp only [obind, asB_bool, Bool.not_true, cond_f, law_Few (k := k + 14), cond_ndec, List.length_map, cond_dec]
  by_cases hfew : t.length ≤ 12
  · by_cases h24 : 24 < net.length
    · rw [if_pos hfew, if_pos (by omega)]
    · by_cases h10 : 10 < l.length
      · rw [if_pos hfew, if_neg (by omega), if_pos (by omega)]
      · have g6 := ref_AllErr (k := k + 1) hN t net l
        rw [if_pos hfew, if_neg (by omega), if_neg (by omega), g6]
        simp only [obind, asI_int, cond_ndec, base_Within (k := k + 14), asB_bool]
        by_cases h : aErr t net l = 0
        · by_cases hv : -1000000000 ≤ v ∧ v ≤ 2000000000
          · have ho := rdOk_of h
            have g1 := ref_Copy (N := N) (k := k + 14) t (by omega)
            have g2 := base_CopyInts (N := N) (k := k + 14) net (by omega)
            have g3 := ref_CopyReadings (N := N) (k := k + 14) l (by omega)
            have g4 := lake_AgreedOf (k := k + 8) hN t net l
            have g5 := lake_Contradicting (k := k + 8) hN t net l
            unfold agR at g4
            unfold coR at g5
            rw [if_pos h] at g4 g5
            cases l with
            | nil => have := ho.l1; simp at this
            | cons r l =>
              have hh := helly (perm t net r) (l.map (perm t net))
              have he : agr t net (r :: l) = meet (perm t net r) (l.map (perm t net)) := rfl
              rw [← he] at hh
              rw [if_pos h, if_pos hv, g1]
              simp only [obind, g2, g3, asA_agg, nth_zero, asL_sl, g4, g5]
              by_cases hc : (agr t net (r :: l)).lo ≤ (agr t net (r :: l)).hi
              · have hn := hh.2 hc
                have ha := Two_all (k := k) hN h hfew v (agr t net (r :: l)).lo (agr t net (r :: l)).hi hv (r :: l).length N 0 true (by omega) (by omega)
                rw [List.drop_zero, fits_all, Bool.true_and, beq_self_eq_true] at ha
                rw [if_pos hc, List.map_cons, hn, if_pos rfl]
                simp only [asT_tup, asA_agg, nth_zero, nth_one, asI_int, if_true]
                rw [if_neg (by omega)]
                exact ha
              · have hn : contra (perm t net r :: l.map (perm t net)) ≠ [] := fun e => hc (hh.1 e)
                obtain ⟨g7, g8⟩ := Two_clash (k := k) hN h hfew v 0 0 hn
                rw [if_neg hc, List.map_cons, if_neg hn]
                simp only [asT_tup, asA_agg, nth_zero, nth_one, asI_int, if_true, asL_sl, List.length_map, show ¬ ((13 : Int) = 0) by decide, if_false]
                rw [if_pos (by rw [List.map_cons] at g7; omega)]
                exact g8
          · rw [if_pos h, if_neg hv]
        · rw [if_neg h]
  · rw [if_neg hfew]

end
end Go.PevTab
