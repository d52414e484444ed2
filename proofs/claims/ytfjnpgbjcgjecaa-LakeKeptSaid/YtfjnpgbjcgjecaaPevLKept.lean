/- THE LAW THAT WATER IS NEITHER MADE NOR LOST over the evaluator: it gives true. -/
import Derived.Test.YtfjnpgbjcgjecaaPevSRuns
import Derived.Test.YtfjnpgbjcgjecaaPevEqLakeKept
namespace Go.PevTab
open Go.Pev Go.Num

theorem fErr_of {f : Flow} (h : FlowIn f) : fErr f = 0 := by
  unfold fErr FlowIn at *
  rw [if_pos h]
theorem lErr_of {l : List Flow} (h1 : l.length ≤ 200) (h2 : FlowsIn l) : lErr l = 0 := by
  unfold lErr
  rw [if_neg (by omega), if_pos]
  unfold allOk
  rw [List.all_eq_true]
  intro f hf
  simp [fErr_of (h2 f hf)]
theorem bErr_of {p : Pair} {s t : Vols} (h : bErr p s = 0) (ht : Valid p t) : bErr p t = 0 := by
  unfold bErr at h ⊢
  split at h
  · rename_i h1
    rw [if_pos h1]
    unfold sErr
    exact if_pos ht
  · rename_i h1; exact absurd h h1
theorem sErr_of {p : Pair} {t : Vols} (ht : Valid p t) : sErr p t = 0 := by
  unfold sErr
  exact if_pos ht

section
variable {N k : Nat}

theorem LakeKept_tail (hN : 1000000 ≤ N) {p : Pair} {s : Vols} {l : List Flow} (hb : bErr p s = 0) (hfew : p.u.length ≤ 12 ∧ p.l.length ≤ 12) (hf : FlowsIn l) (hl : l.length ≤ 24) (hok : (runG p s l).ok = true) (now : Vols) (n : Nat) (i : Nat) (w : Int) (hil : i = l.length) (hn : 0 < n) (hnow : Valid p now) (hw : now.u + now.l + (runG p s l).y.e + (runG p s l).y.s = s.u + s.l + w) (hw0 : 0 ≤ w) (hw1 : w ≤ 20000000 * i) :
    L_law01_LakeKept_13 N (k + 15) n (l.map cF) ((runG p s l).ss.map cV) w (i : Int) (p.u.map cK) (p.l.map cK) p.r s.u s.l (runG p s l).y.e (runG p s l).y.s now.u now.l (runG p s l).y.e (runG p s l).y.s = some (.bool true) := by
  obtain ⟨n, rfl⟩ : ∃ m, n = m + 1 := ⟨n - 1, by omega⟩
  obtain ⟨hp, hu, hll⟩ := bErr_zero hb
  have hs : Valid p s := ⟨hu, hll⟩
  obtain ⟨v0, v1, v2, v3, v4⟩ := run_ok hp l s hs hf
  have hlen := run_len p l s hok
  obtain ⟨h, hh⟩ : ∃ h, l.length / 2 = h := ⟨_, rfl⟩
  have hA : FlowsIn (l.take h) := fun f hm => hf f (List.mem_of_mem_take hm)
  have hB : FlowsIn (l.drop h) := fun f hm => hf f (List.mem_of_mem_drop hm)
  have hsplit : l.take h ++ l.drop h = l := List.take_append_drop h l
  have hokAB : (runG p s (l.take h ++ l.drop h)).ok = true := by rw [hsplit]; exact hok
  obtain ⟨c1, c2, c3, c4, c5⟩ := run_append (p := p) (l.take h) (l.drop h) s hokAB
  rw [hsplit] at c3 c4 c5
  obtain ⟨ra, hra⟩ : ∃ ra, runG p s (l.take h) = ra := ⟨_, rfl⟩
  have lA := run_len p (l.take h) s c1
  rw [hra] at c1 c2 c3 c4 c5 lA
  have lA : ra.ss.length = h := by rw [lA, List.length_take]; omega
  obtain ⟨mid, hmid⟩ : ∃ mid, ra.ss.getLastD s = mid := ⟨_, rfl⟩
  rw [hmid] at c2 c3 c4 c5
  obtain ⟨rb, hrb⟩ : ∃ rb, runG p mid (l.drop h) = rb := ⟨_, rfl⟩
  rw [hrb] at c2 c3 c4 c5
  have vA := (run_ok hp (l.take h) s hs hA)
  rw [hra] at vA
  have hmv : Valid p mid := by
    rw [← hmid, List.getLastD_eq_getLast?]
    cases hq : ra.ss.getLast? with
    | none => exact hs
    | some a => exact vA.1 a (List.mem_of_getLast? hq)
  have vB := run_ok hp (l.drop h) mid hmv hB
  rw [hrb] at vB
  have tA : (runG p s l).ss.take h = ra.ss := by rw [c3, ← lA, List.take_left]
  have tB : (runG p s l).ss.drop h = rb.ss := by rw [c3, ← lA, List.drop_left]
  have g1 := ref_CopyPair (N := N) (k := k + 13) p (by omega) (by omega)
  have g2 := ref_CopyList (N := N) (k := k + 14) (l.take h) (by rw [List.length_take]; omega)
  have g3 := ref_CopyList (N := N) (k := k + 14) (l.drop h) (by rw [List.length_drop]; omega)
  have g4 := lake_RunOf (k := k + 7) hN p s (l.take h)
  have g5 := lake_RunOf (k := k + 7) hN p mid (l.drop h)
  have eA : lErr (l.take h) = 0 := lErr_of (by rw [List.length_take]; omega) hA
  have eB : lErr (l.drop h) = 0 := lErr_of (by rw [List.length_drop]; omega) hB
  have bm := bErr_of hb hmv
  unfold runR at g4 g5
  rw [if_neg (by omega), if_neg (by omega), hra] at g4
  rw [if_neg (by omega), if_neg (by omega), hrb] at g5
  unfold runE at g4 g5
  rw [if_pos c1] at g4
  rw [if_pos c2] at g5
  have b1 := Ok.lo_hi hp.u
  have b2 := Ok.lo_hi hp.l
  have m1 : lo p.u ≤ now.u := hnow.1.1
  have m2 : now.u ≤ hi p.u := hnow.1.2
  have m3 : lo p.l ≤ now.l := hnow.2.1
  have m4 : now.l ≤ hi p.l := hnow.2.2
  have m5 : lo p.u ≤ s.u := hs.1.1
  have m6 : s.u ≤ hi p.u := hs.1.2
  have m7 : lo p.l ≤ s.l := hs.2.1
  have m8 : s.l ≤ hi p.l := hs.2.2
  have w1 : w64 (w64 (w64 (now.u + now.l) + (runG p s l).y.e) + (runG p s l).y.s) = now.u + now.l + (runG p s l).y.e + (runG p s l).y.s := by
    rw [w64_id (x := now.u + now.l) (by omega) (by omega), w64_id (x := now.u + now.l + (runG p s l).y.e) (by omega) (by omega), w64_id (by omega) (by omega)]
  have w2 : w64 (w64 (s.u + s.l) + w) = s.u + s.l + w := by
    rw [w64_id (x := s.u + s.l) (by omega) (by omega), w64_id (by omega) (by omega)]
  have td : Int.tdiv ((l.length : Nat) : Int) 2 = (h : Int) := by rw [← hh]; rfl
  have w3 : w64 (h : Int) = (h : Int) := by rw [w64_id] <;> omega
  have k1 : (0 : Int) ≤ (h : Int) := by omega
  have k2 : (h : Int) ≤ (l.length : Int) := by omega
  have k3 : (h : Int) ≤ ((runG p s l).ss.length : Int) := by omega
  have w4 : w64 (ra.y.e + rb.y.e) = (runG p s l).y.e := by rw [w64_id] <;> omega
  have w5 : w64 (ra.y.s + rb.y.s) = (runG p s l).y.s := by rw [w64_id] <;> omega
  have f1 : List.drop 0 (List.take h (l.map cF)) = (l.take h).map cF := by rw [List.drop_zero, List.map_take]
  have f2 : List.drop h (List.take (l.map cF).length (l.map cF)) = (l.drop h).map cF := by rw [List.take_length, List.map_drop]
  have f3 : List.drop 0 (List.take h ((runG p s l).ss.map cV)) = ra.ss.map cV := by rw [List.drop_zero, ← List.map_take, tA]
  have f4 : List.drop h (List.take ((runG p s l).ss.map cV).length ((runG p s l).ss.map cV)) = rb.ss.map cV := by rw [List.take_length, ← List.map_drop, tB]
  have g6 := ref_SameStates (N := N) (k := k + 14) hN ra.ss (by omega)
  have lB : rb.ss.length ≤ 100000 := by rw [← tB, List.length_drop]; omega
  have g7 := ref_SameStates (N := N) (k := k + 14) hN rb.ss lB
  rw [List.length_map] at f2 f4
  rw [L_law01_LakeKept_13_eq]
  have c0 : ¬ ((i : Int) < (l.length : Int)) := by omega
  simp only [cond_dec, cond_ndec, List.length_map, c0, if_false, decide_true, Bool.and_self, Bool.not_true, cond_f, cond_t, w1, w2, hw, if_true, g1, obind, td, w3, k1, k2, Int.toNat_natCast, f1, g2, asA_agg, nth_zero, nth_one, nth_two, asL_sl, asI_int, g4]
  by_cases h0 : 0 < h
  · have c6 : (0 : Int) < (h : Int) := by omega
    have w6 : w64 ((h : Int) - 1) = ((h - 1 : Nat) : Int) := by rw [w64_id] <;> omega
    have k4 : (0 : Int) ≤ ((h - 1 : Nat) : Int) := by omega
    have k5 : ((h - 1 : Nat) : Int) < ((runG p s l).ss.length : Int) := by omega
    have hmid2 : vls (runG p s l).ss (h - 1) = mid := by
      rw [← hmid]
      unfold vls
      rw [c3, List.getD_eq_getElem?_getD, List.getElem?_append_left (by omega)]
      rw [← lA, ← List.getLast?_eq_getElem?, List.getLastD_eq_getLast?]
      cases hq : ra.ss.getLast? with
      | some a => rfl
      | none => rw [List.getLast?_eq_none_iff] at hq; rw [hq] at lA; simp at lA; omega
    simp only [c6, if_true, w6, k4, k5, f2, g3, obind, Int.toNat_natCast, leaf_cV0, leaf_cV1, hmid2, asL_sl, g5, asT_tup, nth_zero, nth_one, nth_two, asI_int, asA_agg, k3, f3, f4, List.nil_append, g6, g7, asB_bool, cond_t, base_Within (k := k + 14), cond_dec, Int.zero_add, w4, w5]
    rw [if_pos (show 0 ≤ ra.y.e ∧ ra.y.e ≤ (runG p s l).y.e by omega), if_pos (show 0 ≤ ra.y.s ∧ ra.y.s ≤ (runG p s l).y.s by omega)]
    simp
  · have c6 : ¬ ((0 : Int) < (h : Int)) := by omega
    have hmid2 : mid = s := by
      rw [← hmid]
      cases hq : ra.ss with
      | nil => rfl
      | cons a tl => rw [hq, List.length_cons] at lA; omega
    rw [hmid2] at g5
    simp only [c6, if_false, f2, g3, obind, Int.toNat_natCast, asL_sl, g5, asT_tup, nth_zero, nth_one, nth_two, asI_int, asA_agg, if_true, k3, f3, f4, List.nil_append, g6, g7, asB_bool, cond_t, base_Within (k := k + 14), cond_dec, Int.zero_add, w4, w5]
    rw [if_pos (show 0 ≤ ra.y.e ∧ ra.y.e ≤ (runG p s l).y.e by omega), if_pos (show 0 ≤ ra.y.s ∧ ra.y.s ≤ (runG p s l).y.s by omega)]
    simp

theorem vls_drop (l : List Vols) (i : Nat) (a : Vols) (tl : List Vols) (h : l.drop i = a :: tl) : vls l i = a ∧ i < l.length ∧ l.drop (i + 1) = tl := by
  have hi : i < l.length := by
    rcases Nat.lt_or_ge i l.length with h1 | h1
    · exact h1
    · rw [List.drop_eq_nil_of_le h1] at h; cases h
  rw [List.drop_eq_getElem_cons hi] at h
  cases h
  refine ⟨?_, hi, rfl⟩
  unfold vls
  rw [List.getD_eq_getElem?_getD, List.getElem?_eq_getElem hi, Option.getD_some]

theorem LakeKept_loop (hN : 1000000 ≤ N) {p : Pair} {s : Vols} {l : List Flow} (hb : bErr p s = 0) (hfew : p.u.length ≤ 12 ∧ p.l.length ≤ 12) (hf : FlowsIn l) (hl : l.length ≤ 24) (hok : (runG p s l).ok = true) : ∀ (d n i : Nat) (now : Vols) (w E S : Int), i + d = l.length → d < n → Valid p now →
    (runG p now (l.drop i)).ok = true → (runG p now (l.drop i)).ss = (runG p s l).ss.drop i → (runG p now (l.drop i)).y.e = (runG p s l).y.e - E → (runG p now (l.drop i)).y.s = (runG p s l).y.s - S → 0 ≤ E → E ≤ 2000000000 * i → 0 ≤ S → S ≤ 2000000000 * i →
    now.u + now.l + E + S = s.u + s.l + w → 0 ≤ w → w ≤ 20000000 * i →
    L_law01_LakeKept_13 N (k + 15) n (l.map cF) ((runG p s l).ss.map cV) w (i : Int) (p.u.map cK) (p.l.map cK) p.r s.u s.l (runG p s l).y.e (runG p s l).y.s now.u now.l E S = some (.bool true)
  | 0, n, i, now, w, E, S, h1, h2, h3, r1, r2, r3, r4, e0, e1, s0, s1, hw, w0, w1 => by
    rw [List.drop_eq_nil_of_le (show l.length ≤ i by omega)] at r3 r4
    simp only [runG] at r3 r4
    have q1 : E = (runG p s l).y.e := by omega
    have q2 : S = (runG p s l).y.s := by omega
    subst q1 q2
    exact LakeKept_tail hN hb hfew hf hl hok now n i w (by omega) (by omega) h3 hw w0 w1
  | d + 1, n + 1, i, now, w, E, S, h1, h2, h3, r1, r2, r3, r4, e0, e1, s0, s1, hw, w0, w1 => by
    obtain ⟨hp, hu, hll⟩ := bErr_zero hb
    have hfi := hf _ (flo_mem l i (by omega))
    rw [flo_drop l i (by omega)] at r1 r2 r3 r4
    cases hst : step p now (flo l i) with
    | none => rw [run_none _ hst] at r1; cases r1
    | some r =>
      obtain ⟨s', x⟩ := r
      rw [run_some _ hst] at r1 r2 r3 r4
      simp only at r1 r2 r3 r4
      obtain ⟨a1, a2, a3, a4, a5, a6, a7⟩ := step_ok hp h3.1 h3.2 hst hfi
      obtain ⟨q1, q2, q3⟩ := vls_drop _ _ _ _ r2.symm
      have c1 : (i : Int) < (l.length : Int) := by omega
      have c2 : (0 : Int) ≤ (i : Int) := by omega
      have c3 : (i : Int) < ((runG p s l).ss.length : Int) := by omega
      have ei : w64 ((i : Int) + 1) = ((i + 1 : Nat) : Int) := by rw [w64_id] <;> omega
      have g1 := ref_CopyPair (N := N) (k := k + 13) p (by omega) (by omega)
      have g2 := lake_Step (k := k + 7) hN p now (flo l i)
      rw [stepR_ok (bErr_of hb h3) (fErr_of hfi), hst, stepE] at g2
      have g3 := ref_StateErr (N := N) (k := k + 12) hp s'
      rw [sErr_of ⟨a1, a2⟩] at g3
      unfold FlowIn at hfi
      have ew : w64 (w64 (w + (flo l i).a) + (flo l i).b) = w + (flo l i).a + (flo l i).b := by
        rw [w64_id (x := w + (flo l i).a) (by omega) (by omega), w64_id (by omega) (by omega)]
      have eE : w64 (E + x.e) = E + x.e := by rw [w64_id] <;> omega
      have eS : w64 (S + x.s) = S + x.s := by rw [w64_id] <;> omega
      have b1 : 0 ≤ x.e ∧ x.e ≤ 2000000000 := ⟨a3, a4⟩
      have b2 : 0 ≤ x.s ∧ x.s ≤ 2000000000 := ⟨a5, a6⟩
      rw [L_law01_LakeKept_13_eq]
      simp only [cond_dec, cond_ndec, List.length_map, c1, c2, c3, if_true, g1, obind, asA_agg, nth_zero, nth_one, nth_two, asL_sl, asI_int, Int.toNat_natCast, leaf_cF0, leaf_cF1, leaf_cF2, leaf_cV0, leaf_cV1, g2, asT_tup, q1, decide_true, Bool.and_self, Bool.not_true, cond_f, cond_t, g3, base_Within (k := k + 14), asB_bool, b1, b2, ew, ei, eE, eS]
      exact LakeKept_loop hN hb hfew hf hl hok d n (i + 1) s' (w + (flo l i).a + (flo l i).b) (E + x.e) (S + x.s) (by omega) (by omega) ⟨a1, a2⟩ r1 (by rw [q3]) (by omega) (by omega) (by omega) (by omega) (by omega) (by omega) (by omega) (by omega) (by omega)

theorem LakeKept_ev (hN : 1000000 ≤ N) (hA : ev (envF N) (k + 15) F_law01_awake [] = some (.bool true)) (p : Pair) (s : Vols) (l : List Flow) : ev (envF N) (k + 16) F_law01_LakeKept [vPair p, vVols s, vFlows l] = some (.bool true) := by
  rw [E_law01_LakeKept, hA]
  simp only [obind, asB_bool, Bool.not_true, cond_f, law_FewPair (k := k + 13), cond_ndec, cond_dec]
  by_cases hfew : p.u.length ≤ 12 ∧ p.l.length ≤ 12
  · rw [if_pos hfew, List.length_map]
    by_cases h24 : 24 < l.length
    · rw [if_pos (by omega)]
    · have g4 := ref_BothErr (k := k) hN p s
      have g5 := ref_ListErr (k := k + 12) hN l
      rw [if_neg (by omega), g4]
      simp only [obind, asI_int, cond_ndec]
      by_cases hb : bErr p s = 0
      · rw [if_pos hb, g5]
        simp only [obind, asI_int, cond_ndec]
        by_cases hl : lErr l = 0
        · have g1 := ref_CopyPair (N := N) (k := k + 13) p (by omega) (by omega)
          have g2 := ref_CopyList (N := N) (k := k + 14) l (by omega)
          have g3 := lake_RunOf (k := k + 7) hN p s l
          obtain ⟨hp, hs⟩ := bErr_zero hb
          obtain ⟨h3, h4⟩ := lErr_zero hl
          unfold runR at g3
          rw [if_neg (by omega), if_neg (by omega)] at g3
          rw [if_pos hl, g1]
          simp only [obind, g2, asA_agg, nth_zero, nth_one, nth_two, asI_int, asL_sl, g3]
          unfold runE
          cases hok : (runG p s l).ok with
          | false =>
            simp only [asT_tup, nth_two, asI_int, Bool.false_eq_true, if_false]
            simp
          | true =>
            have hlen := run_len p l s hok
            obtain ⟨v0, v1, v2, v3, v4⟩ := run_ok hp l s hs h4
            have b1 : 0 ≤ (runG p s l).y.e ∧ (runG p s l).y.e ≤ 48000000000 := by omega
            have b2 : 0 ≤ (runG p s l).y.s ∧ (runG p s l).y.s ≤ 48000000000 := by omega
            simp only [asT_tup, asA_agg, nth_zero, nth_one, nth_two, asI_int, asL_sl, if_true, List.nil_append, List.length_map, hlen, Int.zero_add, base_Within (k := k + 14), obind, asB_bool, cond_ndec, b1, b2, and_self]
            exact LakeKept_loop hN hb hfew h4 (by omega) hok l.length N 0 s 0 0 0 (by omega) (by omega) hs (by rw [List.drop_zero]; exact hok) (by rw [List.drop_zero, List.drop_zero]) (by rw [List.drop_zero]; omega) (by rw [List.drop_zero]; omega) (by omega) (by omega) (by omega) (by omega) (by omega) (by omega) (by omega)
        · rw [if_neg hl]
      · rw [if_neg hb]
  · rw [if_neg hfew]

end
end Go.PevTab
