/- THE LAW UP AND DOWN AGAIN over the evaluator: it gives true. -/
/- THE ARGUMENTS OF A ROW, OPENED: plain values stand for them. -/
/- FROM A CONTRACT TO A ROW 'returns true; the arguments read as before'. -/
/- THE LAWS' ARGUMENTS as plain data. -/
/- THE LAWS' ARGUMENTS as plain data: this seat's types. -/
/- THE LAWS' ARGUMENTS as plain data: tasks. -/
/- THE EXAMPLES that the law over the layers asks for first: they hold, by the kernel's own reckoning. -/
/- WHAT MAKES FUNCTION VALUES: slices.Values, lake.watch. -/
/- THE LAW UP AND DOWN AGAIN: its contract. -/
import Derived.Test.YtfjnpgbjcgjecaaPewG7
import Derived.Test.YtfjnpgbjcgjecaaPewG3
import Derived.Deep.Slices
import Derived.OpenShut
import Derived.WalkKit
import Derived.ProofKit
import Derived.ShutString
import Derived.ChangeOld
import Derived.SizedLaws
import Derived.Carry
import Derived.Test.YtfjnpgbjcgjecaaPewG4
import Derived.Test.YtfjnpgbjcgjecaaPewG6
import Derived.Tactics

namespace Go.PewTab
set_option linter.unusedSimpArgs false
set_option linter.unusedVariables false
open Go.Pew Go.Num

abbrev vDry (p : Pair) : PV := .agg [.sl none [.int .i64, .int .i64] (p.u.map cK), .sl none [.int .i64, .int .i64] (p.l.map cK), .int .i64 0]
def wideL (L : Lims) : Lims := ⟨⟨L.u.lo, L.u.hi, 1000000, 1000000, L.u.win⟩, ⟨L.l.lo, L.l.hi, 1000000, 1000000, L.l.win⟩⟩
abbrev vWide (L : Lims) (l : List Flow) : PV := .agg [.int .i64 L.u.lo, .int .i64 L.u.hi, .int .i64 1000000, .int .i64 1000000, .int .i64 L.u.win, .int .i64 L.l.lo, .int .i64 L.l.hi, .int .i64 1000000, .int .i64 1000000, .int .i64 L.l.win, .sl none [.int .i64, .int .i64, .int .i64] (l.map cF)]

theorem wide_err {p : Pair} {L : Lims} (h : limsErr p L = 0) : limsErr (dry p) (wideL L) = 0 := by
  obtain ⟨h1, h2⟩ := limsErr_zero h
  obtain ⟨a1, a2, a3, a4, a5, a6⟩ := limErr_zero h1
  obtain ⟨b1, b2, b3, b4, b5, b6⟩ := limErr_zero h2
  have e1 : limErr (dry p).u (wideL L).u = 0 := by
    unfold limErr
    rw [if_pos ⟨a1, a2, by show (0 : Int) ≤ 1000000 ∧ (1000000 : Int) ≤ 1000000; omega, by show (0 : Int) ≤ 1000000 ∧ (1000000 : Int) ≤ 1000000; omega, a5⟩]
    exact if_pos a6
  have e2 : limErr (dry p).l (wideL L).l = 0 := by
    unfold limErr
    rw [if_pos ⟨b1, b2, by show (0 : Int) ≤ 1000000 ∧ (1000000 : Int) ≤ 1000000; omega, by show (0 : Int) ≤ 1000000 ∧ (1000000 : Int) ≤ 1000000; omega, b5⟩]
    exact if_pos b6
  unfold limsErr
  rw [if_pos e1, e2]

section
variable {N k : Nat}

theorem ud_build (p : Pair) (s : Vols) (L : Lims) (l : List Flow) (hf : FlowsIn l) (hl : l.length ≤ 8) : ∀ (d n i : Nat), i + d = l.length → d < n →
    L_top_TopLakeUpAndDown_8 N k n (((ups l).take i).map cF) (((backs l).take i).map cF) (i : Int) (p.u.map cK) (p.l.map cK) 0 s.u s.l L.u.lo L.u.hi L.u.fall L.u.rise L.u.win L.l.lo L.l.hi L.l.fall L.l.rise L.l.win (l.map cF) =
    L_top_TopLakeUpAndDown_8 N k (n - d) ((ups l).map cF) ((backs l).map cF) (l.length : Int) (p.u.map cK) (p.l.map cK) 0 s.u s.l L.u.lo L.u.hi L.u.fall L.u.rise L.u.win L.l.lo L.l.hi L.l.fall L.l.rise L.l.win (l.map cF)
  | 0, n, i, h, hn => by
    have hi : i = l.length := by omega
    rw [hi, Nat.sub_zero, List.take_of_length_le (by rw [ups_len]; exact Nat.le_refl _), List.take_of_length_le (by rw [backs_len]; exact Nat.le_refl _)]
  | d + 1, n + 1, i, h, hn => by
    have c1 : (i : Int) < (l.length : Int) := by omega
    have c2 : (0 : Int) ≤ (i : Int) := by omega
    have ei : w64 ((i : Int) + 1) = ((i + 1 : Nat) : Int) := by rw [w64_id] <;> omega
    have w1 : w64 ((l.length : Int) - 1) = ((l.length - 1 : Nat) : Int) := by rw [w64_id] <;> omega
    have w2 : w64 (((l.length - 1 : Nat) : Int) - (i : Int)) = ((l.length - 1 - i : Nat) : Int) := by rw [w64_id] <;> omega
    have c3 : (0 : Int) ≤ ((l.length - 1 - i : Nat) : Int) := by omega
    have c4 : ((l.length - 1 - i : Nat) : Int) < (l.length : Int) := by omega
    have hx := (hf _ (flo_mem l (l.length - 1 - i) (by omega))).2.2
    have w3 : w64 (0 - (flo l (l.length - 1 - i)).x) = -(flo l (l.length - 1 - i)).x := by rw [w64_id] <;> omega
    have f1 : [PV.int .i64 0, .int .i64 0, .int .i64 (flo l i).x] = cF ⟨0, 0, (flo l i).x⟩ := rfl
    have f2 : [PV.int .i64 0, .int .i64 0, .int .i64 (-(flo l (l.length - 1 - i)).x)] = cF ⟨0, 0, -(flo l (l.length - 1 - i)).x⟩ := rfl
    have r1 : room (((ups l).take i).map cF) [cF ⟨0, 0, (flo l i).x⟩] 24 = true := room_row _ _ _ (by simp; omega) (by decide)
    have r2 : room (((backs l).take i).map cF) [cF ⟨0, 0, -(flo l (l.length - 1 - i)).x⟩] 24 = true := room_row _ _ _ (by simp; omega) (by decide)
    have e1 : ((ups l).take i).map cF ++ [cF ⟨0, 0, (flo l i).x⟩] = ((ups l).take (i + 1)).map cF := by
      rw [take_next _ _ (by rw [ups_len]; omega), ups_flo _ _ (by omega), List.map_append]
      rfl
    have e2 : ((backs l).take i).map cF ++ [cF ⟨0, 0, -(flo l (l.length - 1 - i)).x⟩] = ((backs l).take (i + 1)).map cF := by
      rw [take_next _ _ (by rw [backs_len]; omega), backs_flo _ _ (by omega), List.map_append]
      rfl
    rw [L_top_TopLakeUpAndDown_8_eq]
    simp only [cond_dec, c1, c2, List.length_map, if_true, Int.toNat_natCast, leaf_cF2, w1, w2, c3, c4, w3, ei, f1, f2, r1, r2, cond_t, e1, e2]
    rw [ud_build p s L l hf hl d n (i + 1) (by omega) (by omega), show n + 1 - (d + 1) = n - d by omega]

theorem ud_mid (x0 x1 : List (List PV)) (R D : List Vols) (hlen : D.length = R.length) (h8 : R.length ≤ 8) (h1 : 1 ≤ R.length) (hrev : ∀ i, i + 1 < R.length → vls D i = vls R (R.length - 2 - i))
    (x5 x6 : List (List PV)) (x7 x8 x9 x10 x11 x12 x13 x14 x15 x16 x17 x18 x19 : Int) (x20 : List (List PV)) (x21 x22 x23 x24 x25 x26 : Int) : ∀ (d n i : Nat), i + d = R.length - 1 → d < n →
    L_top_TopLakeUpAndDown_24 N k n x0 x1 (R.map cV) (D.map cV) (i : Int) x5 x6 x7 x8 x9 x10 x11 x12 x13 x14 x15 x16 x17 x18 x19 x20 x21 x22 x23 x24 x25 x26 =
    L_top_TopLakeUpAndDown_24 N k (n - d) x0 x1 (R.map cV) (D.map cV) ((R.length - 1 : Nat) : Int) x5 x6 x7 x8 x9 x10 x11 x12 x13 x14 x15 x16 x17 x18 x19 x20 x21 x22 x23 x24 x25 x26
  | 0, n, i, h, hn => by
    have hi : i = R.length - 1 := by omega
    rw [hi, Nat.sub_zero]
  | d + 1, n + 1, i, h, hn => by
    have c2 : (0 : Int) ≤ (i : Int) := by omega
    have ei : w64 ((i : Int) + 1) = ((i + 1 : Nat) : Int) := by rw [w64_id] <;> omega
    have c1 : ((i + 1 : Nat) : Int) < (R.length : Int) := by omega
    have c5 : (i : Int) < (R.length : Int) := by omega
    have w1 : w64 ((R.length : Int) - 2) = ((R.length - 2 : Nat) : Int) := by rw [w64_id] <;> omega
    have w2 : w64 (((R.length - 2 : Nat) : Int) - (i : Int)) = ((R.length - 2 - i : Nat) : Int) := by rw [w64_id] <;> omega
    have c3 : (0 : Int) ≤ ((R.length - 2 - i : Nat) : Int) := by omega
    have c4 : ((R.length - 2 - i : Nat) : Int) < (R.length : Int) := by omega
    have e := hrev i (by omega)
    rw [L_top_TopLakeUpAndDown_24_eq]
    simp only [cond_dec, ei, c1, c2, c5, List.length_map, hlen, if_true, w1, w2, c3, c4, Int.toNat_natCast, leaf_cV0, leaf_cV1, e, decide_true, Bool.and_self, Bool.not_true, cond_f, cond_t]
    rw [ud_mid x0 x1 R D hlen h8 h1 hrev x5 x6 x7 x8 x9 x10 x11 x12 x13 x14 x15 x16 x17 x18 x19 x20 x21 x22 x23 x24 x25 x26 d n (i + 1) (by omega) (by omega), show n + 1 - (d + 1) = n - d by omega]

theorem ud_end (hN : 1000000 ≤ N) {p : Pair} {s : Vols} {L : Lims} {l : List Flow} (hfew : p.u.length ≤ 12 ∧ p.l.length ≤ 12) (hb : bErr p s = 0) (hL : limsErr p L = 0) (hf : FlowsIn l) (h8 : l.length ≤ 8) (h1 : 1 ≤ l.length)
    {R D : List Vols} {last : Vols} (hup : runG (dry p) s (ups l) = ⟨R, ⟨0, 0⟩, true⟩) (hdn : runG (dry p) last (backs l) = ⟨D, ⟨0, 0⟩, true⟩) (hlast : Valid p last) (hR : R.length = l.length) (hD : D.length = R.length) (hrev : ∀ i, i + 1 < R.length → vls D i = vls R (R.length - 2 - i)) (n : Nat) (x21 x22 x25 x26 : Int) :
    L_top_TopLakeUpAndDown_24 N (k + 15) (n + 1) ((ups l).map cF) ((backs l).map cF) (R.map cV) (D.map cV) ((R.length - 1 : Nat) : Int) (p.u.map cK) (p.l.map cK) 0 s.u s.l L.u.lo L.u.hi L.u.fall L.u.rise L.u.win L.l.lo L.l.hi L.l.fall L.l.rise L.l.win (l.map cF) x21 x22 last.u last.l x25 x26 = some (.bool true) := by
  obtain ⟨hp, hu, hl⟩ := bErr_zero hb
  have hs : Valid p s := ⟨hu, hl⟩
  have hd := dry_ok hb
  have hd2 : bErr (dry p) last = 0 := bErr_of hd hlast
  have hpd := dry_pok hp
  have hwl := wide_err hL
  have o1 : openErr (dry p) s (wideL L) (ups l) = 0 := by
    unfold openErr taskErr
    rw [if_pos hd, if_pos hwl]
    exact lErr_of (by rw [ups_len]; omega) (ups_in hf)
  have o2 : openErr (dry p) last (wideL L) (backs l) = 0 := by
    unfold openErr taskErr
    rw [if_pos hd2, if_pos hwl]
    exact lErr_of (by rw [backs_len]; omega) (backs_in hf)
  have g1 : ev (envF N) (k + 15) F_ref01_CopyPair [vDry p] = some (vDry p) := ref_CopyPair (N := N) (k := k + 13) (dry p) (by show p.u.length ≤ 100000; omega) (by show p.l.length ≤ 100000; omega)
  have g2 := ref_CopyList (N := N) (k := k + 14) (ups l) (by rw [ups_len]; omega)
  have g3 := ref_CopyList (N := N) (k := k + 14) (backs l) (by rw [backs_len]; omega)
  have g4 : ev (envF N) (k + 15) F_lake_ViolationOf [vDry p, vVols s, vWide L (ups l)] = some (violR (dry p) s (wideL L) (ups l)) := lake_ViolationOf (k := k + 6) hN (dry p) s (wideL L) (ups l)
  have g5 : ev (envF N) (k + 15) F_lake_ViolationOf [vDry p, vVols last, vWide L (backs l)] = some (violR (dry p) last (wideL L) (backs l)) := lake_ViolationOf (k := k + 6) hN (dry p) last (wideL L) (backs l)
  unfold violR at g4 g5
  rw [if_pos o1] at g4
  rw [if_pos o2] at g5
  have v1 := viol_wide hpd (L := wideL L) rfl rfl rfl rfl (ups l) [s] s hs (fun t ht => by rw [List.mem_singleton.1 ht]; exact hs) (ups_in hf) (by rw [hup])
  have v2 := viol_wide hpd (L := wideL L) rfl rfl rfl rfl (backs l) [last] last hlast (fun t ht => by rw [List.mem_singleton.1 ht]; exact hlast) (backs_in hf) (by rw [hdn])
  rw [hup] at v1
  rw [hdn] at v2
  have w1 : w64 (((R.length - 1 : Nat) : Int) + 1) = (R.length : Int) := by rw [w64_id] <;> omega
  rw [L_top_TopLakeUpAndDown_24_eq]
  simp only [w1, cond_dec, List.length_map, Int.lt_irrefl, if_false]
  simp only [g1, g2, g3, obind, asA_agg, nth_zero, nth_one, nth_two, asL_sl, asI_int, g4, g5, asT_tup]
  obtain ⟨V, hV⟩ : ∃ V, viol (dry p) (wideL L) [s] s (ups l) = V := ⟨_, rfl⟩
  obtain ⟨W, hW⟩ : ∃ W, viol (dry p) (wideL L) [last] last (backs l) = W := ⟨_, rfl⟩
  rw [hV] at v1 ⊢
  rw [hW] at v2 ⊢
  have z : ¬ ((0 : Int) = 12) := by decide
  rcases v1 with ⟨e1, _⟩ | ⟨i, a, j, i1, i2, rfl⟩
  · rw [if_pos e1]
    rcases v2 with ⟨e2, _⟩ | ⟨i, a, j, i1, i2, rfl⟩
    · rw [if_pos e2]
    · simp only [if_neg z, decide_true]
  · have hj := bad_kind i2
    simp only at i1 i2
    have c0 : (1 : Int) ≤ (([s].length + i : Nat) : Int) ∧ (([s].length + i : Nat) : Int) ≤ ((ups l).length : Int) := by
      rw [ups_len]
      simp only [List.length_cons, List.length_nil]
      omega
    have c1 : (j : Int) ≤ 1 := by omega
    simp only [if_neg z, if_true, base_Within, obind, asB_bool, c0, and_self, decide_true, cond_t, c1]
    by_cases ht : (([s].length + i : Nat) : Int) = ((ups l).length : Int)
    · rw [if_pos ht]
    · rw [if_neg ht]
      have hi : i + 1 < R.length := by
        rw [ups_len] at ht
        simp only [List.length_cons, List.length_nil] at ht
        omega
      rcases v2 with ⟨e2, e3⟩ | ⟨i', a', j', _, _, rfl⟩
      · exfalso
        have h2 := hrev (R.length - 2 - i) (by omega)
        rw [show R.length - 2 - (R.length - 2 - i) = i by omega] at h2
        have h3 := e3 (vls D (R.length - 2 - i)) (by rw [vls_eq _ _ (by omega)]; exact List.getElem_mem _)
        rw [h2, i2] at h3
        cases h3
      · simp only [decide_true]

theorem ud_tail (hN : 1000000 ≤ N) {p : Pair} {s : Vols} {L : Lims} {l : List Flow} (hfew : p.u.length ≤ 12 ∧ p.l.length ≤ 12) (hb : bErr p s = 0) (hL : limsErr p L = 0) (hf : FlowsIn l) (h8 : l.length ≤ 8) (h1 : 1 ≤ l.length) (n : Nat) :
    L_top_TopLakeUpAndDown_8 N (k + 15) (n + 1) ((ups l).map cF) ((backs l).map cF) (l.length : Int) (p.u.map cK) (p.l.map cK) 0 s.u s.l L.u.lo L.u.hi L.u.fall L.u.rise L.u.win L.l.lo L.l.hi L.l.fall L.l.rise L.l.win (l.map cF) = some (.bool true) := by
  obtain ⟨hp, hu, hl⟩ := bErr_zero hb
  have hs : Valid p s := ⟨hu, hl⟩
  have hd := dry_ok hb
  have hpd := dry_pok hp
  have g1 : ev (envF N) (k + 15) F_ref01_CopyPair [vDry p] = some (vDry p) := ref_CopyPair (N := N) (k := k + 13) (dry p) (by show p.u.length ≤ 100000; omega) (by show p.l.length ≤ 100000; omega)
  have g2 := ref_CopyList (N := N) (k := k + 14) (ups l) (by rw [ups_len]; omega)
  have g3 := ref_CopyList (N := N) (k := k + 14) (backs l) (by rw [backs_len]; omega)
  have g4 : ev (envF N) (k + 15) F_lake_RunOf [vDry p, vVols s, vFlows (ups l)] = some (runR (dry p) s (ups l)) := lake_RunOf (k := k + 7) hN (dry p) s (ups l)
  have l1 : lErr (ups l) = 0 := lErr_of (by rw [ups_len]; omega) (ups_in hf)
  have l2 : lErr (backs l) = 0 := lErr_of (by rw [backs_len]; omega) (backs_in hf)
  unfold runR at g4
  rw [if_neg (by omega), if_neg (by omega)] at g4
  unfold runE at g4
  rw [L_top_TopLakeUpAndDown_8_eq]
  simp only [cond_dec, List.length_map, Int.lt_irrefl, if_false]
  simp only [g1, g2, obind, asA_agg, nth_zero, nth_one, nth_two, asL_sl, asI_int, g4]
  have rok := run_ok hpd (ups l) s hs (ups_in hf)
  have hlen := run_len (dry p) (ups l) s
  have hdn := down hp l s hs hf
  obtain ⟨Q, hQ⟩ : ∃ Q, runG (dry p) s (ups l) = Q := ⟨_, rfl⟩
  rw [hQ] at rok hlen hdn ⊢
  obtain ⟨R, ⟨E, S⟩, ok⟩ := Q
  simp only at rok hlen hdn ⊢
  cases ok with
  | false =>
    simp only [Bool.false_eq_true, if_false, asT_tup, nth_two, asI_int, cond_ndec, show ¬ ((22 : Int) = 0) by decide, decide_true]
  | true =>
    have hR := hlen rfl
    rw [ups_len] at hR rok
    obtain ⟨r1, r2, r3, r4, r5⟩ := rok
    have b1 : 0 ≤ S ∧ S ≤ 16000000000 := by omega
    simp only [if_true, asT_tup, asA_agg, nth_zero, nth_one, nth_two, asI_int, asL_sl, List.nil_append, List.length_map, Int.zero_add, cond_ndec, hR, ups_len, base_Within (k := k + 14), obind, asB_bool, b1, and_self]
    by_cases hz : E = 0 ∧ S = 0
    · obtain ⟨rfl, rfl⟩ := hz
      obtain ⟨a1, a2, a3⟩ := back_states s R
      have hdn := hdn rfl rfl
      have w1 : w64 ((l.length : Int) - 1) = ((l.length - 1 : Nat) : Int) := by rw [w64_id] <;> omega
      have c1 : (0 : Int) ≤ ((l.length - 1 : Nat) : Int) := by omega
      have c2 : ((l.length - 1 : Nat) : Int) < (l.length : Int) := by omega
      have hla : R.getLastD s = vls R (l.length - 1) := by
        rw [List.getLastD_eq_getLast?, List.getLast?_eq_getElem?, hR, List.getElem?_eq_getElem (by omega), Option.getD_some, vls_eq _ _ (by omega)]
      rw [hla] at hdn
      obtain ⟨last, hlast⟩ : ∃ last, vls R (l.length - 1) = last := ⟨_, rfl⟩
      rw [hlast] at hdn
      have hvl : Valid p last := by
        rw [← hlast, vls_eq _ _ (by omega)]
        exact r1 _ (List.getElem_mem _)
      have hd2 : bErr (dry p) last = 0 := bErr_of hd hvl
      have g5 : ev (envF N) (k + 15) F_lake_RunOf [vDry p, vVols last, vFlows (backs l)] = some (runR (dry p) last (backs l)) := lake_RunOf (k := k + 7) hN (dry p) last (backs l)
      unfold runR at g5
      rw [if_neg (by omega), if_neg (by omega)] at g5
      unfold runE at g5
      rw [hdn] at g5
      obtain ⟨D, hD⟩ : ∃ D, (List.take R.length (s :: R)).reverse = D := ⟨_, rfl⟩
      rw [hD] at g5 hdn a1 a2 a3
      have a3 := a3 (by omega)
      rw [hR] at a3
      simp only [decide_true, Bool.and_self, Bool.not_true, cond_f, cond_t, w1, cond_dec, c1, c2, if_true, Int.toNat_natCast, leaf_cV0, leaf_cV1, hlast]
      simp only [g1, g3, obind, asA_agg, nth_zero, nth_one, nth_two, asL_sl, asI_int, g5, if_true, asT_tup, List.nil_append, cond_ndec, Int.add_zero, decide_true, Bool.and_self, Bool.not_true, cond_f, cond_t, List.length_map, a1, hR, w1, cond_dec, c1, c2, Int.toNat_natCast, leaf_cV0, leaf_cV1, a3]
      have m := ud_mid (N := N) (k := k + 15) ((ups l).map cF) ((backs l).map cF) R D a1 (by omega) (by omega) a2 (p.u.map cK) (p.l.map cK) 0 s.u s.l L.u.lo L.u.hi L.u.fall L.u.rise L.u.win L.l.lo L.l.hi L.l.fall L.l.rise L.l.win (l.map cF) 0 0 last.u last.l 0 0 (R.length - 1) N 0 (by omega) (by omega)
      refine m.trans ?_
      obtain ⟨n', hn'⟩ : ∃ n', N - (R.length - 1) = n' + 1 := ⟨N - (R.length - 1) - 1, by omega⟩
      rw [hn']
      exact ud_end hN hfew hb hL hf h8 h1 hQ hdn hvl hR a1 a2 n' 0 0 0 0
    · have : (decide (E = 0) && decide (S = 0)) = false := by
        rw [Bool.and_eq_false_iff, decide_eq_false_iff_not, decide_eq_false_iff_not]
        omega
      rw [this]
      simp only [Bool.not_false, cond_t]

theorem TopLakeUpAndDown_ev (hN : 1000000 ≤ N) (hA : ev (envF N) (k + 15) F_top_lakeShown [] = some (.bool true)) (p : Pair) (s : Vols) (L : Lims) (l : List Flow) : ev (envF N) (k + 16) F_top_TopLakeUpAndDown [vPair p, vVols s, vTask L l] = some (.bool true) := by
  rw [E_top_TopLakeUpAndDown, hA]
  simp only [obind, asB_bool, Bool.not_true, cond_f, law_FewPair (k := k + 13), cond_ndec, List.length_map, cond_dec]
  by_cases hfew : p.u.length ≤ 12 ∧ p.l.length ≤ 12
  · rw [if_pos hfew]
    by_cases h0 : (l.length : Int) = 0
    · rw [if_pos h0]
    · rw [if_neg h0]
      by_cases h8 : (8 : Int) < (l.length : Int)
      · rw [if_pos h8]
      · rw [if_neg h8, ref_BothErr hN]
        simp only [obind, asI_int, cond_ndec]
        by_cases hb : bErr p s = 0
        · obtain ⟨hp, hu, hl⟩ := bErr_zero hb
          have g1 := ref_TaskErr (k := k + 10) hN hp L l
          rw [if_pos hb, g1]
          simp only [obind, asI_int, cond_ndec]
          by_cases ht : taskErr p L l = 0
          · obtain ⟨t1, t2⟩ := taskErr_zero ht
            obtain ⟨t3, t4⟩ := lErr_zero t2
            rw [if_pos ht]
            have m := ud_build (N := N) (k := k + 15) p s L l t4 (by omega) l.length N 0 (by omega) (by omega)
            refine Eq.trans m ?_
            obtain ⟨n', hn'⟩ : ∃ n', N - l.length = n' + 1 := ⟨N - l.length - 1, by omega⟩
            rw [hn']
            exact ud_tail hN hfew hb t1 t4 (by omega) (by omega) n'
          · rw [if_neg ht]
        · rw [if_neg hb]
  · rw [if_neg hfew]

end
end Go.PewTab

namespace Go.Pew
set_option linter.unusedSimpArgs false
set_option linter.unusedVariables false
open Go.RowKit
set_option linter.unusedVariables false
set_option linter.unusedSimpArgs false

/-- The types whose values are told by leaf kinds alone. -/
def partsOk (E : Env) (ok : Nat → List LK → Bool) : List (Nat × Nat) → Nat → List LK → Bool
  | [], _, ls => ls.isEmpty
  | p :: ps, off, ls => match E.ty p.1 with
    | some tp => Nat.beq p.2 off && Nat.ble tp.size ls.length && ok p.1 (ls.take tp.size) && partsOk E ok ps (off + tp.size) (ls.drop tp.size)
    | none => false

def lkOk (E : Env) : Nat → Nat → List LK → Bool
  | 0, _, _ => false
  | d + 1, t, ls => match E.ty t with
    | none => false
    | some ti => Nat.beq ti.size ls.length && match ti.desc with
      | .int k => sameLK ls [.int k]
      | .bool => sameLK ls [.bool]
      | .string => sameLK ls [.str]
      | .slice e => match ls, E.ty e with
        | [.sl l], some te => lkOk E d e l && Nat.beq te.size l.length && !l.isEmpty && sameLK l l
        | _, _ => false
      | .struct fs => partsOk E (lkOk E d) (fs.toList.map fun f => (f.type, f.offset)) 0 ls
      | .array n e => match E.ty e with
        | some te => partsOk E (lkOk E d) ((List.range n).map fun i => (e, i * te.size)) 0 ls
        | none => false
      | _ => false

-- What a read value keeps to.
mutual
def fit : PV → Prop
  | .int k n => (Lit.int k n).wf = true
  | .str s => s.size ≤ maxLen
  | .sl _ ls xs => List.length xs ≤ maxLen ∧ (∀ y ∈ xs, confs ls y = true) ∧ fitRows xs
  | .agg cs => fits cs
  | _ => True
termination_by structural x => x
def fits : List PV → Prop
  | [] => True
  | p :: ps => fit p ∧ fits ps
termination_by structural x => x
def fitRows : List (List PV) → Prop
  | [] => True
  | p :: ps => fits p ∧ fitRows ps
termination_by structural x => x
end

theorem fits_append : ∀ {ps qs : List PV}, fits ps → fits qs → fits (ps ++ qs)
  | [], qs, _, h => h
  | p :: ps, qs, ⟨h1, h2⟩, h => ⟨h1, fits_append h2 h⟩
theorem fitRows_append : ∀ {ps qs : List (List PV)}, fitRows ps → fitRows qs → fitRows (ps ++ qs)
  | [], qs, _, h => h
  | p :: ps, qs, ⟨h1, h2⟩, h => ⟨h1, fitRows_append h2 h⟩

theorem confs_append : ∀ {ls ms : List LK} {ps qs : List PV}, confs ls ps = true → confs ms qs = true → confs (ls ++ ms) (ps ++ qs) = true
  | [], ms, ps, qs, h, k => by rw [confs_nil h]; exact k
  | l :: ls, ms, ps, qs, h, k => by
    obtain ⟨c, cs, rfl, h1, h2⟩ := confs_cons h
    show (conf l c && confs (ls ++ ms) (cs ++ qs)) = true
    rw [h1, confs_append h2 k]
    rfl

/-- All that stands. -/
def allSt (w : World) : Nat → Nat → Prop := fun B o => ∃ us T fr, w.heap[B]? = some (.cells us T fr) ∧ o < us.size

section
variable {H : Type} {enc : TypeId × Value → H} {P : Program} {E : Env} {w : World} {base : Nat} {spare : Nat → Bool} {held : Bool}

theorem TyOk.cellsOf {t : Nat} {ti : TI} (h : TyOk P t ti) : P.cellsOf t = ti.size := by
  obtain ⟨i, z, h1, h2, _⟩ := h.info
  simp [Program.cellsOf, h1, h2]

theorem mapM_range {n : Nat} {g : Nat → Option Value} {vs : List Value} (h : (List.range n).mapM g = some vs) : vs.length = n ∧ ∀ i, i < n → g i = vs[i]? := by
  have key : ∀ (l : List Nat) (vs : List Value), l.mapM g = some vs → vs.length = l.length ∧ ∀ i (h : i < l.length), g l[i] = vs[i]? := by
    intro l
    induction l with
    | nil => intro vs h; simp at h; subst h; simp
    | cons a l ih =>
      intro vs h
      simp only [List.mapM_cons, Option.bind_eq_bind, Option.bind_eq_some_iff, Option.pure_def, Option.some.injEq] at h
      obtain ⟨v, hv, vs', hvs, rfl⟩ := h
      obtain ⟨h1, h2⟩ := ih vs' hvs
      refine ⟨by simp [h1], fun i hi => ?_⟩
      cases i with
      | zero => simpa using hv
      | succ i => simpa using h2 i (by simpa using hi)
  obtain ⟨h1, h2⟩ := key _ _ h
  refine ⟨by simpa using h1, fun i hi => ?_⟩
  have := h2 i (by simpa using hi)
  simpa using this

theorem cell_allSt {B o : Nat} {u : Value} (h : w.cell? ⟨B, o, none⟩ = some u) : allSt w B o := by
  unfold World.cell? at h
  split at h
  · rename_i us T fr hh
    simp only [Option.isSome_none, Bool.false_eq_true, if_false] at h
    exact ⟨us, T, fr, hh, (Array.getElem?_eq_some_iff.1 h).1⟩
  · cases h

theorem flatten_at {sz : Nat} : ∀ {rows : List (List Value)}, (∀ r ∈ rows, r.length = sz) → ∀ {j : Nat} {u : Value}, rows.flatten[j]? = some u → ∃ (i r : Nat) (row : List Value), rows[i]? = some row ∧ row[r]? = some u ∧ j = i * sz + r
  | [], _, j, u, h => by simp at h
  | row :: rows, hl, j, u, h => by
    have h0 := hl row (List.mem_cons_self ..)
    rw [List.flatten_cons] at h
    by_cases hj : j < row.length
    · rw [List.getElem?_append_left hj] at h
      exact ⟨0, j, row, rfl, h, by simp⟩
    · rw [List.getElem?_append_right (by omega)] at h
      obtain ⟨i, r, row', h1, h2, h3⟩ := flatten_at (fun r hr => hl r (List.mem_cons_of_mem _ hr)) h
      exact ⟨i + 1, r, row', by simpa using h1, h2, by rw [Nat.succ_mul]; omega⟩

theorem open_parts (O : ∀ t ti, E.ty t = some ti → TyOk P t ti) {ok : Nat → List LK → Bool} {n : Nat} {cs : List Value}
    (ih : ∀ t ls cs x, ok t ls = true → DataW.trod enc P w base spare held n t cs = some x → ∃ ps, confs ls ps = true ∧ Reps (plainCtx w (allSt w)) ps cs ∧ fits ps) :
    ∀ (L : List (Nat × Nat)) (off : Nat) (ls : List LK), partsOk E ok L off ls = true → off + ls.length = cs.length → (∀ p ∈ L, ∃ y, DataW.trod enc P w base spare held n p.1 ((cs.drop p.2).take (P.cellsOf p.1)) = some y) →
      ∃ ps, confs ls ps = true ∧ Reps (plainCtx w (allSt w)) ps (cs.drop off) ∧ fits ps
  | [], off, ls, h, hl, hp => by
    have : ls = [] := by simpa [partsOk] using h
    subst this
    have h0 : off = cs.length := by simpa using hl
    exact ⟨[], rfl, by rw [h0, List.drop_length]; rfl, trivial⟩
  | p :: L, off, ls, h, hl, hp => by
    unfold partsOk at h
    split at h
    · rename_i tp htp
      simp only [Bool.and_eq_true] at h
      obtain ⟨⟨⟨h1, h2⟩, h3⟩, h4⟩ := h
      have h1 := Nat.eq_of_beq_eq_true h1
      have h2 := Nat.le_of_ble_eq_true h2
      obtain ⟨y, hy⟩ := hp p (List.mem_cons_self ..)
      rw [(O _ _ htp).cellsOf, h1] at hy
      obtain ⟨ps, e1, e2, e3⟩ := ih _ _ _ _ h3 hy
      obtain ⟨qs, f1, f2, f3⟩ := open_parts O ih L (off + tp.size) (ls.drop tp.size) h4 (by simp; omega) fun q hq => hp q (List.mem_cons_of_mem _ hq)
      refine ⟨ps ++ qs, ?_, ?_, fits_append e3 f3⟩
      · have := confs_append e1 f1
        rwa [List.take_append_drop] at this
      · have := e2.append f2
        rwa [← List.drop_drop, List.take_append_drop] at this
    · cases h

theorem open_cells (O : ∀ t ti, E.ty t = some ti → TyOk P t ti) : ∀ (d t : Nat) (ls : List LK) (fuel : Nat) (cs : List Value) (x : DataW H × List MemPlace), lkOk E d t ls = true → DataW.trod enc P w base spare held fuel t cs = some x →
    ∃ ps, confs ls ps = true ∧ Reps (plainCtx w (allSt w)) ps cs ∧ fits ps := by
  intro d
  induction d with
  | zero => intro t ls fuel cs x h; cases h
  | succ d ih =>
    intro t ls fuel cs x h hx
    unfold lkOk at h
    split at h
    · cases h
    · rename_i ti hti
      have hT := O _ _ hti
      have hu := hT.und
      rw [Bool.and_eq_true] at h
      obtain ⟨hsz, h⟩ := h
      have hsz := Nat.eq_of_beq_eq_true hsz
      split at h
      · rename_i k hd
        rw [hd] at hu
        obtain ⟨m, rfl, _, hw⟩ := DataW.trod_int hu hx
        rw [sameLK_eq _ _ h]
        exact ⟨[.int k m], by simp [confs, conf], ⟨_, [], rfl, rfl, rfl⟩, hw, trivial⟩
      · rename_i hd
        rw [hd] at hu
        obtain ⟨b, rfl, _⟩ := DataW.trod_bool hu hx
        rw [sameLK_eq _ _ h]
        exact ⟨[.bool b], by simp [confs, conf], ⟨_, [], rfl, rfl, rfl⟩, trivial, trivial⟩
      · rename_i hd
        rw [hd] at hu
        obtain ⟨s, rfl, _, hw⟩ := DataW.trod_string hu hx
        rw [sameLK_eq _ _ h]
        exact ⟨[.str s], by simp [confs, conf], ⟨_, [], rfl, rfl, rfl⟩, hw, trivial⟩
      · rename_i e hd
        rw [hd] at hu
        split at h
        · rename_i l te hte _
          simp only [Bool.and_eq_true] at h
          obtain ⟨⟨⟨h1, h2⟩, h3⟩, sref⟩ := h
          have h2 := Nat.eq_of_beq_eq_true h2
          have hne : l ≠ [] := by simpa using h3
          have hce : P.cellsOf e = l.length := by rw [(O _ _ hte).cellsOf, h2]
          rcases Deep.open_slice hu hx with ⟨rfl, _⟩ | ⟨a, len, cap, m, n, D, Pl, rfl, hb, hlc, hcm, hm, _, hel⟩
          · exact ⟨[.sl none l []], by simp [confs, conf, sref], ⟨_, [], rfl, rep_nil _ _, rfl⟩, ⟨Nat.zero_le _, by simp, trivial⟩, trivial⟩
          · have hlm : len ≤ m := by rw [hm]; split <;> omega
            have key : ∀ k, k ≤ len → ∃ (xs : List (List PV)) (rows : List (List Value)), rows.length = k ∧ RepRows (plainCtx w (allSt w)) xs rows ∧ (∀ i row, rows[i]? = some row → w.cells? base (a.add (i * l.length)) l.length = some row) ∧ (∀ y ∈ xs, confs l y = true) ∧ fitRows xs := by
              intro k
              induction k with
              | zero => intro _; exact ⟨[], [], rfl, rfl, by simp, by simp, trivial⟩
              | succ k ihk =>
                intro hk
                obtain ⟨xs, rows, e1, e2, e3, e4, e5⟩ := ihk (by omega)
                obtain ⟨cs', c1, c2⟩ := hel k (by omega)
                rw [hce] at c1
                obtain ⟨ps, p1, p2, p3⟩ := ih _ _ _ _ _ h1 c2
                refine ⟨xs ++ [ps], rows ++ [cs'], by simp [e1], e2.append ⟨_, [], rfl, p2, rfl⟩, fun i row hi => ?_, fun y hy => ?_, fitRows_append e5 ⟨p3, trivial⟩⟩
                · by_cases hik : i < k
                  · rw [List.getElem?_append_left (by omega)] at hi
                    exact e3 i row hi
                  · rw [List.getElem?_append_right (by omega), e1] at hi
                    have : i = k := by
                      have := (List.getElem?_eq_some_iff.1 hi).1
                      simp at this
                      omega
                    subst this
                    simp at hi
                    subst hi
                    exact c1
                · rcases List.mem_append.1 hy with hy | hy
                  · exact e4 y hy
                  · simp at hy; subst hy; exact p1
            obtain ⟨xs, rows, e1, e2, e3, e4, e5⟩ := key len (Nat.le_refl _)
            have hxl := e2.length
            have hcell : ∀ i row, rows[i]? = some row → row.length = l.length ∧ ∀ r, r < l.length → w.cell? ((a.add (i * l.length)).add r) = row[r]? := fun i row hi => by
              have := e3 i row hi
              unfold World.cells? at this
              split at this
              · obtain ⟨q1, q2⟩ := mapM_range this
                exact ⟨q1, q2⟩
              · cases this
            have hrl : ∀ r ∈ rows, r.length = l.length := fun r hr => by
              obtain ⟨i, hi⟩ := List.getElem?_of_mem hr
              exact (hcell i r hi).1
            refine ⟨[.sl none l xs], by simp [confs, conf, sref], ⟨_, [], rfl, ⟨some a, cap, rows, by rw [e1], by omega, e2, hrl, ?_, e4, fun d k e => by cases e⟩, rfl⟩, ⟨by rw [← hxl, e1]; omega, e4, e5⟩, trivial⟩
            by_cases hr0 : rows = []
            · exact .inl hr0
            · right
              have hl0 : 0 < l.length := List.length_pos_iff.2 hne
              have hspot : a.spot = none := by
                obtain ⟨row, hrow⟩ : ∃ row, rows[0]? = some row := by
                  cases rows with
                  | nil => exact absurd rfl hr0
                  | cons row _ => exact ⟨row, rfl⟩
                obtain ⟨q1, q2⟩ := hcell 0 row hrow
                have := q2 0 hl0
                simp only [Nat.zero_mul, Addr.add, if_true] at this
                rw [List.getElem?_eq_getElem (by omega)] at this
                unfold World.cell? at this
                split at this
                · split at this
                  · cases this
                  · rename_i hs
                    simpa using hs
                · cases this
              obtain ⟨B, o, sp⟩ := a
              simp only at hspot
              subst hspot
              refine ⟨B, o, rfl, fun j u hj => ?_⟩
              obtain ⟨i, r, row, g1, g2, rfl⟩ := flatten_at hrl hj
              have hr : r < l.length := by
                have := (List.getElem?_eq_some_iff.1 g2).1
                rw [(hcell i row g1).1] at this
                exact this
              have := (hcell i row g1).2 r hr
              rw [g2, addr_add, addr_add, Nat.add_assoc] at this
              exact ⟨this, cell_allSt this⟩
        · cases h
      · rename_i fs hd
        rw [hd] at hu
        obtain ⟨xs, n, rfl, _, hlen, hxl, hf⟩ := DataW.trod_struct hu hx
        rw [hT.cellsOf, hsz] at hlen
        have := open_parts (cs := cs) O (ih · · n · ·) _ 0 ls h (by omega) fun p hp => by
          obtain ⟨f, hfm, rfl⟩ := List.mem_map.1 hp
          obtain ⟨i, hi⟩ := List.getElem?_of_mem hfm
          have hi' : fs[i]? = some f := by simpa using hi
          have hlt : i < xs.length := by
            have := (Array.getElem?_eq_some_iff.1 hi').1
            omega
          exact ⟨xs[i], by rw [hf i f hi', List.getElem?_eq_getElem hlt]⟩
        simpa using this
      · rename_i n e hd
        rw [hd] at hu
        split at h
        · rename_i te hte
          obtain ⟨xs, m, rfl, _, hlen, hxl, hf⟩ := DataW.trod_array hu hx
          rw [hT.cellsOf, hsz] at hlen
          have := open_parts (cs := cs) O (ih · · m · ·) _ 0 ls h (by omega) fun p hp => by
            obtain ⟨i, him, rfl⟩ := List.mem_map.1 hp
            have hi := List.mem_range.1 him
            have := hf i hi
            rw [(O _ _ hte).cellsOf] at this
            refine ⟨xs[i], ?_⟩
            dsimp only
            rw [(O _ _ hte).cellsOf, this, List.getElem?_eq_getElem (by omega)]
          simpa using this
        · cases h
      · cases h

end
end Go.Pew

namespace Go.Pew
set_option linter.unusedSimpArgs false
set_option linter.unusedVariables false
open Go.RowKit Go.ChangeShapes Go.WideShapes Go.ChangeAt
set_option linter.unusedVariables false
set_option linter.unusedSimpArgs false

def argOk (E : Env) (t : Nat) : Bool := match E.ty t with
  | some ti => lkOk E 8 t ti.lk
  | none => false

section
variable {H : Type} {enc : TypeId × Value → H} {P : Program} {E : Env} {w : World} {base : Nat} {spare : Nat → Bool} {held : Bool}

theorem lkOk_desc {d t : Nat} {ls : List LK} {ti : TI} (hti : E.ty t = some ti) (h : lkOk E d t ls = true) : (∃ k, ti.desc = .int k) ∨ ti.desc = .bool ∨ ti.desc = .string ∨ (∃ e, ti.desc = .slice e) ∨ (∃ fs, ti.desc = .struct fs) ∨ ∃ n e, ti.desc = .array n e := by
  cases d with
  | zero => cases h
  | succ d =>
    unfold lkOk at h
    rw [hti] at h
    dsimp only at h
    rw [Bool.and_eq_true] at h
    obtain ⟨_, h⟩ := h
    split at h <;> simp_all

theorem arg_open (O : ∀ t ti, E.ty t = some ti → TyOk P t ti) {b0 : Nat} {r : Reach} {t : Nat} {v : Value} {d : DataW H} {ps : List MemPlace} (hok : argOk E t = true) (hv : Value.okWide P w r b0 t v) (hd : DataW.Trod enc P w base spare held t v d ps) :
    ∃ p, confT E t p = true ∧ fit p ∧ Rep (plainCtx w (allSt w)) p v := by
  unfold argOk at hok
  split at hok
  · rename_i ti hti
    obtain ⟨fuel, hf⟩ := hd
    obtain ⟨qs, h1, h2, h3⟩ := open_cells O 8 t ti.lk fuel _ _ hok hf
    have hT := O _ _ hti
    have hu := hT.und
    have hagg := hT.agg
    have one : ti.agg = false → v.cells = #[v] → ∃ p, confT E t p = true ∧ fit p ∧ Rep (plainCtx w (allSt w)) p v := fun ha hc => by
      rw [hc] at h2
      have hl1 := h2.length
      cases qs with
      | nil => simp at hl1
      | cons q qs =>
        cases qs with
        | cons _ _ => simp at hl1
        | nil =>
          rw [Reps] at h2
          obtain ⟨u, ws, e, h4, _⟩ := h2
          cases e
          refine ⟨q, ?_, h3.1, h4⟩
          unfold confT
          rw [hti]
          dsimp only
          rw [if_neg (by rw [ha]; simp)]
          obtain ⟨l, ls, hl⟩ : ∃ l ls, ti.lk = l :: ls := by
            cases hlk : ti.lk with
            | nil => rw [hlk] at h1; simp [confs] at h1
            | cons l ls => exact ⟨l, ls, rfl⟩
          rw [hl] at h1 ⊢
          simp only [confs, Bool.and_eq_true] at h1
          have : ls = [] := by
            cases ls with
            | nil => rfl
            | cons _ _ => simp [confs] at h1
          subst this
          exact h1.1
    have all : ti.agg = true → (∃ cs, v = .agg cs) → ∃ p, confT E t p = true ∧ fit p ∧ Rep (plainCtx w (allSt w)) p v := fun ha hc => by
      obtain ⟨cs, rfl⟩ := hc
      refine ⟨.agg qs, ?_, h3, cs, rfl, h2⟩
      unfold confT
      rw [hti]
      dsimp only
      rw [if_pos ha]
      exact h1
    rcases lkOk_desc hti hok with ⟨k, hd⟩ | hd | hd | ⟨e, hd⟩ | ⟨fs, hd⟩ | ⟨n, e, hd⟩
    · rw [hd] at hu hagg
      obtain ⟨n, rfl⟩ := okWide_int hu hv
      exact one hagg rfl
    · rw [hd] at hu hagg
      obtain ⟨n, rfl⟩ := okWide_bool hu hv
      exact one hagg rfl
    · rw [hd] at hu hagg
      obtain ⟨n, rfl⟩ := okWide_string hu hv
      exact one hagg rfl
    · rw [hd] at hu hagg
      obtain ⟨a, len, cap, rfl⟩ := okWide_slice hu hv
      exact one hagg rfl
    · rw [hd] at hu hagg
      obtain ⟨cs, rfl, _⟩ := okWide_struct hu hv
      exact all hagg ⟨cs, rfl⟩
    · rw [hd] at hu hagg
      simp only [Value.okWide, hu] at hv
      obtain ⟨cs, rfl, _⟩ := hv
      exact all hagg ⟨cs, rfl⟩
  · cases hok

theorem args_open (O : ∀ t ti, E.ty t = some ti → TyOk P t ti) {b0 : Nat} {r : Reach} : ∀ (ts : List Nat) (vs : List Value) (ds : List (DataW H)) (ps : List MemPlace), (∀ t ∈ ts, argOk E t = true) → (∀ (j : Nat) t v, ts[j]? = some t → vs[j]? = some v → Value.okWide P w r b0 t v) →
    DataW.TrodAll enc P w base spare held ts vs ds ps → ∃ qs, confTs E ts qs = true ∧ fits qs ∧ Reps (plainCtx w (allSt w)) qs vs ∧ ds.length = ts.length
  | [], [], [], ps, _, _, _ => ⟨[], rfl, trivial, rfl, rfl⟩
  | t :: ts, v :: vs, d :: ds, ps, hok, hv, ⟨p, q, h1, h2, _⟩ => by
    obtain ⟨a, e1, e2, e3⟩ := arg_open O (hok t (List.mem_cons_self ..)) (hv 0 t v rfl rfl) h1
    obtain ⟨as_, f1, f2, f3, f4⟩ := args_open O ts vs ds q (fun t ht => hok t (List.mem_cons_of_mem _ ht)) (fun j t v ht hv' => hv (j + 1) t v (by simpa using ht) (by simpa using hv')) h2
    exact ⟨a :: as_, by simp [confTs, e1, f1], ⟨e2, f2⟩, ⟨v, vs, rfl, e3, f3⟩, by simp [f4]⟩
  | [], _ :: _, _, _, _, _, h => h.elim
  | [], [], _ :: _, _, _, _, h => h.elim
  | _ :: _, [], _, _, _, _, h => h.elim
  | _ :: _, _ :: _, [], _, _, _, h => h.elim

theorem trodAll_back {W W' : World} (hl : laidOutB P = true) (hb : Below W.heap.size W W') : ∀ (ts : List Nat) (vs : List Value) (ds : List (DataW H)) (ps : List MemPlace), (∀ t ∈ ts, P.readableRec t = true ∧ t < P.types.size) →
    DataW.TrodAll enc P W 0 (fun _ => true) true ts vs ds ps → DataW.TrodAll enc P W' 0 (fun b => decide (b < W.heap.size)) true ts vs ds ps
  | [], [], [], ps, _, h => h
  | t :: ts, v :: vs, d :: ds, ps, hr, ⟨p, q, h1, h2, h3⟩ => by
    obtain ⟨r1, r2⟩ := hr t (List.mem_cons_self ..)
    have hlt : ∀ x ∈ p, x.block < W.heap.size := by
      obtain ⟨m, hm⟩ := h1
      exact DataW.trod_lt m _ _ _ hm
    exact ⟨p, q, Below.trod hl r1 r2 h1 hb hlt, trodAll_back hl hb ts vs ds q (fun t ht => hr t (List.mem_cons_of_mem _ ht)) h2, h3⟩
  | [], _ :: _, _, _, _, h => h.elim
  | [], [], _ :: _, _, _, h => h.elim
  | _ :: _, [], _, _, _, h => h.elim
  | _ :: _, _ :: _, [], _, _, h => h.elim

/-- The row's contract. -/
theorem row_calls (O : ProgOk P E) (hl : laidOutB P = true) {f : Nat} {fn : Func} {s : ChangeSpec} {rt : Nat} (hvars : s.vars = []) (hres : fn.resultTypes = #[rt]) (hrt : P.underlying rt = some .bool)
    (hspec : ∀ ds : List (DataW H), ds.length = fn.params.toList.length → s.fn H ds = { results := [.lit (.bool true)], args := ds })
    (hok : ∀ t ∈ fn.params.toList, argOk E t = true) (hread : ∀ t ∈ fn.params.toList, P.readableRec t = true ∧ t < P.types.size)
    (law : ∀ args, confTs E fn.params.toList args = true → fits args → Contract P E f args (.bool true))
    (W : World) (b0 : Nat) (args : Array Value) (ds gs : List (DataW H)) (before : List MemPlace) (hval : ∀ (j : Nat) t v, fn.params[j]? = some t → args[j]? = some v → Value.okWide P W .any b0 t v)
    (hW : DataW.Whole enc P fn.params.toList s.vars false W args.toList ds gs before) :
    Calls P f args W fun e W' => ∃ v, e = .returned v ∧ s.post enc P fn false true false false W args v W' := by
  have hW' := hW
  obtain ⟨p, q, hA, hV, rfl, hfz, hnd⟩ := hW
  rw [hvars] at hV
  obtain ⟨rfl, rfl⟩ := trodVars_none hV
  obtain ⟨as_, h1, h2, h3, h4⟩ := args_open O.env.ty _ _ _ _ hok (fun j t v ht hv => hval j t v (by simpa using ht) (by simpa using hv)) hA
  obtain ⟨_, hc⟩ := law as_ h1 h2
  have := hc W (allSt W) args.toList (fun B o h => h) h3
  rw [Array.toArray_toList] at this
  refine this.mono ?_
  rintro e W' ⟨v, rfl, bel, st', _, _, _, ⟨u, hu, hr⟩, _⟩
  subst hu
  have hr : v = .bool true := hr
  subst hr
  refine ⟨_, rfl, ds, [], _, [], p, [], hW', ?_, ?_, ?_, bel.frame _, fun h => by cases h⟩
  · rw [List.append_nil, hspec ds h4, hres]
    exact trodAll_mk1 (shut_bool hrt _)
  · rw [List.append_nil, hspec ds h4]
    exact trodAll_back hl bel _ _ _ _ hread hA
  · rw [List.append_nil, hspec ds h4, hvars]
    rfl

end
end Go.Pew

namespace Go.PewTab
set_option linter.unusedSimpArgs false
set_option linter.unusedVariables false
open Go.Pew Go.Num Go.RowKit

theorem confTs_cons {E : Env} {t : Nat} {ts : List Nat} {vs : List PV} (h : confTs E (t :: ts) vs = true) : ∃ v ws, vs = v :: ws ∧ confT E t v = true ∧ confTs E ts ws = true := by
  cases vs with
  | nil => simp [confTs] at h
  | cons v ws => rw [confTs, Bool.and_eq_true] at h; exact ⟨v, ws, rfl, h.1, h.2⟩
theorem confTs_nil {E : Env} {vs : List PV} (h : confTs E [] vs = true) : vs = [] := by
  cases vs with
  | nil => rfl
  | cons v ws => simp [confTs] at h

theorem confT_agg {E : Env} {t : Nat} {ti : TI} (ht : E.ty t = some ti) (ha : ti.agg = true) {v : PV} (h : confT E t v = true) : ∃ cs, v = .agg cs ∧ confs ti.lk cs = true := by
  unfold confT at h
  rw [ht] at h
  simp only [ha, if_true] at h
  split at h
  · exact ⟨_, rfl, h⟩
  · cases h
theorem confT_leaf {E : Env} {t : Nat} {ti : TI} {l : LK} (ht : E.ty t = some ti) (ha : ti.agg = false) (hl : ti.lk = [l]) {v : PV} (h : confT E t v = true) : conf l v = true := by
  unfold confT at h
  rw [ht] at h
  simpa [ha, hl] using h

theorem conf_int {k : IntKind} {v : PV} (h : conf (.int k) v = true) : ∃ n, v = .int k n := by
  cases v <;> simp [conf] at h
  subst h
  exact ⟨_, rfl⟩
theorem conf_sl {ls : List LK} {v : PV} (h : conf (.sl ls) v = true) : ∃ xs, v = .sl none ls xs := by
  cases v <;> simp [conf] at h
  rename_i tag ls' xs
  obtain ⟨h1, h2⟩ := h
  cases tag with
  | none => exact ⟨xs, by rw [sameLK_eq _ _ h2]⟩
  | some _ => simp at h1

theorem i64_of {n : Int} (h : fit (.int .i64 n)) : I64 n := by
  simp only [fit, Lit.wf, IntKind.min, IntKind.max, IntKind.signed, IntKind.bits, Bool.and_eq_true, decide_eq_true_eq, if_true] at h
  simp at h
  exact ⟨by omega, by omega⟩

/-- Rows of cells that conform are rows of plain data. -/
theorem rows_of {α : Type} {ls : List LK} {c : α → List PV} (hc : ∀ y, confs ls y = true → ∃ a, y = c a) : ∀ {xs : List (List PV)}, (∀ y ∈ xs, confs ls y = true) → ∃ l : List α, xs = l.map c
  | [], _ => ⟨[], rfl⟩
  | x :: xs, h => by
    obtain ⟨a, rfl⟩ := hc x (h x (List.mem_cons_self ..))
    obtain ⟨l, rfl⟩ := rows_of hc fun y hy => h y (List.mem_cons_of_mem _ hy)
    exact ⟨a :: l, rfl⟩

theorem int1 {y : List PV} (h : confs [.int .i64] y = true) : ∃ a, y = [.int .i64 a] := by
  obtain ⟨p, ps, rfl, h1, h2⟩ := confs_cons h
  obtain ⟨a, rfl⟩ := conf_int h1
  rw [confs_nil h2]
  exact ⟨a, rfl⟩
theorem int2 {y : List PV} (h : confs [.int .i64, .int .i64] y = true) : ∃ a b, y = [.int .i64 a, .int .i64 b] := by
  obtain ⟨p, ps, rfl, h1, h2⟩ := confs_cons h
  obtain ⟨a, rfl⟩ := conf_int h1
  obtain ⟨b, rfl⟩ := int1 h2
  exact ⟨a, b, rfl⟩
theorem int3 {y : List PV} (h : confs [.int .i64, .int .i64, .int .i64] y = true) : ∃ a b c, y = [.int .i64 a, .int .i64 b, .int .i64 c] := by
  obtain ⟨p, ps, rfl, h1, h2⟩ := confs_cons h
  obtain ⟨a, rfl⟩ := conf_int h1
  obtain ⟨b, c, rfl⟩ := int2 h2
  exact ⟨a, b, c, rfl⟩

end Go.PewTab

namespace Go.PewTab
set_option linter.unusedSimpArgs false
set_option linter.unusedVariables false
open Go.Pew Go.Num Go.RowKit

section
variable {p : PV}

theorem arg_int (h : confT (envF 1000000) 3 p = true) (hf : fit p) : ∃ n, p = .int .i64 n ∧ I64 n := by
  obtain ⟨n, rfl⟩ := conf_int (confT_leaf (l := .int .i64) (t := 3) (ti := ty3) (by kernel_rfl) (by kernel_rfl) (by kernel_rfl) h)
  exact ⟨n, rfl, i64_of hf⟩

theorem rows_K {xs : List (List PV)} (h : ∀ y ∈ xs, confs [.int .i64, .int .i64] y = true) : ∃ t : Tab, xs = t.map cK :=
  rows_of (c := cK) (fun y hy => by
    obtain ⟨a, b, rfl⟩ := int2 hy
    exact ⟨⟨a, b⟩, rfl⟩) h
theorem rows_F {xs : List (List PV)} (h : ∀ y ∈ xs, confs [.int .i64, .int .i64, .int .i64] y = true) : ∃ t : List Flow, xs = t.map cF :=
  rows_of (c := cF) (fun y hy => by
    obtain ⟨a, b, c, rfl⟩ := int3 hy
    exact ⟨⟨a, b, c⟩, rfl⟩) h
theorem rows_I {xs : List (List PV)} (h : ∀ y ∈ xs, confs [.int .i64] y = true) : ∃ t : List Int, xs = t.map cI :=
  rows_of (c := cI) (fun y hy => by
    obtain ⟨a, rfl⟩ := int1 hy
    exact ⟨a, rfl⟩) h

theorem arg_tab (h : confT (envF 1000000) 24 p = true) (hf : fit p) : ∃ t, p = vTab t := by
  obtain ⟨cs, rfl, h⟩ := confT_agg (t := 24) (ti := ty24) (by kernel_rfl) (by kernel_rfl) h
  obtain ⟨q, qs, rfl, h1, h2⟩ := confs_cons (show confs [.sl [.int .i64, .int .i64]] cs = true from h)
  obtain ⟨x, rfl⟩ := conf_sl h1
  rw [confs_nil h2] at *
  obtain ⟨t, rfl⟩ := rows_K hf.1.2.1
  exact ⟨t, rfl⟩

theorem arg_pair (h : confT (envF 1000000) 26 p = true) (hf : fit p) : ∃ q, p = vPair q := by
  obtain ⟨cs, rfl, h⟩ := confT_agg (t := 26) (ti := ty26) (by kernel_rfl) (by kernel_rfl) h
  obtain ⟨q, qs, rfl, h1, h⟩ := confs_cons (show confs [.sl [.int .i64, .int .i64], .sl [.int .i64, .int .i64], .int .i64] cs = true from h)
  obtain ⟨q2, qs2, rfl, h2, h⟩ := confs_cons h
  obtain ⟨q3, qs3, rfl, h3, h⟩ := confs_cons h
  obtain ⟨x, rfl⟩ := conf_sl h1
  obtain ⟨y, rfl⟩ := conf_sl h2
  obtain ⟨r, rfl⟩ := conf_int h3
  rw [confs_nil h] at *
  obtain ⟨t, rfl⟩ := rows_K hf.1.2.1
  obtain ⟨u, rfl⟩ := rows_K hf.2.1.2.1
  exact ⟨⟨t, u, r⟩, rfl⟩

theorem arg_vols (h : confT (envF 1000000) 28 p = true) : ∃ s, p = vVols s := by
  obtain ⟨cs, rfl, h⟩ := confT_agg (t := 28) (ti := ty28) (by kernel_rfl) (by kernel_rfl) h
  obtain ⟨a, b, rfl⟩ := int2 (show confs [.int .i64, .int .i64] cs = true from h)
  exact ⟨⟨a, b⟩, rfl⟩
theorem arg_flow (h : confT (envF 1000000) 42 p = true) : ∃ s, p = vFlow s := by
  obtain ⟨cs, rfl, h⟩ := confT_agg (t := 42) (ti := ty42) (by kernel_rfl) (by kernel_rfl) h
  obtain ⟨a, b, c, rfl⟩ := int3 (show confs [.int .i64, .int .i64, .int .i64] cs = true from h)
  exact ⟨⟨a, b, c⟩, rfl⟩
theorem arg_flows (h : confT (envF 1000000) 82 p = true) (hf : fit p) : ∃ l : List Flow, p = .sl none [.int .i64, .int .i64, .int .i64] (l.map cF) := by
  obtain ⟨x, rfl⟩ := conf_sl (confT_leaf (l := .sl [.int .i64, .int .i64, .int .i64]) (t := 82) (ti := ty82) (by kernel_rfl) (by kernel_rfl) (by kernel_rfl) h)
  obtain ⟨t, rfl⟩ := rows_F hf.2.1
  exact ⟨t, rfl⟩
theorem arg_ints (h : confT (envF 1000000) 52 p = true) (hf : fit p) : ∃ l : List Int, p = .sl none [.int .i64] (l.map cI) := by
  obtain ⟨x, rfl⟩ := conf_sl (confT_leaf (l := .sl [.int .i64]) (t := 52) (ti := ty52) (by kernel_rfl) (by kernel_rfl) (by kernel_rfl) h)
  obtain ⟨t, rfl⟩ := rows_I hf.2.1
  exact ⟨t, rfl⟩

end
end Go.PewTab

namespace Go.PewTab
set_option linter.unusedSimpArgs false
set_option linter.unusedVariables false
open Go.Pew Go.Num Go.RowKit

theorem arg_task {p : PV} (h : confT (envF 1000000) 84 p = true) (hf : fit p) : ∃ (L : Lims) (l : List Flow), p = vTask L l := by
  obtain ⟨cs, rfl, h⟩ := confT_agg (t := 84) (ti := ty84) (by kernel_rfl) (by kernel_rfl) h
  obtain ⟨q1, qs1, rfl, h1, h⟩ := confs_cons (show confs [.int .i64, .int .i64, .int .i64, .int .i64, .int .i64, .int .i64, .int .i64, .int .i64, .int .i64, .int .i64, .sl [.int .i64, .int .i64, .int .i64]] cs = true from h)
  obtain ⟨q2, qs2, rfl, h2, h⟩ := confs_cons h
  obtain ⟨q3, qs3, rfl, h3, h⟩ := confs_cons h
  obtain ⟨q4, qs4, rfl, h4, h⟩ := confs_cons h
  obtain ⟨q5, qs5, rfl, h5, h⟩ := confs_cons h
  obtain ⟨q6, qs6, rfl, h6, h⟩ := confs_cons h
  obtain ⟨q7, qs7, rfl, h7, h⟩ := confs_cons h
  obtain ⟨q8, qs8, rfl, h8, h⟩ := confs_cons h
  obtain ⟨q9, qs9, rfl, h9, h⟩ := confs_cons h
  obtain ⟨q10, qs10, rfl, h10, h⟩ := confs_cons h
  obtain ⟨q11, qs11, rfl, h11, h⟩ := confs_cons h
  obtain ⟨a1, rfl⟩ := conf_int h1
  obtain ⟨a2, rfl⟩ := conf_int h2
  obtain ⟨a3, rfl⟩ := conf_int h3
  obtain ⟨a4, rfl⟩ := conf_int h4
  obtain ⟨a5, rfl⟩ := conf_int h5
  obtain ⟨a6, rfl⟩ := conf_int h6
  obtain ⟨a7, rfl⟩ := conf_int h7
  obtain ⟨a8, rfl⟩ := conf_int h8
  obtain ⟨a9, rfl⟩ := conf_int h9
  obtain ⟨a10, rfl⟩ := conf_int h10
  obtain ⟨x, rfl⟩ := conf_sl h11
  rw [confs_nil h] at *
  obtain ⟨_, _, _, _, _, _, _, _, _, _, f11, _⟩ := hf
  obtain ⟨t, rfl⟩ := rows_F f11.2.1
  exact ⟨⟨⟨a1, a2, a3, a4, a5⟩, ⟨a6, a7, a8, a9, a10⟩⟩, t, rfl⟩

end Go.PewTab

namespace Go.PewTab
set_option linter.unusedSimpArgs false
set_option linter.unusedVariables false
open Go.Pew
set_option maxRecDepth 100000
theorem lakeShown_ok : ev (envF 1000000) 40 F_top_lakeShown [] = some (.bool true) := by kernel_rfl
end Go.PewTab

namespace Go.PewTab
set_option linter.unusedSimpArgs false
set_option linter.unusedVariables false
open Go.Pew Go Go.Proofs Go.RowKit
set_option maxRecDepth 100000
set_option linter.unusedVariables false

theorem Values_made (v : Value) (w : World) : Calls Try.prog 103 #[v] w fun e w' => e = .returned (.func (.func 148) #[] #[.pointer (some ⟨w.heap.size, 0, none⟩)]) ∧ w' = w.alloc (.cells v.cells 82) := by
  refine calls_of_wp Try.func103 rfl ?_
  simp only [Try.ntmps103, List.size_toArray, List.length_cons, List.length_nil, Nat.reduceAdd, Nat.reduceSub, Array.replicate_succ, Array.replicate_zero, List.push_toArray, List.append_toArray, List.nil_append, List.cons_append]
  go_wp
  go_ret
  exact ⟨rfl, rfl⟩

theorem watch_made (p s l f : Value) (w : World) : Calls Try.prog 102 #[p, s, l, f] w fun e w' =>
    e = .returned (.func (.func 146) #[] #[.pointer (some ⟨w.heap.size, 0, none⟩), .pointer (some ⟨w.heap.size + 1, 0, none⟩), .pointer (some ⟨w.heap.size + 3, 0, none⟩), .pointer (some ⟨w.heap.size + 2, 0, none⟩)]) ∧
    w' = (((w.alloc (.cells p.cells 162)).alloc (.cells s.cells 28)).alloc (.cells l.cells 81)).alloc (.cells f.cells 187) := by
  refine calls_of_wp Try.func102 rfl ?_
  simp only [Try.ntmps102, List.size_toArray, List.length_cons, List.length_nil, Nat.reduceAdd, Nat.reduceSub, Array.replicate_succ, Array.replicate_zero, List.push_toArray, List.append_toArray, List.nil_append, List.cons_append]
  go_wp
  go_ret
  exact ⟨rfl, rfl⟩

def stA (w : World) (us : Array Value) (st : Nat → Nat → Prop) : Nat → Nat → Prop := fun B o => st B o ∨ (B = w.heap.size ∧ o < us.size)

theorem alloc_same {w : World} {o : Obj} {k : Nat} (hk : k < w.heap.size) : (w.alloc o).heap[k]? = w.heap[k]? := Below.heap_alloc w o k hk

theorem alloc_keep {w : World} {st : Nat → Nat → Prop} (h : StOk w st) (us : Array Value) (T : Nat) : StOk (w.alloc (.cells us T)) st ∧ (plainCtx w st).Le (plainCtx (w.alloc (.cells us T)) st) := by
  have hb : ∀ B o, st B o → (w.alloc (.cells us T)).heap[B]? = w.heap[B]? := fun B o ho => by
    obtain ⟨us, T, fr, e, _⟩ := h B o ho
    exact alloc_same (block_lt e)
  refine ⟨fun B o ho => ?_, ⟨fun _ _ h => h, fun B o ho => World.cell?_of_block (w := w) (hb B o ho), fun _ _ h => h, fun _ _ _ _ h => h, fun _ _ _ => rfl, fun _ _ _ => rfl, fun _ h => h⟩⟩
  obtain ⟨us', T', fr, e, hl⟩ := h B o ho
  exact ⟨us', T', fr, by rw [hb B o ho]; exact e, hl⟩

theorem st_more {w : World} {st st' : Nat → Nat → Prop} (h : ∀ B o, st B o → st' B o) : (plainCtx w st).Le (plainCtx w st') :=
  ⟨h, fun _ _ _ => rfl, fun _ _ h => h, fun _ _ _ _ h => h, fun _ _ _ => rfl, fun _ _ _ => rfl, fun _ h => h⟩

/-- A new block that stays. -/
theorem alloc_new {w : World} {st : Nat → Nat → Prop} (h : StOk w st) (us : Array Value) (T : Nat) : StOk (w.alloc (.cells us T)) (stA w us st) ∧ (plainCtx w st).Le (plainCtx (w.alloc (.cells us T)) (stA w us st)) ∧
    ∀ cs, Reps (plainCtx w st) cs us.toList → Rep (plainCtx (w.alloc (.cells us T)) (stA w us st)) (.rp cs 0) (.pointer (some ⟨w.heap.size, 0, none⟩)) := by
  obtain ⟨h1, h2⟩ := alloc_keep h us T
  have h3 := h2.trans (st_more (w := w.alloc (.cells us T)) (st' := stA w us st) fun _ _ h => .inl h)
  have hn : (w.alloc (.cells us T)).heap[w.heap.size]? = some (.cells us T (0, 0)) := heap_alloc_new w _
  refine ⟨fun B o ho => ?_, h3, fun cs hr => ?_⟩
  · rcases ho with ho | ⟨rfl, ho⟩
    · exact h1 B o ho
    · exact ⟨us, T, _, hn, ho⟩
  · exact ⟨w.heap.size, 0, us.toList, rfl, Reps.mono h3 _ _ hr, reads_block (C := plainCtx _ _) hn rfl fun o ho => .inr ⟨rfl, ho⟩⟩

theorem Values_maker (tag : Option (Nat × Nat)) (ls : List LK) (xs : List (List PV)) : MakerC Try.prog 103 [.sl tag ls xs] 148 [.rp [.sl none ls xs] 0] none [] := by
  intro w st vals hst hr
  obtain ⟨u, _, rfl, hu, rfl⟩ := hr
  have hu1 := Rep.strip_tag hu
  obtain ⟨A, cap, rows, rfl, _⟩ := hu
  refine (Values_made _ w).mono ?_
  rintro e w' ⟨rfl, rfl⟩
  obtain ⟨n1, n2, n3⟩ := alloc_new hst #[.slice A rows.length cap] 82
  refine ⟨[_], [], [], rfl, (Below.refl _ _).alloc (Nat.le_refl _) _, stA w #[.slice A rows.length cap] st, fun _ _ h => .inl h, fun B o h => h.imp id fun q => Nat.le_of_eq q.1.symm, n1, ⟨_, _, rfl, n3 _ ⟨_, _, rfl, hu1, rfl⟩, rfl⟩, rfl, rfl⟩

theorem watch_maker (p s l : List PV) (f : PV) (hf : ∀ cs, f ≠ .agg cs) (hu : f ≠ .undef) : MakerC Try.prog 102 [.agg p, .agg s, .agg l, f] 146 [.rp p 0] (some s) [.rp [f] 0, .rp l 0] := by
  intro w st vals hst hr
  obtain ⟨vp, _, rfl, ⟨pu, rfl, hp⟩, vs, _, rfl, ⟨su, rfl, hs⟩, vl, _, rfl, ⟨lu, rfl, hl⟩, vf, _, rfl, hf1, rfl⟩ := hr
  refine (watch_made _ _ _ _ w).mono ?_
  rintro e w' ⟨rfl, rfl⟩
  have hfc : Reps (plainCtx w st) [f] vf.cells.toList := by
    have := Rep.cells hf1 hu
    cases f with
    | agg cs => exact absurd rfl (hf cs)
    | undef => exact absurd rfl hu
    | _ => exact this
  obtain ⟨a1, a2, a3⟩ := alloc_new hst pu 162
  obtain ⟨b1, b2⟩ := alloc_keep a1 su 28
  obtain ⟨c1, c2, c3⟩ := alloc_new b1 lu 81
  obtain ⟨d1, d2, d3⟩ := alloc_new c1 vf.cells 187
  have e1 := a2.trans b2
  have e2 := e1.trans c2
  have e3 := e2.trans d2
  refine ⟨[.pointer (some ⟨w.heap.size, 0, none⟩)], [.pointer (some ⟨w.heap.size + 1, 0, none⟩)], [.pointer (some ⟨w.heap.size + 3, 0, none⟩), .pointer (some ⟨w.heap.size + 2, 0, none⟩)], rfl, ?_, _, fun B o ho => e3.st B o ho, ?_, d1, ⟨_, _, rfl, Rep.mono (b2.trans (c2.trans d2)) _ _ (a3 _ hp), rfl⟩, ⟨_, _, rfl, ?_, _, _, rfl, ?_, rfl⟩, w.heap.size + 1, su, 28, rfl, by omega, ?_, Reps.mono e3 _ _ hs, ?_⟩
  · exact ((((Below.refl _ w).alloc (Nat.le_refl _) _).alloc (by simp) _).alloc (by simp; omega) _).alloc (by simp; omega) _
  · rintro B o (((ho | ⟨rfl, _⟩) | ⟨rfl, _⟩) | ⟨rfl, _⟩)
    · exact .inl ho
    · exact .inr (Nat.le_refl _)
    · exact .inr (by simp; omega)
    · exact .inr (by simp; omega)
  · have := d3 _ (Reps.mono e2 _ _ hfc)
    simp only [World.size_alloc] at this
    exact this
  · have := Rep.mono d2 _ _ (c3 _ (Reps.mono e1 _ _ hl))
    simp only [World.size_alloc] at this
    exact this
  · rw [alloc_same (by simp), alloc_same (by simp)]
    have := heap_alloc_new (w.alloc (.cells pu 162)) (.cells su 28)
    rw [World.size_alloc] at this
    exact this
  · rintro o (((ho | ⟨q, _⟩) | ⟨q, _⟩) | ⟨q, _⟩)
    · obtain ⟨us, T, fr, e, _⟩ := hst _ _ ho
      have := block_lt e
      omega
    · omega
    · simp at q
    · simp at q

theorem makersOk (N : Nat) : MakersOk Try.prog (envF N) := by
  intro f m hm
  have hm : makerOf f = some m := hm
  unfold makerOf at hm
  cases h2 : Nat.beq f 102 with
  | true =>
    have := Nat.eq_of_beq_eq_true h2
    subst this
    rw [h2] at hm
    cases hm
    refine ⟨⟨_, Try.func102, by kernel_rfl, by kernel_rfl⟩, fun args g pre c post hq => ?_⟩
    dsimp only at hq
    split at hq
    · cases hq
      exact watch_maker _ _ _ _ (fun _ q => by cases q) (fun q => by cases q)
    · cases hq
  | false =>
    rw [h2] at hm
    cases h3 : Nat.beq f 103 with
    | true =>
      have := Nat.eq_of_beq_eq_true h3
      subst this
      rw [h3] at hm
      cases hm
      refine ⟨⟨_, Try.func103, by kernel_rfl, by kernel_rfl⟩, fun args g pre c post hq => ?_⟩
      dsimp only at hq
      split at hq
      · cases hq
        exact Values_maker _ _ _
      · cases hq
    | false => rw [h3] at hm; cases hm

theorem progOk (N : Nat) : ProgOk Try.prog (envF N) := progOk0 N (makersOk N)

end Go.PewTab

namespace Go.PewTab
set_option linter.unusedSimpArgs false
set_option linter.unusedVariables false
open Go.Pew Go.Num Go.RowKit

theorem TopLakeUpAndDown_contract (xs : List PV) (h : confTs (envF 1000000) [26, 28, 84] xs = true) (hf : fits xs) : Contract Go.Proofs.Try.prog (envF 1000000) 7 xs (.bool true) := by
  obtain ⟨p, ps, rfl, h1, h⟩ := confTs_cons h
  obtain ⟨q, qs, rfl, h2, h⟩ := confTs_cons h
  obtain ⟨r, rs, rfl, h3, h⟩ := confTs_cons h
  rw [confTs_nil h] at *
  obtain ⟨f1, f2, f3, _⟩ := hf
  obtain ⟨p, rfl⟩ := arg_pair h1 f1
  obtain ⟨s, rfl⟩ := arg_vols h2
  obtain ⟨L, l, rfl⟩ := arg_task h3 f3
  exact ev_sound (progOk 1000000) (by intro f g h; cases h) 41 7 _ _ (TopLakeUpAndDown_ev (N := 1000000) (k := 25) (Nat.le_refl _) lakeShown_ok p s L l)

end Go.PewTab
