/- SEASONS: the minimum level on a date, by the program and by the reference. -/
import Derived.Test.YtfjnpgbjcgjecaaPevSSmall
namespace Go.PevTab
open Go.Pev Go.Num

structure Season where
  a : Int
  b : Int
  l : Int
def cSe (s : Season) : List PV := [.int .i64 s.a, .int .i64 s.b, .int .i64 s.l]
def sea (l : List Season) (i : Nat) : Season := l.getD i ⟨0, 0, 0⟩
theorem leaf_cSe0 (l : List Season) (i : Nat) : asI (nth (nths (l.map cSe) i) 0) = (sea l i).a := leafI cSe Season.a 0 ⟨0, 0, 0⟩ (fun _ => rfl) rfl l i
theorem leaf_cSe1 (l : List Season) (i : Nat) : asI (nth (nths (l.map cSe) i) 1) = (sea l i).b := leafI cSe Season.b 1 ⟨0, 0, 0⟩ (fun _ => rfl) rfl l i
theorem leaf_cSe2 (l : List Season) (i : Nat) : asI (nth (nths (l.map cSe) i) 2) = (sea l i).l := leafI cSe Season.l 2 ⟨0, 0, 0⟩ (fun _ => rfl) rfl l i

abbrev vSe (l : List Season) : PV := .sl none [.int .i64, .int .i64, .int .i64] (l.map cSe)

def seaOk (s : Season) : Bool := decide (0 ≤ s.a ∧ s.a ≤ 364) && decide (0 ≤ s.b ∧ s.b ≤ 364) && decide (0 ≤ s.l ∧ s.l ≤ 1000000)
def seaIn (s : Season) (d : Int) : Bool := if s.a ≤ s.b then decide (s.a ≤ d ∧ d ≤ s.b) else decide (s.a ≤ d) || decide (d ≤ s.b)
def maxIn : List Season → Int → Int → Int
  | [], _, m => m
  | s :: l, d, m => maxIn l d (if seaIn s d = true then max m s.l else m)
/-- The minimum level on a date, or the error. -/
def minOn (l : List Season) (date : Int) : Int × Int :=
  if 12 < l.length then (0, 8) else if l.all seaOk = false then (0, 2) else if 0 ≤ date ∧ date ≤ 100000 then (maxIn l (date.tmod 365) 0, 0) else (0, 2)

section
variable {N k : Nat}

theorem sea_drop (l : List Season) (i : Nat) (h : i < l.length) : l.drop i = sea l i :: l.drop (i + 1) := by
  rw [List.drop_eq_getElem_cons h]
  congr 1
  unfold sea
  rw [List.getD_eq_getElem?_getD, List.getElem?_eq_getElem h, Option.getD_some]

theorem lake_contains (s : Season) (d : Int) : ev (envF N) (k + 2) F_lake_contains [.agg [.int .i64 s.a, .int .i64 s.b, .int .i64 s.l], .int .i64 d] = some (.bool (seaIn s d)) := by
  rw [E_lake_contains, lake_within]
  simp only [Option.bind_some, asB_bool, cond_dec, seaIn]
  by_cases h : s.a ≤ s.b
  · rw [if_pos h, if_pos h]
  · rw [if_neg h, if_neg h]
    by_cases h1 : s.a ≤ d <;> simp [h1]

theorem lake_isDay (n : Int) : ev (envF N) (k + 2) F_lake_MinimumOn_c1 [.int .i64 n] = some (.bool (decide (0 ≤ n ∧ n ≤ 364))) := by
  rw [E_lake_MinimumOn_c1, lake_within]
  simp only [Option.bind_some, asB_bool]

theorem lake_MinimumOn_14 (l : List Season) (date : Int) (hl : l.length ≤ 14) : ∀ (d n i : Nat) (m : Int), i + d = l.length → d < n →
    L_lake_MinimumOn_14 N (k + 2) n date m (l.map cSe) (l.length : Int) (i : Int) = some (.tup [.int .i64 (maxIn (l.drop i) (date.tmod 365) m), .int .i64 0])
  | 0, n + 1, i, m, h, hn => by
    rw [L_lake_MinimumOn_14_eq, cond_dec, if_neg (by omega), List.drop_eq_nil_of_le (by omega)]
    rfl
  | d + 1, n + 1, i, m, h, hn => by
    have c1 : (i : Int) < (l.length : Int) := by omega
    have c2 : (0 : Int) ≤ (i : Int) := by omega
    have e1 : w64 ((i : Int) + 1) = ((i + 1 : Nat) : Int) := by rw [w64_id] <;> omega
    rw [L_lake_MinimumOn_14_eq]
    simp only [cond_dec, c1, c2, List.length_map, if_true, Int.toNat_natCast, leaf_cSe0, leaf_cSe1, leaf_cSe2, lake_contains (k := k) (sea l i), Option.bind_some, asB_bool, e1, imax_eq]
    rw [lake_MinimumOn_14 l date hl d n (i + 1) _ (by omega) (by omega), lake_MinimumOn_14 l date hl d n (i + 1) _ (by omega) (by omega), sea_drop l i (by omega), maxIn]
    cases seaIn (sea l i) (date.tmod 365) <;> simp only [cond_t, cond_f, if_true, Bool.false_eq_true, if_false]

theorem lake_MinimumOn_5 (hN : 1000000 ≤ N) (l : List Season) (date : Int) (hl : l.length ≤ 14) : ∀ (d n i : Nat), i + d = l.length → d < n →
    L_lake_MinimumOn_5 N (k + 2) n (l.map cSe) date (l.map cSe) (l.length : Int) (i : Int) = some (if (l.drop i).all seaOk = false then .tup [.int .i64 0, .int .i64 2] else if 0 ≤ date ∧ date ≤ 100000 then .tup [.int .i64 (maxIn l (date.tmod 365) 0), .int .i64 0] else .tup [.int .i64 0, .int .i64 2])
  | 0, n + 1, i, h, hn => by
    have h14 := lake_MinimumOn_14 (N := N) (k := k) l date hl l.length N 0 0 (by omega) (by omega)
    rw [L_lake_MinimumOn_5_eq, cond_dec, if_neg (by omega), List.drop_eq_nil_of_le (by omega), lake_within]
    simp only [Option.bind_some, asB_bool, cond_ndec, List.length_map]
    rw [List.drop_zero] at h14
    by_cases hd : 0 ≤ date ∧ date ≤ 100000
    · rw [if_pos hd, if_pos hd]
      exact h14
    · rw [if_neg hd, if_neg hd]
      rfl
  | d + 1, n + 1, i, h, hn => by
    have c1 : (i : Int) < (l.length : Int) := by omega
    have c2 : (0 : Int) ≤ (i : Int) := by omega
    have e1 : w64 ((i : Int) + 1) = ((i + 1 : Nat) : Int) := by rw [w64_id] <;> omega
    rw [L_lake_MinimumOn_5_eq]
    simp only [cond_dec, c1, c2, List.length_map, if_true, Int.toNat_natCast, leaf_cSe0, leaf_cSe1, leaf_cSe2, lake_isDay, lake_within, Option.bind_some, asB_bool, cond_ndec, e1]
    rw [lake_MinimumOn_5 hN l date hl d n (i + 1) (by omega) (by omega), sea_drop l i (by omega), List.all_cons]
    unfold seaOk
    by_cases ha : 0 ≤ (sea l i).a ∧ (sea l i).a ≤ 364
    · by_cases hb : 0 ≤ (sea l i).b ∧ (sea l i).b ≤ 364
      · by_cases hc : 0 ≤ (sea l i).l ∧ (sea l i).l ≤ 1000000
        · simp only [ha, hb, hc, if_true, and_self, decide_true, Bool.and_self, Bool.true_and]
        · simp only [ha, hb, hc, if_true, if_false, and_self, decide_true, Bool.and_false, decide_false, Bool.false_and]
      · simp only [ha, hb, if_true, if_false, and_self, decide_true, Bool.and_false, decide_false, Bool.false_and]
    · simp only [ha, if_true, if_false, decide_false, Bool.false_and]

theorem lake_MinimumOn (hN : 1000000 ≤ N) (l : List Season) (date : Int) : ev (envF N) (k + 3) F_lake_MinimumOn [vSe l, .int .i64 date] = some (.tup [.int .i64 (minOn l date).1, .int .i64 (minOn l date).2]) := by
  rw [E_lake_MinimumOn, cond_dec, List.length_map]
  unfold minOn
  by_cases h : 12 < l.length
  · rw [if_pos (by omega), if_pos h]
  · have := lake_MinimumOn_5 (k := k) hN l date (by omega) l.length N 0 (by omega) (by omega)
    rw [List.drop_zero] at this
    rw [if_neg (by omega), if_neg h]
    refine this.trans ?_
    by_cases h1 : l.all seaOk = false
    · rw [if_pos h1, if_pos h1]
    · rw [if_neg h1, if_neg h1]
      by_cases h2 : 0 ≤ date ∧ date ≤ 100000
      · rw [if_pos h2, if_pos h2]
      · rw [if_neg h2, if_neg h2]

theorem ref_MinimumOn_12 (l : List Season) (day : Int) (hl : l.length ≤ 14) : ∀ (d n i : Nat) (m : Int), i + d = l.length → d < n →
    L_ref01_MinimumOn_12 N (k + 1) n (l.map cSe) day m (i : Int) = some (.tup [.int .i64 (maxIn (l.drop i) day m), .int .i64 0])
  | 0, n + 1, i, m, h, hn => by
    rw [L_ref01_MinimumOn_12_eq, cond_dec, List.length_map, if_neg (by omega), List.drop_eq_nil_of_le (by omega)]
    rfl
  | d + 1, n + 1, i, m, h, hn => by
    have c1 : (i : Int) < (l.length : Int) := by omega
    have c2 : (0 : Int) ≤ (i : Int) := by omega
    have e1 : w64 ((i : Int) + 1) = ((i + 1 : Nat) : Int) := by rw [w64_id] <;> omega
    rw [L_ref01_MinimumOn_12_eq]
    simp only [cond_dec, c1, c2, List.length_map, if_true, Int.toNat_natCast, leaf_cSe0, leaf_cSe1, leaf_cSe2, base_Within, Option.bind_some, asB_bool, e1, imax_eq]
    rw [ref_MinimumOn_12 l day hl d n (i + 1) _ (by omega) (by omega), ref_MinimumOn_12 l day hl d n (i + 1) _ (by omega) (by omega), sea_drop l i (by omega), maxIn]
    unfold seaIn
    by_cases h1 : (sea l i).b < (sea l i).a
    · rw [if_pos h1, if_neg (show ¬ (sea l i).a ≤ (sea l i).b by omega)]
      by_cases h2 : (sea l i).a ≤ day
      · simp [h2]
      · by_cases h3 : day ≤ (sea l i).b <;> simp [h2, h3]
    · rw [if_neg h1, if_pos (show (sea l i).a ≤ (sea l i).b by omega)]
      by_cases h2 : (sea l i).a ≤ day ∧ day ≤ (sea l i).b <;> simp [h2]

theorem ref_MinimumOn_4 (hN : 1000000 ≤ N) (l : List Season) (date : Int) (hl : l.length ≤ 14) : ∀ (d n i : Nat), i + d = l.length → d < n →
    L_ref01_MinimumOn_4 N (k + 1) n (l.map cSe) date (i : Int) = some (if (l.drop i).all seaOk = false then .tup [.int .i64 0, .int .i64 2] else if 0 ≤ date ∧ date ≤ 100000 then .tup [.int .i64 (maxIn l (date.tmod 365) 0), .int .i64 0] else .tup [.int .i64 0, .int .i64 2])
  | 0, n + 1, i, h, hn => by
    have h14 := ref_MinimumOn_12 (N := N) (k := k) l (date.tmod 365) hl l.length N 0 0 (by omega) (by omega)
    rw [L_ref01_MinimumOn_4_eq, cond_dec, List.length_map, if_neg (by omega), List.drop_eq_nil_of_le (by omega), base_Within]
    simp only [Option.bind_some, asB_bool, cond_ndec]
    rw [List.drop_zero] at h14
    by_cases hd : 0 ≤ date ∧ date ≤ 100000
    · rw [if_pos hd, if_pos hd]
      exact h14
    · rw [if_neg hd, if_neg hd]
      rfl
  | d + 1, n + 1, i, h, hn => by
    have c1 : (i : Int) < (l.length : Int) := by omega
    have c2 : (0 : Int) ≤ (i : Int) := by omega
    have e1 : w64 ((i : Int) + 1) = ((i + 1 : Nat) : Int) := by rw [w64_id] <;> omega
    rw [L_ref01_MinimumOn_4_eq]
    simp only [cond_dec, c1, c2, List.length_map, if_true, Int.toNat_natCast, leaf_cSe0, leaf_cSe1, leaf_cSe2, base_Within, Option.bind_some, asB_bool, cond_ndec, e1]
    rw [ref_MinimumOn_4 hN l date hl d n (i + 1) (by omega) (by omega), sea_drop l i (by omega), List.all_cons]
    unfold seaOk
    by_cases ha : 0 ≤ (sea l i).a ∧ (sea l i).a ≤ 364
    · by_cases hb : 0 ≤ (sea l i).b ∧ (sea l i).b ≤ 364
      · by_cases hc : 0 ≤ (sea l i).l ∧ (sea l i).l ≤ 1000000
        · simp only [ha, hb, hc, if_true, and_self, decide_true, Bool.and_self, Bool.true_and]
        · simp only [ha, hb, hc, if_true, if_false, and_self, decide_true, Bool.and_false, decide_false, Bool.false_and]
      · simp only [ha, hb, if_true, if_false, and_self, decide_true, Bool.and_false, decide_false, Bool.false_and]
    · simp only [ha, if_true, if_false, decide_false, Bool.false_and]

theorem ref_MinimumOn (hN : 1000000 ≤ N) (l : List Season) (date : Int) : ev (envF N) (k + 2) F_ref01_MinimumOn [vSe l, .int .i64 date] = some (.tup [.int .i64 (minOn l date).1, .int .i64 (minOn l date).2]) := by
  rw [E_ref01_MinimumOn, cond_dec, List.length_map]
  unfold minOn
  by_cases h : 12 < l.length
  · rw [if_pos (by omega), if_pos h]
  · have := ref_MinimumOn_4 (k := k) hN l date (by omega) l.length N 0 (by omega) (by omega)
    rw [List.drop_zero] at this
    rw [if_neg (by omega), if_neg h]
    refine this.trans ?_
    by_cases h1 : l.all seaOk = false
    · rw [if_pos h1, if_pos h1]
    · rw [if_neg h1, if_neg h1]
      by_cases h2 : 0 ≤ date ∧ date ≤ 100000
      · rw [if_pos h2, if_pos h2]
      · rw [if_neg h2, if_neg h2]

theorem ref_CopySeasons (l : List Season) (hl : l.length ≤ 100000) : ev (envF N) (k + 1) F_ref01_CopySeasons [vSe l] = some (vSe l) := by
  rw [E_ref01_CopySeasons]
  have : room [] (l.map cSe) 24 = true := by
    unfold room
    rw [decide_eq_true_eq]
    simp only [List.length_nil, List.length_map]
    omega
  rw [this, cond_t]

end
end Go.PevTab
