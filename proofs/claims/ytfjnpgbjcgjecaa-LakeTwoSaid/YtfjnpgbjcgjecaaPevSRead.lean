/- READINGS OF GAUGES: ranges of volumes, in the program and in the reference. -/
import Derived.Test.YtfjnpgbjcgjecaaPevSRef2
namespace Go.PevTab
open Go.Pev Go.Num

structure Reading where
  t : Int
  lo : Int
  hi : Int
/-- A range. -/
structure Rg where
  lo : Int
  hi : Int
def cR (r : Reading) : List PV := [.int .i64 r.t, .int .i64 r.lo, .int .i64 r.hi]
def cG (r : Rg) : List PV := [.int .i64 r.lo, .int .i64 r.hi]
def rdg (l : List Reading) (i : Nat) : Reading := l.getD i ⟨0, 0, 0⟩
def rgs (l : List Rg) (i : Nat) : Rg := l.getD i ⟨0, 0⟩
theorem leaf_cR0 (l : List Reading) (i : Nat) : asI (nth (nths (l.map cR) i) 0) = (rdg l i).t := leafI cR Reading.t 0 ⟨0, 0, 0⟩ (fun _ => rfl) rfl l i
theorem leaf_cR1 (l : List Reading) (i : Nat) : asI (nth (nths (l.map cR) i) 1) = (rdg l i).lo := leafI cR Reading.lo 1 ⟨0, 0, 0⟩ (fun _ => rfl) rfl l i
theorem leaf_cR2 (l : List Reading) (i : Nat) : asI (nth (nths (l.map cR) i) 2) = (rdg l i).hi := leafI cR Reading.hi 2 ⟨0, 0, 0⟩ (fun _ => rfl) rfl l i
theorem leaf_cG0 (l : List Rg) (i : Nat) : asI (nth (nths (l.map cG) i) 0) = (rgs l i).lo := leafI cG Rg.lo 0 ⟨0, 0⟩ (fun _ => rfl) rfl l i
theorem leaf_cG1 (l : List Rg) (i : Nat) : asI (nth (nths (l.map cG) i) 1) = (rgs l i).hi := leafI cG Rg.hi 1 ⟨0, 0⟩ (fun _ => rfl) rfl l i
abbrev vReadings (l : List Reading) : PV := .sl none [.int .i64, .int .i64, .int .i64] (l.map cR)
abbrev vReading (r : Reading) : PV := .agg [.int .i64 r.t, .int .i64 r.lo, .int .i64 r.hi]
abbrev vRgs (l : List Rg) : PV := .sl none [.int .i64, .int .i64] (l.map cG)
abbrev vG (r : Rg) : PV := .agg [.int .i64 r.lo, .int .i64 r.hi]

theorem rdg_drop (l : List Reading) (i : Nat) (h : i < l.length) : l.drop i = rdg l i :: l.drop (i + 1) := by
  rw [List.drop_eq_getElem_cons h]
  congr 1
  unfold rdg
  rw [List.getD_eq_getElem?_getD, List.getElem?_eq_getElem h, Option.getD_some]
theorem rdg_mem (l : List Reading) (i : Nat) (h : i < l.length) : rdg l i ∈ l := by
  unfold rdg
  rw [List.getD_eq_getElem?_getD, List.getElem?_eq_getElem h, Option.getD_some]
  exact List.getElem_mem h
theorem int_drop (l : List Int) (i : Nat) (h : i < l.length) : l.drop i = l.getD i 0 :: l.drop (i + 1) := by
  rw [List.drop_eq_getElem_cons h]
  congr 1
  rw [List.getD_eq_getElem?_getD, List.getElem?_eq_getElem h, Option.getD_some]

/-! The errors. -/
def netOk (n : Int) : Bool := decide (-10000000 ≤ n ∧ n ≤ 10000000)
def nErr (net : List Int) : Int := if 200 < net.length then 8 else if net.all netOk = true then 0 else 2
def rdErr1 (t : Tab) (m : Nat) (r : Reading) : Int := if (0 ≤ r.t ∧ r.t ≤ (m : Int)) ∧ IsL t r.lo ∧ IsL t r.hi then if r.lo ≤ r.hi then 0 else 9 else 2
def firstErr (t : Tab) (m : Nat) : List Reading → Int
  | [] => 0
  | r :: l => if rdErr1 t m r = 0 then firstErr t m l else rdErr1 t m r
def rdErr (t : Tab) (m : Nat) (l : List Reading) : Int := if l.length = 0 then 10 else if 10 < l.length then 8 else firstErr t m l
def aErr (t : Tab) (net : List Int) (l : List Reading) : Int := if tErr t = 0 then if nErr net = 0 then rdErr t net.length l else nErr net else tErr t

def ReadIn (t : Tab) (m : Nat) (r : Reading) : Prop := 0 ≤ r.t ∧ r.t ≤ (m : Int) ∧ IsL t r.lo ∧ IsL t r.hi ∧ r.lo ≤ r.hi
theorem rdErr1_zero {t : Tab} {m : Nat} {r : Reading} : rdErr1 t m r = 0 ↔ ReadIn t m r := by
  unfold rdErr1 ReadIn
  constructor
  · intro h
    split at h
    · rename_i h1
      split at h
      · rename_i h2
        exact ⟨h1.1.1, h1.1.2, h1.2.1, h1.2.2, h2⟩
      · simp at h
    · simp at h
  · rintro ⟨h1, h2, h3, h4, h5⟩
    rw [if_pos ⟨⟨h1, h2⟩, h3, h4⟩, if_pos h5]
theorem firstErr_zero {t : Tab} {m : Nat} : ∀ {l : List Reading}, firstErr t m l = 0 ↔ ∀ r ∈ l, ReadIn t m r
  | [] => by simp [firstErr]
  | r :: l => by
    unfold firstErr
    constructor
    · intro h
      split at h
      · rename_i h1
        intro q hq
        rcases List.mem_cons.1 hq with rfl | hq
        · exact rdErr1_zero.1 h1
        · exact firstErr_zero.1 h q hq
      · rename_i h1; exact absurd h h1
    · intro h
      rw [if_pos (rdErr1_zero.2 (h r (List.mem_cons_self ..)))]
      exact firstErr_zero.2 fun q hq => h q (List.mem_cons_of_mem _ hq)

structure RdOk (t : Tab) (net : List Int) (l : List Reading) : Prop where
  tab : Ok t
  n1 : net.length ≤ 200
  n2 : ∀ n ∈ net, -10000000 ≤ n ∧ n ≤ 10000000
  l1 : 1 ≤ l.length
  l2 : l.length ≤ 10
  l3 : ∀ r ∈ l, ReadIn t net.length r

theorem rdOk_of {t : Tab} {net : List Int} {l : List Reading} (h : aErr t net l = 0) : RdOk t net l := by
  unfold aErr at h
  split at h
  · rename_i h1
    split at h
    · rename_i h2
      unfold nErr at h2
      split at h2
      · simp at h2
      · rename_i h3
        split at h2
        · rename_i h4
          unfold rdErr at h
          split at h
          · simp at h
          · split at h
            · simp at h
            · rename_i h5 h6
              exact ⟨ok_of h1, by omega, fun n hn => by simpa [netOk] using List.all_eq_true.1 h4 n hn, by omega, by omega, firstErr_zero.1 h⟩
        · simp at h2
    · rename_i h2; exact absurd h h2
  · rename_i h2; exact absurd h h2

/-- The sum of the first numbers. -/
def psum (l : List Int) : Nat → Int
  | 0 => 0
  | i + 1 => psum l i + l.getD i 0
theorem psum_bound {l : List Int} (h : ∀ n ∈ l, -10000000 ≤ n ∧ n ≤ 10000000) : ∀ i : Nat, -10000000 * (i : Int) ≤ psum l i ∧ psum l i ≤ 10000000 * (i : Int)
  | 0 => by simp [psum]
  | i + 1 => by
    have ih := psum_bound h i
    have : -10000000 ≤ l.getD i 0 ∧ l.getD i 0 ≤ 10000000 := by
      rw [List.getD_eq_getElem?_getD]
      cases hh : l[i]? with
      | none => simp
      | some x => exact h x (List.mem_of_getElem? hh)
    simp only [psum]
    omega

/-- The range of volumes that a reading permits. -/
def perm (t : Tab) (net : List Int) (r : Reading) : Rg := ⟨vlHi t r.lo - psum net r.t.toNat, vlLo t r.hi - psum net r.t.toNat⟩

theorem vl_range {t : Tab} (h : Ok t) {l : Int} (hl : IsL t l) : 0 ≤ vlLo t l ∧ vlLo t l ≤ 1000000000 ∧ 0 ≤ vlHi t l ∧ vlHi t l ≤ 1000000000 := by
  obtain ⟨a, b⟩ := h.vl_volume hl
  have c := Ok.lo_hi h
  have a1 : lo t ≤ vlLo t l := a.1
  have a2 : vlLo t l ≤ hi t := a.2
  have b1 : lo t ≤ vlHi t l := b.1
  have b2 : vlHi t l ≤ hi t := b.2
  omega

section
variable {N k : Nat}

theorem lake_net1 (n : Int) : ev (envF N) (k + 2) F_lake_netErr_c1 [.int .i64 n] = some (.bool (!netOk n)) := by
  rw [E_lake_netErr_c1, lake_within]
  simp only [obind, asB_bool]
  rfl

theorem lake_net_loop (l : List Int) (hl : l.length ≤ 200) : ∀ (d n i : Nat), i + d = l.length → d < n →
    ∃ x, L_slices_IndexFunc_int_2 N (k + 2) n (l.map cI) (l.length : Int) (i : Int) = some (.int .i64 x) ∧ (0 ≤ x ↔ (l.drop i).all netOk = false)
  | 0, n + 1, i, h, hn => by
    refine ⟨-1, ?_, ?_⟩
    · rw [L_slices_IndexFunc_int_2_eq, cond_dec, if_neg (by omega)]
    · rw [List.drop_eq_nil_of_le (by omega)]; simp
  | d + 1, n + 1, i, h, hn => by
    have c1 : (i : Int) < (l.length : Int) := by omega
    have c2 : (0 : Int) ≤ (i : Int) := by omega
    have e1 : w64 ((i : Int) + 1) = ((i + 1 : Nat) : Int) := by rw [w64_id] <;> omega
    obtain ⟨x, ih1, ih2⟩ := lake_net_loop l hl d n (i + 1) (by omega) (by omega)
    rw [int_drop l i (by omega), List.all_cons]
    cases hc : netOk (l.getD i 0) with
    | true =>
      refine ⟨x, ?_, by simpa using ih2⟩
      rw [L_slices_IndexFunc_int_2_eq]
      simp only [cond_dec, c1, c2, List.length_map, if_true, Int.toNat_natCast, leaf_cI, lake_net1 (k := k), obind, asB_bool, hc, Bool.not_true, cond_f, e1]
      exact ih1
    | false =>
      refine ⟨(i : Int), ?_, by simp⟩
      rw [L_slices_IndexFunc_int_2_eq]
      simp only [cond_dec, c1, c2, List.length_map, if_true, Int.toNat_natCast, leaf_cI, lake_net1 (k := k), obind, asB_bool, hc, Bool.not_false, cond_t]

theorem lake_netErr (hN : 1000000 ≤ N) (l : List Int) : ev (envF N) (k + 5) F_lake_netErr [.sl none [.int .i64] (l.map cI)] = some (.int .i64 (nErr l)) := by
  rw [E_lake_netErr, cond_dec, List.length_map]
  unfold nErr
  by_cases h : 200 < l.length
  · rw [if_pos (by omega), if_pos h]
  · obtain ⟨x, h1, h2⟩ := lake_net_loop (N := N) (k := k) l (by omega) l.length N 0 (by omega) (by omega)
    have g1 : ev (envF N) (k + 3) F_slices_IndexFunc_int [.sl none [.int .i64] (l.map cI), .fn F_lake_netErr_c1 []] = some (.int .i64 x) := by
      rw [E_slices_IndexFunc_int, List.length_map]
      exact h1
    rw [if_neg (by omega), if_neg h, E_slices_ContainsFunc_int, g1]
    simp only [obind, asI_int, asB_bool, lake_unless]
    rw [List.drop_zero] at h2
    cases hb : l.all netOk with
    | true =>
      have : ¬ (0 ≤ x) := fun hx => by rw [h2.1 hx] at hb; cases hb
      simp [this]
    | false =>
      have : 0 ≤ x := h2.2 hb
      simp [this]

theorem lake_isLevel {t : Tab} (h : Ok t) (l : Int) : ev (envF N) (k + 2) F_lake_table_readingsErr_c1 [.int .i64 l, .rp [.sl none [.int .i64, .int .i64] (t.map cK)] 0] = some (.bool (decide (IsL t l))) := by
  have h2 := h.two
  have h10 := h.ten
  rw [E_lake_table_readingsErr_c1, lake_bottom (by omega), lake_top (by omega) (by omega)]
  simp only [obind, asA_agg, nth_zero, asI_int, lake_within, asB_bool]
  rfl

theorem lake_readings_loop (hN : 1000000 ≤ N) {t : Tab} (h : Ok t) (net : List Int) (l : List Reading) (hl : l.length ≤ 10) (x5 : List (List PV)) : ∀ (d n i : Nat), i + d = l.length → d < n →
    L_lake_table_readingsErr_6 N (k + 2) n (net.map cI) (t.map cK) (l.map cR) (l.length : Int) (i : Int) x5 = some (.int .i64 (firstErr t net.length (l.drop i)))
  | 0, n + 1, i, hd, hn => by
    rw [L_lake_table_readingsErr_6_eq, cond_dec, if_neg (by omega), List.drop_eq_nil_of_le (by omega)]
    rfl
  | d + 1, n + 1, i, hd, hn => by
    have c1 : (i : Int) < (l.length : Int) := by omega
    have c2 : (0 : Int) ≤ (i : Int) := by omega
    have e1 : w64 ((i : Int) + 1) = ((i + 1 : Nat) : Int) := by rw [w64_id] <;> omega
    have ih := lake_readings_loop hN h net l hl x5 d n (i + 1) (by omega) (by omega)
    rw [L_lake_table_readingsErr_6_eq, rdg_drop l i (by omega)]
    simp only [cond_dec, c1, c2, List.length_map, if_true, Int.toNat_natCast, leaf_cR0, leaf_cR1, leaf_cR2, lake_within, obind, asB_bool, lake_isLevel (k := k) h, lake_unless, asI_int, lake_first2 hN, cond_ndec, e1, decide_eq_true_eq, Bool.false_eq_true, if_false, ih]
    rw [firstErr]
    unfold rdErr1
    by_cases a1 : 0 ≤ (rdg l i).t ∧ (rdg l i).t ≤ (net.length : Int)
    · by_cases a2 : IsL t (rdg l i).lo
      · by_cases a3 : IsL t (rdg l i).hi
        · by_cases a4 : (rdg l i).lo ≤ (rdg l i).hi <;> simp [a1, a2, a3, a4]
        · by_cases a4 : (rdg l i).lo ≤ (rdg l i).hi <;> simp [a1, a2, a3, a4]
      · by_cases a4 : (rdg l i).lo ≤ (rdg l i).hi <;> simp [a1, a2, a4]
    · by_cases a4 : (rdg l i).lo ≤ (rdg l i).hi <;> simp [a1, a4]

theorem lake_readingsErr (hN : 1000000 ≤ N) {t : Tab} (h : Ok t) (net : List Int) (l : List Reading) : ev (envF N) (k + 3) F_lake_table_readingsErr [vTab t, .sl none [.int .i64] (net.map cI), vReadings l] = some (.int .i64 (rdErr t net.length l)) := by
  rw [E_lake_table_readingsErr, lake_unless, lake_unless]
  simp only [obind, asI_int, List.length_map, lake_first2 hN, decide_eq_true_eq, cond_ndec]
  unfold rdErr
  by_cases h2 : l.length = 0
  · rw [if_neg (show ¬ ((0 : Int) < (l.length : Int)) by omega), if_pos h2]
    simp only [show ¬ ((10 : Int) = 0) by decide, if_false]
  · rw [if_pos (show ((0 : Int) < (l.length : Int)) by omega), if_neg h2, if_pos rfl]
    by_cases h10 : 10 < l.length
    · rw [if_neg (show ¬ ((l.length : Int) ≤ 10) by omega), if_pos h10]
      rfl
    · rw [if_pos (show ((l.length : Int) ≤ 10) by omega), if_neg h10, if_pos rfl]
      have := lake_readings_loop (k := k) hN h net l (by omega) (t.map cK) l.length N 0 (by omega) (by omega)
      rw [List.drop_zero] at this
      exact this

theorem lake_perm_inner (hN : 1000000 ≤ N) {t : Tab} (h : Ok t) {net : List Int} (hn1 : net.length ≤ 200) (hnet : ∀ n ∈ net, -10000000 ≤ n ∧ n ≤ 10000000) (n10 : Nat) (x0 x1 x3 : List (List PV)) (x4 x5 : Int) (x9 : List (List PV)) {r : Reading} (hr : ReadIn t net.length r) (m : Nat) (hm : m = r.t.toNat) (hroom : x1.length ≤ 100000) (hx5 : 0 ≤ x5 ∧ x5 ≤ 1000) : ∀ (d n j : Nat), j + d = m → d < n →
    L_lake_permitted_14 N (k + 4) n n10 x0 x1 (psum net j) x3 x4 x5 ((net.take m).map cI) (m : Int) (j : Int) x9 (t.map cK) r.t r.lo r.hi = L_lake_permitted_10 N (k + 4) n10 x0 (x1 ++ [cG (perm t net r)]) x3 x4 (x5 + 1) x9 (t.map cK)
  | 0, n + 1, j, hd, hn => by
    have hj : j = m := by omega
    subst hj
    have b := psum_bound hnet j
    have hjl : (j : Int) ≤ 200 := by
      have := hr.2.1
      have := hr.1
      omega
    obtain ⟨v1, v2, v3, v4⟩ := vl_range h hr.2.2.1
    obtain ⟨u1, u2, u3, u4⟩ := vl_range h hr.2.2.2.1
    have g1 := lake_volumeAt (k := k) hN h hr.2.2.1
    have g2 := lake_volumeAt (k := k) hN h hr.2.2.2.1
    have e1 : w64 (vlHi t r.lo - psum net j) = vlHi t r.lo - psum net j := by rw [w64_id] <;> omega
    have e2 : w64 (vlLo t r.hi - psum net j) = vlLo t r.hi - psum net j := by rw [w64_id] <;> omega
    have e3 : w64 (x5 + 1) = x5 + 1 := by rw [w64_id] <;> omega
    have hro : room x1 [[PV.int .i64 (vlHi t r.lo - psum net j), PV.int .i64 (vlLo t r.hi - psum net j)]] 16 = true := by
      unfold room
      rw [decide_eq_true_eq]
      simp only [List.length_cons, List.length_nil, Nat.zero_add]
      omega
    rw [L_lake_permitted_14_eq, cond_dec, if_neg (by omega), g1, g2]
    simp only [obind, asA_agg, nth_zero, nth_one, asI_int, e1, e2, e3, hro, cond_t]
    unfold perm cG
    rw [← hm]
  | d + 1, n + 1, j, hd, hn => by
    have hjl : (m : Int) ≤ 200 := by
      have := hr.2.1
      have := hr.1
      omega
    have b := psum_bound hnet j
    have b2 := psum_bound hnet (j + 1)
    have hlen : (net.take m).length = m := by
      rw [List.length_take]
      have := hr.2.1
      have := hr.1
      omega
    have c1 : (j : Int) < (m : Int) := by omega
    have c2 : (0 : Int) ≤ (j : Int) := by omega
    have c3 : (j : Int) < ((net.take m).length : Int) := by omega
    have e1 : w64 ((j : Int) + 1) = ((j + 1 : Nat) : Int) := by rw [w64_id] <;> omega
    have hg : (net.take m).getD j 0 = net.getD j 0 := by
      rw [List.getD_eq_getElem?_getD, List.getElem?_take_of_lt (by omega), ← List.getD_eq_getElem?_getD]
    have e2 : w64 (psum net j + net.getD j 0) = psum net (j + 1) := by
      show w64 (psum net (j + 1)) = psum net (j + 1)
      rw [w64_id] <;> omega
    rw [L_lake_permitted_14_eq]
    simp only [cond_dec, c1, c2, c3, List.length_map, if_true, Int.toNat_natCast, leaf_cI, hg, e1, e2]
    exact lake_perm_inner hN h hn1 hnet n10 x0 x1 x3 x4 x5 x9 hr m hm hroom hx5 d n (j + 1) (by omega) (by omega)

theorem lake_perm_outer (hN : 1000000 ≤ N) {t : Tab} {net : List Int} {l : List Reading} (h : RdOk t net l) (x5 : List (List PV)) : ∀ (d n i : Nat) (out : List Rg), i + d = l.length → d < n → out.length = i →
    L_lake_permitted_10 N (k + 4) n (net.map cI) (out.map cG) (l.map cR) (l.length : Int) (i : Int) x5 (t.map cK) = some (.tup [vRgs (out ++ (l.drop i).map (perm t net)), .int .i64 0])
  | 0, n + 1, i, out, hd, hn, ho => by
    rw [L_lake_permitted_10_eq, cond_dec, if_neg (by omega), List.drop_eq_nil_of_le (by omega)]
    simp
  | d + 1, n + 1, i, out, hd, hn, ho => by
    have hl2 := h.l2
    have hr := h.l3 _ (rdg_mem l i (by omega))
    have c1 : (i : Int) < (l.length : Int) := by omega
    have c2 : (0 : Int) ≤ (i : Int) := by omega
    have c3 : (0 : Int) ≤ (rdg l i).t := hr.1
    have c4 : (rdg l i).t ≤ (net.length : Int) := hr.2.1
    obtain ⟨m, hm⟩ : ∃ m, (rdg l i).t.toNat = m := ⟨_, rfl⟩
    have hlen : (net.take m).length = m := by rw [List.length_take]; omega
    have f1 : List.drop 0 (List.take m (net.map cI)) = (net.take m).map cI := by rw [List.drop_zero, List.map_take]
    have hin := lake_perm_inner (k := k) hN h.tab h.n1 h.n2 n (net.map cI) (out.map cG) (l.map cR) (l.length : Int) (i : Int) x5 hr m hm.symm (by rw [List.length_map]; omega) (by omega) m N 0 (by omega) (by have := h.n1; omega)
    have eo : out.map cG ++ [cG (perm t net (rdg l i))] = (out ++ [perm t net (rdg l i)]).map cG := by rw [List.map_append]; rfl
    rw [eo] at hin
    rw [L_lake_permitted_10_eq, rdg_drop l i (by omega)]
    simp only [cond_dec, c1, c2, List.length_map, if_true, Int.toNat_natCast, leaf_cR0, leaf_cR1, leaf_cR2, c3, c4, hm, f1, hlen]
    refine hin.trans ?_
    have e1 : (i : Int) + 1 = ((i + 1 : Nat) : Int) := by omega
    rw [e1, lake_perm_outer hN h x5 d n (i + 1) (out ++ [perm t net (rdg l i)]) (by omega) (by omega) (by simp; omega), List.append_assoc]
    rfl

theorem lake_permitted (hN : 1000000 ≤ N) (t : Tab) (net : List Int) (l : List Reading) : ev (envF N) (k + 6) F_lake_permitted [vTab t, .sl none [.int .i64] (net.map cI), vReadings l] =
    some (.tup [vRgs (if aErr t net l = 0 then l.map (perm t net) else []), .int .i64 (aErr t net l)]) := by
  have g1 := lake_tableErr (k := k + 1) hN t
  have g2 := lake_netErr (k := k) hN net
  rw [E_lake_permitted, g1, g2]
  simp only [obind, asI_int, lake_first2 hN, cond_ndec]
  by_cases h1 : tErr t = 0
  · by_cases h2 : nErr net = 0
    · have ha : aErr t net l = rdErr t net.length l := by unfold aErr; rw [if_pos h1, if_pos h2]
      have g3 := lake_readingsErr (k := k + 2) hN (ok_of h1) net l
      rw [if_pos h1, if_pos h2, g3, ha]
      simp only [obind, asI_int, cond_ndec]
      by_cases h3 : rdErr t net.length l = 0
      · have ho := rdOk_of (ha.trans h3)
        have := lake_perm_outer (k := k + 1) hN ho (t.map cK) l.length N 0 [] (by omega) (by have := ho.l2; omega) rfl
        rw [if_pos h3, if_pos h3, List.length_map, h3]
        rw [List.drop_zero] at this
        exact this
      · rw [if_neg h3, if_neg h3]
        rfl
    · have ha : aErr t net l = nErr net := by unfold aErr; rw [if_pos h1, if_neg h2]
      rw [if_pos h1, if_neg h2, ha, if_neg h2]
      rfl
  · have ha : aErr t net l = tErr t := by unfold aErr; rw [if_neg h1]
    rw [if_neg h1, if_neg h1, ha, if_neg h1]
    rfl

end
end Go.PevTab
