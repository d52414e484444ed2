/- PAIRS OF LAKES in the program: states, steps and runs. -/
import Derived.Test.YtfjnpgbjcgjecaaPevSLake2
namespace Go.PevTab
open Go.Pev Go.Num

/-- The volumes of both lakes; what flows in and is exchanged in a tick; what is lost. -/
structure Vols where
  u : Int
  l : Int
  deriving DecidableEq
structure Flow where
  a : Int
  b : Int
  x : Int
structure Loss where
  e : Int
  s : Int
  deriving DecidableEq
/-- A pair of lakes. -/
structure Pair where
  u : Tab
  l : Tab
  r : Int

abbrev vVols (s : Vols) : PV := .agg [.int .i64 s.u, .int .i64 s.l]
abbrev vFlow (f : Flow) : PV := .agg [.int .i64 f.a, .int .i64 f.b, .int .i64 f.x]
abbrev vLoss (f : Loss) : PV := .agg [.int .i64 f.e, .int .i64 f.s]
abbrev vPair (p : Pair) : PV := .agg [.sl none [.int .i64, .int .i64] (p.u.map cK), .sl none [.int .i64, .int .i64] (p.l.map cK), .int .i64 p.r]
def cV (s : Vols) : List PV := [.int .i64 s.u, .int .i64 s.l]
def cF (f : Flow) : List PV := [.int .i64 f.a, .int .i64 f.b, .int .i64 f.x]
def flo (l : List Flow) (i : Nat) : Flow := l.getD i ⟨0, 0, 0⟩
def vls (l : List Vols) (i : Nat) : Vols := l.getD i ⟨0, 0⟩
theorem leaf_cF0 (l : List Flow) (i : Nat) : asI (nth (nths (l.map cF) i) 0) = (flo l i).a := leafI cF Flow.a 0 ⟨0, 0, 0⟩ (fun _ => rfl) rfl l i
theorem leaf_cF1 (l : List Flow) (i : Nat) : asI (nth (nths (l.map cF) i) 1) = (flo l i).b := leafI cF Flow.b 1 ⟨0, 0, 0⟩ (fun _ => rfl) rfl l i
theorem leaf_cF2 (l : List Flow) (i : Nat) : asI (nth (nths (l.map cF) i) 2) = (flo l i).x := leafI cF Flow.x 2 ⟨0, 0, 0⟩ (fun _ => rfl) rfl l i
theorem leaf_cV0 (l : List Vols) (i : Nat) : asI (nth (nths (l.map cV) i) 0) = (vls l i).u := leafI cV Vols.u 0 ⟨0, 0⟩ (fun _ => rfl) rfl l i
theorem leaf_cV1 (l : List Vols) (i : Nat) : asI (nth (nths (l.map cV) i) 1) = (vls l i).l := leafI cV Vols.l 1 ⟨0, 0⟩ (fun _ => rfl) rfl l i

def lo (t : Tab) : Int := (kn t 0).v
def hi (t : Tab) : Int := (kn t (t.length - 1)).v

/-- The errors. -/
def pErr (p : Pair) : Int := if tErr p.u = 0 then if tErr p.l = 0 then if 0 ≤ p.r ∧ p.r ≤ 1000 then 0 else 2 else tErr p.l else tErr p.u
def sErr (p : Pair) (s : Vols) : Int := if IsV p.u s.u ∧ IsV p.l s.l then 0 else 2
def bErr (p : Pair) (s : Vols) : Int := if pErr p = 0 then sErr p s else pErr p
def fErr (f : Flow) : Int := if (0 ≤ f.a ∧ f.a ≤ 10000000) ∧ (0 ≤ f.b ∧ f.b ≤ 10000000) ∧ (-10000000 ≤ f.x ∧ f.x ≤ 10000000) then 0 else 2

/-- A valid pair. -/
structure POk (p : Pair) : Prop where
  u : Ok p.u
  l : Ok p.l
  r0 : 0 ≤ p.r
  r1 : p.r ≤ 1000

theorem pOk_of {p : Pair} (h : pErr p = 0) : POk p := by
  unfold pErr at h
  split at h
  · rename_i h1
    split at h
    · rename_i h2
      split at h
      · rename_i h3
        exact ⟨ok_of h1, ok_of h2, h3.1, h3.2⟩
      · simp at h
    · rename_i h2
      exact absurd h h2
  · rename_i h1
    exact absurd h h1

theorem bErr_zero {p : Pair} {s : Vols} (h : bErr p s = 0) : POk p ∧ IsV p.u s.u ∧ IsV p.l s.l := by
  unfold bErr at h
  split at h
  · rename_i h1
    unfold sErr at h
    split at h
    · rename_i h2
      exact ⟨pOk_of h1, h2⟩
    · simp at h
  · rename_i h1
    exact absurd h h1

theorem Ok.lo_hi {t : Tab} (h : Ok t) : 0 ≤ lo t ∧ lo t < hi t ∧ hi t ≤ 1000000000 := by
  have h2 := h.two
  have a := Ok.kr h (i := 0) (by omega)
  have b := Ok.kr h (i := t.length - 1) (by omega)
  have c := h.lt (i := 0) (j := t.length - 1) (by omega) (by omega)
  unfold Kr at a b
  unfold lo hi
  omega

/-- What evaporates. -/
def evap (t : Tab) (r v : Int) : Int := min (r * vol t (byV t v) / (1000 * hgt t (byV t v))) (v - lo t)

theorem evap_bounds {t : Tab} (h : Ok t) {r v : Int} (h0 : 0 ≤ r) (hv : IsV t v) : 0 ≤ evap t r v ∧ evap t r v ≤ v - lo t := by
  obtain ⟨i1, i2, i3, i4⟩ := h.pieceV hv
  obtain ⟨p1, p2, p3, p4⟩ := Ok.hv_le h i1 i2
  have : 0 ≤ r * vol t (byV t v) / (1000 * hgt t (byV t v)) := Int.ediv_nonneg (Int.mul_nonneg h0 (by omega)) (by omega)
  have hv1 := hv.1
  unfold evap lo
  omega

/-- A step, if it is possible. -/
def step (p : Pair) (s : Vols) (f : Flow) : Option (Vols × Loss) :=
  let a := evap p.u p.r s.u
  let b := evap p.l p.r s.l
  let u := s.u - a + f.a + f.x
  let l := s.l - b + f.b - f.x
  if u < lo p.u ∨ l < lo p.l then none
  else some (⟨u - max 0 (u - hi p.u), l - max 0 (l - hi p.l)⟩, ⟨a + b, max 0 (u - hi p.u) + max 0 (l - hi p.l)⟩)

def FlowIn (f : Flow) : Prop := (0 ≤ f.a ∧ f.a ≤ 10000000) ∧ (0 ≤ f.b ∧ f.b ≤ 10000000) ∧ (-10000000 ≤ f.x ∧ f.x ≤ 10000000)
theorem flowIn_of {f : Flow} (h : fErr f = 0) : FlowIn f := by
  unfold fErr at h
  split at h
  · assumption
  · simp at h

/-- After a step the state is valid; what is lost is bounded. -/
theorem step_ok {p : Pair} {s : Vols} {f : Flow} {s' : Vols} {x : Loss} (h : POk p) (hu : IsV p.u s.u) (hl : IsV p.l s.l) (hs : step p s f = some (s', x)) (hf : FlowIn f) :
    IsV p.u s'.u ∧ IsV p.l s'.l ∧ 0 ≤ x.e ∧ x.e ≤ 2000000000 ∧ 0 ≤ x.s ∧ x.s ≤ 2000000000 ∧ s'.u + s'.l + x.e + x.s = s.u + s.l + f.a + f.b := by
  have a := evap_bounds h.u h.r0 hu
  have b := evap_bounds h.l h.r0 hl
  have c := Ok.lo_hi h.u
  have d := Ok.lo_hi h.l
  unfold step at hs
  simp only at hs
  split at hs
  · cases hs
  · rename_i hn
    cases hs
    have hu2 := hu.2
    have hl2 := hl.2
    unfold FlowIn at hf
    unfold IsV
    unfold lo hi at *
    simp only
    omega

section
variable {N k : Nat}

theorem lake_CheckPair (hN : 1000000 ≤ N) (p : Pair) : ev (envF N) (k + 5) F_lake_CheckPair [vPair p] = some (.int .i64 (pErr p)) := by
  rw [E_lake_CheckPair, lake_tableErr hN, lake_tableErr hN]
  simp only [obind, asI_int, lake_within, asB_bool, lake_unless, lake_first3 hN, decide_eq_true_eq]
  rfl

theorem lake_openPair (hN : 1000000 ≤ N) (p : Pair) : ev (envF N) (k + 6) F_lake_openPair [vPair p] = some (.tup [vPair p, .int .i64 (pErr p)]) := by
  rw [E_lake_openPair, lake_CheckPair hN]
  simp only [obind, asI_int]

theorem lake_stateErr {p : Pair} (h : POk p) (s : Vols) : ev (envF N) (k + 3) F_lake_pair_stateErr [vPair p, vVols s] = some (.int .i64 (sErr p s)) := by
  rw [E_lake_pair_stateErr, lake_holds h.u]
  simp only [obind, asB_bool, cond_dec]
  unfold sErr
  by_cases hu : IsV p.u s.u
  · rw [if_pos hu, lake_holds h.l]
    simp only [obind, asB_bool, lake_unless, asI_int, decide_eq_true_eq, hu, true_and]
  · rw [if_neg hu, lake_unless]
    simp only [obind, asI_int, Bool.false_eq_true, if_false, hu, false_and]

theorem lake_openState (hN : 1000000 ≤ N) (p : Pair) (s : Vols) : ev (envF N) (k + 7) F_lake_openState [vPair p, vVols s] = some (.tup [vPair p, .int .i64 (bErr p s)]) := by
  rw [E_lake_openState, lake_openPair hN]
  simp only [obind, asT_tup, nth_zero, nth_one, nth_two, asA_agg, asI_int, asL_sl, cond_dec]
  unfold bErr
  by_cases h : pErr p = 0
  · rw [if_pos h, if_pos h, lake_stateErr (k := k + 3) (pOk_of h)]
    simp only [obind, asI_int]
  · rw [if_neg h, if_neg h]

theorem lake_CheckState (hN : 1000000 ≤ N) (p : Pair) (s : Vols) : ev (envF N) (k + 8) F_lake_CheckState [vPair p, vVols s] = some (.int .i64 (bErr p s)) := by
  rw [E_lake_CheckState, lake_openState hN]
  simp only [obind, asT_tup, nth_one, asI_int]

theorem lake_isFlow (n : Int) : ev (envF N) (k + 2) F_lake_flowsErr_c1 [.int .i64 n] = some (.bool (decide (0 ≤ n ∧ n ≤ 10000000))) := by
  rw [E_lake_flowsErr_c1, lake_within]
  simp only [obind, asB_bool]

theorem lake_flowsErr (f : Flow) : ev (envF N) (k + 3) F_lake_flowsErr [vFlow f] = some (.int .i64 (fErr f)) := by
  rw [E_lake_flowsErr, lake_isFlow, lake_isFlow]
  simp only [obind, asB_bool, cond_dec, lake_within, lake_unless, asI_int, decide_eq_true_eq, Bool.false_eq_true, if_false]
  unfold fErr
  by_cases h1 : 0 ≤ f.a ∧ f.a ≤ 10000000
  · by_cases h2 : 0 ≤ f.b ∧ f.b ≤ 10000000
    · simp only [h1, h2, if_true, and_self, true_and]
    · simp [h1, h2]
  · simp [h1]

theorem lake_evaporated (hN : 1000000 ≤ N) {t : Tab} (h : Ok t) {r v : Int} (h0 : 0 ≤ r) (h1 : r ≤ 1000) (hv : IsV t v) : ev (envF N) (k + 5) F_lake_table_evaporated [vTab t, .int .i64 v, .int .i64 r] = some (.int .i64 (evap t r v)) := by
  obtain ⟨i1, i2, i3, i4⟩ := h.pieceV hv
  obtain ⟨p1, p2, p3, p4⟩ := Ok.hv_le h i1 i2
  have h2 := h.two
  have b := Ok.lo_hi h
  have hv1 := hv.1
  have hv2 := hv.2
  have hV : (kn t (byV t v)).v - (kn t (byV t v - 1)).v = vol t (byV t v) := by unfold vol; rfl
  have hH : (kn t (byV t v)).l - (kn t (byV t v - 1)).l = hgt t (byV t v) := by unfold hgt; rfl
  have g1 := lake_volume (N := N) (k := k + 3) (kn t (byV t v - 1)) (kn t (byV t v)) (by rw [hV]; constructor <;> omega)
  have g2 := lake_height (N := N) (k := k + 3) (kn t (byV t v - 1)) (kn t (byV t v)) (by rw [hH]; constructor <;> omega)
  rw [hV] at g1
  rw [hH] at g2
  have m := mul_le_big (x := r) (y := vol t (byV t v)) (by omega) (by omega) (by omega) (by omega)
  have e1 : w64 (r * vol t (byV t v)) = r * vol t (byV t v) := by rw [w64_id] <;> omega
  have e2 : w64 (1000 * hgt t (byV t v)) = 1000 * hgt t (byV t v) := by rw [w64_id] <;> omega
  have c : ¬ (1000 * hgt t (byV t v) = 0) := by omega
  have d := tdiv_abs_le (r * vol t (byV t v)) (1000 * hgt t (byV t v))
  have e3 : w64 ((r * vol t (byV t v)).tdiv (1000 * hgt t (byV t v))) = r * vol t (byV t v) / (1000 * hgt t (byV t v)) := by
    rw [w64_id (by omega) (by omega), Int.tdiv_eq_ediv_of_nonneg m.1]
  have hlo : lo t = (kn t 0).v := by unfold lo; rfl
  have hhi : hi t = (kn t (t.length - 1)).v := by unfold hi; rfl
  have e4 : w64 (v - (kn t 0).v) = v - lo t := by rw [w64_id] <;> omega
  have g3 := lake_bottom (N := N) (k := k + 3) (t := t) (by omega)
  rw [E_lake_table_evaporated, lake_byVolume hN h hv]
  simp only [obind, asA_agg, nth_zero, nth_one, nth_two, nth_three, asI_int, g1, g2, g3, e1, e2, e3, e4, c, cond_ndec, if_false, imin_eq]
  rfl

theorem lake_step (hN : 1000000 ≤ N) {p : Pair} (h : POk p) {s : Vols} (hu : IsV p.u s.u) (hl : IsV p.l s.l) {f : Flow} (hf : FlowIn f) : ev (envF N) (k + 6) F_lake_pair_step [vPair p, vVols s, vFlow f] =
    some (match step p s f with | some (s', x) => .tup [vVols s', vLoss x, .bool true] | none => .tup [vVols ⟨0, 0⟩, vLoss ⟨0, 0⟩, .bool false]) := by
  obtain ⟨M, rfl⟩ : ∃ M, N = M + 3 := ⟨N - 3, by omega⟩
  have a := evap_bounds h.u h.r0 hu
  have b := evap_bounds h.l h.r0 hl
  have c := Ok.lo_hi h.u
  have d := Ok.lo_hi h.l
  have hu2 : s.u ≤ hi p.u := hu.2
  have hl2 : s.l ≤ hi p.l := hl.2
  have t1 := h.u.two
  have t2 := h.l.two
  have t3 := h.u.ten
  have t4 := h.l.ten
  have u0 : (kn p.u 0).v = lo p.u := by unfold lo; rfl
  have u1 : (kn p.u (p.u.length - 1)).v = hi p.u := by unfold hi; rfl
  have l0 : (kn p.l 0).v = lo p.l := by unfold lo; rfl
  have l1 : (kn p.l (p.l.length - 1)).v = hi p.l := by unfold hi; rfl
  have g1 := lake_evaporated (k := k) hN h.u h.r0 h.r1 hu
  have g2 := lake_evaporated (k := k) hN h.l h.r0 h.r1 hl
  have g3 := lake_bottom (N := M + 3) (k := k + 4) (t := p.u) (by omega)
  have g4 := lake_bottom (N := M + 3) (k := k + 4) (t := p.l) (by omega)
  have g5 := lake_top (N := M + 3) (k := k + 4) (t := p.u) (by omega) (by omega)
  have g6 := lake_top (N := M + 3) (k := k + 4) (t := p.l) (by omega) (by omega)
  obtain ⟨A, hA⟩ : ∃ A, evap p.u p.r s.u = A := ⟨_, rfl⟩
  obtain ⟨B, hB⟩ : ∃ B, evap p.l p.r s.l = B := ⟨_, rfl⟩
  rw [hA] at a g1
  rw [hB] at b g2
  unfold FlowIn at hf
  have eu : w64 (s.u + w64 (w64 (f.a + f.x) - A)) = s.u - A + f.a + f.x := by
    rw [w64_id (x := f.a + f.x) (by omega) (by omega), w64_id (x := f.a + f.x - A) (by omega) (by omega), w64_id (by omega) (by omega)]
    omega
  have el : w64 (s.l + w64 (w64 (f.b - f.x) - B)) = s.l - B + f.b - f.x := by
    rw [w64_id (x := f.b - f.x) (by omega) (by omega), w64_id (x := f.b - f.x - B) (by omega) (by omega), w64_id (by omega) (by omega)]
    omega
  rw [E_lake_pair_step]
  simp only [g1, g2, g3, g4, g5, g6, obind, asA_agg, nth_zero, nth_one, asI_int, eu, el, u0, u1, l0, l1, imax_eq, cond_dec]
  unfold step
  simp only [hA, hB]
  obtain ⟨U, hU⟩ : ∃ U, s.u - A + f.a + f.x = U := ⟨_, rfl⟩
  obtain ⟨L, hL⟩ : ∃ L, s.l - B + f.b - f.x = L := ⟨_, rfl⟩
  simp only [hU, hL]
  have e1 : w64 (U - hi p.u) = U - hi p.u := by rw [w64_id] <;> omega
  have e2 : w64 (L - hi p.l) = L - hi p.l := by rw [w64_id] <;> omega
  have e3 : w64 (U - max 0 (U - hi p.u)) = U - max 0 (U - hi p.u) := by rw [w64_id] <;> omega
  have e4 : w64 (L - max 0 (L - hi p.l)) = L - max 0 (L - hi p.l) := by rw [w64_id] <;> omega
  have e5 : w64 (w64 (0 + A) + B) = A + B := by rw [w64_id (x := 0 + A) (by omega) (by omega), w64_id] <;> omega
  have e6 : w64 (w64 (0 + max 0 (U - hi p.u)) + max 0 (L - hi p.l)) = max 0 (U - hi p.u) + max 0 (L - hi p.l) := by
    rw [w64_id (x := 0 + max 0 (U - hi p.u)) (by omega) (by omega), w64_id] <;> omega
  simp only [e1, e2, e3, e4, e5, e6]
  by_cases h1 : U < lo p.u
  · rw [if_pos h1, if_pos (Or.inl h1)]
  · by_cases h2 : L < lo p.l
    · rw [if_neg h1, if_pos h2, if_pos (Or.inr h2)]
    · rw [if_neg h1, if_neg h2, if_neg (by omega)]

def stepE : Option (Vols × Loss) → PV
  | some (s', x) => .tup [vVols s', vLoss x, .int .i64 0]
  | none => .tup [vVols ⟨0, 0⟩, vLoss ⟨0, 0⟩, .int .i64 22]
/-- The results of a step, or its error. -/
def stepR (p : Pair) (s : Vols) (f : Flow) : PV :=
  if bErr p s ≠ 0 then .tup [vVols ⟨0, 0⟩, vLoss ⟨0, 0⟩, .int .i64 (bErr p s)]
  else if fErr f ≠ 0 then .tup [vVols ⟨0, 0⟩, vLoss ⟨0, 0⟩, .int .i64 (fErr f)]
  else stepE (step p s f)

theorem stepR_ok {p : Pair} {s : Vols} {f : Flow} (h : bErr p s = 0) (hf : fErr f = 0) : stepR p s f = stepE (step p s f) := by
  unfold stepR
  rw [if_neg (by omega), if_neg (by omega)]

theorem lake_Step (hN : 1000000 ≤ N) (p : Pair) (s : Vols) (f : Flow) : ev (envF N) (k + 8) F_lake_Step [vPair p, vVols s, vFlow f] = some (stepR p s f) := by
  rw [E_lake_Step, lake_openState hN]
  have g := lake_flowsErr (N := N) (k := k + 4) f
  rw [g]
  simp only [obind, asT_tup, nth_zero, nth_one, nth_two, asA_agg, asI_int, asL_sl, lake_first2 hN, cond_ndec]
  unfold stepR
  by_cases h : bErr p s = 0
  · rw [if_pos h, if_neg (show ¬ (bErr p s ≠ 0) by omega)]
    by_cases h2 : fErr f = 0
    · rw [if_pos h2, if_neg (show ¬ (fErr f ≠ 0) by omega)]
      obtain ⟨hp, hu, hl⟩ := bErr_zero h
      have g2 := lake_step (k := k + 1) hN hp hu hl (flowIn_of h2)
      rw [g2]
      cases step p s f with
      | none =>
        simp only [obind, asT_tup, nth_zero, nth_one, nth_two, asA_agg, asI_int, asB_bool, lake_unless, Bool.false_eq_true, if_false, stepE]
      | some r =>
        obtain ⟨s', x⟩ := r
        simp only [obind, asT_tup, nth_zero, nth_one, nth_two, asA_agg, asI_int, asB_bool, lake_unless, if_true, stepE]
    · rw [if_neg h2, if_pos h2]
  · rw [if_neg h, if_neg h, if_pos h]

theorem lake_Usable (hN : 1000000 ≤ N) (p : Pair) (s : Vols) : ev (envF N) (k + 8) F_lake_Usable [vPair p, vVols s] =
    some (if bErr p s = 0 then .tup [vVols ⟨min (s.u - lo p.u) (hi p.l - s.l), min (s.l - lo p.l) (hi p.u - s.u)⟩, .int .i64 0] else .tup [vVols ⟨0, 0⟩, .int .i64 (bErr p s)]) := by
  rw [E_lake_Usable, lake_openState hN]
  simp only [obind, asT_tup, nth_zero, nth_one, nth_two, asA_agg, asI_int, asL_sl, cond_ndec]
  by_cases h : bErr p s = 0
  · obtain ⟨hp, hu, hl⟩ := bErr_zero h
    have c := Ok.lo_hi hp.u
    have d := Ok.lo_hi hp.l
    have t1 := hp.u.two
    have t2 := hp.l.two
    have t3 := hp.u.ten
    have t4 := hp.l.ten
    have hu1 : lo p.u ≤ s.u := hu.1
    have hl1 : lo p.l ≤ s.l := hl.1
    have hu2 : s.u ≤ hi p.u := hu.2
    have hl2 : s.l ≤ hi p.l := hl.2
    have u0 : (kn p.u 0).v = lo p.u := by unfold lo; rfl
    have u1 : (kn p.u (p.u.length - 1)).v = hi p.u := by unfold hi; rfl
    have l0 : (kn p.l 0).v = lo p.l := by unfold lo; rfl
    have l1 : (kn p.l (p.l.length - 1)).v = hi p.l := by unfold hi; rfl
    have g3 := lake_bottom (N := N) (k := k + 6) (t := p.u) (by omega)
    have g4 := lake_bottom (N := N) (k := k + 6) (t := p.l) (by omega)
    have g5 := lake_top (N := N) (k := k + 6) (t := p.u) (by omega) (by omega)
    have g6 := lake_top (N := N) (k := k + 6) (t := p.l) (by omega) (by omega)
    have e1 : w64 (s.u - lo p.u) = s.u - lo p.u := by rw [w64_id] <;> omega
    have e2 : w64 (s.l - lo p.l) = s.l - lo p.l := by rw [w64_id] <;> omega
    have e3 : w64 (hi p.u - s.u) = hi p.u - s.u := by rw [w64_id] <;> omega
    have e4 : w64 (hi p.l - s.l) = hi p.l - s.l := by rw [w64_id] <;> omega
    rw [if_pos h, if_pos h]
    simp only [g3, g4, g5, g6, obind, asA_agg, nth_one, asI_int, u0, u1, l0, l1, e1, e2, e3, e4, imin_eq]
  · rw [if_neg h, if_neg h]

end
end Go.PevTab
