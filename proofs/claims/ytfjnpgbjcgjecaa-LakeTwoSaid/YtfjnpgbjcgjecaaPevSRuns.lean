/- RUNS: step after step, in the program and in the reference. -/
import Derived.Test.YtfjnpgbjcgjecaaPevSRef2
namespace Go.PevTab
open Go.Pev Go.Num

/-- The states of a run as far as its steps are possible, what is lost, and whether all are possible. -/
structure RunR where
  ss : List Vols
  y : Loss
  ok : Bool
def runG (p : Pair) : Vols → List Flow → RunR
  | _, [] => ⟨[], ⟨0, 0⟩, true⟩
  | s, f :: fs => match step p s f with
    | none => ⟨[], ⟨0, 0⟩, false⟩
    | some (s', x) => ⟨s' :: (runG p s' fs).ss, ⟨x.e + (runG p s' fs).y.e, x.s + (runG p s' fs).y.s⟩, (runG p s' fs).ok⟩

def FlowsIn (l : List Flow) : Prop := ∀ f ∈ l, FlowIn f
def allOk (l : List Flow) : Bool := l.all fun f => decide (fErr f = 0)
def lErr (l : List Flow) : Int := if 200 < l.length then 8 else if allOk l = true then 0 else 2

theorem lErr_zero {l : List Flow} (h : lErr l = 0) : l.length ≤ 200 ∧ FlowsIn l := by
  unfold lErr at h
  split at h
  · simp at h
  · split at h
    · rename_i h1 h2
      refine ⟨by omega, fun f hf => flowIn_of ?_⟩
      unfold allOk at h2
      simpa using List.all_eq_true.1 h2 f hf
    · simp at h

def Valid (p : Pair) (s : Vols) : Prop := IsV p.u s.u ∧ IsV p.l s.l

theorem run_len (p : Pair) : ∀ (l : List Flow) (s : Vols), (runG p s l).ok = true → (runG p s l).ss.length = l.length
  | [], s, _ => rfl
  | f :: fs, s, h => by
    unfold runG at h ⊢
    split at h <;> rename_i hs
    · cases h
    · simp only [List.length_cons]
      rw [run_len p fs _ h]

theorem run_ok {p : Pair} (hp : POk p) : ∀ (l : List Flow) (s : Vols), Valid p s → FlowsIn l → (∀ t ∈ (runG p s l).ss, Valid p t) ∧ 0 ≤ (runG p s l).y.e ∧ (runG p s l).y.e ≤ 2000000000 * l.length ∧ 0 ≤ (runG p s l).y.s ∧ (runG p s l).y.s ≤ 2000000000 * l.length
  | [], s, _, _ => by simp [runG]
  | f :: fs, s, hs, hf => by
    unfold runG
    split
    · refine ⟨(fun t ht => by cases ht), ?_⟩
      simp only
      omega
    · rename_i s' x hst
      obtain ⟨a1, a2, a3, a4, a5, a6, _⟩ := step_ok hp hs.1 hs.2 hst (hf f (List.mem_cons_self ..))
      obtain ⟨b1, b2, b3, b4, b5⟩ := run_ok hp fs s' ⟨a1, a2⟩ fun g hg => hf g (List.mem_cons_of_mem _ hg)
      refine ⟨fun t ht => ?_, ?_⟩
      · rcases List.mem_cons.1 ht with rfl | ht
        · exact ⟨a1, a2⟩
        · exact b1 t ht
      · simp only [List.length_cons]
        omega

theorem run_none {p : Pair} {s : Vols} {f : Flow} (fs : List Flow) (h : step p s f = none) : runG p s (f :: fs) = ⟨[], ⟨0, 0⟩, false⟩ := by
  conv => lhs; unfold runG
  rw [h]
theorem run_some {p : Pair} {s s' : Vols} {x : Loss} {f : Flow} (fs : List Flow) (h : step p s f = some (s', x)) : runG p s (f :: fs) = ⟨s' :: (runG p s' fs).ss, ⟨x.e + (runG p s' fs).y.e, x.s + (runG p s' fs).y.s⟩, (runG p s' fs).ok⟩ := by
  conv => lhs; unfold runG
  rw [h]

/-- A run in two parts. -/
theorem run_append {p : Pair} : ∀ (a b : List Flow) (s : Vols), (runG p s (a ++ b)).ok = true →
    (runG p s a).ok = true ∧ (runG p ((runG p s a).ss.getLastD s) b).ok = true ∧ (runG p s (a ++ b)).ss = (runG p s a).ss ++ (runG p ((runG p s a).ss.getLastD s) b).ss ∧
      (runG p s (a ++ b)).y.e = (runG p s a).y.e + (runG p ((runG p s a).ss.getLastD s) b).y.e ∧ (runG p s (a ++ b)).y.s = (runG p s a).y.s + (runG p ((runG p s a).ss.getLastD s) b).y.s
  | [], b, s, h => by simpa [runG] using h
  | f :: fs, b, s, h => by
    rw [List.cons_append] at h ⊢
    cases hst : step p s f with
    | none => rw [run_none _ hst] at h; cases h
    | some r =>
      obtain ⟨s', x⟩ := r
      rw [run_some _ hst] at h
      obtain ⟨c1, c2, c3, c4, c5⟩ := run_append fs b s' h
      have hl : (s' :: (runG p s' fs).ss).getLastD s = (runG p s' fs).ss.getLastD s' := by
        cases (runG p s' fs).ss <;> simp [List.getLastD]
      rw [run_some fs hst, run_some (fs ++ b) hst]
      simp only [hl]
      refine ⟨c1, c2, by rw [c3]; rfl, by omega, by omega⟩

abbrev vStates (l : List Vols) : PV := .sl none [.int .i64, .int .i64] (l.map cV)
abbrev vFlows (l : List Flow) : PV := .sl none [.int .i64, .int .i64, .int .i64] (l.map cF)

theorem flo_drop (l : List Flow) (i : Nat) (h : i < l.length) : l.drop i = flo l i :: l.drop (i + 1) := by
  rw [List.drop_eq_getElem_cons h]
  congr 1
  unfold flo
  rw [List.getD_eq_getElem?_getD, List.getElem?_eq_getElem h, Option.getD_some]
theorem flo_mem (l : List Flow) (i : Nat) (h : i < l.length) : flo l i ∈ l := by
  unfold flo
  rw [List.getD_eq_getElem?_getD, List.getElem?_eq_getElem h, Option.getD_some]
  exact List.getElem_mem h

theorem fErr_cases (f : Flow) : fErr f = 0 ∨ fErr f = 2 := by unfold fErr; split <;> simp

section
variable {N k : Nat}

theorem lake_ticksErr_loop (l : List Flow) (hl : l.length ≤ 200) : ∀ (d n i : Nat), i + d = l.length → d < n →
    L_lake_ticksErr_4 N (k + 3) n (l.map cF) (l.length : Int) (i : Int) = some (.int .i64 (if allOk (l.drop i) = true then 0 else 2))
  | 0, n + 1, i, h, hn => by
    rw [L_lake_ticksErr_4_eq, cond_dec, if_neg (by omega), List.drop_eq_nil_of_le (by omega)]
    rfl
  | d + 1, n + 1, i, h, hn => by
    have c1 : (i : Int) < (l.length : Int) := by omega
    have c2 : (0 : Int) ≤ (i : Int) := by omega
    have e1 : w64 ((i : Int) + 1) = ((i + 1 : Nat) : Int) := by rw [w64_id] <;> omega
    have g := lake_flowsErr (N := N) (k := k) (flo l i)
    have ih := lake_ticksErr_loop l hl d n (i + 1) (by omega) (by omega)
    rw [L_lake_ticksErr_4_eq, flo_drop l i (by omega)]
    simp only [cond_dec, cond_ndec, c1, c2, List.length_map, if_true, Int.toNat_natCast, leaf_cF0, leaf_cF1, leaf_cF2, g, obind, asI_int, e1, ih]
    unfold allOk
    rw [List.all_cons]
    rcases fErr_cases (flo l i) with h0 | h0
    · simp [h0]
    · simp [h0]

theorem lake_ticksErr (hN : 1000000 ≤ N) (l : List Flow) : ev (envF N) (k + 4) F_lake_ticksErr [vFlows l] = some (.int .i64 (lErr l)) := by
  rw [E_lake_ticksErr, cond_dec, List.length_map]
  unfold lErr
  by_cases h : 200 < l.length
  · rw [if_pos (by omega), if_pos h]
  · have := lake_ticksErr_loop (N := N) (k := k) l (by omega) l.length N 0 (by omega) (by omega)
    rw [List.drop_zero] at this
    rw [if_neg (by omega), if_neg h]
    exact this

theorem ref_ListErr_loop (l : List Flow) (hl : l.length ≤ 200) : ∀ (d n i : Nat), i + d = l.length → d < n →
    L_ref01_ListErr_4 N (k + 2) n (l.map cF) (i : Int) = some (.int .i64 (if allOk (l.drop i) = true then 0 else 2))
  | 0, n + 1, i, h, hn => by
    rw [L_ref01_ListErr_4_eq, cond_dec, List.length_map, if_neg (by omega), List.drop_eq_nil_of_le (by omega)]
    rfl
  | d + 1, n + 1, i, h, hn => by
    have c1 : (i : Int) < (l.length : Int) := by omega
    have c2 : (0 : Int) ≤ (i : Int) := by omega
    have e1 : w64 ((i : Int) + 1) = ((i + 1 : Nat) : Int) := by rw [w64_id] <;> omega
    have g := ref_FlowsErr (N := N) (k := k) (flo l i)
    have ih := ref_ListErr_loop l hl d n (i + 1) (by omega) (by omega)
    rw [L_ref01_ListErr_4_eq, flo_drop l i (by omega)]
    simp only [cond_dec, cond_ndec, c1, c2, List.length_map, if_true, Int.toNat_natCast, leaf_cF0, leaf_cF1, leaf_cF2, g, obind, asI_int, e1, ih]
    unfold allOk
    rw [List.all_cons]
    rcases fErr_cases (flo l i) with h0 | h0
    · simp [h0]
    · simp [h0]

theorem ref_ListErr (hN : 1000000 ≤ N) (l : List Flow) : ev (envF N) (k + 3) F_ref01_ListErr [vFlows l] = some (.int .i64 (lErr l)) := by
  rw [E_ref01_ListErr, cond_dec, List.length_map]
  unfold lErr
  by_cases h : 200 < l.length
  · rw [if_pos (by omega), if_pos h]
  · have := ref_ListErr_loop (N := N) (k := k) l (by omega) l.length N 0 (by omega) (by omega)
    rw [List.drop_zero] at this
    rw [if_neg (by omega), if_neg h]
    exact this

theorem room_row (xs : List (List PV)) (y : List PV) (b : Nat) (h : xs.length ≤ 100000) (hb : b ≤ 1000) : room xs [y] b = true := by
  unfold room
  rw [decide_eq_true_eq]
  simp only [List.length_cons, List.length_nil, Nat.zero_add]
  have : (xs.length + 1) * b ≤ 100001 * 1000 := Nat.mul_le_mul (by omega) hb
  omega

/-- The results of a run. -/
def runE (out : List Vols) (e s : Int) (r : RunR) : PV :=
  if r.ok = true then .tup [vStates (out ++ r.ss), vLoss ⟨e + r.y.e, s + r.y.s⟩, .int .i64 0] else .tup [vStates [], vLoss ⟨0, 0⟩, .int .i64 22]

theorem lake_RunOf_loop (hN : 1000000 ≤ N) {p : Pair} (hp : POk p) (l : List Flow) (hf : FlowsIn l) (hl : l.length ≤ 200) (y4 y5 : List (List PV)) (y6 y9 y10 : Int) : ∀ (d n i : Nat) (out : List Vols) (s : Vols) (e x : Int), i + d = l.length → d < n → Valid p s → out.length = i → 0 ≤ e → e ≤ 2000000000 * i → 0 ≤ x → x ≤ 2000000000 * i →
    L_lake_RunOf_8 N (k + 6) n (out.map cV) (l.map cF) (l.length : Int) (i : Int) y4 y5 y6 s.u s.l y9 y10 (p.u.map cK) (p.l.map cK) p.r e x = some (runE out e x (runG p s (l.drop i)))
  | 0, n + 1, i, out, s, e, x, h, hn, hs, ho, e0, e1, x0, x1 => by
    rw [L_lake_RunOf_8_eq, cond_dec, if_neg (by omega), List.drop_eq_nil_of_le (by omega)]
    simp [runE, runG]
  | d + 1, n + 1, i, out, s, e, x, h, hn, hs, ho, e0, e1, x0, x1 => by
    have c1 : (i : Int) < (l.length : Int) := by omega
    have c2 : (0 : Int) ≤ (i : Int) := by omega
    have ei : w64 ((i : Int) + 1) = ((i + 1 : Nat) : Int) := by rw [w64_id] <;> omega
    have hfi := hf _ (flo_mem l i (by omega))
    have g := lake_step (k := k) hN hp hs.1 hs.2 hfi
    rw [L_lake_RunOf_8_eq, flo_drop l i (by omega)]
    simp only [cond_dec, c1, c2, List.length_map, if_true, Int.toNat_natCast, leaf_cF0, leaf_cF1, leaf_cF2, g, obind, runG]
    cases hst : step p s (flo l i) with
    | none =>
      simp only [asT_tup, nth_two, asB_bool, Bool.not_false, cond_t]
      rfl
    | some r =>
      obtain ⟨s', z⟩ := r
      obtain ⟨a1, a2, a3, a4, a5, a6, _⟩ := step_ok hp hs.1 hs.2 hst hfi
      have w1 : w64 (e + z.e) = e + z.e := by rw [w64_id] <;> omega
      have w2 : w64 (x + z.s) = x + z.s := by rw [w64_id] <;> omega
      have hr : room (out.map cV) [[PV.int .i64 s'.u, PV.int .i64 s'.l]] 16 = true := room_row _ _ _ (by rw [List.length_map]; omega) (by decide)
      have eo : out.map cV ++ [[PV.int .i64 s'.u, PV.int .i64 s'.l]] = (out ++ [s']).map cV := by rw [List.map_append]; rfl
      simp only [asT_tup, asA_agg, nth_zero, nth_one, nth_two, asI_int, asB_bool, Bool.not_true, cond_f, hr, cond_t, eo, ei, w1, w2]
      rw [lake_RunOf_loop hN hp l hf hl y4 y5 y6 y9 y10 d n (i + 1) (out ++ [s']) s' (e + z.e) (x + z.s) (by omega) (by omega) ⟨a1, a2⟩ (by simp; omega) (by omega) (by omega) (by omega) (by omega)]
      unfold runE
      simp only [List.append_assoc, List.singleton_append, Int.add_assoc]

/-- The results of a run, or its error. -/
def runR (p : Pair) (s : Vols) (l : List Flow) : PV :=
  if bErr p s ≠ 0 then .tup [vStates [], vLoss ⟨0, 0⟩, .int .i64 (bErr p s)]
  else if lErr l ≠ 0 then .tup [vStates [], vLoss ⟨0, 0⟩, .int .i64 (lErr l)]
  else runE [] 0 0 (runG p s l)

theorem lake_RunOf (hN : 1000000 ≤ N) (p : Pair) (s : Vols) (l : List Flow) : ev (envF N) (k + 8) F_lake_RunOf [vPair p, vVols s, vFlows l] = some (runR p s l) := by
  have g := lake_ticksErr (k := k + 3) hN l
  rw [E_lake_RunOf, lake_openState hN, g]
  simp only [obind, asT_tup, nth_zero, nth_one, nth_two, asA_agg, asI_int, asL_sl, lake_first2 hN, cond_ndec]
  unfold runR
  by_cases h : bErr p s = 0
  · rw [if_pos h, if_neg (show ¬ (bErr p s ≠ 0) by omega)]
    by_cases h2 : lErr l = 0
    · rw [if_pos h2, if_neg (show ¬ (lErr l ≠ 0) by omega), List.length_map]
      obtain ⟨hp, hu, hl⟩ := bErr_zero h
      obtain ⟨h3, h4⟩ := lErr_zero h2
      have := lake_RunOf_loop (k := k + 1) hN hp l h4 h3 (p.u.map cK) (p.l.map cK) p.r 0 0 l.length N 0 [] s 0 0 (by omega) (by omega) ⟨hu, hl⟩ rfl (by omega) (by omega) (by omega) (by omega)
      rw [List.drop_zero] at this
      exact this
    · rw [if_neg h2, if_pos h2]
      rfl
  · rw [if_neg h, if_neg h, if_pos h]
    rfl

/-- The reference's results of a run. -/
def runF (out : List Vols) (e s : Int) (r : RunR) : PV := .tup [vStates (out ++ r.ss), vLoss ⟨e + r.y.e, s + r.y.s⟩, .bool r.ok]

theorem ref_RunOf_loop (hN : 1000000 ≤ N) {p : Pair} (hp : POk p) (l : List Flow) (hf : FlowsIn l) (hl : l.length ≤ 200) (y8 y9 : Int) : ∀ (d n i : Nat) (out : List Vols) (s : Vols) (e x : Int), i + d = l.length → d < n → Valid p s → out.length = i → 0 ≤ e → e ≤ 2000000000 * i → 0 ≤ x → x ≤ 2000000000 * i →
    L_ref01_RunOf_4 N (k + 13) n (l.map cF) (out.map cV) (i : Int) (p.u.map cK) (p.l.map cK) p.r s.u s.l y8 y9 e x = some (runF out e x (runG p s (l.drop i)))
  | 0, n + 1, i, out, s, e, x, h, hn, hs, ho, e0, e1, x0, x1 => by
    rw [L_ref01_RunOf_4_eq, cond_dec, List.length_map, if_neg (by omega), List.drop_eq_nil_of_le (by omega)]
    simp [runF, runG]
  | d + 1, n + 1, i, out, s, e, x, h, hn, hs, ho, e0, e1, x0, x1 => by
    have c1 : (i : Int) < (l.length : Int) := by omega
    have c2 : (0 : Int) ≤ (i : Int) := by omega
    have ei : w64 ((i : Int) + 1) = ((i + 1 : Nat) : Int) := by rw [w64_id] <;> omega
    have hfi := hf _ (flo_mem l i (by omega))
    have g := ref_Step (k := k) hN hp hs.1 hs.2 hfi
    rw [L_ref01_RunOf_4_eq, flo_drop l i (by omega)]
    simp only [cond_dec, c1, c2, List.length_map, if_true, Int.toNat_natCast, leaf_cF0, leaf_cF1, leaf_cF2, g, obind, runG]
    cases hst : step p s (flo l i) with
    | none =>
      simp only [stepB, asT_tup, nth_two, asB_bool, Bool.not_false, cond_t]
      simp [runF]
    | some r =>
      obtain ⟨s', z⟩ := r
      obtain ⟨a1, a2, a3, a4, a5, a6, _⟩ := step_ok hp hs.1 hs.2 hst hfi
      have w1 : w64 (e + z.e) = e + z.e := by rw [w64_id] <;> omega
      have w2 : w64 (x + z.s) = x + z.s := by rw [w64_id] <;> omega
      have hr : room (out.map cV) [[PV.int .i64 s'.u, PV.int .i64 s'.l]] 16 = true := room_row _ _ _ (by rw [List.length_map]; omega) (by decide)
      have eo : out.map cV ++ [[PV.int .i64 s'.u, PV.int .i64 s'.l]] = (out ++ [s']).map cV := by rw [List.map_append]; rfl
      simp only [stepB, asT_tup, asA_agg, nth_zero, nth_one, nth_two, asI_int, asB_bool, Bool.not_true, cond_f, hr, cond_t, eo, ei, w1, w2]
      rw [ref_RunOf_loop hN hp l hf hl y8 y9 d n (i + 1) (out ++ [s']) s' (e + z.e) (x + z.s) (by omega) (by omega) ⟨a1, a2⟩ (by simp; omega) (by omega) (by omega) (by omega) (by omega)]
      unfold runF
      simp only [List.append_assoc, List.singleton_append, Int.add_assoc]

theorem ref_RunOf (hN : 1000000 ≤ N) {p : Pair} (hp : POk p) {s : Vols} (hs : Valid p s) {l : List Flow} (hf : FlowsIn l) (hl : l.length ≤ 200) : ev (envF N) (k + 14) F_ref01_RunOf [vPair p, vVols s, vFlows l] = some (.tup [vStates (runG p s l).ss, vLoss (runG p s l).y, .bool (runG p s l).ok]) := by
  rw [E_ref01_RunOf]
  have := ref_RunOf_loop (k := k) hN hp l hf hl 0 0 l.length N 0 [] s 0 0 (by omega) (by omega) hs rfl (by omega) (by omega) (by omega) (by omega)
  rw [List.drop_zero] at this
  refine this.trans ?_
  simp [runF]

theorem ref_Same_loop (l : List Vols) (hl : l.length ≤ 100000) : ∀ (d n i : Nat), i + d = l.length → d < n → L_ref01_SameStates_4 N k n (l.map cV) (l.map cV) (i : Int) = some (.bool true)
  | 0, n + 1, i, h, hn => by
    rw [L_ref01_SameStates_4_eq, cond_dec, List.length_map, if_neg (by omega)]
  | d + 1, n + 1, i, h, hn => by
    have c1 : (i : Int) < (l.length : Int) := by omega
    have c2 : (0 : Int) ≤ (i : Int) := by omega
    have ei : w64 ((i : Int) + 1) = ((i + 1 : Nat) : Int) := by rw [w64_id] <;> omega
    rw [L_ref01_SameStates_4_eq]
    simp only [cond_dec, c1, c2, List.length_map, if_true, Int.toNat_natCast, leaf_cV0, leaf_cV1, decide_true, Bool.and_self, Bool.not_true, cond_f, ei]
    exact ref_Same_loop l hl d n (i + 1) (by omega) (by omega)

theorem ref_SameStates (hN : 1000000 ≤ N) (l : List Vols) (hl : l.length ≤ 100000) : ev (envF N) (k + 1) F_ref01_SameStates [vStates l, vStates l] = some (.bool true) := by
  rw [E_ref01_SameStates, cond_ndec, if_pos rfl]
  exact ref_Same_loop l hl l.length N 0 (by omega) (by omega)

theorem law_short {n : Nat} : ev (envF N) (k + 1) F_law01_short [.int .i64 (n : Int)] = some (.bool (decide (n ≤ 24 ∨ (200 < n ∧ n ≤ 202)))) := by
  rw [E_law01_short, cond_dec, cond_dec]
  by_cases h : n ≤ 24
  · rw [if_pos (by omega), decide_eq_true (Or.inl h)]
  · rw [if_neg (by omega)]
    by_cases h2 : 200 < n
    · rw [if_pos (by omega)]
      congr 2
      rw [decide_eq_decide]
      omega
    · rw [if_neg (by omega), decide_eq_false (by omega)]

end
end Go.PevTab
