/- EACH OPERATION OF THE MACHINE DOES WHAT THE EVALUATOR TELLS: literals, closures, slices, lengths. -/
import Derived.Test.YtfjnpgbjcgjecaaPevOps3
namespace Go.Pev
open Go.RowKit
set_option linter.unusedVariables false
set_option linter.unusedSimpArgs false

section
variable {P : Program} {E : Env} {call : Nat → List PV → Option PV} {base n : Nat} {w0 : Start} {g : Gh} {s : St} {a : Act} {w : World} {o : Oper} {e : Eff}

theorem act_convert (T : ∀ t ti, E.ty t = some ti → TyOk P t ti) (h : SimG base w0 n g s a w) {src dst : Nat} {x : Operand} (ho : o.op = .convert src dst x) (ha : actConvert E call s src dst x some = some e) : Good P o a w (Sim base w0 n (upd s o.dst e)) := by
  have hx := operand_rep h x
  unfold actConvert at ha
  split at ha
  · rename_i ta tb hta htb
    have h1 := (T _ _ hta).run_und w
    have h2 := (T _ _ htb).run_und w
    split at ha
    · rename_i k1 k k2 m hd1 hd2 hv
      rw [hv] at hx
      have hx : a.eval x = .int k2 m := hx
      cases ha
      rw [hd1] at h1
      rw [hd2] at h2
      refine good_val h (v := .int k (k.wrap m)) ?_ rfl
      simp only [execOp, ho, hx, convert, Sem.run_bind, h1, h2, Result.andThen_ok, Conv.intToInt, Sem.run_pure]
    · cases ha
  · cases ha

theorem minmaxFrom_run (op : Bool) (k : IntKind) (ts : Array TypeId) (t : TypeId) {C : Ctx} (w : World) : ∀ (ps : List PV) (us : List Value) (i : Int) (p : PV), Reps C ps us → minmaxFrom op k i ps = some p →
    (us.foldlM (if op then Builtin.max2 else Builtin.min2) (.int k i)).run P w = .ok (.int k (asI p)) w ∧ p = .int k (asI p)
  | [], us, i, p, hr, h => by
    rw [Reps] at hr; subst hr
    cases h
    exact ⟨rfl, rfl⟩
  | q :: ps, us, i, p, hr, h => by
    rw [Reps] at hr
    obtain ⟨u, ws, rfl, h1, h2⟩ := hr
    cases q with
    | int k' j =>
      have h1 : u = .int k' j := h1
      subst h1
      simp only [minmaxFrom] at h
      obtain ⟨h3, h4⟩ := minmaxFrom_run op k ts t w ps ws _ p h2 h
      refine ⟨?_, h4⟩
      simp only [List.foldlM_cons, Sem.run_bind]
      cases op
      · simp only [Bool.false_eq_true, if_false, cond_false] at h3 ⊢
        simp only [Builtin.min2, Sem.run_pure, Result.andThen_ok]
        exact h3
      · simp only [if_true, cond_true] at h3 ⊢
        simp only [Builtin.max2, Sem.run_pure, Result.andThen_ok]
        exact h3
    | _ => simp [minmaxFrom] at h

theorem map_eval_rep (h : SimG base w0 n g s a w) : ∀ (xs : List Operand), Reps (ctx s w g) (xs.map (operand s)) (xs.map a.eval)
  | [] => rfl
  | x :: xs => ⟨_, _, rfl, operand_rep h x, map_eval_rep h xs⟩

theorem minmax_run (h : SimG base w0 n g s a w) {op : Bool} {xs : List Operand} {p : PV} (hm : minmax op (xs.map (operand s)) = some p) : ∃ v, Rep (ctx s w g) p v ∧
    ∀ (ts : Array TypeId) (t : TypeId) (us : Array Value), us.toList = xs.map a.eval → (if op then Builtin.max_ ts t us else Builtin.min_ ts t us).run P w = .ok v w := by
  have hr := map_eval_rep h xs
  generalize xs.map (operand s) = ps at hm hr
  generalize xs.map a.eval = us at hr
  cases ps with
  | nil => simp [minmax] at hm
  | cons q ps =>
    rw [Reps] at hr
    obtain ⟨u, ws, rfl, h1, h2⟩ := hr
    cases q with
    | int k i =>
      have h1 : u = .int k i := h1
      subst h1
      simp only [minmax] at hm
      refine ⟨.int k (asI p), ?_, fun ts t us hus => ?_⟩
      · have := (minmaxFrom_run (P := P) op k #[] 0 w ps ws i p h2 hm).2
        rw [this]; rfl
      · have := (minmaxFrom_run (P := P) op k ts t w ps ws i p h2 hm).1
        cases op
        · simp only [Bool.false_eq_true, if_false] at this ⊢
          unfold Builtin.min_
          rw [hus]
          exact this
        · simp only [if_true] at this ⊢
          unfold Builtin.max_
          rw [hus]
          exact this
    | _ => simp [minmax] at hm

theorem run_builtin (b : Builtin) (args : Array Operand) (ts : Array TypeId) (ho : o.op = .call { callee := .builtin b, args := args, argTypes := ts }) (w : World) :
    (execOp a.eval o).run P w = (builtin b ts o.type (args.map fun | .const _ => true | _ => false) (args.map a.eval)).run P w := by
  simp only [execOp, ho, resolve, pure_bind]
  rfl

theorem act_len (T : ∀ t ti, E.ty t = some ti → TyOk P t ti) (h : SimG base w0 n g s a w) {args : Array Operand} {ts : Array TypeId} {t : Nat} {x : Operand} (ho : o.op = .call { callee := .builtin .len, args := args, argTypes := ts })
    (hargs : args.toList = [x]) {rest : List TypeId} (hts : ts.toList = t :: rest) (ha : lenK E s t (operand s x) some = some e) : Good P o a w (Sim base w0 n (upd s o.dst e)) := by
  have hx := operand_rep h x
  have h0 : args = #[x] := by apply Array.ext'; simpa using hargs
  have h1 : ts[0]? = some t := by rw [← Array.getElem?_toList, hts]; rfl
  unfold lenK at ha
  split at ha
  · cases ha
  · rename_i ti hti
    have hu := (T _ _ hti).run_und w
    have hrun : ∀ {v : Value} {m : Int}, a.eval x = v → (Builtin.len_ ts o.type #[v]).run P w = .ok (.int .i64 m) w → (execOp a.eval o).run P w = .ok (.value (.int .i64 m)) w := by
      intro v m hv hl
      rw [run_builtin _ _ _ ho w, h0]
      simp only [builtin, Sem.run_bind, List.map_toArray, List.map_cons, List.map_nil, hv, hl]
      rfl
    split at ha
    · rename_i el tag ls xs hd hv
      rw [hv] at hx
      obtain ⟨A, cap, rows, hx, _, hr, _⟩ := hx
      cases ha
      rw [hd] at hu
      exact good_val h (hrun hx (m := xs.length) (by simp [Builtin.len_, h1, hu, goInt, hr.length])) rfl
    · rename_i el d hd hv
      rw [hv] at hx
      obtain ⟨B, hB, hx⟩ := hx
      split at ha
      · rename_i ls xs fz hb
        cases ha
        rw [hd] at hu
        have hrl : (ctx s w g).rl d = xs.length := by show rowLen (s.box d) = _; rw [hb]; rfl
        rw [hrl] at hx
        exact good_load h (hrun hx (m := xs.length) (by simp [Builtin.len_, h1, hu, goInt])) rfl
      · cases ha
    · rename_i b hd hv
      rw [hv] at hx
      have hx : a.eval x = .string b := hx
      cases ha
      rw [hd] at hu
      exact good_val h (hrun hx (m := b.size) (by simp [Builtin.len_, h1, hu, goInt])) rfl
    · rename_i m el hd
      cases ha
      rw [hd] at hu
      exact good_val h (hrun rfl (m := m) (by simp [Builtin.len_, h1, hu, goInt])) rfl
    · cases ha

theorem act_minmax (h : SimG base w0 n g s a w) {b : Bool} {args : Array Operand} {ts : Array TypeId} (ho : o.op = .call { callee := .builtin (if b then .max else .min), args := args, argTypes := ts }) {p : PV}
    (hm : minmax b (args.toList.map (operand s)) = some p) : Good P o a w (Sim base w0 n (upd s o.dst (.val p))) := by
  obtain ⟨v, hr, hrun⟩ := minmax_run (P := P) h hm
  refine good_val h ?_ hr
  rw [run_builtin _ _ _ ho w]
  have := hrun ts o.type (args.map a.eval) (by simp)
  cases b
  · simp only [Bool.false_eq_true, if_false] at this ⊢
    simp only [builtin, Sem.run_bind, this]; rfl
  · simp only [if_true] at this ⊢
    simp only [builtin, Sem.run_bind, this]; rfl

/-! ### literals -/
theorem fold_set (off : Nat) : ∀ (vs : List Value) (cs : Array Value) (k : Nat), off + k + vs.length ≤ cs.size →
    ((vs.zipIdx k).foldl (fun (cs : Array Value) (x : Value × Nat) => cs.setIfInBounds (off + x.2) x.1) cs).toList = cs.toList.take (off + k) ++ vs ++ cs.toList.drop (off + k + vs.length)
  | [], cs, k, h => by simp
  | v :: vs, cs, k, h => by
    simp only [List.length_cons] at h
    have hk : off + k < cs.toList.length := by simp; omega
    rw [List.zipIdx_cons, List.foldl_cons, fold_set off vs _ (k + 1) (by simp; omega)]
    simp only [Array.toList_setIfInBounds]
    rw [← Nat.add_assoc, List.take_set, List.drop_set, if_pos (by omega)]
    have : (cs.toList.take (off + k + 1)).set (off + k) v = cs.toList.take (off + k) ++ [v] := by
      rw [List.take_succ_eq_append_getElem hk, List.set_append, if_neg (by simp; omega)]
      have hm : min (off + k) cs.size = off + k := Nat.min_eq_left (by simp at hk; omega)
      simp [List.length_take, hm]
    rw [this]
    simp [Nat.add_assoc, Nat.add_comm 1]

theorem fill_rep {C : Ctx} {place place' : Nat → Option (Nat × Nat)} (hpl : ∀ i q, place i = some q → place' i = some q) : ∀ (ps : List (Nat × PV)) (vs : List (Nat × Value)) (cs : List PV) (us : Array Value) (cs' : List PV),
    ps.length = vs.length → (∀ (j : Nat) (p : Nat × PV) (v : Nat × Value), ps[j]? = some p → vs[j]? = some v → p.1 = v.1 ∧ Rep C p.2 v.2) → Reps C cs us.toList → fillParts place cs ps = some cs' →
    ∃ us', Instr.fill place' us vs = some us' ∧ Reps C cs' us'.toList
  | [], vs, cs, us, cs', hl, hp, hr, h => by
    have : vs = [] := by simpa using hl.symm
    subst this
    cases h
    exact ⟨us, rfl, hr⟩
  | (i, p) :: ps, [], cs, us, cs', hl, hp, hr, h => by simp at hl
  | (i, p) :: ps, (j, v) :: vs, cs, us, cs', hl, hp, hr, h => by
    obtain ⟨h1, h2⟩ := hp 0 (i, p) (j, v) rfl rfl
    have h1 : i = j := h1
    subst h1
    have h2 : Rep C p v := h2
    have h2 : Rep C p v := h2
    unfold fillParts at h
    split at h
    · cases h
    · cases h
    · rename_i off size hun hpi
      have hne : p ≠ .undef := by rintro rfl; cases hun
      split at h
      · rename_i hq
        have hc := h2.cells hne
        have hlc := hc.length
        have hlr := hr.length
        simp at hlc hlr
        have hov := Reps.over off hr hc (by omega)
        have hfs := fold_set off v.cells.toList us 0 (by simp; omega)
        simp only [Nat.add_zero] at hfs
        obtain ⟨us', h3, h4⟩ := fill_rep hpl ps vs _ ((v.cells.toList.zipIdx 0).foldl (fun (cs : Array Value) (x : Value × Nat) => cs.setIfInBounds (off + x.2) x.1) us) cs' (by simpa using hl)
          (fun k p' v' hk hk' => hp (k + 1) p' v' (by simpa using hk) (by simpa using hk')) (by rw [hfs]; exact hov) h
        refine ⟨us', ?_, h4⟩
        unfold Instr.fill
        rw [hpl i _ hpi]
        dsimp only
        rw [if_neg (by simp; omega)]
        have e : Array.foldl (fun cs (x : Value × Nat) => cs.setIfInBounds (off + x.2) x.1) us v.cells.zipIdx = (v.cells.toList.zipIdx 0).foldl (fun (cs : Array Value) (x : Value × Nat) => cs.setIfInBounds (off + x.2) x.1) us := by
          rw [← Array.foldl_toList]
          simp
        have e2 : (v.cells.zipIdx.foldl (fun cs (x : Value × Nat) => match x with | (c, j) => cs.setIfInBounds (off + j) c) us) = (v.cells.toList.zipIdx 0).foldl (fun (cs : Array Value) (x : Value × Nat) => cs.setIfInBounds (off + x.2) x.1) us := by
          rw [← e]
        rw [← h3]
        exact congrArg (fun z => Instr.fill place' z vs) e2
      · cases h

end
end Go.Pev
