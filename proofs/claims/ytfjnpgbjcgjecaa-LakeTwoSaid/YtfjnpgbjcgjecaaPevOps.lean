/- EACH OPERATION OF THE MACHINE DOES WHAT THE EVALUATOR TELLS: those that make no call and append nothing. -/
import Derived.Test.YtfjnpgbjcgjecaaPevOps0
namespace Go.Pev
open Go.RowKit
set_option linter.unusedVariables false
set_option linter.unusedSimpArgs false

/-- An operation goes through, and what it leaves is told by S. -/
def Good (P : Program) (o : Oper) (a : Act) (w : World) (S : Act → World → Prop) : Prop :=
  ∀ (K : Act → World → Prop) (Q : Exit → Act → World → Prop), (∀ a' w', S a' w' → K a' w') → o.wp P a w K Q

section
variable {P : Program} {E : Env} {call : Nat → List PV → Option PV} {base n : Nat} {w0 : Start} {g : Gh} {s : St} {a : Act} {w : World} {o : Oper} {e : Eff}

theorem good_value {S : Act → World → Prop} {v : Value} {w' : World} (hr : (execOp a.eval o).run P w = .ok (.value v) w') (h : S (a.put o.dst v) w') : Good P o a w S := by
  intro K Q hK
  unfold Oper.wp
  rw [hr]
  exact hK _ _ h

theorem good_skip {S : Act → World → Prop} {w' : World} (hr : (execOp a.eval o).run P w = .ok .skip w') (h : S (a.put o.dst undef) w') : Good P o a w S := by
  intro K Q hK
  unfold Oper.wp
  rw [hr]
  exact hK _ _ h

theorem constPV_rep (C : Ctx) (v : Value) : Rep C (constPV v) v := by
  cases v with
  | bool b => rfl
  | int k n => rfl
  | string s => rfl
  | pointer a => cases a <;> trivial
  | _ => trivial

theorem operand_rep (h : SimG base w0 n g s a w) (x : Operand) : Rep (ctx s w g) (operand s x) (a.eval x) := by
  cases x with
  | tmp t => exact eval_rep h t (.inr trivial)
  | const v => exact constPV_rep _ v
  | global q => trivial
  | func f => exact ⟨#[], rfl, rfl⟩

theorem good_val (h : SimG base w0 n g s a w) {p : PV} {v : Value} (hr : (execOp a.eval o).run P w = .ok (.value v) w) (hp : Rep (ctx s w g) p v) :
    Good P o a w (Sim base w0 n (upd s o.dst (.val p))) := good_value hr ⟨g, h.val hp o.dst⟩

theorem good_load (h : SimG base w0 n g s a w) {p : PV} {v : Value} {d : Nat} (hr : (execOp a.eval o).run P w = .ok (.value v) w) (hp : Rep (ctx s w g) p v) :
    Good P o a w (Sim base w0 n (upd s o.dst (.load d p))) := good_value hr ⟨g, h.val hp o.dst⟩

theorem rep_nil (C : Ctx) (ls : List LK) : Rep C (.sl none ls []) (.slice none 0 0) :=
  ⟨none, 0, [], rfl, Nat.le_refl _, rfl, by simp, .inl rfl, by simp, fun d k e => by cases e⟩

/-- A nil row is a new row. -/
theorem SimG.mkNil (h : SimG base w0 n g s a w) {d : Nat} (hd : d < n) (ls : List LK) : Sim base w0 n (upd s (some d) (.mk ls [])) (a.put (some d) (.slice none 0 0)) w :=
  ⟨_, h.tag hd (w' := w) (st' := g.st) (v := .slice none 0 0) (ls := ls) (xs := []) (Below.refl _ _) (fun _ _ _ => rfl) (fun _ _ _ => rfl) (fun _ _ h => h) (fun _ _ h => .inl h) h.stlt (.inl rfl)
    (fun _ _ _ e => by cases e) (rep_nil _ _) (some d)⟩

theorem blt_lt {a b : Nat} (h : Nat.blt a b = true) : a < b := by
  unfold Nat.blt at h
  exact Nat.le_of_ble_eq_true h

theorem act_move (h : SimG base w0 n g s a w) {x : Operand} (ho : (execOp a.eval o) = pure (.value (a.eval x))) (ha : actMove E call s o.type x some = some e) (hok : okEff s o.dst e = true) :
    Good P o a w (Sim base w0 n (upd s o.dst e)) := by
  have hr : (execOp a.eval o).run P w = .ok (.value (a.eval x)) w := by rw [ho]; rfl
  unfold actMove at ha
  split at ha
  · split at ha
    · split at ha
      · cases ha
        unfold okEff at hok
        cases hd : o.dst with
        | none => rw [hd] at hok; cases hok
        | some d =>
          rw [hd] at hok
          refine good_value hr ?_
          rw [hd]
          exact h.mkNil (by rw [← h.ns]; exact blt_lt hok) _
      · cases ha
    · cases ha
  · cases ha
    exact good_val h hr (operand_rep h x)

theorem act_pick (h : SimG base w0 n g s a w) {c x y : Operand} (ho : o.op = .pick c x y) (ha : actPick E call s c x y some = some e) : Good P o a w (Sim base w0 n (upd s o.dst e)) := by
  unfold actPick condK at ha
  have hc := operand_rep h c
  split at ha
  · rename_i b hb
    rw [hb] at hc
    have hc : a.eval c = .bool b := hc
    have hr : (execOp a.eval o).run P w = .ok (.value (if b = true then a.eval x else a.eval y)) w := by simp [execOp, ho, hc, asBool]
    cases b with
    | true => cases ha; exact good_val h hr (operand_rep h x)
    | false => cases ha; exact good_val h hr (operand_rep h y)
  · cases ha

theorem Rep.cells {C : Ctx} {p : PV} {v : Value} (hp : Rep C p v) (hu : p ≠ .undef) : Reps C (asA p) v.cells.toList := by
  have one : ∀ {p : PV} {v : Value}, asA p = [p] → v.cells = #[v] → Rep C p v → Reps C (asA p) v.cells.toList := fun h1 h2 h3 => by
    rw [h1, h2]
    exact ⟨_, [], rfl, h3, rfl⟩
  cases p with
  | undef => exact absurd rfl hu
  | agg cs => obtain ⟨us, rfl, h⟩ := hp; exact h
  | bool b => have hp' : v = .bool b := hp; subst hp'; exact one rfl rfl rfl
  | int k m => have hp' : v = .int k m := hp; subst hp'; exact one rfl rfl rfl
  | str b => have hp' : v = .string b := hp; subst hp'; exact one rfl rfl rfl
  | nilp => have hp' : v = .pointer none := hp; subst hp'; exact one rfl rfl rfl
  | ptr d off => have hp0 := hp; obtain ⟨B, _, rfl⟩ := hp; exact one rfl rfl hp0
  | rp cs off => have hp0 := hp; obtain ⟨B, m, us, rfl, _⟩ := hp; exact one rfl rfl hp0
  | sl tag ls xs => have hp0 := hp; obtain ⟨A, cap, rows, rfl, _⟩ := hp; exact one rfl rfl hp0
  | row d => have hp0 := hp; obtain ⟨B, _, rfl⟩ := hp; exact one rfl rfl hp0
  | rowp d i off => have hp0 := hp; obtain ⟨B, _, rfl, _⟩ := hp; exact one rfl rfl hp0
  | tup vs => have hp0 := hp; obtain ⟨us, rfl, _⟩ := hp; exact one rfl rfl hp0
  | fn f caps => have hp0 := hp; obtain ⟨us, rfl, _⟩ := hp; exact one rfl rfl hp0

theorem run_newVar (t : Nat) (v : Value) (w : World) : (newVar t v).run P w = .ok ⟨w.heap.size, 0, none⟩ (w.alloc (.cells v.cells t)) := rfl

theorem alloc_ok {cs : List PV} (hok : okEff s o.dst (.alloc cs) = true) (h : SimG base w0 n g s a w) : ∃ d, o.dst = some d ∧ d < n ∧ s.box d = none := by
  unfold okEff at hok
  cases hd : o.dst with
  | none => rw [hd] at hok; cases hok
  | some d =>
    rw [hd] at hok
    simp only [Bool.and_eq_true, Option.isNone_iff_eq_none] at hok
    exact ⟨d, rfl, by rw [← h.ns]; exact blt_lt hok.2, hok.1⟩

theorem good_alloc (h : SimG base w0 n g s a w) {cs : List PV} {v : Value} {t : Nat} (hok : okEff s o.dst (.alloc cs) = true) (hc : Reps (ctx s w g) cs v.cells.toList)
    (hr : (execOp a.eval o).run P w = .ok (.value (.pointer (some ⟨w.heap.size, 0, none⟩))) (w.alloc (.cells v.cells t))) : Good P o a w (Sim base w0 n (upd s o.dst (.alloc cs))) := by
  obtain ⟨d, hd, hdn, hfree⟩ := alloc_ok hok h
  refine good_value hr ?_
  rw [hd]
  exact ⟨_, h.newBox hdn hfree (b := .cells cs false) (p := .ptr d 0) (.inl rfl) (.inl ⟨cs, rfl, rfl, rfl, hc⟩) (some d)⟩

theorem act_alloc (T : ∀ t ti, E.ty t = some ti → TyOk P t ti) (h : SimG base w0 n g s a w) {t : Nat} (ho : o.op = .alloc t) (ha : actAlloc E call s t some = some e) (hok : okEff s o.dst e = true) :
    Good P o a w (Sim base w0 n (upd s o.dst e)) := by
  unfold actAlloc at ha
  split at ha
  · rename_i ti hti
    cases ha
    obtain ⟨i, z, h1, h2, h3, h4, h5⟩ := (T t ti hti).info
    refine good_alloc h (v := z) (t := t) hok (h5 _) ?_
    simp [execOp, ho, Instr.alloc, zeroValue, typeInfo, h1, h4, run_newVar]
  · cases ha

theorem act_box (h : SimG base w0 n g s a w) {t : Nat} {x : Operand} (ho : o.op = .box t x) (ha : actBox E call s x some = some e) (hok : okEff s o.dst e = true) :
    Good P o a w (Sim base w0 n (upd s o.dst e)) := by
  have hne : operand s x ≠ .undef ∧ e = .alloc (asA (operand s x)) := by
    unfold actBox at ha
    split at ha
    · cases ha
    · rename_i hx
      cases ha
      exact ⟨fun q => hx q, rfl⟩
  obtain ⟨hne, rfl⟩ := hne
  refine good_alloc h (v := a.eval x) (t := t) hok ((operand_rep h x).cells hne) ?_
  simp [execOp, ho, Instr.box, run_newVar]

theorem flatten_get {rws : List (List Value)} {m i j : Nat} {u : Value} (h : ∀ r ∈ rws, r.length = m) (hi : i < rws.length) (hj : j < m) (hu : rws[i][j]? = some u) : rws.flatten[i * m + j]? = some u := by
  induction rws generalizing i with
  | nil => simp at hi
  | cons r rs ih =>
    have hr := h r (List.mem_cons_self ..)
    cases i with
    | zero =>
      simp at hu
      rw [List.flatten_cons, Nat.zero_mul, Nat.zero_add, List.getElem?_append_left (by omega)]
      exact hu
    | succ i =>
      rw [List.flatten_cons, List.getElem?_append_right (by rw [hr, Nat.succ_mul]; omega), hr]
      have : (i + 1) * m + j - m = i * m + j := by rw [Nat.succ_mul]; omega
      rw [this]
      exact ih (fun r hr => h r (List.mem_cons_of_mem _ hr)) (by simpa using hi) (by simpa using hu)

theorem act_load (T : ∀ t ti, E.ty t = some ti → TyOk P t ti) (h : SimG base w0 n g s a w) {t : Nat} {x : Operand} (ho : o.op = .load t x) (ha : actLoad E call s t x some = some e) :
    Good P o a w (Sim base w0 n (upd s o.dst e)) := by
  unfold actLoad at ha
  split at ha
  · cases ha
  · rename_i ti hti
    have ht := T t ti hti
    have hx := operand_rep h x
    have hrun : ∀ {B q off : Nat} {us : List Value}, a.eval x = .pointer (some ⟨B, q + off, none⟩) → (∀ j u, us[j]? = some u → w.cell? ⟨B, q + j, none⟩ = some u) →
        (if ti.agg then off + ti.size ≤ us.length else off < us.length) → (execOp a.eval o).run P w = .ok (.value (partVal ti us off)) w := by
      intro B q off us h1 h2 h3
      simp [execOp, ho, h1, Instr.loadAt, Instr.sureAddr, ht.run_loadVar h2 h3]
    split at ha
    · rename_i d off hd
      rw [hd] at hx
      obtain ⟨B, hB, hv⟩ := hx
      split at ha
      · rename_i cs fz hb
        split at ha
        · rename_i hf
          cases ha
          obtain ⟨B', us, T', h1, h2, h3, h4, _⟩ := h.cells d cs fz hb
          have : B' = B := by have hB : g.bx d = some B := hB; rw [h1] at hB; cases hB; rfl
          subst this
          refine good_load h (hrun (B := B') (q := 0) (off := off) (us := us.toList) (by rw [hv]; simp) (fun j u hj => ?_) (partFits_us h4 hf)) (Rep.part h4 hf)
          simpa [World.cell?, h2] using hj
        · cases ha
      · cases ha
    · rename_i cs off hd
      rw [hd] at hx
      obtain ⟨B, q, us, hv, hr, hc⟩ := hx
      split at ha
      · rename_i hf
        cases ha
        exact good_val h (hrun hv (fun j u hj => (hc j u hj).1) (partFits_us hr hf)) (Rep.part hr hf)
      · cases ha
    · rename_i d i off hd
      rw [hd] at hx
      obtain ⟨B, hB, hv, hil⟩ := hx
      split at ha
      · rename_i ls xs fz hb
        split at ha
        · rename_i hf
          cases ha
          obtain ⟨B', us, T', rws, h1, h2, h3, h4, h5, h6, h7, _⟩ := h.rows d ls xs fz hb
          have : B' = B := by have hB : g.bx d = some B := hB; rw [h1] at hB; cases hB; rfl
          subst this
          have hsz : (ctx s w g).rs d = ls.length := by show rowSize (s.box d) = _; rw [hb]; rfl
          rw [hsz] at hv
          have hi : i < rws.length := by
            have : i < (ctx s w g).rl d := hil
            have hl : (ctx s w g).rl d = xs.length := by show rowLen (s.box d) = _; rw [hb]; rfl
            rw [h5.length, ← hl]
            exact this
          have hget : rws[i]? = some rws[i] := by simp [hi]
          have hci : confs ls (nths xs i) = true := by
            have hix : i < xs.length := by rw [← h5.length]; exact hi
            have : nths xs i = xs[i] := by simp [nths, hix]
            rw [this]
            exact h7 _ (List.getElem_mem _)
          have hre : Reps (ctx s w g) (etas ls 0 (nths xs i)) rws[i] := Reps.etas hci (h5.get i _ hget)
          refine good_load h (hrun (B := B') (q := i * ls.length) (us := rws[i]) hv (fun j u hj => ?_) (partFits_us hre hf)) (Rep.part hre hf)
          have hfl : rws.flatten[i * ls.length + j]? = some u := by
            have hjl : j < ls.length := by
              have := (List.getElem?_eq_some_iff.1 hj).1
              rw [h6 _ (List.getElem_mem _)] at this
              exact this
            exact flatten_get h6 hi hjl hj
          rw [← h4] at hfl
          simpa [World.cell?, h2] using hfl
        · cases ha
      · cases ha
    · cases ha

end
end Go.Pev
