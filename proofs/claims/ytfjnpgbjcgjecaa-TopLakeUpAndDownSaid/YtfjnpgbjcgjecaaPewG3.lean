/- FUNCTIONS, ITERATORS, PROGRAMS: WHAT THE EVALUATOR TELLS, THE MACHINE DOES. -/
/- FUNCTIONS, ITERATORS, PROGRAMS: WHAT THE EVALUATOR TELLS, THE MACHINE DOES. -/
/- TABLES THAT ARE CHECKED: what the evaluator is told of types and functions, against the program. -/
/- THE TABLES for the evaluator: which functions and types the program has; written by a program out of Lean's print of the loaded functions. -/
/- THE TABLES tell the program rightly; written by a program (mkok.py). -/
/- A LOOP BY ITS PLACE in a function's code: what its rounds, and all that follows, give. -/
import Derived.Test.YtfjnpgbjcgjecaaPewG2
import Derived.Test.YtfjnpgbjcgjecaaProg
import Derived.KernelRfl
import Derived.Test.YtfjnpgbjcgjecaaPewG0
import Derived.Eval
import Derived.Test.YtfjnpgbjcgjecaaRows

namespace Go.Pew
set_option linter.unusedSimpArgs false
set_option linter.unusedVariables false
open Go.RowKit
set_option linter.unusedVariables false
set_option linter.unusedSimpArgs false

section
variable {P : Program} {E : Env} {call : Nat → List PV → Option PV} {base n : Nat} {w0 : Start} {R : Type} {r : R}

/-! ### handing back -/
theorem confT_plain {t : Nat} {v : PV} (h : confT E t v = true) : plain v = true := by
  unfold confT at h
  split at h
  · split at h
    · split at h
      · rw [plain]; exact confs_plains h
      · cases h
    · split at h
      · exact conf_plain h
      · cases h
  · cases h

theorem confTs_plains : ∀ {ts : List Nat} {vs : List PV}, confTs E ts vs = true → plains vs = true
  | [], [], _ => rfl
  | [], _ :: _, h => by simp [confTs] at h
  | _ :: _, [], h => by simp [confTs] at h
  | t :: ts, v :: vs, h => by
    simp only [confTs, Bool.and_eq_true] at h
    simp [plains, confT_plain h.1, confTs_plains h.2]

theorem confTs_length : ∀ {ts : List Nat} {vs : List PV}, confTs E ts vs = true → vs.length = ts.length
  | [], [], _ => rfl
  | [], _ :: _, h => by simp [confTs] at h
  | _ :: _, [], h => by simp [confTs] at h
  | t :: ts, v :: vs, h => by
    simp only [confTs, Bool.and_eq_true] at h
    simp [confTs_length h.2]

variable {s : St} {a : Act} {w : World} {g : Gh}

theorem results_rep (T : ∀ t ti, E.ty t = some ti → TyOk P t ti) (h : SimG base w0 n g s a w) {F : ResultVar → Sem Value} (F1 : ∀ t, F (.tmp t) = pure (a.tmps.getD t undef)) (F2 : ∀ x t, F (.cell x t) = do loadVar t (← asAddr (a.tmps.getD x undef))) :
    ∀ (rs : List ResultVar) (vs : List PV), results E s rs = some vs → ∃ us, (rs.mapM F).run P w = .ok us w ∧ Reps (ctx s w g) vs us
  | [], vs, hr => by
    cases hr
    exact ⟨[], rfl, rfl⟩
  | x :: rs, vs, hr => by
    unfold results at hr
    split at hr
    · rename_i v vs' hv hvs
      cases hr
      obtain ⟨us, h1, h2⟩ := results_rep T h F1 F2 rs vs' hvs
      have hx : ∃ u, (F x).run P w = .ok u w ∧ Rep (ctx s w g) v u := by
        cases x with
        | tmp t =>
          cases hv
          rw [F1]
          exact ⟨_, rfl, eval_rep h t (.inr trivial)⟩
        | cell x t =>
          unfold resultOf at hv
          dsimp only at hv
          split at hv
          · rename_i ti d off hti hg
            split at hv
            · rename_i cs fz hb
              split at hv
              · rename_i hf
                cases hv
                have hr := eval_rep h x (.inr trivial)
                rw [hg] at hr
                obtain ⟨B, hB, hp⟩ := hr
                obtain ⟨B', us, T', h3, h4, h5, h6, _⟩ := h.cells d cs fz hb
                have hBB : B' = B := by
                  have hB : g.bx d = some B := hB
                  rw [h3] at hB; cases hB; rfl
                subst hBB
                have hp : a.tmps.getD x undef = .pointer (some ⟨B', off, none⟩) := hp
                have := (T _ _ hti).run_loadVar (w := w) (B := B') (o := 0) (off := off) (us := us.toList) (fun j u hj => by
                  simp only [World.cell?, h4, Nat.zero_add]
                  simpa using hj) (partFits_us h6 hf)
                rw [Nat.zero_add] at this
                refine ⟨partVal ti us.toList off, ?_, Rep.part h6 hf⟩
                rw [F2]
                simp only [Sem.run_bind, hp, asAddr, Sem.run_pure, Result.andThen_ok]
                exact this
              · cases hv
            · cases hv
          · cases hv
      obtain ⟨u, hx1, hx2⟩ := hx
      refine ⟨u :: us, ?_, ⟨u, us, rfl, hx2, h2⟩⟩
      rw [List.mapM_cons, Sem.run_bind, hx1]
      simp only [Result.andThen_ok, Sem.run_bind, h1, Sem.run_pure]
    · cases hr

theorem run_results (T : ∀ t ti, E.ty t = some ti → TyOk P t ti) (h : SimG base w0 n g s a w) {fn : Func} {vs : List PV} (hr : results E s fn.results.toList = some vs) :
    ∃ us, (_root_.Go.results fn a.tmps).run P w = .ok (if h : us.length = 1 then us[0] else .tuple us.toArray) w ∧ Reps (ctx s w g) vs us := by
  have key : ∀ {F : ResultVar → Sem Value} (F1 : ∀ t, F (.tmp t) = pure (a.tmps.getD t undef)) (F2 : ∀ x t, F (.cell x t) = do loadVar t (← asAddr (a.tmps.getD x undef))),
      ∃ us, ((do let vs ← fn.results.mapM F; pure (if h : vs.size = 1 then vs[0] else .tuple vs)) : Sem Value).run P w = .ok (if h : us.length = 1 then us[0] else .tuple us.toArray) w ∧ Reps (ctx s w g) vs us := fun F1 F2 => by
    obtain ⟨us, h1, h2⟩ := results_rep T h F1 F2 _ _ hr
    refine ⟨us, ?_, h2⟩
    rw [Sem.run_bind, Array.mapM_eq_mapM_toList, Sem.run_map, h1]
    simp only [Result.andThen_ok, Sem.run_pure]
    simp
  exact key (fun _ => rfl) (fun _ _ => rfl)

def rowOf : PV → Option Nat
  | .row d => some d
  | _ => none

theorem giveBack_sound (T : ∀ t ti, E.ty t = some ti → TyOk P t ti) {f : Nat} {fn : Func} {r : PV} (h : Sim base w0 n s a w) {wi : World} {ki : Nat → Nat → Prop} (hbase : base = wi.heap.size) (hbel : Below base wi w) (hnw : ∀ B o, w0.keep B o → ki B o ∨ base ≤ B) (hkk : ∀ B o, ki B o → w0.keep B o) (hkeep : StOk wi ki) (hg : giveBack E f fn s = some r) :
    RConf E fn r ∧ ∃ v, (_root_.Go.results fn a.tmps).run P w = .ok v w ∧ After E f r wi ki v w := by
  obtain ⟨g, h⟩ := h
  unfold giveBack at hg
  split at hg
  · cases hg
  · rename_i vs hvs
    obtain ⟨us, hres, hrep⟩ := run_results T h hvs
    dsimp only at hg
    by_cases hcf : confTs E fn.resultTypes.toList (vs.map (handed s)) = true
    · rw [if_pos hcf] at hg
      have hpl := confTs_plains hcf
      have hln := confTs_length hcf
      have hul := hrep.length
      have hkl : ∀ B o, ki B o → B < base := fun B o hk => by
        obtain ⟨us, T', fr, e, _⟩ := hkeep B o hk
        rw [hbase]
        exact block_lt e
      -- what stays, of a ghost
      let st' : Gh → Nat → Nat → Prop := fun g B o => ki B o ∨ (base ≤ B ∧ g.st B o)
      have hstok : ∀ {g : Gh} {s : St}, SimG base w0 n g s a w → StOk w (st' g) := fun hg B o ho => by
        rcases ho with ho | ⟨_, ho⟩
        · obtain ⟨us, T', fr, e, hl⟩ := hkeep B o ho
          refine ⟨us, T', fr, ?_, hl⟩
          rw [hbel.block B (hkl B o ho)]
          exact e
        · exact hg.stlt B o ho
      have hle : ∀ {g : Gh} {s : St}, SimG base w0 n g s a w → (ctx s w g).Le0 (plainCtx w (st' g)) := fun hg =>
        ⟨fun B o ho => ((hg.news B o ho).elim (hnw B o) .inr).imp id fun hb => ⟨hb, ho⟩, fun _ _ _ => rfl⟩
      have hafter : ∀ {g : Gh} {s : St} (hg : SimG base w0 n g s a w) (r : PV) (v : Value), Rep (plainCtx w (st' g)) r v → (E.own f = true → ∃ ls xs, r = .sl none ls xs ∧ OwnOk (gh0 (st' g)) wi.heap.size w v ls.length) → After E f r wi ki v w := fun {g s} hg r v hr ho => by
        refine ⟨by rw [← hbase]; exact hbel, st' g, fun B o hk => .inl hk, fun B o hk => ?_, hstok hg, ⟨r, rfl, hr⟩, ho⟩
        rcases hk with hk | ⟨hk, _⟩
        · exact .inl hk
        · rw [hbase] at hk; exact .inr hk
      -- the rows that are handed back are frozen
      obtain ⟨g1, h1, l1, b1, c1⟩ := SimG.freeze (vs.filterMap rowOf) h
      have hrs : Reps (plainCtx w (st' g1)) (vs.map (handed s)) us := by
        refine Reps.mono0 (hle h1) _ _ hpl ?_
        refine Reps.of_get (by rw [List.length_map]; exact hul) fun i u hu => ?_
        have hi : i < vs.length := by
          have := (List.getElem?_eq_some_iff.1 hu).1
          omega
        have hp := hrep.get i u hu
        have hn : nth vs i = vs[i] := by simp [nth, List.getD_eq_getElem?_getD, hi]
        have hn' : nth (vs.map (handed s)) i = handed s vs[i] := by simp [nth, List.getD_eq_getElem?_getD, hi]
        rw [hn] at hp
        rw [hn']
        exact handed_rep h l1 rfl hp fun d hd B hB us T fr hh o ho => c1 d (List.mem_filterMap.2 ⟨vs[i], List.getElem_mem hi, by rw [hd]; rfl⟩) B hB us T fr hh o ho
      cases vs with
      | nil =>
        have hg : (if E.own f = true then none else forceVs [] fun vs => some (PV.tup vs)) = some r := hg
        split at hg
        · cases hg
        · rename_i ho
          cases hg
          refine ⟨?_, _, hres, hafter h1 _ _ ?_ fun q => absurd q ho⟩
          · unfold RConf
            split
            · rename_i t ht; rw [ht] at hln; cases hln
            · exact ⟨_, rfl, hcf⟩
          · rw [dif_neg (by rw [hul]; simp)]
            exact ⟨_, rfl, hrs⟩
      | cons u0 vs =>
        cases vs with
        | nil =>
          simp only [List.map_cons, List.map_nil] at hg
          have hrc : ∀ r', r' = handed s u0 → RConf E fn r' := fun r' hr' => by
            subst hr'
            unfold RConf
            have hcf : confTs E fn.resultTypes.toList [handed s u0] = true := hcf
            split
            · rename_i t ht
              rw [ht] at hcf
              simpa [confTs] using hcf
            · rename_i ts hts
              exfalso
              have hln : 1 = fn.resultTypes.toList.length := hln
              match hq : fn.resultTypes.toList, hln with
              | [t], _ => exact hts t hq
          have hul : us.length = 1 := hul
          rw [dif_pos hul] at hres
          have hus : us = [us[0]] := by
            match us, hul with
            | [u], _ => rfl
          split at hg
          · rename_i ho
            split at hg
            · rename_i d k ls xs
              split at hg
              · rename_i hk
                rw [forceV_eq] at hg
                cases hg
                refine ⟨hrc _ rfl, _, hres, ?_⟩
                rw [hus] at hrep
                obtain ⟨u, ws, hq, hru, _⟩ := hrep
                cases hq
                have hru0 := hru
                obtain ⟨A, cap, rows, e1, e2, e3, e4, e5, e6, e7⟩ := hru0
                obtain ⟨_, htg⟩ := e7 d k rfl
                obtain ⟨hown, hoz⟩ := htg hk
                refine hafter h _ _ (Rep.mono0 (hle h) _ _ rfl (Rep.strip_tag hru)) fun _ => ⟨ls, xs, rfl, ?_⟩
                rw [hown, hoz, ← hbase]
                rcases h.own d with hq | ⟨B, o, len, cap', us', T', q1, q2, q3, q4, q5, q6, q7⟩
                · exact .inl hq
                · exact .inr ⟨B, o, len, cap', us', T', q1, q2, q3, q4, q5, fun j hj hq => hq.elim (fun hk => absurd (hkl B j hk) (by omega)) fun hq => q6 j hj hq.2, fun _ hq => by cases hq⟩
              · cases hg
            · cases hg
          · rename_i ho
            rw [forceV_eq] at hg
            cases hg
            refine ⟨hrc _ rfl, _, hres, hafter h1 _ _ ?_ fun q => absurd q ho⟩
            rw [hus] at hrs
            obtain ⟨u, ws, hq, hru, _⟩ := hrs
            cases hq
            exact hru
        | cons u1 vs =>
          have hg : (if E.own f = true then none else forceVs ((u0 :: u1 :: vs).map (handed s)) fun vs => some (PV.tup vs)) = some r := hg
          split at hg
          · cases hg
          · rename_i ho
            rw [forceVs_eq] at hg
            cases hg
            refine ⟨?_, _, hres, hafter h1 _ _ ?_ fun q => absurd q ho⟩
            · unfold RConf
              split
              · rename_i t ht; rw [ht] at hln; simp at hln
              · exact ⟨_, rfl, hcf⟩
            · rw [dif_neg (by rw [hul]; simp)]
              exact ⟨_, rfl, hrs⟩
    · rw [if_neg hcf] at hg
      cases hg

theorem giveBack_conf {f : Nat} {fn : Func} {r : PV} (hg : giveBack E f fn s = some r) : RConf E fn r := by
  unfold giveBack at hg
  split at hg
  · cases hg
  · rename_i vs hvs
    dsimp only at hg
    by_cases hcf : confTs E fn.resultTypes.toList (vs.map (handed s)) = true
    · rw [if_pos hcf] at hg
      have hln := confTs_length hcf
      cases vs with
      | nil =>
        have hg : (if E.own f = true then none else forceVs [] fun vs => some (PV.tup vs)) = some r := hg
        split at hg
        · cases hg
        · cases hg
          unfold RConf
          split
          · rename_i t ht; rw [ht] at hln; cases hln
          · exact ⟨_, rfl, hcf⟩
      | cons u0 vs =>
        cases vs with
        | nil =>
          simp only [List.map_cons, List.map_nil] at hg
          have hr : r = handed s u0 := by
            split at hg
            · split at hg
              · split at hg
                · rw [forceV_eq] at hg; cases hg; rfl
                · cases hg
              · cases hg
            · rw [forceV_eq] at hg; cases hg; rfl
          subst hr
          unfold RConf
          have hcf : confTs E fn.resultTypes.toList [handed s u0] = true := hcf
          split
          · rename_i t ht
            rw [ht] at hcf
            simpa [confTs] using hcf
          · rename_i ts hts
            exfalso
            have hln : 1 = fn.resultTypes.toList.length := hln
            match hq : fn.resultTypes.toList, hln with
            | [t], _ => exact hts t hq
        | cons u1 vs =>
          have hg : (if E.own f = true then none else forceVs ((u0 :: u1 :: vs).map (handed s)) fun vs => some (PV.tup vs)) = some r := hg
          split at hg
          · cases hg
          · rw [forceVs_eq] at hg
            cases hg
            unfold RConf
            split
            · rename_i t ht; rw [ht] at hln; simp at hln
            · exact ⟨_, rfl, hcf⟩
    · rw [if_neg hcf] at hg
      cases hg


/-- What is handed on at the end comes from a state. -/
theorem codeK_final {io : Io R} (hem : ∀ x a b, io.emit x a b = none) (hs : Nat → Hd) (ys : Nat → Option Nat) : ∀ (c : Code) (rd : Bool) (s : St) (κ : Ex → St → Option R) (r : R), codeK E call io rd hs ys c s κ = some r → ∃ e s', κ e s' = some r := by
  intro c
  induction c with
  | skip => intro rd s κ r h; exact ⟨_, _, h⟩
  | region id ops draw =>
    intro rd s κ r h
    unfold codeK at h
    cases hy : ys id with
    | none =>
      rw [hy] at h
      cases draw with
      | true =>
        dsimp only at h
        rw [forceL_eq] at h
        obtain ⟨tr, s', _, hk, _⟩ := opsD_run E call ops _ ops.toList 0 [] [] s _ r (by simp) h
        exact ⟨_, s', hk⟩
      | false =>
        obtain ⟨tr, s', _, hk⟩ := opsK_run E call ops ops.toList 0 s _ r h
        exact ⟨_, s', hk⟩
    | some j =>
      rw [hy] at h
      dsimp only at h
      split at h
      · obtain ⟨tr, s', _, hk⟩ := opsK_run E call ops _ 0 s _ r h
        exfalso
        unfold yieldK at hk
        split at hk
        · split at hk
          · split at hk
            · obtain ⟨_, hk⟩ := guardK_some hk
              rw [hem] at hk; cases hk
            · cases hk
          · cases hk
        · cases hk
      · cases h
  | seq x y ihx ihy =>
    intro rd s κ r h
    obtain ⟨e, s', hk⟩ := ihx _ _ _ _ h
    cases e with
    | normal => exact ihy _ _ _ _ hk
    | ret => exact ⟨_, _, hk⟩
    | exit id => exact ⟨_, _, hk⟩
  | cond c x y ihx ihy =>
    intro rd s κ r h
    cases c with
    | tmp t =>
      simp only [codeK, splitK_eq] at h
      split at h
      · rename_i b hb
        cases b with
        | true => exact ihx _ _ _ _ h
        | false => exact ihy _ _ _ _ h
      · cases h
    | const v => simp [codeK] at h
    | global v => simp [codeK] at h
    | func v => simp [codeK] at h
  | block id c ih =>
    intro rd s κ r h
    obtain ⟨e, s', hk⟩ := ih _ _ _ _ h
    cases e with
    | normal => exact ⟨_, _, hk⟩
    | ret => exact ⟨_, _, hk⟩
    | exit j =>
      dsimp only at hk
      split at hk
      · exact ⟨_, _, hk⟩
      · exact ⟨_, _, hk⟩
  | loop c ih =>
    intro rd s κ r h
    simp only [codeK, forceSt_eq] at h
    have key : ∀ k s, loopJ (codeK E call io rd hs ys c) (hs (firstRegion c)) κ k s = some r → ∃ e s', κ e s' = some r := by
      intro k
      induction k with
      | zero => intro s h; cases h
      | succ k ihk =>
        intro s h
        simp only [loopJ, forceSt_eq] at h
        obtain ⟨e, s', hk⟩ := ih _ _ _ _ h
        cases e with
        | normal => exact ihk _ hk
        | ret => exact ⟨_, _, hk⟩
        | exit id => exact ⟨_, _, hk⟩
    exact key _ _ h
  | exit id => intro rd s κ r h; exact ⟨_, _, h⟩
  | ret => intro rd s κ r h; exact ⟨_, _, h⟩
  | rangeFunc f p x y ihx ihy =>
    intro rd s κ r h
    cases f with
    | tmp t =>
      cases rd with
      | true => simp [codeK] at h
      | false =>
        simp only [codeK] at h
        have key : ∀ (hd : Hd) (xs : List (List PV)) (s : St), rangeJ (roundK (codeK E call io true hs ys x) (codeK E call io true hs ys y) p.toList) hd κ xs s = some r → ∃ e s', κ e s' = some r := by
          intro hd xs
          induction xs with
          | nil => intro s h; exact ⟨_, _, h⟩
          | cons v xs ih =>
            intro s h
            simp only [rangeJ, roundK] at h
            obtain ⟨_, h⟩ := guardK_some h
            rw [forceSt_eq] at h
            obtain ⟨e, s1, h⟩ := ihx _ _ _ _ h
            cases e with
            | normal =>
              obtain ⟨e, s2, h⟩ := ihy _ _ _ _ h
              cases e with
              | normal =>
                simp only [forceSt_eq] at h
                exact ih _ h
              | ret => exact ⟨_, _, h⟩
              | exit id => exact ⟨_, _, h⟩
            | ret => cases h
            | exit id => cases h
        unfold rangeK at h
        split at h
        · split at h
          obtain ⟨_, h⟩ := guardK_some h
          split at h
          · obtain ⟨xs, _, h⟩ := Option.bind_eq_some_iff.1 h
            rw [forceSt_eq] at h
            exact key _ _ _ h
          · split at h
            · obtain ⟨_, h⟩ := guardK_some h
              obtain ⟨xs, _, h⟩ := Option.bind_eq_some_iff.1 h
              rw [forceSt_eq] at h
              exact key _ _ _ h
            · cases h
        · cases h
    | const v => simp [codeK] at h
    | global v => simp [codeK] at h
    | func v => simp [codeK] at h
  | scope x => intro rd s κ r h; simp [codeK] at h
  | label l => intro rd s κ r h; simp [codeK] at h
  | goto l => intro rd s κ r h; simp [codeK] at h
  | refuse why => intro rd s κ r h; simp [codeK] at h

/-- The marks of loops over iterators are taken up one by one. -/
theorem leaves_marks {Inv : R → Start → Prop} (hInv : InvOk base Inv) {fn : Func} {T : Ending → World → Prop} {tmps : Array Value} {m : Nat} : ∀ (Ds : List Nat) {w0 : Start} {g : Gh} {s : St} {w : World} {r : R}, SimG base w0 n g s { tmps := tmps, defers := Ds.map mark } w → Inv r w0 →
    (∀ w0' w', Later0 base w0 w0' → Inv r w0' → SimG base w0' n g s { tmps := tmps, defers := [] } w' → ∃ v, (_root_.Go.results fn tmps).run P w' = .ok v w' ∧ T (.returned v) w') → LeavesInM (rf none) m P fn tmps T (Ds.map mark) .returning w
  | [], w0, g, s, w, r, h, hI, hT => hT w0 w (Later0.refl _ _) hI h
  | D :: Ds, w0, g, s, w, r, h, hI, hT => by
    have hmk : ∀ {a b : Nat}, mark a = mark b → a = b := fun e => by
      simp only [mark, Deferred.mk.injEq, Target.collected.injEq] at e
      exact e.1
    have hD : w0.fix D ∧ base ≤ D ∧ w0.heap[D]? = some (.deferred (some [])) ∧ (∀ D' ∈ Ds, D' ≠ D) ∧ Ds.Nodup ∧ ∀ D' ∈ Ds, w0.fix D' ∧ base ≤ D' ∧ w0.heap[D']? = some (.deferred (some [])) := by
      obtain ⟨Ds', h1, h2, h3⟩ := h.marks
      have h1 : (D :: Ds).map mark = Ds'.map mark := h1
      have e : D :: Ds = Ds' := by
        have : ∀ (l l' : List Nat), l.map mark = l'.map mark → l = l' := by
          intro l
          induction l with
          | nil => intro l' e; cases l' with | nil => rfl | cons x l' => cases e
          | cons x l ih =>
            intro l' e
            cases l' with
            | nil => cases e
            | cons y l' =>
              simp only [List.map_cons, List.cons.injEq] at e
              rw [hmk e.1, ih l' e.2]
        exact this _ _ h1
      subst e
      have hn := List.nodup_cons.1 h2
      exact ⟨(h3 D (List.mem_cons_self ..)).1, (h3 D (List.mem_cons_self ..)).2.1, (h3 D (List.mem_cons_self ..)).2.2, fun D' hD' e => hn.1 (e ▸ hD'), hn.2, fun D' hD' => h3 D' (List.mem_cons_of_mem _ hD')⟩
    obtain ⟨d1, d2, d3, d4, d5, d6⟩ := hD
    have hw : w.heap[D]? = some (.deferred (some [])) := (h.quiet D (.inr d1)).2.1.trans d3
    obtain ⟨n1, n2, n3⟩ := h.noCells hw rfl
    have hne : ∀ {b}, b ≠ D → (w.putObj D (.deferred none)).heap[b]? = w.heap[b]? := fun hq => World.putObj_heap_other hq
    have hbe : ∀ b, b ≤ D → Below b w (w.putObj D (.deferred none)) := fun b hb => ⟨rfl, rfl, rfl, by simp, fun k hk => hne (by omega)⟩
    have hce : ∀ b o, g.st b o → (w.putObj D (.deferred none)).cell? ⟨b, o, none⟩ = w.cell? ⟨b, o, none⟩ := fun b o ho => World.cell?_of_block (w := w) (hne fun q => n3 o (q ▸ ho))
    have hoke : StOk (w.putObj D (.deferred none)) g.st := fun b o ho => by
      obtain ⟨us, T, fr, e, hq⟩ := h.stlt b o ho
      exact ⟨us, T, fr, by rw [hne fun q => n3 o (q ▸ ho)]; exact e, hq⟩
    have hsz : (w.putObj D (.deferred none)).heap.size = w.heap.size := by simp
    let w0e : Start :=
      { toWorld := w.putObj D (.deferred none), keep := g.st, pin := w0.pin, far := w0.far, fix := fun b => w0.fix b ∧ b ≠ D, yl := w0.yl
        ap := fun b hb hf => w0.ap b hb.1 hf }
    have Se : SimG base w0e n g s { tmps := tmps, defers := Ds.map mark } (w.putObj D (.deferred none)) := h.turn (w0n := w0e) (st1 := g.st) (sl := s.slots) (fun d b hq => hne fun q => n1 d (q ▸ hq)) (fun d b hq => hne fun q => n2 d (q ▸ hq)) (fun _ _ h => h) hce (fun _ _ h => .inl h) hoke (fun _ _ h => .inl h)
      (by show base ≤ (w.putObj D (.deferred none)).heap.size; rw [hsz]; exact Nat.le_trans h.base_le h.below.size) (Below.refl _ _) (fun _ _ h => .inl h) (fun _ _ h => ⟨h, rfl⟩) h.pinned
      (fun b hb => by
        have hb : w0.far b ∨ w0.fix b := hb.imp id fun q => q.1
        obtain ⟨q1, q2, q3, q4⟩ := h.quiet b hb
        exact ⟨by show b < (w.putObj D (.deferred none)).heap.size; rw [hsz]; have := h.below.size; omega, rfl, q3, q4⟩) rfl h.ns (fun hle => Reps.mono hle _ _ h.slots)
      ⟨Ds, rfl, d5, fun D' hD' => ⟨⟨(d6 D' hD').1, d4 D' hD'⟩, (d6 D' hD').2.1, (hne (d4 D' hD')).trans ((h.quiet D' (.inr (d6 D' hD').1)).2.1.trans (d6 D' hD').2.2)⟩⟩
    have T4 : Turn w0 w0e :=
      { far := rfl
        same := fun b hb => (hne fun q => w0.ap D d1 (q ▸ hb)).trans (h.quiet b (.inl hb)).2.1
        below := (h.below.mono (Nat.zero_le _)).trans (hbe 0 (Nat.zero_le _))
        keep := fun b o ho => ⟨(h.kept b o ho).1, (hce b o (h.kept b o ho).1).trans (h.kept b o ho).2⟩
        news := fun b o ho => (h.newsq b o ho).imp id fun q hf => q (.inl hf)
        stok := hoke
        yl := rfl }
    have L4 : Later0 base w0 w0e :=
      { below := h.below.trans (hbe _ d2)
        keep := T4.keep
        news := fun b o ho => h.news b o ho
        far := fun k hk => .inl hk }
    refine ⟨by simp, .inl ⟨D, _, rfl, run_takeDeferred hw, ?_⟩⟩
    exact leaves_marks hInv Ds Se (hInv _ _ _ hI T4 L4) fun w0' w' hL hI' hS => hT w0' w' (L4.trans hL) hI' hS

end
end Go.Pew

namespace Go.Pew
set_option linter.unusedSimpArgs false
set_option linter.unusedVariables false
open Go.RowKit
set_option linter.unusedVariables false
set_option linter.unusedSimpArgs false

section
variable {P : Program} {E : Env} {call : Nat → List PV → Option PV} {it : Nat → List PV → Option (List PV) → List PV → Option (List (List PV))} {base n : Nat}

def st0 (sl : List PV) (n : Nat) : St := { slots := sl, boxes := List.replicate n none, vers := List.replicate n 0 }

theorem st0_box (sl : List PV) (n d : Nat) : (st0 sl n).box d = none := by
  simp only [St.box, st0, List.getD_eq_getElem?_getD, List.getElem?_replicate]
  split <;> rfl

/-- At a call. -/
theorem init_sim {w : World} {st : Nat → Nat → Prop} (hst : StOk w st) {w0 : Start} (e1 : w0.toWorld = w) (e2 : w0.keep = st) (hpin : ∀ d, w0.pin d = none) (hq : ∀ B, (w0.far B ∨ w0.fix B) → B < w.heap.size) (hb : base ≤ w.heap.size)
    (hnw : ∀ B o, st B o → w0.keep B o ∨ base ≤ B) {sl : List PV} {tmps : Array Value} (hl : sl.length = n) (hr : Reps (ctx (st0 sl n) w { gh0 st with yl := w0.yl }) sl tmps.toList) :
    SimG base w0 n { gh0 st with yl := w0.yl } (st0 sl n) { tmps := tmps, defers := [] } w := by
  subst e1 e2
  exact
  { ns := hl
    nb := by simp [st0]
    nv := by simp [st0]
    slots := hr
    marks := ⟨[], rfl, List.nodup_nil, fun D hD => by cases hD⟩
    base_le := hb
    below := Below.refl _ _
    nobox := fun _ _ => rfl
    cells := fun d cs fz h => by rw [st0_box] at h; cases h
    rows := fun d ls xs fz h => by rw [st0_box] at h; cases h
    inj := fun d d' B h => by cases h
    own := fun _ => .inl rfl
    apart := fun d d' B _ h => by simp [gh0, ownBlock] at h
    stlt := hst
    news := fun B o h => .inl h
    kept := fun B o h => ⟨h, rfl⟩
    pinned := fun d B h => by rw [hpin d] at h; cases h
    quiet := fun B h => ⟨hq B h, rfl, fun d q => (by cases q), fun d q => (by simp [gh0, ownBlock] at q)⟩
    yld := rfl
    newsq := fun B o h => .inl h }

theorem reps_undefs (C : Ctx) : ∀ (k : Nat) (us : List Value), us.length = k → Reps C (List.replicate k .undef) us
  | 0, us, h => by
    have : us = [] := List.eq_nil_of_length_eq_zero h
    subst this; rfl
  | k + 1, [], h => by cases h
  | k + 1, u :: us, h => ⟨u, us, rfl, trivial, reps_undefs C k us (by simpa using h)⟩

theorem body_sound (O : ProgOk P E) (hcall : ∀ f args r, call f args = some r → Contract P E f args r) (hit : ∀ g pre m post xs, it g pre m post = some xs → IterC P g pre m post xs) {f : Nat} {fn : Func} (hfn : E.fn f = some fn) {args : List PV} {r : PV}
    (hb : bodyK E call it f fn args = some r) : Contract P E f args r := by
  unfold bodyK at hb
  split at hb
  · cases hb
  · rename_i c hc
    split at hb
    · cases hb
    · rename_i hle
      have hle := Nat.le_of_ble_eq_true hle
      rw [forceSt_eq] at hb
      obtain ⟨hF1, _, _⟩ := O.env.fn _ _ hfn
      refine ⟨fun fn' hfn' => ?_, fun w st vals hst hr => ?_⟩
      · rw [hfn] at hfn'
        cases hfn'
        obtain ⟨e, s', hk⟩ := codeK_final (fun _ _ _ => rfl) _ _ _ _ _ _ _ hb
        have hgb : giveBack E f fn s' = some r := by
          cases e with
          | normal => exact hk
          | ret => exact hk
          | exit id => cases hk
        exact giveBack_conf hgb
      · have hvl := hr.length
        refine (callsIn_wide (n := 0)).1 ?_
        refine callsIn_of_wp_marks (F := rf none) (n := 0) hF1 hc trivial ?_ rfl
        let w0 : Start := { toWorld := w, keep := st, pin := fun _ => none, far := fun _ => False, fix := fun _ => False, yl := none, ap := fun _ h => h.elim }
        have hsim : SimG w.heap.size w0 fn.ntmps { gh0 st with yl := none } (st0 (args ++ List.replicate (fn.ntmps - args.length) .undef) fn.ntmps) { tmps := vals.toArray ++ Array.replicate (fn.ntmps - vals.toArray.size) undef, defers := [] } w :=
          init_sim (w0 := w0) hst rfl rfl (fun _ => rfl) (fun B h => h.elim (fun h => h.elim) fun h => h.elim) (Nat.le_refl _) (fun _ _ h => .inl h) (by simp; omega) (by
            have e1 : (vals.toArray ++ Array.replicate (fn.ntmps - vals.toArray.size) undef).toList = vals ++ List.replicate (fn.ntmps - args.length) undef := by simp [hvl]
            rw [e1]
            exact Reps.append (Reps.mono (plainCtx_le (C := ctx _ w _) rfl fun _ _ h => h) _ _ hr) (reps_undefs _ _ _ (by simp)))
        let Inv : PV → Start → Prop := fun r' w0' => r' = r ∧ Later0 w.heap.size w0 w0'
        have hInv : InvOk w.heap.size Inv := fun r' a b h _ hL => ⟨h.1, h.2.trans hL⟩
        refine code_sound (Inv := Inv) O hcall hit hInv (fun _ _ _ _ _ _ _ _ _ _ _ _ h => by cases h) (E.loops f) (fun _ => none) c (O.code _ _ _ hfn hc) false 0 none (fun _ => rfl) _ _ r w0 _ w _ hb (fun _ _ => rfl) (fun _ _ => rfl) ⟨_, hsim⟩ ⟨rfl, Later0.refl _ _⟩ ?_
        intro e s' r' w0' a' w' hk _ _ _ hI hS
        obtain ⟨g', hS⟩ := hS
        have hgb : giveBack E f fn s' = some r' ∧ (e = .normal ∨ e = .ret) := by
          cases e with
          | normal => exact ⟨hk, .inl rfl⟩
          | ret => exact ⟨hk, .inr rfl⟩
          | exit id => cases hk
        obtain ⟨hgb, he⟩ := hgb
        obtain ⟨tmps, defers⟩ := a'
        obtain ⟨Ds, hDs, hD2⟩ := hS.marks
        have hDs : defers = Ds.map mark := hDs
        subst hDs
        have := leaves_marks (P := P) (m := 0) (fn := fn) (T := fun e w' => ∃ v, e = .returned v ∧ After E f r w st v w') hInv Ds hS hI (fun w0'' w'' _ hI'' hS'' => by
          obtain ⟨e1, hL⟩ := hI''
          subst e1
          obtain ⟨_, v, h1, h2⟩ := giveBack_sound O.env.ty ⟨_, hS''⟩ (wi := w) (ki := st) rfl (hL.below.trans hS''.below) hL.news (fun B o h => (hL.keep B o h).1) hst hgb
          exact ⟨v, h1, v, rfl, h2⟩)
        rcases he with rfl | rfl
        · exact this
        · exact this

theorem emitI_some {x : List PV} {a b : Option (List (List PV))} {r : List (List PV)} (h : emitI x a b = some r) : ∃ tr, a = some tr ∧ b = some [] ∧ r = x :: tr := by
  unfold emitI at h
  split at h
  · cases h; exact ⟨_, rfl, rfl, rfl⟩
  · cases h

theorem iter_sound (O : ProgOk P E) (hcall : ∀ f args r, call f args = some r → Contract P E f args r) (hit : ∀ g pre m post xs, it g pre m post = some xs → IterC P g pre m post xs) {gf : Nat} {fn : Func} (hfn : E.fn gf = some fn)
    {pre : List PV} {mm : Option (List PV)} {post : List PV} {xs : List (List PV)} (hb : bodyI E call it gf fn pre mm post = some xs) : IterC P gf pre mm post xs := by
  unfold bodyI at hb
  split at hb
  · cases hb
  · rename_i c hc
    split at hb
    · cases hb
    · rename_i hle
      rw [Bool.and_eq_true] at hle
      obtain ⟨hle, hres⟩ := hle
      have hle := Nat.le_of_ble_eq_true hle
      have hres : fn.results = #[] := by simpa using hres
      rw [forceSt_eq] at hb
      obtain ⟨hF1, hF2, hF3⟩ := O.env.fn _ _ hfn
      refine ⟨⟨fn, hF1, hF2, hF3⟩, ?_⟩
      intro l J Jx w far st pv mv qv hst hpre hpost hcap hfar hJ hJx hround h0 m
      refine callsIn_of_wp_marks (F := rf none) (n := m) hF1 hc trivial ?_ rfl
      let w0 : Start := { toWorld := w, keep := st, pin := fun _ => none, far := far, fix := fun _ => False, yl := some l, ap := fun _ h => h.elim }
      let Inv : List (List PV) → Start → Prop := fun r w0' => (J r w0'.far w0'.keep w0'.toWorld ∨ (r = [] ∧ ∃ rest, Jx rest w0'.far w0'.keep w0'.toWorld)) ∧ w0'.yl = some l
      have hInv : InvOk 0 Inv := fun r a b h hT hL => by
        obtain ⟨h, hy⟩ := h
        refine ⟨?_, hT.yl.trans hy⟩
        rw [hT.far]
        rcases h with h | ⟨hr, rest, h⟩
        · exact .inl (hJ _ _ _ _ _ _ h hT.below hT.same hT.keep hT.news hT.stok)
        · exact .inr ⟨hr, rest, hJx _ _ _ _ _ _ h hT.below hT.same hT.keep hT.news hT.stok⟩
      have hnow : ∀ {w0 : Start} {g : Gh} {s : St} {a : Act} {w : World} {r : List (List PV)} {K : List (List PV) → (Nat → Prop) → (Nat → Nat → Prop) → World → Prop}, Abide K → SimG 0 w0 fn.ntmps g s a w → K r w0.far w0.keep w0.toWorld → K r w0.far g.st w := fun hK hS h =>
        hK _ _ _ _ _ _ h hS.below (fun k hk => (hS.quiet k (.inl hk)).2.1) hS.kept (fun B o ho => (hS.newsq B o ho).imp id fun q hf => q (.inl hf)) hS.stlt
      have hY : YOk P 0 fn.ntmps Inv emitI := by
        intro args x y r w0 g s a w us l' k hem hI hS hus hyl
        obtain ⟨tr, rfl, rfl, rfl⟩ := emitI_some hem
        obtain ⟨hI, hyl'⟩ := hI
        rw [hyl] at hyl'
        cases hyl'
        have hI : J (args :: tr) w0.far w0.keep w0.toWorld := by
          rcases hI with hI | ⟨hI, _⟩
          · exact hI
          · cases hI
        obtain ⟨fn', tmps, asg, body, hy, hR⟩ := hround args tr w0.far g.st w us (hnow hJ hS hI) hS.stlt hus (fun k hk => Nat.lt_of_lt_of_le (hS.quiet k (.inl hk)).1 hS.below.size) k
        refine ⟨fn', tmps, asg, body, hy, hR.mono ?_⟩
        rintro e W' ⟨far', st', hStep, hres⟩
        have hff : ∀ B, w0.fix B → ¬ far' B := fun B hB hf => by
          rcases hStep.far B hf with q | q
          · exact w0.ap B hB q
          · have := Nat.lt_of_lt_of_le (hS.quiet B (.inr hB)).1 hS.below.size; omega
        let w0' : Start := { toWorld := W', keep := st', pin := w0.pin, far := far', fix := w0.fix, yl := w0.yl, ap := hff }
        have hmine : ∀ B, B < w.heap.size → ¬ w0.far B → ¬ far' B ∧ W'.heap[B]? = w.heap[B]? := fun B hB hf => ⟨fun q => (hStep.far B q).elim hf fun q => by omega, hStep.same B hB hf⟩
        have hbx : ∀ d B, g.bx d = some B → ¬ far' B ∧ W'.heap[B]? = w.heap[B]? := fun d B hd => hmine B (hS.bx_lt hd).1 fun hf => (hS.quiet B (.inl hf)).2.2.1 d hd
        have hown : ∀ d B, ownBlock (g.own d) = some B → ¬ far' B ∧ W'.heap[B]? = w.heap[B]? := fun d B hd => hmine B (hS.own_lt hd).1 fun hf => (hS.quiet B (.inl hf)).2.2.2 d hd
        have hfix : ∀ B, w0.fix B → W'.heap[B]? = w0.heap[B]? := fun B hB => (hStep.same B (Nat.lt_of_lt_of_le (hS.quiet B (.inr hB)).1 hS.below.size) (w0.ap B hB)).trans (hS.quiet B (.inr hB)).2.1
        have S' : SimG 0 w0' fn.ntmps { g with st := st' } { s with slots := s.slots } a W' := hS.turn (w0n := w0') (st1 := st') (sl := s.slots) (a' := a) (fun d B hd => (hbx d B hd).2) (fun d B hd => (hown d B hd).2) (fun B o ho => (hStep.keep B o ho).1) (fun B o ho => (hStep.keep B o ho).2)
          (fun B o ho => (hStep.news B o ho).imp id fun hf => ⟨fun d hd => (hbx d B hd).1 hf, fun d hd => (hown d B hd).1 hf⟩) hStep.ok (fun _ _ h => .inl h) (Nat.zero_le _) (Below.refl _ _) (fun _ _ h => .inl h) (fun _ _ h => ⟨h, rfl⟩) hS.pinned
          (fun B hB => by
            rcases hB with hB | hB
            · exact ⟨hStep.lt B hB, rfl, fun d hd => (hbx d B hd).1 hB, fun d hd => (hown d B hd).1 hB⟩
            · obtain ⟨q1, q2, q3, q4⟩ := hS.quiet B (.inr hB)
              exact ⟨Nat.lt_of_lt_of_le (Nat.lt_of_lt_of_le q1 hS.below.size) hStep.below.size, rfl, q3, q4⟩) rfl hS.ns (fun hle => Reps.mono hle _ _ hS.slots) (by
            obtain ⟨Ds, h1, h2, h3⟩ := hS.marks
            exact ⟨Ds, h1, h2, fun D' hD' => ⟨(h3 D' hD').1, (h3 D' hD').2.1, (hfix D' (h3 D' hD').1).trans (h3 D' hD').2.2⟩⟩)
        have hL : Later 0 noX w0 w0' :=
          { below := hS.below.trans hStep.below
            keep := fun B o ho => ⟨(hStep.keep B o (hS.kept B o ho).1).1, (hStep.keep B o (hS.kept B o ho).1).2.trans (hS.kept B o ho).2⟩
            news := fun _ _ _ => .inr (Nat.zero_le _)
            far := fun k hk => (hStep.far k hk).imp id fun q => Nat.le_trans hS.below.size q
            fix := fun B _ hB => ⟨hB, hfix B hB, fun o ho => by
              rcases hStep.news B o ho with q | q
              · exact (hS.newsq B o q).resolve_right fun q => q (.inr hB)
              · exact absurd q (hff B hB)⟩ }
        rcases hres with ⟨rfl, hJ'⟩ | ⟨rfl, hJ'⟩
        · exact ⟨true, tr, rfl, rfl, w0', rfl, rfl, hL, ⟨.inl hJ', hyl⟩, ⟨_, S'⟩⟩
        · exact ⟨false, [], rfl, rfl, w0', rfl, rfl, hL, ⟨.inr ⟨rfl, tr, hJ'⟩, hyl⟩, ⟨_, S'⟩⟩
      have hpl := hpre.length
      have hql := hpost.length
      -- the start
      have hsim : ∃ g, SimG 0 w0 fn.ntmps g { slots := itSlots fn.ntmps pre mm post, boxes := itBoxes fn.ntmps pre mm, vers := List.replicate fn.ntmps 0 }
          { tmps := (.func (.yield l) #[] #[] :: (pv ++ mv ++ qv)).toArray ++ Array.replicate (fn.ntmps - (.func (.yield l) #[] #[] :: (pv ++ mv ++ qv) : List Value).toArray.size) undef, defers := [] } w := by
        have hmk : ∀ sl : List PV, ∀ ps : List Value, sl.length = fn.ntmps → (∀ C : Ctx, (plainCtx w st).Le C → C.yl = some l → Reps C sl (.func (.yield l) #[] #[] :: ps)) →
            SimG 0 w0 fn.ntmps { gh0 st with yl := some l } (st0 sl fn.ntmps) { tmps := (.func (.yield l) #[] #[] :: ps).toArray, defers := [] } w := fun sl ps hsl hr =>
          init_sim (w0 := w0) hst rfl rfl (fun _ => rfl) (fun B h => h.elim (hfar B) fun h => h.elim) (Nat.zero_le _) (fun _ _ h => .inl h) hsl (hr _ (plainCtx_le rfl fun _ _ h => h) rfl)
        cases mm with
        | none =>
          have hcap : mv = [] := hcap
          subst hcap
          have := hmk (itSlots fn.ntmps pre none post) (pv ++ qv ++ List.replicate (fn.ntmps - (pre.length + post.length + 1)) undef) (by simp [itSlots]; omega) (fun C hC hy => by
            refine ⟨_, _, rfl, ⟨l, hy, rfl⟩, ?_⟩
            exact ((Reps.mono hC _ _ hpre).append (Reps.mono hC _ _ hpost)).append (reps_undefs _ _ _ (by simp)))
          have e : ((.func (.yield l) #[] #[] :: (pv ++ [] ++ qv)).toArray ++ Array.replicate (fn.ntmps - (.func (.yield l) #[] #[] :: (pv ++ [] ++ qv) : List Value).toArray.size) undef) = (.func (.yield l) #[] #[] :: (pv ++ qv ++ List.replicate (fn.ntmps - (pre.length + post.length + 1)) undef)).toArray := by
            apply Array.ext'
            simp [hpl, hql]
          rw [e]
          exact ⟨_, this⟩
        | some cs =>
          obtain ⟨B, us, T, rfl, e2, e3, e4, e5⟩ := hcap
          have h1 := hmk (.yld :: (pre ++ (.undef :: post) ++ List.replicate (fn.ntmps - (pre.length + post.length + 2)) .undef)) (pv ++ [.pointer (some ⟨B, 0, none⟩)] ++ qv ++ List.replicate (fn.ntmps - (pre.length + post.length + 2)) undef) (by simp; omega) (fun C hC hy => by
            refine ⟨_, _, rfl, ⟨l, hy, rfl⟩, ?_⟩
            refine Reps.append ?_ (reps_undefs _ _ _ (by simp))
            have := (Reps.mono hC _ _ hpre).append (show Reps C (.undef :: post) (.pointer (some ⟨B, 0, none⟩) :: qv) from ⟨_, _, rfl, trivial, Reps.mono hC _ _ hpost⟩)
            simpa using this)
          have h2 := h1.adopt (d := pre.length + 1) (b := .cells cs false) (p := .ptr (pre.length + 1) 0) (v := .pointer (some ⟨B, 0, none⟩)) (by omega) (st0_box _ _ _) e2 (Nat.zero_le _) (fun e q => by cases q) (fun e q => by simp [gh0, ownBlock] at q) e4
            (fun q => q.elim e5 fun q => q.elim) (.inl ⟨cs, rfl, Reps.mono (plainCtx_le (C := ctx _ w _) rfl fun _ _ h => h) _ _ e3⟩) (fun C' _ hb _ => ⟨B, hb, rfl⟩) (some (pre.length + 1))
          have e : ((.func (.yield l) #[] #[] :: (pv ++ [.pointer (some ⟨B, 0, none⟩)] ++ qv)).toArray ++ Array.replicate (fn.ntmps - (.func (.yield l) #[] #[] :: (pv ++ [.pointer (some ⟨B, 0, none⟩)] ++ qv) : List Value).toArray.size) undef) = (.func (.yield l) #[] #[] :: (pv ++ [.pointer (some ⟨B, 0, none⟩)] ++ qv ++ List.replicate (fn.ntmps - (pre.length + post.length + 2)) undef)).toArray := by
            apply Array.ext'
            simp [hpl, hql, Nat.add_assoc]
          rw [e]
          have e6 : ∀ rest : List Value, ({ tmps := (.func (.yield l) #[] #[] :: (pv ++ [.pointer (some ⟨B, 0, none⟩)] ++ rest)).toArray, defers := [] } : Act).put (some (pre.length + 1)) (.pointer (some ⟨B, 0, none⟩)) = { tmps := (.func (.yield l) #[] #[] :: (pv ++ [.pointer (some ⟨B, 0, none⟩)] ++ rest)).toArray, defers := [] } := fun rest => by
            simp only [Act.put]
            congr 1
            apply Array.ext'
            simp [← hpl]
          have e7 : (.yld :: (pre ++ (.undef :: post) ++ List.replicate (fn.ntmps - (pre.length + post.length + 2)) PV.undef)).set (pre.length + 1) (.ptr (pre.length + 1) 0) = itSlots fn.ntmps pre (some cs) post := by
            simp [itSlots]
          have e8 := e6 (qv ++ List.replicate (fn.ntmps - (pre.length + post.length + 2)) undef)
          rw [← List.append_assoc] at e8
          rw [e8] at h2
          simp only [st0, putD] at h2
          rw [e7] at h2
          exact ⟨_, h2⟩
      refine code_sound (Inv := Inv) O hcall hit hInv hY (E.loops gf) (E.ys gf) c (O.code _ _ _ hfn hc) false m none (fun _ => rfl) _ _ xs w0 _ w _ hb (fun _ _ => rfl) (fun _ _ => rfl) hsim ⟨.inl h0, rfl⟩ ?_
      intro e s' r' w0' a' w' hk _ _ _ hI hS
      obtain ⟨g', hS⟩ := hS
      have hgb : r' = [] ∧ (e = .normal ∨ e = .ret) := by
        cases e with
        | normal => cases hk; exact ⟨rfl, .inl rfl⟩
        | ret => cases hk; exact ⟨rfl, .inr rfl⟩
        | exit id => cases hk
      obtain ⟨rfl, he⟩ := hgb
      obtain ⟨tmps, defers⟩ := a'
      obtain ⟨Ds, hDs, hD2⟩ := hS.marks
      have hDs : defers = Ds.map mark := hDs
      subst hDs
      have := leaves_marks (P := P) (m := m) (fn := fn) (T := fun e w' => (∃ v, e = .returned v) ∧ ∃ far' st', J [] far' st' w' ∨ ∃ rest, Jx rest far' st' w') hInv Ds hS hI (fun w0'' w'' _ hI'' hS'' => by
        refine ⟨_, results_none hres _ _ _, ⟨_, rfl⟩, w0''.far, g'.st, ?_⟩
        rcases hI''.1 with h | ⟨_, rest, h⟩
        · exact .inl (hnow hJ hS'' h)
        · exact .inr ⟨rest, hnow hJx hS'' h⟩)
      rcases he with rfl | rfl
      · exact this
      · exact this

/-- WHAT THE EVALUATOR TELLS OF A FUNCTION, THE MACHINE DOES. -/
theorem evs_sound (O : ProgOk P E) (hext : ∀ f g, E.ext f = some g → ∀ args r, g args = some r → Contract P E f args r) : ∀ k : Nat,
    (∀ f args r, ev E k f args = some r → Contract P E f args r) ∧ ∀ g pre m post xs, evI E k g pre m post = some xs → IterC P g pre m post xs
  | 0 => ⟨fun f args r h => (by cases h), fun g pre m post xs h => (by cases h)⟩
  | k + 1 => by
    obtain ⟨ih1, ih2⟩ := evs_sound O hext k
    refine ⟨fun f args r h => ?_, fun g pre m post xs h => ?_⟩
    · unfold ev at h
      split at h
      · rename_i g hg
        exact hext f g hg args r h
      · split at h
        · cases h
        · rename_i fn hfn
          exact body_sound O ih1 ih2 hfn h
    · unfold evI at h
      split at h
      · cases h
      · rename_i fn hfn
        exact iter_sound O ih1 ih2 hfn h

theorem ev_sound (O : ProgOk P E) (hext : ∀ f g, E.ext f = some g → ∀ args r, g args = some r → Contract P E f args r) (k f : Nat) (args : List PV) (r : PV) (h : ev E k f args = some r) : Contract P E f args r :=
  (evs_sound O hext k).1 f args r h

end
end Go.Pew

namespace Go.Pew
set_option linter.unusedSimpArgs false
set_option linter.unusedVariables false
open Go.RowKit
set_option linter.unusedVariables false
set_option linter.unusedSimpArgs false

def Tab.All {α : Type} (p : Nat → α → Prop) : Tab α → Prop
  | .nil => True
  | .node k v l r => p k v ∧ l.All p ∧ r.All p

theorem Tab.find_all {α : Type} {p : Nat → α → Prop} {n : Nat} {v : α} : ∀ {t : Tab α}, t.All p → t.find n = some v → p n v
  | .nil, _, h => by cases h
  | .node k u l r, ha, h => by
    obtain ⟨h1, h2, h3⟩ := ha
    unfold Tab.find at h
    split at h
    · rename_i q
      cases h
      rw [Nat.eq_of_beq_eq_true q]
      exact h1
    · split at h
      · exact Tab.find_all h2 h
      · exact Tab.find_all h3 h

def cellOk : PV → Value → Bool
  | .undef, _ => true
  | .bool b, .bool b' => b == b'
  | .int k n, .int k' m => k == k' && decide (n = m)
  | .str s, .string s' => s.data.toList.isEmpty && s'.data.toList.isEmpty
  | .nilp, .pointer none => true
  | .sl none _ [], .slice none 0 0 => true
  | _, _ => false

def cellsOk : List PV → List Value → Bool
  | [], [] => true
  | p :: ps, v :: vs => cellOk p v && cellsOk ps vs
  | _, _ => false

theorem cellOk_rep {C : Ctx} {p : PV} {v : Value} (h : cellOk p v = true) : Rep C p v := by
  unfold cellOk at h
  split at h
  · trivial
  · rename_i b b'
    have : b = b' := by simpa using h
    subst this; rfl
  · rename_i k n k' m
    simp only [Bool.and_eq_true, decide_eq_true_eq, beq_iff_eq] at h
    obtain ⟨rfl, rfl⟩ := h
    rfl
  · rename_i s s'
    simp only [Bool.and_eq_true, List.isEmpty_iff] at h
    have h1 : s.data = #[] := by apply Array.ext'; simpa using h.1
    have h2 : s'.data = #[] := by apply Array.ext'; simpa using h.2
    cases s; cases s'
    simp only at h1 h2
    subst h1; subst h2; rfl
  · rfl
  · exact rep_nil _ _
  · cases h

theorem cellsOk_rep {C : Ctx} : ∀ {ps : List PV} {vs : List Value}, cellsOk ps vs = true → Reps C ps vs
  | [], [], _ => rfl
  | [], _ :: _, h => by simp [cellsOk] at h
  | _ :: _, [], h => by simp [cellsOk] at h
  | p :: ps, v :: vs, h => by
    simp only [cellsOk, Bool.and_eq_true] at h
    exact ⟨v, vs, rfl, cellOk_rep h.1, cellsOk_rep h.2⟩

def tyCheck (ti : TI) (i : TypeInfo) : Bool :=
  Nat.beq i.size ti.size && Nat.beq i.bytes ti.bytes && (match i.zero with | some z => cellsOk ti.zero z.cells.toList | none => false) &&
    (ti.agg == aggDesc ti.desc) && Nat.beq ti.lk.length ti.size && Nat.beq ti.zero.length ti.size

theorem info_some {P : Program} {t : Nat} {i : TypeInfo} (h : P.types[t]? = some i) : P.info? t = some i := by
  have hlt : t < P.types.size := (Array.getElem?_eq_some_iff.1 h).1
  unfold Tables.info?
  rw [if_pos hlt]
  exact h

theorem tyOk_of {P : Program} {t : Nat} {ti : TI} {i : TypeInfo} (hi : P.types[t]? = some i) (hu : P.underlying t = some ti.desc) (hc : tyCheck ti i = true) : TyOk P t ti := by
  unfold tyCheck at hc
  simp only [Bool.and_eq_true] at hc
  obtain ⟨⟨⟨⟨⟨h1, h2⟩, h3⟩, h4⟩, h5⟩, h6⟩ := hc
  split at h3
  · rename_i z hz
    exact { info := ⟨i, z, info_some hi, Nat.eq_of_beq_eq_true h1, Nat.eq_of_beq_eq_true h2, hz, fun C => cellsOk_rep h3⟩, und := hu, agg := by simpa using h4, lk := Nat.eq_of_beq_eq_true h5, zl := Nat.eq_of_beq_eq_true h6 }
  · cases h3

def fnCheck (fn : Func) : Bool := !(fn.name == "runtime.NumGoroutine") && !fn.body.isNone && (match fn.body with | some c => okCode c | none => true)

theorem fnCheck_spec {fn : Func} (h : fnCheck fn = true) : (fn.name == "runtime.NumGoroutine") = false ∧ fn.body.isNone = false ∧ ∀ c, fn.body = some c → okCode c = true := by
  unfold fnCheck at h
  simp only [Bool.and_eq_true, Bool.not_eq_true'] at h
  refine ⟨h.1.1, h.1.2, fun c hc => ?_⟩
  have := h.2
  rw [hc] at this
  exact this

theorem progOk_of {P : Program} {E : Env} {tys : Tab TI} {fns : Tab Func} (hm : P.follows .mixedOrders = true) (ht : E.ty = fun t => tys.find t) (hf : E.fn = fun f => fns.find f)
    (h1 : tys.All fun t ti => TyOk P t ti) (h2 : fns.All fun f fn => P.funcs[f]? = some fn ∧ fnCheck fn = true) (h3 : ∀ t ti, E.eq t = true → E.ty t = some ti → EqOk P t ti.lk) (h4 : MakersOk P E) : ProgOk P E :=
  { env := { ty := (fun t ti h => Tab.find_all h1 (by rw [ht] at h; exact h)), eq := h3, fn := fun f fn h => (by
      obtain ⟨e1, e2⟩ := Tab.find_all h2 (by rw [hf] at h; exact h)
      obtain ⟨e3, e4, _⟩ := fnCheck_spec e2
      exact ⟨e1, e3, e4⟩), makers := h4 }
    mixed := hm
    code := fun f fn c h hc => by
      obtain ⟨e1, e2⟩ := Tab.find_all h2 (by rw [hf] at h; exact h)
      exact (fnCheck_spec e2).2.2 c hc }

theorem conf_int {k : IntKind} {v : PV} (h : conf (.int k) v = true) : ∃ n, v = .int k n := by
  cases v with
  | int k' n =>
    have : k = k' := by simpa [conf] using h
    subst this
    exact ⟨n, rfl⟩
  | _ => simp [conf] at h

theorem confs_cons {l : LK} {ls : List LK} {cs : List PV} (h : confs (l :: ls) cs = true) : ∃ c cs', cs = c :: cs' ∧ conf l c = true ∧ confs ls cs' = true := by
  cases cs with
  | nil => simp [confs] at h
  | cons c cs => simp only [confs, Bool.and_eq_true] at h; exact ⟨c, cs, rfl, h.1, h.2⟩

theorem confs_nil {cs : List PV} (h : confs [] cs = true) : cs = [] := by
  cases cs with
  | nil => rfl
  | cons c cs => simp [confs] at h

theorem reps_ints {C : Ctx} {ls : List LK} {cs : List PV} {us : List Value} : (∀ l ∈ ls, l = .int .i64) → confs ls cs = true → Reps C cs us → ∃ ns : List Int, ns.length = ls.length ∧ cs = ns.map (PV.int .i64) ∧ us = ns.map (Value.int .i64) := by
  intro hl hc hr
  induction ls generalizing cs us with
  | nil =>
    have := confs_nil hc
    subst this
    rw [Reps] at hr
    exact ⟨[], rfl, rfl, hr⟩
  | cons l ls ih =>
    obtain ⟨c, cs', rfl, h1, h2⟩ := confs_cons hc
    rw [Reps] at hr
    obtain ⟨u, ws, rfl, h3, h4⟩ := hr
    rw [hl l (List.mem_cons_self ..)] at h1
    obtain ⟨n, rfl⟩ := conf_int h1
    obtain ⟨ns, e1, rfl, rfl⟩ := ih (fun x hx => hl x (List.mem_cons_of_mem _ hx)) h2 h4
    have h3 : u = .int .i64 n := h3
    subst h3
    exact ⟨n :: ns, by simp [e1], rfl, rfl⟩

theorem run_part_int {P : Program} {t : Nat} {k : IntKind} (h : P.underlying t = some (.int k)) {us : Array Value} {off : Nat} {v : Value} (hv : us[off]? = some v) (w : World) : (part t us off).run P w = .ok v w := by
  have : (isAgg t).run P w = .ok false w := by
    unfold isAgg
    rw [Sem.run_bind, run_underlying h]
    rfl
  unfold part
  rw [Sem.run_bind, this]
  simp [hv]

theorem run_equalIn_int {P : Program} {t : Nat} {k : IntKind} (h : P.underlying t = some (.int k)) (d : Nat) (a b : Int) (w : World) : (Op.equalIn (d + 1) t (.int k a) (.int k b)).run P w = .ok (a == b) w := by
  unfold Op.equalIn
  rw [Sem.run_bind, run_underlying h]
  simp

theorem eqOk_two {P : Program} {t : Nat} {f1 f2 : Field} (hg : P.eqGuardType P.depth t = false) (hs : P.stoodInHeld t = false) (hu : P.underlying t = some (.struct #[f1, f2])) (n1 : f1.name ≠ "_") (n2 : f2.name ≠ "_") (o1 : f1.offset = 0) (o2 : f2.offset = 1)
    (k1 : P.underlying f1.type = some (.int .i64)) (k2 : P.underlying f2.type = some (.int .i64)) : EqOk P t [.int .i64, .int .i64] := by
  intro C xs ys us vs b x y w h1 h2 h3 h4 he
  obtain ⟨ns, e1, rfl, hu1⟩ := reps_ints (by simp) h1 h3
  obtain ⟨ms, e2, rfl, hv1⟩ := reps_ints (by simp) h2 h4
  have hu' : us = (ns.map (Value.int .i64)).toArray := by rw [← hu1]
  have hv' : vs = (ms.map (Value.int .i64)).toArray := by rw [← hv1]
  subst hu'; subst hv'
  match ns, ms, e1, e2 with
  | [a1, a2], [b1, b2], _, _ =>
    simp [eqCells, eqLeaf] at he
    subst he
    have hgd : ∀ op, (eqGuard op t x y (.agg #[.int .i64 a1, .int .i64 a2]) (.agg #[.int .i64 b1, .int .i64 b2])).run P w = .ok () w := fun op => by
      cases op <;> simp [eqGuard, hg]
    have heq : (Op.equal t (.agg #[.int .i64 a1, .int .i64 a2]) (.agg #[.int .i64 b1, .int .i64 b2])).run P w = .ok (decide (a1 = b1) && decide (a2 = b2)) w := by
      have e1 := fun d => run_equalIn_int k1 d a1 b1 w
      have e2 := fun d => run_equalIn_int k2 d a2 b2 w
      unfold Op.equal
      rw [show Op.maxDepth = (Op.maxDepth - 2) + 1 + 1 from rfl]
      rw [Op.equalIn]
      simp only [Sem.run_bind, run_underlying hu, Result.andThen_ok, run_program, hs, Bool.false_eq_true, if_false]
      have p1 := fun v1 v2 => run_part_int k1 (us := #[Value.int .i64 v1, .int .i64 v2]) (off := 0) (v := .int .i64 v1) rfl w
      have p2 := fun v1 v2 => run_part_int k2 (us := #[Value.int .i64 v1, .int .i64 v2]) (off := 1) (v := .int .i64 v2) rfl w
      simp only [← Array.forIn_toList, List.forIn_cons, List.forIn_nil, n1, n2, o1, o2, ne_eq, not_false_eq_true, if_true, Sem.run_bind, p1, p2, e1, Result.andThen_ok]
      by_cases q1 : a1 = b1
      · have q1' : (a1 == b1) = true := by simp [q1]
        by_cases q2 : a2 = b2
        · have q2' : (a2 == b2) = true := by simp [q2]
          simp [q1', q2', e2, p1, p2]
          simp [q1, q2]
        · have q2' : (a2 == b2) = false := by simp [q2]
          simp [q1', q2', e2, p1, p2]
          simp [q1, q2]
      · have q1' : (a1 == b1) = false := by simp [q1]
        simp [q1']
        simp [q1]
    constructor
    · simp [hgd, binOp, heq]
    · simp [hgd, binOp, heq]

end Go.Pew

namespace Go.PewTab
set_option linter.unusedSimpArgs false
set_option linter.unusedVariables false
open Go.Pew

noncomputable def ty3 : TI := { size := 1, bytes := 8, agg := false, desc := .int .i64, zero := [.int .i64 0], lk := [.int .i64] }
noncomputable def ty4 : TI := { size := 1, bytes := 1, agg := false, desc := .bool, zero := [.bool false], lk := [.bool] }
noncomputable def ty5 : TI := { size := 1, bytes := 1, agg := false, desc := .int .u8, zero := [.int .u8 0], lk := [.int .u8] }
noncomputable def ty9 : TI := { size := 1, bytes := 16, agg := false, desc := .string, zero := [.str ⟨#[]⟩], lk := [.str] }
noncomputable def ty22 : TI := { size := 1, bytes := 24, agg := false, desc := .slice 142, zero := [.sl none [.int .i64, .int .i64] []], lk := [.sl [.int .i64, .int .i64]] }
noncomputable def ty24 : TI := { size := 1, bytes := 24, agg := true, desc := .struct #[{ name := "Knots", type := 22, offset := 0, embedded := false, tag := "", pkgPath := "", byteOffset := 0 }], zero := [.sl none [.int .i64, .int .i64] []], lk := [.sl [.int .i64, .int .i64]] }
noncomputable def ty26 : TI := { size := 3, bytes := 56, agg := true, desc := .struct #[{ name := "Upper", type := 24, offset := 0, embedded := false, tag := "", pkgPath := "", byteOffset := 0 }, { name := "Lower", type := 24, offset := 1, embedded := false, tag := "", pkgPath := "", byteOffset := 24 }, { name := "Rate", type := 3, offset := 2, embedded := false, tag := "", pkgPath := "", byteOffset := 48 }], zero := [.sl none [.int .i64, .int .i64] [], .sl none [.int .i64, .int .i64] [], .int .i64 0], lk := [.sl [.int .i64, .int .i64], .sl [.int .i64, .int .i64], .int .i64] }
noncomputable def ty28 : TI := { size := 2, bytes := 16, agg := true, desc := .struct #[{ name := "Upper", type := 3, offset := 0, embedded := false, tag := "", pkgPath := "", byteOffset := 0 }, { name := "Lower", type := 3, offset := 1, embedded := false, tag := "", pkgPath := "", byteOffset := 8 }], zero := [.int .i64 0, .int .i64 0], lk := [.int .i64, .int .i64] }
noncomputable def ty34 : TI := { size := 1, bytes := 8, agg := false, desc := .int .i64, zero := [.int .i64 0], lk := [.int .i64] }
noncomputable def ty38 : TI := { size := 2, bytes := 16, agg := true, desc := .struct #[{ name := "Evaporated", type := 3, offset := 0, embedded := false, tag := "", pkgPath := "", byteOffset := 0 }, { name := "Spilled", type := 3, offset := 1, embedded := false, tag := "", pkgPath := "", byteOffset := 8 }], zero := [.int .i64 0, .int .i64 0], lk := [.int .i64, .int .i64] }
noncomputable def ty42 : TI := { size := 3, bytes := 24, agg := true, desc := .struct #[{ name := "InUpper", type := 3, offset := 0, embedded := false, tag := "", pkgPath := "", byteOffset := 0 }, { name := "InLower", type := 3, offset := 1, embedded := false, tag := "", pkgPath := "", byteOffset := 8 }, { name := "Exchange", type := 3, offset := 2, embedded := false, tag := "", pkgPath := "", byteOffset := 16 }], zero := [.int .i64 0, .int .i64 0, .int .i64 0], lk := [.int .i64, .int .i64, .int .i64] }
noncomputable def ty52 : TI := { size := 1, bytes := 24, agg := false, desc := .slice 3, zero := [.sl none [.int .i64] []], lk := [.sl [.int .i64]] }
noncomputable def ty53 : TI := { size := 1, bytes := 24, agg := false, desc := .slice 75, zero := [.sl none [.int .i64, .int .i64, .int .i64] []], lk := [.sl [.int .i64, .int .i64, .int .i64]] }
noncomputable def ty55 : TI := { size := 1, bytes := 8, agg := false, desc := .func #[3] #[4] false, zero := [.undef], lk := [.any] }
noncomputable def ty57 : TI := { size := 2, bytes := 16, agg := true, desc := .struct #[{ name := "Lo", type := 3, offset := 0, embedded := false, tag := "", pkgPath := "", byteOffset := 0 }, { name := "Hi", type := 3, offset := 1, embedded := false, tag := "", pkgPath := "", byteOffset := 8 }], zero := [.int .i64 0, .int .i64 0], lk := [.int .i64, .int .i64] }
noncomputable def ty73 : TI := { size := 2, bytes := 32, agg := true, desc := .struct #[{ name := "Readings", type := 53, offset := 0, embedded := false, tag := "", pkgPath := "", byteOffset := 0 }, { name := "Volume", type := 3, offset := 1, embedded := false, tag := "", pkgPath := "", byteOffset := 24 }], zero := [.sl none [.int .i64, .int .i64, .int .i64] [], .int .i64 0], lk := [.sl [.int .i64, .int .i64, .int .i64], .int .i64] }
noncomputable def ty75 : TI := { size := 3, bytes := 24, agg := true, desc := .struct #[{ name := "Tick", type := 3, offset := 0, embedded := false, tag := "", pkgPath := "", byteOffset := 0 }, { name := "Level", type := 57, offset := 1, embedded := false, tag := "", pkgPath := "", byteOffset := 8 }], zero := [.int .i64 0, .int .i64 0, .int .i64 0], lk := [.int .i64, .int .i64, .int .i64] }
noncomputable def ty79 : TI := { size := 5, bytes := 40, agg := true, desc := .struct #[{ name := "Levels", type := 57, offset := 0, embedded := false, tag := "", pkgPath := "", byteOffset := 0 }, { name := "Fall", type := 3, offset := 2, embedded := false, tag := "", pkgPath := "", byteOffset := 16 }, { name := "Rise", type := 3, offset := 3, embedded := false, tag := "", pkgPath := "", byteOffset := 24 }, { name := "Window", type := 3, offset := 4, embedded := false, tag := "", pkgPath := "", byteOffset := 32 }], zero := [.int .i64 0, .int .i64 0, .int .i64 0, .int .i64 0, .int .i64 0], lk := [.int .i64, .int .i64, .int .i64, .int .i64, .int .i64] }
noncomputable def ty81 : TI := { size := 10, bytes := 80, agg := true, desc := .struct #[{ name := "Upper", type := 79, offset := 0, embedded := false, tag := "", pkgPath := "", byteOffset := 0 }, { name := "Lower", type := 79, offset := 5, embedded := false, tag := "", pkgPath := "", byteOffset := 40 }], zero := [.int .i64 0, .int .i64 0, .int .i64 0, .int .i64 0, .int .i64 0, .int .i64 0, .int .i64 0, .int .i64 0, .int .i64 0, .int .i64 0], lk := [.int .i64, .int .i64, .int .i64, .int .i64, .int .i64, .int .i64, .int .i64, .int .i64, .int .i64, .int .i64] }
noncomputable def ty82 : TI := { size := 1, bytes := 24, agg := false, desc := .slice 42, zero := [.sl none [.int .i64, .int .i64, .int .i64] []], lk := [.sl [.int .i64, .int .i64, .int .i64]] }
noncomputable def ty84 : TI := { size := 11, bytes := 104, agg := true, desc := .struct #[{ name := "Limits", type := 81, offset := 0, embedded := false, tag := "", pkgPath := "", byteOffset := 0 }, { name := "Flows", type := 82, offset := 10, embedded := false, tag := "", pkgPath := "", byteOffset := 80 }], zero := [.int .i64 0, .int .i64 0, .int .i64 0, .int .i64 0, .int .i64 0, .int .i64 0, .int .i64 0, .int .i64 0, .int .i64 0, .int .i64 0, .sl none [.int .i64, .int .i64, .int .i64] []], lk := [.int .i64, .int .i64, .int .i64, .int .i64, .int .i64, .int .i64, .int .i64, .int .i64, .int .i64, .int .i64, .sl [.int .i64, .int .i64, .int .i64]] }
noncomputable def ty86 : TI := { size := 1, bytes := 24, agg := false, desc := .slice 28, zero := [.sl none [.int .i64, .int .i64] []], lk := [.sl [.int .i64, .int .i64]] }
noncomputable def ty91 : TI := { size := 3, bytes := 24, agg := true, desc := .struct #[{ name := "Tick", type := 3, offset := 0, embedded := false, tag := "", pkgPath := "", byteOffset := 0 }, { name := "Lake", type := 3, offset := 1, embedded := false, tag := "", pkgPath := "", byteOffset := 8 }, { name := "Kind", type := 3, offset := 2, embedded := false, tag := "", pkgPath := "", byteOffset := 16 }], zero := [.int .i64 0, .int .i64 0, .int .i64 0], lk := [.int .i64, .int .i64, .int .i64] }
noncomputable def ty98 : TI := { size := 2, bytes := 16, agg := true, desc := .struct #[{ name := "Num", type := 3, offset := 0, embedded := false, tag := "", pkgPath := "", byteOffset := 0 }, { name := "Den", type := 3, offset := 1, embedded := false, tag := "", pkgPath := "", byteOffset := 8 }], zero := [.int .i64 0, .int .i64 0], lk := [.int .i64, .int .i64] }
noncomputable def ty107 : TI := { size := 1, bytes := 24, agg := false, desc := .slice 132, zero := [.sl none [.str, .int .i64, .int .i64, .int .i64] []], lk := [.sl [.str, .int .i64, .int .i64, .int .i64]] }
noncomputable def ty109 : TI := { size := 3, bytes := 40, agg := true, desc := .struct #[{ name := "Lo", type := 3, offset := 0, embedded := false, tag := "", pkgPath := "", byteOffset := 0 }, { name := "Hi", type := 3, offset := 1, embedded := false, tag := "", pkgPath := "", byteOffset := 8 }, { name := "Modes", type := 107, offset := 2, embedded := false, tag := "", pkgPath := "", byteOffset := 16 }], zero := [.int .i64 0, .int .i64 0, .sl none [.str, .int .i64, .int .i64, .int .i64] []], lk := [.int .i64, .int .i64, .sl [.str, .int .i64, .int .i64, .int .i64]] }
noncomputable def ty110 : TI := { size := 1, bytes := 24, agg := false, desc := .slice 130, zero := [.sl none [.int .i64, .int .i64, .int .i64] []], lk := [.sl [.int .i64, .int .i64, .int .i64]] }
noncomputable def ty112 : TI := { size := 4, bytes := 48, agg := true, desc := .struct #[{ name := "Volume", type := 3, offset := 0, embedded := false, tag := "", pkgPath := "", byteOffset := 0 }, { name := "Mode", type := 3, offset := 1, embedded := false, tag := "", pkgPath := "", byteOffset := 8 }, { name := "Worth", type := 3, offset := 2, embedded := false, tag := "", pkgPath := "", byteOffset := 16 }, { name := "Hours", type := 110, offset := 3, embedded := false, tag := "", pkgPath := "", byteOffset := 24 }], zero := [.int .i64 0, .int .i64 0, .int .i64 0, .sl none [.int .i64, .int .i64, .int .i64] []], lk := [.int .i64, .int .i64, .int .i64, .sl [.int .i64, .int .i64, .int .i64]] }
noncomputable def ty114 : TI := { size := 2, bytes := 16, agg := true, desc := .struct #[{ name := "Mode", type := 3, offset := 0, embedded := false, tag := "", pkgPath := "", byteOffset := 0 }, { name := "Hours", type := 3, offset := 1, embedded := false, tag := "", pkgPath := "", byteOffset := 8 }], zero := [.int .i64 0, .int .i64 0], lk := [.int .i64, .int .i64] }
noncomputable def ty116 : TI := { size := 4, bytes := 48, agg := true, desc := .struct #[{ name := "Hold", type := 114, offset := 0, embedded := false, tag := "", pkgPath := "", byteOffset := 0 }, { name := "Hour", type := 3, offset := 2, embedded := false, tag := "", pkgPath := "", byteOffset := 16 }, { name := "Wanted", type := 52, offset := 3, embedded := false, tag := "", pkgPath := "", byteOffset := 24 }], zero := [.int .i64 0, .int .i64 0, .int .i64 0, .sl none [.int .i64] []], lk := [.int .i64, .int .i64, .int .i64, .sl [.int .i64]] }
noncomputable def ty130 : TI := { size := 3, bytes := 24, agg := true, desc := .struct #[{ name := "Buy", type := 3, offset := 0, embedded := false, tag := "", pkgPath := "", byteOffset := 0 }, { name := "Sell", type := 3, offset := 1, embedded := false, tag := "", pkgPath := "", byteOffset := 8 }, { name := "Inflow", type := 3, offset := 2, embedded := false, tag := "", pkgPath := "", byteOffset := 16 }], zero := [.int .i64 0, .int .i64 0, .int .i64 0], lk := [.int .i64, .int .i64, .int .i64] }
noncomputable def ty132 : TI := { size := 4, bytes := 40, agg := true, desc := .struct #[{ name := "Name", type := 9, offset := 0, embedded := false, tag := "", pkgPath := "", byteOffset := 0 }, { name := "Change", type := 3, offset := 1, embedded := false, tag := "", pkgPath := "", byteOffset := 16 }, { name := "Energy", type := 3, offset := 2, embedded := false, tag := "", pkgPath := "", byteOffset := 24 }, { name := "Start", type := 3, offset := 3, embedded := false, tag := "", pkgPath := "", byteOffset := 32 }], zero := [.str ⟨#[]⟩, .int .i64 0, .int .i64 0, .int .i64 0], lk := [.str, .int .i64, .int .i64, .int .i64] }
noncomputable def ty136 : TI := { size := 3, bytes := 24, agg := true, desc := .struct #[{ name := "Energy", type := 3, offset := 0, embedded := false, tag := "", pkgPath := "", byteOffset := 0 }, { name := "Missed", type := 3, offset := 1, embedded := false, tag := "", pkgPath := "", byteOffset := 8 }, { name := "Over", type := 3, offset := 2, embedded := false, tag := "", pkgPath := "", byteOffset := 16 }], zero := [.int .i64 0, .int .i64 0, .int .i64 0], lk := [.int .i64, .int .i64, .int .i64] }
noncomputable def ty142 : TI := { size := 2, bytes := 16, agg := true, desc := .struct #[{ name := "Level", type := 3, offset := 0, embedded := false, tag := "", pkgPath := "", byteOffset := 0 }, { name := "Volume", type := 3, offset := 1, embedded := false, tag := "", pkgPath := "", byteOffset := 8 }], zero := [.int .i64 0, .int .i64 0], lk := [.int .i64, .int .i64] }
noncomputable def ty146 : TI := { size := 1, bytes := 24, agg := false, desc := .slice 221, zero := [.sl none [.int .i64, .int .i64, .int .i64] []], lk := [.sl [.int .i64, .int .i64, .int .i64]] }
noncomputable def ty159 : TI := { size := 1, bytes := 24, agg := true, desc := .struct #[{ name := "LakeTable", type := 24, offset := 0, embedded := true, tag := "", pkgPath := "", byteOffset := 0 }], zero := [.sl none [.int .i64, .int .i64] []], lk := [.sl [.int .i64, .int .i64]] }
noncomputable def ty160 : TI := { size := 2, bytes := 48, agg := true, desc := .array 2 159, zero := [.sl none [.int .i64, .int .i64] [], .sl none [.int .i64, .int .i64] []], lk := [.sl [.int .i64, .int .i64], .sl [.int .i64, .int .i64]] }
noncomputable def ty162 : TI := { size := 3, bytes := 56, agg := true, desc := .struct #[{ name := "lakes", type := 160, offset := 0, embedded := false, tag := "", pkgPath := "guidevane/lake", byteOffset := 0 }, { name := "rate", type := 3, offset := 2, embedded := false, tag := "", pkgPath := "guidevane/lake", byteOffset := 48 }], zero := [.sl none [.int .i64, .int .i64] [], .sl none [.int .i64, .int .i64] [], .int .i64 0], lk := [.sl [.int .i64, .int .i64], .sl [.int .i64, .int .i64], .int .i64] }
noncomputable def ty172 : TI := { size := 1, bytes := 24, agg := false, desc := .slice 57, zero := [.sl none [.int .i64, .int .i64] []], lk := [.sl [.int .i64, .int .i64]] }
noncomputable def ty180 : TI := { size := 3, bytes := 24, agg := true, desc := .struct #[{ name := "whole", type := 3, offset := 0, embedded := false, tag := "", pkgPath := "guidevane/lake", byteOffset := 0 }, { name := "num", type := 3, offset := 1, embedded := false, tag := "", pkgPath := "guidevane/lake", byteOffset := 8 }, { name := "den", type := 3, offset := 2, embedded := false, tag := "", pkgPath := "guidevane/lake", byteOffset := 16 }], zero := [.int .i64 0, .int .i64 0, .int .i64 0], lk := [.int .i64, .int .i64, .int .i64] }
noncomputable def ty185 : TI := { size := 1, bytes := 8, agg := false, desc := .func #[232] #[] false, zero := [.undef], lk := [.any] }
noncomputable def ty187 : TI := { size := 1, bytes := 8, agg := false, desc := .func #[238] #[] false, zero := [.undef], lk := [.any] }
noncomputable def ty188 : TI := { size := 1, bytes := 8, agg := false, desc := .func #[238] #[] false, zero := [.undef], lk := [.any] }
noncomputable def ty190 : TI := { size := 1, bytes := 8, agg := false, desc := .pointer 91, zero := [.nilp], lk := [.any] }
noncomputable def ty192 : TI := { size := 4, bytes := 32, agg := true, desc := .struct #[{ name := "low", type := 142, offset := 0, embedded := false, tag := "", pkgPath := "guidevane/lake", byteOffset := 0 }, { name := "high", type := 142, offset := 2, embedded := false, tag := "", pkgPath := "guidevane/lake", byteOffset := 16 }], zero := [.int .i64 0, .int .i64 0, .int .i64 0, .int .i64 0], lk := [.int .i64, .int .i64, .int .i64, .int .i64] }
noncomputable def ty199 : TI := { size := 2, bytes := 32, agg := true, desc := .struct #[{ name := "Sign", type := 3, offset := 0, embedded := false, tag := "", pkgPath := "", byteOffset := 0 }, { name := "Digits", type := 52, offset := 1, embedded := false, tag := "", pkgPath := "", byteOffset := 8 }], zero := [.int .i64 0, .sl none [.int .i64] []], lk := [.int .i64, .sl [.int .i64]] }
noncomputable def ty201 : TI := { size := 4, bytes := 64, agg := true, desc := .struct #[{ name := "Num", type := 199, offset := 0, embedded := false, tag := "", pkgPath := "", byteOffset := 0 }, { name := "Den", type := 199, offset := 2, embedded := false, tag := "", pkgPath := "", byteOffset := 32 }], zero := [.int .i64 0, .sl none [.int .i64] [], .int .i64 0, .sl none [.int .i64] []], lk := [.int .i64, .sl [.int .i64], .int .i64, .sl [.int .i64]] }
noncomputable def ty210 : TI := { size := 7, bytes := 88, agg := true, desc := .struct #[{ name := "DispatchPlant", type := 109, offset := 0, embedded := true, tag := "", pkgPath := "", byteOffset := 0 }, { name := "t", type := 112, offset := 3, embedded := false, tag := "", pkgPath := "guidevane/dispatch", byteOffset := 40 }], zero := [.int .i64 0, .int .i64 0, .sl none [.str, .int .i64, .int .i64, .int .i64] [], .int .i64 0, .int .i64 0, .int .i64 0, .sl none [.int .i64, .int .i64, .int .i64] []], lk := [.int .i64, .int .i64, .sl [.str, .int .i64, .int .i64, .int .i64], .int .i64, .int .i64, .int .i64, .sl [.int .i64, .int .i64, .int .i64]] }
noncomputable def ty216 : TI := { size := 2, bytes := 16, agg := true, desc := .struct #[{ name := "mode", type := 3, offset := 0, embedded := false, tag := "", pkgPath := "guidevane/dispatch", byteOffset := 0 }, { name := "hours", type := 3, offset := 1, embedded := false, tag := "", pkgPath := "guidevane/dispatch", byteOffset := 8 }], zero := [.int .i64 0, .int .i64 0], lk := [.int .i64, .int .i64] }
noncomputable def ty221 : TI := { size := 3, bytes := 24, agg := true, desc := .struct #[{ name := "From", type := 3, offset := 0, embedded := false, tag := "", pkgPath := "", byteOffset := 0 }, { name := "To", type := 3, offset := 1, embedded := false, tag := "", pkgPath := "", byteOffset := 8 }, { name := "Level", type := 3, offset := 2, embedded := false, tag := "", pkgPath := "", byteOffset := 16 }], zero := [.int .i64 0, .int .i64 0, .int .i64 0], lk := [.int .i64, .int .i64, .int .i64] }
noncomputable def ty225 : TI := { size := 1, bytes := 24, agg := false, desc := .slice 34, zero := [.sl none [.int .i64] []], lk := [.sl [.int .i64]] }
noncomputable def ty226 : TI := { size := 2, bytes := 16, agg := true, desc := .array 2 3, zero := [.int .i64 0, .int .i64 0], lk := [.int .i64, .int .i64] }
noncomputable def ty232 : TI := { size := 1, bytes := 8, agg := false, desc := .func #[4, 190] #[4] false, zero := [.undef], lk := [.any] }
noncomputable def ty233 : TI := { size := 1, bytes := 24, agg := false, desc := .slice 180, zero := [.sl none [.int .i64, .int .i64, .int .i64] []], lk := [.sl [.int .i64, .int .i64, .int .i64]] }
noncomputable def ty234 : TI := { size := 2, bytes := 48, agg := true, desc := .array 2 233, zero := [.sl none [.int .i64, .int .i64, .int .i64] [], .sl none [.int .i64, .int .i64, .int .i64] []], lk := [.sl [.int .i64, .int .i64, .int .i64], .sl [.int .i64, .int .i64, .int .i64]] }
noncomputable def ty235 : TI := { size := 10, bytes := 80, agg := true, desc := .array 2 79, zero := [.int .i64 0, .int .i64 0, .int .i64 0, .int .i64 0, .int .i64 0, .int .i64 0, .int .i64 0, .int .i64 0, .int .i64 0, .int .i64 0], lk := [.int .i64, .int .i64, .int .i64, .int .i64, .int .i64, .int .i64, .int .i64, .int .i64, .int .i64, .int .i64] }
noncomputable def ty238 : TI := { size := 1, bytes := 8, agg := false, desc := .func #[42] #[4] false, zero := [.undef], lk := [.any] }
noncomputable def ty240 : TI := { size := 1, bytes := 8, agg := false, desc := .func #[142] #[4] false, zero := [.undef], lk := [.any] }
noncomputable def ty248 : TI := { size := 1, bytes := 24, agg := false, desc := .slice 52, zero := [.sl none [.sl [.int .i64]] []], lk := [.sl [.sl [.int .i64]]] }
noncomputable def ty250 : TI := { size := 1, bytes := 8, agg := false, desc := .func #[255] #[] false, zero := [.undef], lk := [.any] }
noncomputable def ty255 : TI := { size := 1, bytes := 8, agg := false, desc := .func #[3, 3] #[4] false, zero := [.undef], lk := [.any] }
noncomputable def ty260 : TI := { size := 4, bytes := 4, agg := true, desc := .array 4 4, zero := [.bool false, .bool false, .bool false, .bool false], lk := [.bool, .bool, .bool, .bool] }
noncomputable def ty262 : TI := { size := 1, bytes := 24, agg := false, desc := .slice 4, zero := [.sl none [.bool] []], lk := [.sl [.bool]] }
noncomputable def ty269 : TI := { size := 1, bytes := 8, agg := false, desc := .pointer 3, zero := [.nilp], lk := [.any] }
noncomputable def ty275 : TI := { size := 1, bytes := 24, agg := false, desc := .slice 9, zero := [.sl none [.str] []], lk := [.sl [.str]] }
noncomputable def ty278 : TI := { size := 1, bytes := 8, agg := false, desc := .func #[132] #[4] false, zero := [.undef], lk := [.any] }
noncomputable def ty280 : TI := { size := 1, bytes := 8, agg := false, desc := .int .u64, zero := [.int .u64 0], lk := [.int .u64] }
noncomputable def ty286 : TI := { size := 1, bytes := 24, agg := false, desc := .slice 5, zero := [.sl none [.int .u8] []], lk := [.sl [.int .u8]] }
noncomputable def ty287 : TI := { size := 1, bytes := 4, agg := false, desc := .int .u32, zero := [.int .u32 0], lk := [.int .u32] }
noncomputable def ty290 : TI := { size := 1, bytes := 8, agg := false, desc := .int .u64, zero := [.int .u64 0], lk := [.int .u64] }
noncomputable def tyTab : Tab TI := (.node 159 ty159 (.node 79 ty79 (.node 34 ty34 (.node 22 ty22 (.node 5 ty5 (.node 4 ty4 (.node 3 ty3 .nil .nil) .nil) (.node 9 ty9 .nil .nil)) (.node 26 ty26 (.node 24 ty24 .nil .nil) (.node 28 ty28 .nil .nil))) (.node 55 ty55 (.node 52 ty52 (.node 42 ty42 (.node 38 ty38 .nil .nil) .nil) (.node 53 ty53 .nil .nil)) (.node 73 ty73 (.node 57 ty57 .nil .nil) (.node 75 ty75 .nil .nil)))) (.node 110 ty110 (.node 91 ty91 (.node 84 ty84 (.node 82 ty82 (.node 81 ty81 .nil .nil) .nil) (.node 86 ty86 .nil .nil)) (.node 107 ty107 (.node 98 ty98 .nil .nil) (.node 109 ty109 .nil .nil))) (.node 132 ty132 (.node 116 ty116 (.node 114 ty114 (.node 112 ty112 .nil .nil) .nil) (.node 130 ty130 .nil .nil)) (.node 142 ty142 (.node 136 ty136 .nil .nil) (.node 146 ty146 .nil .nil))))) (.node 233 ty233 (.node 192 ty192 (.node 185 ty185 (.node 172 ty172 (.node 162 ty162 (.node 160 ty160 .nil .nil) .nil) (.node 180 ty180 .nil .nil)) (.node 188 ty188 (.node 187 ty187 .nil .nil) (.node 190 ty190 .nil .nil))) (.node 221 ty221 (.node 210 ty210 (.node 201 ty201 (.node 199 ty199 .nil .nil) .nil) (.node 216 ty216 .nil .nil)) (.node 226 ty226 (.node 225 ty225 .nil .nil) (.node 232 ty232 .nil .nil)))) (.node 262 ty262 (.node 248 ty248 (.node 238 ty238 (.node 235 ty235 (.node 234 ty234 .nil .nil) .nil) (.node 240 ty240 .nil .nil)) (.node 255 ty255 (.node 250 ty250 .nil .nil) (.node 260 ty260 .nil .nil))) (.node 280 ty280 (.node 275 ty275 (.node 269 ty269 .nil .nil) (.node 278 ty278 .nil .nil)) (.node 287 ty287 (.node 286 ty286 .nil .nil) (.node 290 ty290 .nil .nil))))))
noncomputable def fnTab : Tab Func := (.node 111 Go.Proofs.Try.f111 (.node 57 Go.Proofs.Try.f57 (.node 30 Go.Proofs.Try.f30 (.node 16 Go.Proofs.Try.f16 (.node 9 Go.Proofs.Try.f9 (.node 6 Go.Proofs.Try.f6 (.node 4 Go.Proofs.Try.f4 (.node 3 Go.Proofs.Try.f3 .nil .nil) (.node 5 Go.Proofs.Try.f5 .nil .nil)) (.node 8 Go.Proofs.Try.f8 (.node 7 Go.Proofs.Try.f7 .nil .nil) .nil)) (.node 13 Go.Proofs.Try.f13 (.node 11 Go.Proofs.Try.f11 (.node 10 Go.Proofs.Try.f10 .nil .nil) (.node 12 Go.Proofs.Try.f12 .nil .nil)) (.node 15 Go.Proofs.Try.f15 (.node 14 Go.Proofs.Try.f14 .nil .nil) .nil))) (.node 23 Go.Proofs.Try.f23 (.node 20 Go.Proofs.Try.f20 (.node 18 Go.Proofs.Try.f18 (.node 17 Go.Proofs.Try.f17 .nil .nil) (.node 19 Go.Proofs.Try.f19 .nil .nil)) (.node 22 Go.Proofs.Try.f22 (.node 21 Go.Proofs.Try.f21 .nil .nil) .nil)) (.node 27 Go.Proofs.Try.f27 (.node 25 Go.Proofs.Try.f25 (.node 24 Go.Proofs.Try.f24 .nil .nil) (.node 26 Go.Proofs.Try.f26 .nil .nil)) (.node 29 Go.Proofs.Try.f29 (.node 28 Go.Proofs.Try.f28 .nil .nil) .nil)))) (.node 44 Go.Proofs.Try.f44 (.node 37 Go.Proofs.Try.f37 (.node 34 Go.Proofs.Try.f34 (.node 32 Go.Proofs.Try.f32 (.node 31 Go.Proofs.Try.f31 .nil .nil) (.node 33 Go.Proofs.Try.f33 .nil .nil)) (.node 36 Go.Proofs.Try.f36 (.node 35 Go.Proofs.Try.f35 .nil .nil) .nil)) (.node 41 Go.Proofs.Try.f41 (.node 39 Go.Proofs.Try.f39 (.node 38 Go.Proofs.Try.f38 .nil .nil) (.node 40 Go.Proofs.Try.f40 .nil .nil)) (.node 43 Go.Proofs.Try.f43 (.node 42 Go.Proofs.Try.f42 .nil .nil) .nil))) (.node 51 Go.Proofs.Try.f51 (.node 48 Go.Proofs.Try.f48 (.node 46 Go.Proofs.Try.f46 (.node 45 Go.Proofs.Try.f45 .nil .nil) (.node 47 Go.Proofs.Try.f47 .nil .nil)) (.node 50 Go.Proofs.Try.f50 (.node 49 Go.Proofs.Try.f49 .nil .nil) .nil)) (.node 54 Go.Proofs.Try.f54 (.node 53 Go.Proofs.Try.f53 (.node 52 Go.Proofs.Try.f52 .nil .nil) .nil) (.node 56 Go.Proofs.Try.f56 (.node 55 Go.Proofs.Try.f55 .nil .nil) .nil))))) (.node 84 Go.Proofs.Try.f84 (.node 71 Go.Proofs.Try.f71 (.node 64 Go.Proofs.Try.f64 (.node 61 Go.Proofs.Try.f61 (.node 59 Go.Proofs.Try.f59 (.node 58 Go.Proofs.Try.f58 .nil .nil) (.node 60 Go.Proofs.Try.f60 .nil .nil)) (.node 63 Go.Proofs.Try.f63 (.node 62 Go.Proofs.Try.f62 .nil .nil) .nil)) (.node 68 Go.Proofs.Try.f68 (.node 66 Go.Proofs.Try.f66 (.node 65 Go.Proofs.Try.f65 .nil .nil) (.node 67 Go.Proofs.Try.f67 .nil .nil)) (.node 70 Go.Proofs.Try.f70 (.node 69 Go.Proofs.Try.f69 .nil .nil) .nil))) (.node 78 Go.Proofs.Try.f78 (.node 75 Go.Proofs.Try.f75 (.node 73 Go.Proofs.Try.f73 (.node 72 Go.Proofs.Try.f72 .nil .nil) (.node 74 Go.Proofs.Try.f74 .nil .nil)) (.node 77 Go.Proofs.Try.f77 (.node 76 Go.Proofs.Try.f76 .nil .nil) .nil)) (.node 81 Go.Proofs.Try.f81 (.node 80 Go.Proofs.Try.f80 (.node 79 Go.Proofs.Try.f79 .nil .nil) .nil) (.node 83 Go.Proofs.Try.f83 (.node 82 Go.Proofs.Try.f82 .nil .nil) .nil)))) (.node 98 Go.Proofs.Try.f98 (.node 91 Go.Proofs.Try.f91 (.node 88 Go.Proofs.Try.f88 (.node 86 Go.Proofs.Try.f86 (.node 85 Go.Proofs.Try.f85 .nil .nil) (.node 87 Go.Proofs.Try.f87 .nil .nil)) (.node 90 Go.Proofs.Try.f90 (.node 89 Go.Proofs.Try.f89 .nil .nil) .nil)) (.node 95 Go.Proofs.Try.f95 (.node 93 Go.Proofs.Try.f93 (.node 92 Go.Proofs.Try.f92 .nil .nil) (.node 94 Go.Proofs.Try.f94 .nil .nil)) (.node 97 Go.Proofs.Try.f97 (.node 96 Go.Proofs.Try.f96 .nil .nil) .nil))) (.node 105 Go.Proofs.Try.f105 (.node 102 Go.Proofs.Try.f102 (.node 100 Go.Proofs.Try.f100 (.node 99 Go.Proofs.Try.f99 .nil .nil) (.node 101 Go.Proofs.Try.f101 .nil .nil)) (.node 104 Go.Proofs.Try.f104 (.node 103 Go.Proofs.Try.f103 .nil .nil) .nil)) (.node 108 Go.Proofs.Try.f108 (.node 107 Go.Proofs.Try.f107 (.node 106 Go.Proofs.Try.f106 .nil .nil) .nil) (.node 110 Go.Proofs.Try.f110 (.node 109 Go.Proofs.Try.f109 .nil .nil) .nil)))))) (.node 166 Go.Proofs.Try.f166 (.node 139 Go.Proofs.Try.f139 (.node 125 Go.Proofs.Try.f125 (.node 118 Go.Proofs.Try.f118 (.node 115 Go.Proofs.Try.f115 (.node 113 Go.Proofs.Try.f113 (.node 112 Go.Proofs.Try.f112 .nil .nil) (.node 114 Go.Proofs.Try.f114 .nil .nil)) (.node 117 Go.Proofs.Try.f117 (.node 116 Go.Proofs.Try.f116 .nil .nil) .nil)) (.node 122 Go.Proofs.Try.f122 (.node 120 Go.Proofs.Try.f120 (.node 119 Go.Proofs.Try.f119 .nil .nil) (.node 121 Go.Proofs.Try.f121 .nil .nil)) (.node 124 Go.Proofs.Try.f124 (.node 123 Go.Proofs.Try.f123 .nil .nil) .nil))) (.node 132 Go.Proofs.Try.f132 (.node 129 Go.Proofs.Try.f129 (.node 127 Go.Proofs.Try.f127 (.node 126 Go.Proofs.Try.f126 .nil .nil) (.node 128 Go.Proofs.Try.f128 .nil .nil)) (.node 131 Go.Proofs.Try.f131 (.node 130 Go.Proofs.Try.f130 .nil .nil) .nil)) (.node 136 Go.Proofs.Try.f136 (.node 134 Go.Proofs.Try.f134 (.node 133 Go.Proofs.Try.f133 .nil .nil) (.node 135 Go.Proofs.Try.f135 .nil .nil)) (.node 138 Go.Proofs.Try.f138 (.node 137 Go.Proofs.Try.f137 .nil .nil) .nil)))) (.node 153 Go.Proofs.Try.f153 (.node 146 Go.Proofs.Try.f146 (.node 143 Go.Proofs.Try.f143 (.node 141 Go.Proofs.Try.f141 (.node 140 Go.Proofs.Try.f140 .nil .nil) (.node 142 Go.Proofs.Try.f142 .nil .nil)) (.node 145 Go.Proofs.Try.f145 (.node 144 Go.Proofs.Try.f144 .nil .nil) .nil)) (.node 150 Go.Proofs.Try.f150 (.node 148 Go.Proofs.Try.f148 (.node 147 Go.Proofs.Try.f147 .nil .nil) (.node 149 Go.Proofs.Try.f149 .nil .nil)) (.node 152 Go.Proofs.Try.f152 (.node 151 Go.Proofs.Try.f151 .nil .nil) .nil))) (.node 160 Go.Proofs.Try.f160 (.node 157 Go.Proofs.Try.f157 (.node 155 Go.Proofs.Try.f155 (.node 154 Go.Proofs.Try.f154 .nil .nil) (.node 156 Go.Proofs.Try.f156 .nil .nil)) (.node 159 Go.Proofs.Try.f159 (.node 158 Go.Proofs.Try.f158 .nil .nil) .nil)) (.node 163 Go.Proofs.Try.f163 (.node 162 Go.Proofs.Try.f162 (.node 161 Go.Proofs.Try.f161 .nil .nil) .nil) (.node 165 Go.Proofs.Try.f165 (.node 164 Go.Proofs.Try.f164 .nil .nil) .nil))))) (.node 193 Go.Proofs.Try.f193 (.node 180 Go.Proofs.Try.f180 (.node 173 Go.Proofs.Try.f173 (.node 170 Go.Proofs.Try.f170 (.node 168 Go.Proofs.Try.f168 (.node 167 Go.Proofs.Try.f167 .nil .nil) (.node 169 Go.Proofs.Try.f169 .nil .nil)) (.node 172 Go.Proofs.Try.f172 (.node 171 Go.Proofs.Try.f171 .nil .nil) .nil)) (.node 177 Go.Proofs.Try.f177 (.node 175 Go.Proofs.Try.f175 (.node 174 Go.Proofs.Try.f174 .nil .nil) (.node 176 Go.Proofs.Try.f176 .nil .nil)) (.node 179 Go.Proofs.Try.f179 (.node 178 Go.Proofs.Try.f178 .nil .nil) .nil))) (.node 187 Go.Proofs.Try.f187 (.node 184 Go.Proofs.Try.f184 (.node 182 Go.Proofs.Try.f182 (.node 181 Go.Proofs.Try.f181 .nil .nil) (.node 183 Go.Proofs.Try.f183 .nil .nil)) (.node 186 Go.Proofs.Try.f186 (.node 185 Go.Proofs.Try.f185 .nil .nil) .nil)) (.node 190 Go.Proofs.Try.f190 (.node 189 Go.Proofs.Try.f189 (.node 188 Go.Proofs.Try.f188 .nil .nil) .nil) (.node 192 Go.Proofs.Try.f192 (.node 191 Go.Proofs.Try.f191 .nil .nil) .nil)))) (.node 207 Go.Proofs.Try.f207 (.node 200 Go.Proofs.Try.f200 (.node 197 Go.Proofs.Try.f197 (.node 195 Go.Proofs.Try.f195 (.node 194 Go.Proofs.Try.f194 .nil .nil) (.node 196 Go.Proofs.Try.f196 .nil .nil)) (.node 199 Go.Proofs.Try.f199 (.node 198 Go.Proofs.Try.f198 .nil .nil) .nil)) (.node 204 Go.Proofs.Try.f204 (.node 202 Go.Proofs.Try.f202 (.node 201 Go.Proofs.Try.f201 .nil .nil) (.node 203 Go.Proofs.Try.f203 .nil .nil)) (.node 206 Go.Proofs.Try.f206 (.node 205 Go.Proofs.Try.f205 .nil .nil) .nil))) (.node 214 Go.Proofs.Try.f214 (.node 211 Go.Proofs.Try.f211 (.node 209 Go.Proofs.Try.f209 (.node 208 Go.Proofs.Try.f208 .nil .nil) (.node 210 Go.Proofs.Try.f210 .nil .nil)) (.node 213 Go.Proofs.Try.f213 (.node 212 Go.Proofs.Try.f212 .nil .nil) .nil)) (.node 217 Go.Proofs.Try.f217 (.node 216 Go.Proofs.Try.f216 (.node 215 Go.Proofs.Try.f215 .nil .nil) .nil) (.node 219 Go.Proofs.Try.f219 (.node 218 Go.Proofs.Try.f218 .nil .nil) .nil)))))))
noncomputable def hdTab : Tab (Tab Hd) := (.node 115 (.node 2 { forget := [0, 3, 4, 6, 7, 8, 9, 10, 11, 12, 13, 14, 15, 16], drop := [], keep := [] } .nil .nil) (.node 67 (.node 6 { forget := [0, 2, 3, 5, 6, 8, 9, 10, 11, 12, 13, 14, 15, 16, 17, 18, 19, 20, 21, 22, 23, 24, 25, 26, 27, 31, 32, 33, 34, 35, 36, 37, 38, 39, 40, 41, 42, 43, 44, 45, 46, 47, 48, 49, 50, 51, 52, 53, 54, 55, 56, 57, 58, 59, 60, 61, 62, 63, 64, 65, 66, 67, 68, 69, 70, 71, 72, 73, 74, 75, 76, 77, 78, 79, 80], drop := [], keep := [] } .nil .nil) (.node 36 (.node 8 { forget := [0, 4, 5, 6, 7, 8, 9, 10, 12, 13, 14, 15, 16, 17, 18, 19, 20, 21, 22, 23, 24, 25, 26, 27, 28, 29, 30, 31, 32, 33, 34, 35, 36, 37, 38, 39, 40, 41, 42, 43, 44, 45, 46, 47, 48, 49, 50, 51, 52, 53, 54, 55, 56, 57, 58, 59, 60, 61, 62, 63, 64, 65, 66, 67, 68, 69], drop := [13], keep := [] } (.node 2 { forget := [0, 4, 5, 6, 7, 9, 10, 11, 12, 13, 14, 15, 16, 17, 18, 19, 20, 21, 22, 23, 24, 25, 26, 27, 28, 29, 30, 31, 32, 33, 34, 35, 36, 37, 38, 39, 40, 41, 42, 43, 44, 45, 46, 47, 48, 49, 50, 51, 52, 53, 54, 55, 56, 57, 58, 59, 60, 61, 62, 63, 64, 65, 66, 67, 68, 69], drop := [9], keep := [] } .nil .nil) (.node 11 { forget := [0, 4, 5, 6, 7, 8, 9, 10, 13, 14, 15, 16, 17, 18, 19, 20, 21, 22, 23, 24, 25, 26, 27, 28, 29, 30, 31, 32, 33, 34, 35, 36, 37, 38, 39, 40, 41, 42, 43, 44, 45, 46, 47, 48, 49, 50, 51, 52, 53, 54, 55, 56, 57, 58, 59, 60, 61, 62, 63, 64, 65, 66, 67, 68, 69], drop := [13], keep := [] } .nil .nil)) (.node 10 (.node 13 { forget := [0, 4, 5, 6, 8, 9, 10, 11, 12, 14, 15, 16, 17, 18, 19, 20, 21, 22, 23, 24, 25, 26, 27, 28, 29, 30, 31, 32, 33, 34, 35, 36, 37, 38, 39, 40, 41, 42, 43, 44, 45, 46, 47, 48, 49, 50, 51, 52, 53, 54, 55, 56, 57, 58, 59, 60, 61, 62, 63, 64, 65, 66, 67, 68, 69, 70, 71, 72, 73, 74, 75, 76, 77, 78, 79, 80, 81, 82, 83, 84, 85, 86, 87, 88, 89, 90, 91, 92, 93, 94, 95, 96, 97, 98, 99, 100, 101, 102, 103, 104, 105, 106, 107, 108, 109, 110, 111, 112, 113, 114, 115, 116, 117, 118, 119, 120, 121, 122, 123, 124, 125, 126, 127, 128, 129, 130, 131, 132, 133, 134, 135, 136, 137, 138, 139, 140, 141, 142, 143, 144, 145, 146, 147, 148, 149, 150, 151, 152, 153, 154, 155, 156, 157, 158, 159, 160, 161, 162, 163, 164, 165, 166, 167, 168, 169, 170, 171, 172, 173, 174, 175, 176, 177, 178, 179, 180, 181, 182, 183, 184, 185, 186, 187, 188, 189, 190, 191, 192, 193, 194, 195, 196, 197, 198, 199, 200, 201, 202, 203, 204, 205, 206, 207, 208, 209, 210, 211, 212, 213, 214, 215, 216, 217, 218, 219, 220, 221, 222, 223, 224, 225, 226, 227, 228, 229, 230], drop := [14, 15, 17], keep := [] } .nil .nil) (.node 7 (.node 24 { forget := [0, 1, 2, 6, 9, 11, 12, 15, 17, 18, 19, 20, 21, 22, 23, 24, 25, 26, 27, 28, 29, 30, 31, 32, 33, 34, 35, 36, 37, 38, 39, 40, 41, 42, 43, 44, 45, 46, 47, 48, 49, 50, 51, 52, 53, 54, 55, 56, 57, 58, 59, 60, 61, 62, 63, 64, 65, 66, 67, 68, 69, 70, 71, 72, 73, 74, 75, 76, 77, 78, 79, 80, 81, 82, 83, 84, 85, 86, 87, 88, 89, 90, 91, 92, 93, 94, 95, 96, 97, 98, 99, 100, 101, 102, 103, 104, 105, 106, 107, 108, 109, 110, 111, 112, 113, 114, 115, 116, 117, 118, 119, 120, 121, 122, 123, 124, 125, 126, 127, 128, 129, 130, 131, 132, 133, 134, 135, 136, 137, 138, 139, 140, 141, 142, 143, 144, 145, 146, 147, 148, 149, 150, 151, 152, 153, 154, 155, 156, 157, 158, 159, 160, 161, 162, 163, 164, 165, 166, 167, 168, 169, 170, 171, 172, 173, 174, 175, 176, 177, 178, 179, 180, 181, 182, 183, 184, 185, 186, 187, 188, 189, 190, 191, 192, 193, 194, 195, 196, 197, 198, 199, 200, 201, 202, 203, 204, 205, 206, 207, 208, 209, 210, 211, 212, 213, 214, 215, 216, 217, 218, 219, 220, 221, 222, 223, 224, 225, 226, 227, 228, 229, 230, 231, 232, 233, 234, 235, 236, 237], drop := [], keep := [7, 8] } (.node 8 { forget := [0, 1, 2, 6, 10, 11, 12, 13, 14, 15, 16, 17, 18, 19, 20, 21, 22, 23, 24, 25, 26, 27, 28, 29, 30, 31, 32, 33, 34, 35, 36, 37, 38, 39, 40, 41, 42, 43, 44, 45, 46, 47, 48, 49, 50, 51, 52, 53, 54, 55, 56, 57, 58, 59, 60, 61, 62, 63, 64, 65, 66, 67, 68, 69, 70, 71, 72, 73, 74, 75, 76, 77, 78, 79, 80, 81, 82, 83, 84, 85, 86, 87, 88, 89, 90, 91, 92, 93, 94, 95, 96, 97, 98, 99, 100, 101, 102, 103, 104, 105, 106, 107, 108, 109, 110, 111, 112, 113, 114, 115, 116, 117, 118, 119, 120, 121, 122, 123, 124, 125, 126, 127, 128, 129, 130, 131, 132, 133, 134, 135, 136, 137, 138, 139, 140, 141, 142, 143, 144, 145, 146, 147, 148, 149, 150, 151, 152, 153, 154, 155, 156, 157, 158, 159, 160, 161, 162, 163, 164, 165, 166, 167, 168, 169, 170, 171, 172, 173, 174, 175, 176, 177, 178, 179, 180, 181, 182, 183, 184, 185, 186, 187, 188, 189, 190, 191, 192, 193, 194, 195, 196, 197, 198, 199, 200, 201, 202, 203, 204, 205, 206, 207, 208, 209, 210, 211, 212, 213, 214, 215, 216, 217, 218, 219, 220, 221, 222, 223, 224, 225, 226, 227, 228, 229, 230, 231, 232, 233, 234, 235, 236, 237], drop := [], keep := [7, 8] } .nil .nil) .nil) (.node 6 (.node 26 { forget := [0, 2, 4, 6, 8, 9, 10, 11, 12, 13, 14, 15, 16, 19, 20, 21, 22, 23, 24, 25, 26, 27, 28, 29, 30, 31, 32, 33, 34, 35, 36, 37, 38, 39, 40, 41, 42, 43, 44, 45, 46, 47, 48, 49, 50, 51, 52, 53, 54, 55, 56, 57, 58, 59, 60, 61, 62, 63, 64, 65, 66, 67, 68, 69, 70, 71, 72, 73, 74, 75, 76, 77, 78, 79, 80, 81, 82, 83, 84, 85, 86, 87, 88, 89, 90, 91, 92, 93, 94, 95, 96, 97, 98, 99, 100, 101, 102, 103, 104, 105, 106, 107, 108, 109, 110, 111, 112, 113, 114, 115, 116, 117, 118, 119, 120, 121, 122, 123, 124, 125, 126, 127, 128, 129, 130, 131, 132, 133, 134, 135, 136, 137, 138, 139, 140, 141, 142, 143, 144, 145, 146, 147, 148, 149, 150, 151, 152, 153, 154, 155, 156, 157, 158, 159, 160, 161, 162, 163, 164, 165, 166, 167, 168, 169, 170, 171, 172, 173, 174, 175, 176, 177, 178, 179, 180, 181, 182, 183, 184, 185, 186, 187, 188, 189, 190, 191, 192, 193, 194, 195, 196, 197, 198, 199, 200, 201, 202, 203, 204, 205, 206, 207, 208, 209, 210, 211, 212, 213, 214, 215, 216, 217, 218, 219, 220, 221, 222, 223, 224, 225, 226, 227, 228, 229, 230, 231, 232, 233, 234, 235, 236, 237, 238, 239, 240, 241, 242, 243, 244, 245, 246, 247, 248, 249, 250], drop := [21], keep := [11] } (.node 12 { forget := [0, 2, 4, 6, 7, 8, 10, 13, 14, 15, 16, 17, 18, 19, 20, 21, 22, 23, 24, 25, 26, 27, 28, 29, 30, 31, 32, 33, 34, 35, 36, 37, 38, 39, 40, 41, 42, 43, 44, 45, 46, 47, 48, 49, 50, 51, 52, 53, 54, 55, 56, 57, 58, 59, 60, 61, 62, 63, 64, 65, 66, 67, 68, 69, 70, 71, 72, 73, 74, 75, 76, 77, 78, 79, 80, 81, 82, 83, 84, 85, 86, 87, 88, 89, 90, 91, 92, 93, 94, 95, 96, 97, 98, 99, 100, 101, 102, 103, 104, 105, 106, 107, 108, 109, 110, 111, 112, 113, 114, 115, 116, 117, 118, 119, 120, 121, 122, 123, 124, 125, 126, 127, 128, 129, 130, 131, 132, 133, 134, 135, 136, 137, 138, 139, 140, 141, 142, 143, 144, 145, 146, 147, 148, 149, 150, 151, 152, 153, 154, 155, 156, 157, 158, 159, 160, 161, 162, 163, 164, 165, 166, 167, 168, 169, 170, 171, 172, 173, 174, 175, 176, 177, 178, 179, 180, 181, 182, 183, 184, 185, 186, 187, 188, 189, 190, 191, 192, 193, 194, 195, 196, 197, 198, 199, 200, 201, 202, 203, 204, 205, 206, 207, 208, 209, 210, 211, 212, 213, 214, 215, 216, 217, 218, 219, 220, 221, 222, 223, 224, 225, 226, 227, 228, 229, 230, 231, 232, 233, 234, 235, 236, 237, 238, 239, 240, 241, 242, 243, 244, 245, 246, 247, 248, 249, 250], drop := [13], keep := [11] } .nil .nil) (.node 30 { forget := [0, 2, 4, 6, 8, 9, 10, 11, 12, 13, 14, 15, 16, 21, 22, 23, 24, 25, 26, 27, 28, 29, 30, 31, 32, 33, 34, 35, 36, 37, 38, 39, 40, 41, 42, 43, 44, 45, 46, 47, 48, 49, 50, 51, 52, 53, 54, 55, 56, 57, 58, 59, 60, 61, 62, 63, 64, 65, 66, 67, 68, 69, 70, 71, 72, 73, 74, 75, 76, 77, 78, 79, 80, 81, 82, 83, 84, 85, 86, 87, 88, 89, 90, 91, 92, 93, 94, 95, 96, 97, 98, 99, 100, 101, 102, 103, 104, 105, 106, 107, 108, 109, 110, 111, 112, 113, 114, 115, 116, 117, 118, 119, 120, 121, 122, 123, 124, 125, 126, 127, 128, 129, 130, 131, 132, 133, 134, 135, 136, 137, 138, 139, 140, 141, 142, 143, 144, 145, 146, 147, 148, 149, 150, 151, 152, 153, 154, 155, 156, 157, 158, 159, 160, 161, 162, 163, 164, 165, 166, 167, 168, 169, 170, 171, 172, 173, 174, 175, 176, 177, 178, 179, 180, 181, 182, 183, 184, 185, 186, 187, 188, 189, 190, 191, 192, 193, 194, 195, 196, 197, 198, 199, 200, 201, 202, 203, 204, 205, 206, 207, 208, 209, 210, 211, 212, 213, 214, 215, 216, 217, 218, 219, 220, 221, 222, 223, 224, 225, 226, 227, 228, 229, 230, 231, 232, 233, 234, 235, 236, 237, 238, 239, 240, 241, 242, 243, 244, 245, 246, 247, 248, 249, 250], drop := [], keep := [11] } .nil .nil)) .nil .nil) (.node 9 (.node 33 { forget := [0, 1, 2, 3, 4, 6, 7, 8, 9, 10, 11, 12, 13, 14, 15, 16, 17, 18, 19, 20, 21, 25, 26, 27, 28, 29, 30, 31, 32, 33, 34, 35, 36, 37, 38, 39, 40, 41, 42, 43, 44, 45, 46, 47, 48, 49, 50, 51, 52, 53, 54, 55, 56, 57, 58, 59, 60, 61, 62, 63, 64, 65, 66, 67, 68, 69, 70, 71, 72, 73, 74, 75, 76, 77, 78, 79, 80, 81, 82, 83, 84, 85, 86, 87, 88, 89, 90, 91, 92, 93, 94, 95, 96, 97, 98, 99, 100, 101, 102, 103, 104, 105, 106, 107, 108, 109, 110, 111, 112, 113, 114, 115, 116, 117, 118, 119, 120, 121, 122, 123, 124, 125, 126, 127, 128, 129, 130, 131, 132, 133, 134, 135, 136, 137, 138, 139, 140, 141, 142, 143, 144, 145, 146, 147, 148, 149, 150, 151, 152, 153, 154, 155, 156, 157, 158, 159, 160, 161, 162, 163, 164, 165, 166, 167, 168, 169, 170, 171, 172, 173, 174, 175, 176, 177, 178, 179, 180, 181, 182, 183, 184, 185, 186, 187, 188, 189, 190, 191, 192, 193, 194, 195, 196, 197, 198, 199, 200, 201, 202, 203, 204, 205, 206, 207, 208, 209, 210, 211, 212, 213, 214, 215, 216, 217, 218, 219, 220, 221, 222, 223, 224, 225, 226, 227, 228, 229, 230, 231, 232, 233, 234, 235, 236, 237, 238, 239, 240, 241, 242, 243, 244, 245, 246, 247, 248, 249, 250, 251, 252, 253, 254, 255, 256, 257, 258, 259, 260, 261, 262, 263, 264, 265, 266, 267, 268, 269, 270, 271, 272, 273, 274, 275, 276, 277, 278, 279, 280, 281, 282, 283, 284, 285, 286, 287, 288, 289, 290, 291, 292, 293, 294, 295, 296, 297, 298, 299, 300, 301, 302, 303, 304, 305, 306, 307, 308, 309, 310, 311, 312, 313, 314, 315, 316, 317, 318, 319, 320, 321, 322, 323], drop := [], keep := [] } (.node 16 { forget := [0, 1, 2, 6, 7, 9, 10, 11, 12, 13, 14, 18, 19, 20, 21, 22, 23, 24, 25, 26, 27, 28, 29, 30, 31, 32, 33, 34, 35, 36, 37, 38, 39, 40, 41, 42, 43, 44, 45, 46, 47, 48, 49, 50, 51, 52, 53, 54, 55, 56, 57, 58, 59, 60, 61, 62, 63, 64, 65, 66, 67, 68, 69, 70, 71, 72, 73, 74, 75, 76, 77, 78, 79, 80, 81, 82, 83, 84, 85, 86, 87, 88, 89, 90, 91, 92, 93, 94, 95, 96, 97, 98, 99, 100, 101, 102, 103, 104, 105, 106, 107, 108, 109, 110, 111, 112, 113, 114, 115, 116, 117, 118, 119, 120, 121, 122, 123, 124, 125, 126, 127, 128, 129, 130, 131, 132, 133, 134, 135, 136, 137, 138, 139, 140, 141, 142, 143, 144, 145, 146, 147, 148, 149, 150, 151, 152, 153, 154, 155, 156, 157, 158, 159, 160, 161, 162, 163, 164, 165, 166, 167, 168, 169, 170, 171, 172, 173, 174, 175, 176, 177, 178, 179, 180, 181, 182, 183, 184, 185, 186, 187, 188, 189, 190, 191, 192, 193, 194, 195, 196, 197, 198, 199, 200, 201, 202, 203, 204, 205, 206, 207, 208, 209, 210, 211, 212, 213, 214, 215, 216, 217, 218, 219, 220, 221, 222, 223, 224, 225, 226, 227, 228, 229, 230, 231, 232, 233, 234, 235, 236, 237, 238, 239, 240, 241, 242, 243, 244, 245, 246, 247, 248, 249, 250, 251, 252, 253, 254, 255, 256, 257, 258, 259, 260, 261, 262, 263, 264, 265, 266, 267, 268, 269, 270, 271, 272, 273, 274, 275, 276, 277, 278, 279, 280, 281, 282, 283, 284, 285, 286, 287, 288, 289, 290, 291, 292, 293, 294, 295, 296, 297, 298, 299, 300, 301, 302, 303, 304, 305, 306, 307, 308, 309, 310, 311, 312, 313, 314, 315, 316, 317, 318, 319, 320, 321, 322, 323], drop := [], keep := [] } .nil .nil) .nil) .nil .nil)) (.node 33 (.node 12 { forget := [0, 1, 2, 3, 4, 5, 6, 7, 9, 10, 11, 12, 13, 14, 15, 16, 17, 18, 19, 20, 21, 22, 23, 24, 25, 26, 27, 28, 29, 30, 31, 32, 33, 34, 35, 36, 37, 38, 39, 40, 41, 42, 43, 44, 45, 46, 47, 51, 52, 53, 54, 55, 56, 57, 58, 59, 60, 61, 62, 63, 64, 65, 66, 67, 68, 69, 70, 71, 72, 73, 74, 75, 76, 77, 78, 79, 80, 81], drop := [15, 17, 18], keep := [] } (.node 5 { forget := [0, 1, 2, 3, 4, 5, 6, 7, 9, 10, 11, 12, 13, 14, 15, 16, 17, 18, 19, 20, 21, 22, 23, 24, 25, 26, 27, 28, 29, 33, 34, 35, 36, 37, 38, 39, 40, 41, 42, 43, 44, 45, 46, 47, 48, 49, 50, 51, 52, 53, 54, 55, 56, 57, 58, 59, 60, 61, 62, 63, 64, 65, 66, 67, 68, 69, 70, 71, 72, 73, 74, 75, 76, 77, 78, 79, 80, 81], drop := [11, 12], keep := [] } .nil .nil) (.node 15 { forget := [0, 1, 2, 3, 4, 5, 6, 7, 9, 10, 11, 12, 13, 16, 17, 18, 19, 20, 21, 22, 23, 24, 25, 26, 27, 28, 29, 30, 31, 32, 33, 34, 35, 36, 37, 38, 39, 40, 41, 42, 43, 44, 45, 46, 47, 51, 52, 53, 54, 55, 56, 57, 61, 62, 63, 64, 65, 66, 67, 68, 69, 70, 71, 72, 73, 74, 75, 76, 77, 78, 79, 80, 81], drop := [17, 18], keep := [] } .nil .nil)) (.node 13 (.node 13 { forget := [0, 1, 5, 6, 9, 14, 15, 16, 17, 18, 19, 20, 21, 22, 23, 24, 25, 26, 27, 28, 29, 30, 31, 32, 33, 34, 35, 36, 37, 38, 39, 40, 41, 42, 43, 44, 45, 46, 47, 48, 49, 50, 51, 52, 53, 54, 55, 56, 57, 58, 59, 60, 61, 62, 63, 64, 65, 66, 67, 68, 69, 70, 71, 72, 73, 74, 75, 76, 77, 78, 79, 80, 81, 82, 83, 84, 85, 86, 87, 88, 89, 90, 91, 92, 93, 94, 95, 96, 97, 98, 99, 100, 101, 102, 103, 104, 105, 106, 107, 108, 109, 110, 111, 112, 113, 114, 115, 116, 117, 118, 119, 120, 121, 122, 123, 124, 125, 126, 127, 128, 129, 130, 131, 132, 133, 134, 135, 136, 137, 138, 139, 140, 141, 142, 143, 144, 145, 146, 147, 148, 149, 150, 151, 152, 153, 154, 155, 156, 157, 158, 159, 160, 161, 162, 163, 164, 165, 166, 167, 168, 169, 170, 171, 172, 173, 174, 175, 176, 177, 178, 179, 180, 181, 182, 183, 184, 185, 186, 187, 188, 189, 190, 191, 192, 193, 194, 195, 196, 197, 198, 199, 200, 201, 202, 203, 204, 205, 206, 207, 208, 209, 210, 211, 212, 213, 214, 215, 216, 217, 218, 219, 220, 221, 222, 223, 224, 225, 226, 227, 228, 229, 230, 231, 232, 233, 234, 235, 236, 237, 238, 239, 240, 241, 242, 243, 244, 245, 246, 247, 248, 249, 250, 251, 252, 253, 254, 255, 256], drop := [14, 15], keep := [] } .nil .nil) .nil .nil) (.node 35 (.node 3 { forget := [0, 4, 5, 7, 10, 11, 12, 13, 14, 15, 16, 17, 18, 19, 20, 21, 22, 23, 24, 25, 26, 27, 28, 29, 30, 31, 32, 33, 34, 35, 36, 37, 38, 39, 40, 41, 42, 43, 44, 45, 46, 47], drop := [10], keep := [] } .nil .nil) .nil .nil))) (.node 47 (.node 6 { forget := [0, 2, 3, 5, 6, 7, 8, 9, 10, 11, 12, 13, 14, 15, 16, 17, 18, 19, 20, 21, 22, 23, 24, 25, 26, 27, 28, 29, 30, 31, 32, 33, 34, 35, 36, 37, 38, 39, 40, 41, 42, 43, 44, 45, 46, 47, 48, 49, 50, 51, 52, 53, 54, 55, 56, 57, 58, 59, 60, 61, 62, 63, 64, 65, 66, 67, 68, 69, 70, 71, 72, 73, 74, 75], drop := [5], keep := [] } .nil .nil) (.node 41 (.node 8 { forget := [0, 1, 2, 3, 5, 6, 8, 10, 13, 14, 15, 16, 17, 18, 19, 20, 21, 22, 23, 24, 25, 26, 27, 28, 29, 30, 31, 32, 36, 37, 38, 39, 40, 41, 42, 43, 44, 45, 46, 47, 48, 49, 50, 51, 52, 53, 54, 55, 56, 57, 58, 59, 60, 61, 62, 63, 64, 65, 66, 67, 68], drop := [14, 15, 16], keep := [11] } .nil .nil) (.node 37 (.node 4 { forget := [2, 3, 4, 6, 7, 8, 9, 10, 11, 12, 13, 14, 15, 16, 17, 18, 19, 20, 21, 22, 23, 24, 25], drop := [], keep := [] } .nil .nil) .nil .nil) (.node 44 (.node 5 { forget := [0, 2, 3, 4, 5, 6, 7, 8, 9, 10, 11, 12, 13, 14, 15, 16, 17, 18, 19, 20, 21, 22, 23, 27, 28, 29, 30, 31, 32, 33, 34, 35, 36, 37, 38, 39, 40, 41, 42, 43, 44, 45, 46, 47, 48, 49, 50, 51, 52, 53, 54, 55, 56, 57, 58, 59, 60, 61, 62, 63, 64, 65, 66, 67, 68, 69, 70, 71, 72, 73, 74, 75, 76, 77, 78, 79, 80, 81], drop := [6, 7], keep := [] } .nil .nil) .nil .nil)) (.node 58 (.node 4 { forget := [1, 2, 4, 5, 6, 7, 8, 9, 10, 11, 12, 13, 14, 15, 16, 17, 18], drop := [], keep := [] } .nil .nil) (.node 54 (.node 4 { forget := [0, 2, 4, 5, 6, 7, 8, 9, 10, 11, 12, 13, 14, 15, 16, 17, 18, 19, 20, 21, 22], drop := [], keep := [] } .nil .nil) .nil .nil) (.node 66 (.node 6 { forget := [2, 3, 4, 5, 6, 7, 8, 10, 11, 12, 13, 14, 15, 16, 17, 18, 19, 20, 21, 22, 23, 24, 25, 29, 30, 31, 32, 33, 34, 35, 36, 37, 38, 39, 40, 41, 42, 43, 44, 45, 46], drop := [], keep := [9] } .nil .nil) .nil .nil)))) (.node 92 (.node 14 { forget := [0, 2, 3, 4, 5, 6, 7, 8, 10, 12, 15, 16, 17, 18, 19, 20, 21, 22, 23, 24, 25, 26, 27, 28, 29, 30, 31, 32, 33, 34, 38, 39, 40, 41, 42, 43, 47, 48, 49, 50, 51, 52, 53, 54, 55, 56, 57, 58, 59, 60, 61, 62, 63, 64, 65, 66, 67, 68, 69, 70, 71, 72, 73, 74, 75], drop := [], keep := [11] } (.node 10 { forget := [0, 2, 3, 4, 5, 6, 7, 8, 10, 12, 13, 14, 15, 16, 17, 18, 19, 20, 21, 22, 23, 24, 25, 26, 27, 28, 29, 30, 31, 32, 33, 34, 38, 39, 40, 41, 42, 43, 44, 45, 46, 47, 48, 49, 50, 51, 52, 53, 54, 55, 56, 57, 58, 59, 60, 61, 62, 63, 64, 65, 66, 67, 68, 69, 70, 71, 72, 73, 74, 75], drop := [13], keep := [11] } .nil .nil) .nil) (.node 76 (.node 4 { forget := [0, 1, 5, 6, 8, 12, 13, 14, 15, 16, 17, 18, 19, 20, 21, 22, 23, 24, 25, 26, 27, 28, 29, 30, 31, 32, 33, 34, 35, 36, 37, 38, 39, 40, 41, 42, 43, 44, 45, 46, 47, 48, 49, 50, 51, 52, 53], drop := [12, 13], keep := [9] } .nil .nil) (.node 74 (.node 12 { forget := [1, 2, 3, 4, 5, 6, 10, 11, 12, 13, 14, 15, 16, 17, 18, 19, 20, 21, 22, 23, 24, 25, 26, 27, 28, 29, 30, 31, 32, 33, 34, 35, 36, 37, 38, 39, 40, 41, 42, 43, 44, 45, 46, 47, 48, 49, 50, 51, 52, 53, 54, 55, 56, 57, 58, 59, 60, 61, 62, 63, 64, 65, 66, 67, 68, 69, 70, 71, 72, 73, 74, 75, 76, 77, 78, 79, 80, 81, 82, 83, 84, 85, 86, 87, 88, 89, 90, 91, 92, 93, 94, 95, 96, 97, 98, 99, 100, 101, 102, 103], drop := [], keep := [] } (.node 4 { forget := [2, 3, 4, 5, 7, 8, 9, 10, 11, 12, 13, 14, 15, 16, 17, 18, 19, 20, 21, 22, 23, 24, 25, 26, 27, 28, 29, 30, 31, 32, 33, 34, 35, 36, 37, 38, 39, 40, 41, 42, 43, 44, 45, 46, 47, 48, 49, 50, 51, 52, 53, 54, 55, 56, 57, 58, 59, 60, 61, 62, 63, 64, 65, 66, 67, 68, 69, 70, 71, 72, 73, 74, 75, 76, 77, 78, 79, 80, 81, 82, 83, 84, 85, 86, 87, 88, 89, 90, 91, 92, 93, 94, 95, 96, 97, 98, 99, 100, 101, 102, 103], drop := [], keep := [] } .nil .nil) .nil) (.node 72 (.node 14 { forget := [0, 2, 3, 4, 5, 6, 7, 8, 10, 11, 12, 13, 14, 15, 16, 17, 18, 19, 20, 21, 22, 23, 24, 25, 26, 27, 28, 29, 30, 31, 32, 33, 34, 35, 36, 37, 38, 39, 40, 41, 42, 46, 47, 48, 49, 50, 51, 52, 53, 54, 55, 56, 57, 58], drop := [11], keep := [] } (.node 5 { forget := [2, 3, 4, 5, 7, 8, 9, 10, 11, 12, 13, 14, 18, 19, 20, 21, 22, 23, 24, 25, 26, 27, 28, 29, 30, 31, 32, 33, 34, 35, 36, 37, 38, 39, 40, 41, 42, 43, 44, 45, 46, 47, 48, 49, 50, 51, 52, 53, 54, 55, 56, 57, 58], drop := [8], keep := [] } .nil .nil) .nil) .nil .nil) (.node 75 (.node 4 { forget := [1, 2, 4, 5, 6, 7, 8, 9, 10, 11, 12, 13, 14, 15, 16, 17, 18, 19, 20, 21], drop := [], keep := [] } .nil .nil) .nil .nil)) (.node 84 (.node 2 { forget := [0, 1, 2, 3, 4, 8, 9, 10, 11, 12, 13, 14], drop := [], keep := [] } .nil .nil) (.node 77 (.node 4 { forget := [2, 3, 4, 6, 7, 8, 9, 10, 11, 12, 13, 14, 15, 16, 17, 18, 19, 20, 21, 22, 23, 24, 25], drop := [], keep := [] } .nil .nil) .nil .nil) (.node 86 (.node 5 { forget := [0, 1, 2, 4, 5, 8, 12, 13, 14, 15, 16, 17, 18, 19, 20, 21, 22, 23, 24, 25, 26, 27, 28, 29, 30, 31, 32, 35, 36, 37, 38, 39, 40, 41, 42, 43, 44, 45, 46, 47, 48, 49, 50, 51, 52, 53, 54, 55, 56, 57, 58, 59, 60, 61, 62, 63, 64, 65, 66, 67, 68, 69, 70, 71, 72, 73, 74, 75, 76, 77, 78, 79, 80, 81, 82, 83, 84, 85, 86, 87, 88, 89, 90, 91, 92, 93, 94], drop := [13], keep := [] } .nil .nil) .nil .nil))) (.node 96 (.node 3 { forget := [0, 2, 4, 9, 10, 11, 12, 13, 14, 15, 16, 17, 18, 19, 20, 21, 22, 23, 24, 25, 26, 27, 28, 29, 30, 31, 32, 33, 34, 35, 36, 37], drop := [], keep := [] } .nil .nil) (.node 94 (.node 4 { forget := [1, 2, 4, 5, 6, 7, 8, 9, 10, 11, 12, 13, 14, 15, 16, 17, 18], drop := [], keep := [] } .nil .nil) (.node 93 (.node 3 { forget := [0, 1, 3, 5, 6, 7, 8, 9, 10, 14, 15, 16, 17, 18, 19, 20, 21, 22, 23, 24, 25, 26, 27, 28, 29, 30, 31, 32, 33, 34], drop := [6], keep := [] } .nil .nil) .nil .nil) (.node 95 (.node 6 { forget := [0, 4, 5, 6, 8, 9, 10, 11, 12, 13, 14, 15, 16, 17, 18, 19, 20, 21, 22, 23, 24, 25, 26, 27, 28, 29, 30, 31, 32, 33, 34, 35, 36, 37, 38, 39, 40, 41, 42, 43, 44, 45, 46, 47, 48, 49, 50, 51, 52, 53, 54, 55, 56, 57, 58, 59, 60, 61, 62, 63], drop := [], keep := [] } .nil .nil) .nil .nil)) (.node 109 (.node 1 { forget := [2, 3, 4, 5, 6, 7, 8, 9, 10, 11], drop := [], keep := [] } .nil .nil) (.node 100 (.node 4 { forget := [0, 1, 2, 3, 4, 5, 6, 7, 8, 12, 13, 14, 15, 16, 17, 18, 19, 20], drop := [4], keep := [] } .nil .nil) .nil .nil) (.node 113 (.node 2 { forget := [0, 3, 6, 7, 8, 9, 10, 11, 12, 13, 14, 15, 16, 17, 18, 19, 20, 21, 22, 23, 24, 25, 26, 27, 28, 29, 30, 31, 32, 33, 34, 35], drop := [], keep := [] } .nil .nil) .nil .nil))))) (.node 189 (.node 13 { forget := [0, 2, 3, 6, 7, 8, 9, 10, 11, 12, 13, 14, 15, 16, 17, 18, 19, 20, 21, 22, 23, 24, 25, 26, 27, 28, 29, 30, 31, 32, 33, 34, 35, 36, 37, 38, 39, 40, 41, 42, 43, 44, 45, 46, 47, 48, 49, 50, 51, 52, 53, 54, 55, 56, 57, 58, 59, 60, 61, 62], drop := [], keep := [4] } .nil .nil) (.node 161 (.node 1 { forget := [2, 3, 4, 5, 6, 7, 8, 9, 10, 11, 12], drop := [], keep := [] } .nil .nil) (.node 142 (.node 6 { forget := [0, 2, 3, 4, 5, 6, 7, 9, 10, 11, 12, 13, 14, 15, 16, 17, 18, 19, 20, 21, 22, 23, 24, 25, 26, 30, 31, 32, 33, 34, 35, 36, 37, 38, 39, 40, 41, 42, 43, 44, 45, 46, 47, 48, 49, 50, 51, 52, 53, 54, 55, 56, 57, 58, 59, 60, 61, 62, 63, 64, 65, 66, 67], drop := [10], keep := [] } .nil .nil) (.node 121 (.node 2 { forget := [0, 1, 2, 3, 4, 8, 9, 10, 11, 12, 13, 14], drop := [], keep := [] } .nil .nil) (.node 119 (.node 15 { forget := [0, 1, 2, 4, 5, 6, 8, 9, 10, 11, 12, 13, 14, 15, 16, 17, 18, 19, 20, 21, 22, 23, 24, 25, 26, 27, 28, 29, 30, 31, 32, 33, 34, 35, 36, 37, 38, 39, 40, 41, 42, 43, 44, 45, 46, 47, 48, 49, 50, 51, 52, 53, 54, 55, 56, 57, 58, 59, 60, 61, 62, 63, 64, 65, 66, 67, 68, 69, 70, 71, 72, 73, 74, 75, 76], drop := [8], keep := [] } .nil .nil) .nil .nil) (.node 125 (.node 8 { forget := [0, 1, 3, 4, 5, 6, 12, 13, 16, 17, 18, 19, 20, 21, 22, 23, 24, 25, 26, 27, 28, 29, 30, 31, 32, 33, 34, 35, 36, 37, 38, 39, 40, 41, 42, 43, 46, 47, 48, 49, 50, 51, 52, 53, 54, 55, 56, 57, 58, 59, 60, 61, 89, 90, 91], drop := [12, 13], keep := [83] } .nil .nil) .nil .nil)) (.node 155 (.node 7 { forget := [0, 1, 9, 10, 11, 12, 13, 14, 15, 16, 17, 18, 19, 20, 21, 22, 23, 24, 25, 26, 27, 28, 29, 30, 31, 32, 33, 34, 35, 36, 37, 38, 39, 40, 41, 42, 43, 44, 45, 46, 47, 48, 49, 50, 51, 52, 53, 54, 55, 56, 57, 58, 59, 60, 61, 62, 63, 64, 65, 66, 67, 68, 69, 70, 71, 72, 73, 74, 75, 76, 77, 78, 79, 80, 81, 82, 83, 84, 85], drop := [], keep := [] } (.node 3 { forget := [0, 1, 7, 8, 9, 10, 11, 12, 13, 14, 15, 16, 17, 18, 19, 20, 21, 22, 23, 24, 25, 26, 27, 28, 29, 30, 31, 32, 33, 34, 35, 36, 37, 38, 39, 40, 41, 42, 43, 44, 45, 46, 47, 48, 49, 50, 51, 52, 53, 54, 55, 56, 57, 58, 59, 60, 61, 62, 63, 64, 65, 66, 67, 68, 69, 70, 71, 72, 73, 74, 75, 76, 77, 78, 79, 80, 81, 82, 83, 84, 85], drop := [], keep := [] } .nil .nil) .nil) (.node 148 (.node 1 { forget := [1, 2, 3, 4, 8, 9, 10, 11, 12, 13, 14, 15], drop := [4], keep := [] } .nil .nil) .nil .nil) (.node 157 (.node 5 { forget := [0, 2, 3, 6, 7, 8, 9, 10, 11, 12, 13, 14, 15, 16, 17, 18, 19, 20, 21, 22, 23, 24, 25, 26, 27, 28, 29], drop := [], keep := [] } .nil .nil) .nil .nil))) (.node 176 (.node 5 { forget := [1, 5, 6, 7, 8, 9, 10, 11, 12, 13, 14, 15, 16, 17, 18, 19], drop := [], keep := [4] } .nil .nil) (.node 165 (.node 8 { forget := [0, 1, 4, 10, 11, 14, 15, 16, 17, 18, 19, 20, 21, 22, 23, 24, 25, 26, 27, 28, 29, 30, 31, 32, 33, 34, 35, 36, 37, 38, 39, 40, 41, 42, 43, 44, 45, 46, 47, 48, 49, 50, 51, 52, 53, 54, 55, 56, 57, 58, 59, 60, 61, 62, 63, 64, 65, 66, 67, 68, 69, 70, 71, 72, 73, 74, 75, 76, 77, 78, 79, 80, 81, 82, 83, 84, 85, 86, 87, 88, 114, 115, 116], drop := [10, 11], keep := [] } (.node 4 { forget := [0, 1, 4, 9, 10, 11, 14, 15, 16, 17, 18, 19, 20, 21, 22, 23, 24, 25, 26, 27, 28, 29, 30, 31, 32, 33, 34, 35, 36, 37, 38, 39, 40, 41, 42, 43, 44, 45, 46, 47, 48, 49, 50, 51, 52, 53, 54, 55, 56, 57, 58, 59, 60, 61, 62, 63, 64, 65, 66, 67, 68, 69, 70, 71, 72, 73, 74, 75, 76, 77, 78, 79, 80, 81, 82, 83, 84, 85, 86, 87, 88, 114, 115, 116], drop := [10, 11], keep := [] } .nil .nil) (.node 11 { forget := [0, 1, 4, 10, 11, 14, 15, 16, 17, 18, 19, 20, 21, 22, 23, 24, 25, 26, 27, 28, 29, 30, 31, 32, 33, 34, 35, 36, 37, 38, 39, 40, 41, 42, 43, 44, 45, 46, 47, 48, 49, 50, 51, 52, 53, 54, 55, 58, 59, 60, 61, 62, 63, 64, 65, 66, 67, 68, 69, 70, 71, 72, 73, 74, 75, 76, 77, 78, 79, 80, 81, 82, 83, 84, 85, 86, 87, 88, 114, 115, 116], drop := [10, 11], keep := [] } .nil .nil)) (.node 164 (.node 6 { forget := [0, 1, 2, 3, 4, 5, 6, 7, 8, 9, 10, 11, 12, 13, 14, 15, 16, 17, 18, 19, 20, 21, 22, 23, 24, 25, 26, 27, 28, 29, 30, 31, 32, 33, 34, 35, 36, 37, 38, 39, 40, 41, 42, 43, 44, 45, 46, 47, 48, 49, 50, 51, 52, 56, 57, 58, 59, 60, 61, 62, 63, 64, 65, 66, 67, 68, 69, 70, 71, 72, 73, 74, 75, 76, 77, 78, 79, 80, 81, 82, 83, 84, 85, 86], drop := [9], keep := [] } .nil .nil) .nil .nil) (.node 172 (.node 3 { forget := [0, 1, 3, 4, 5, 7, 8, 9, 10, 11, 12, 13, 17, 18, 19, 20, 21, 22, 23, 24, 25, 26, 27, 28, 29, 30, 31, 32, 33, 34, 35, 36, 37, 38], drop := [], keep := [6] } .nil .nil) .nil .nil)) (.node 183 (.node 2 { forget := [2, 3, 4, 5, 6, 9, 10, 11, 12, 13, 14, 15, 16, 17, 18], drop := [], keep := [] } .nil .nil) (.node 182 (.node 2 { forget := [2, 3, 4, 5, 6, 9, 10, 11, 12, 13, 14, 15, 16, 17, 18], drop := [], keep := [] } .nil .nil) .nil .nil) (.node 186 (.node 9 { forget := [0, 1, 10, 11, 12, 13, 14, 15, 16, 17, 18, 19, 20, 21, 22, 23, 24, 25, 26, 27, 28, 29, 30, 31, 32, 33, 34, 35, 36, 37, 38, 39, 40, 41, 42, 43, 44, 45, 46, 47, 48, 49, 50, 51, 52, 53, 54, 55, 56, 57, 58, 59, 60, 61, 62, 63, 64, 65, 66, 67, 68, 69, 70, 71, 72, 73, 74, 75, 76, 77, 78, 79, 80, 81, 82, 83, 84, 85, 86, 87], drop := [], keep := [34] } (.node 5 { forget := [0, 1, 8, 9, 10, 11, 12, 13, 14, 15, 16, 17, 18, 19, 20, 21, 22, 23, 24, 25, 26, 27, 28, 29, 30, 31, 32, 33, 34, 35, 36, 37, 38, 39, 40, 41, 42, 43, 44, 45, 46, 47, 48, 49, 50, 51, 52, 53, 54, 55, 56, 57, 58, 59, 60, 61, 62, 63, 64, 65, 66, 67, 68, 69, 70, 71, 72, 73, 74, 75, 76, 77, 78, 79, 80, 81, 82, 83, 84, 85, 86, 87], drop := [], keep := [34] } .nil .nil) .nil) .nil .nil)))) (.node 204 (.node 4 { forget := [2, 3, 4, 8, 9, 10, 11, 12, 13, 14, 15, 16, 17, 18, 19, 20, 21, 22, 23, 24, 25, 26, 27, 28, 29, 30, 31, 32, 33, 34], drop := [], keep := [5] } .nil .nil) (.node 197 (.node 2 { forget := [2, 3, 4, 5, 6, 9, 10, 11, 12, 13, 14, 15, 16, 17, 18], drop := [], keep := [] } .nil .nil) (.node 192 (.node 8 { forget := [0, 1, 2, 3, 4, 5, 6, 9, 10, 11, 12, 13, 14, 15, 16, 17, 18, 19, 20, 21, 22, 23, 24, 25, 26, 27, 28, 29, 30, 31, 32, 33, 34, 35, 36, 37, 38, 39, 40, 41, 42, 43, 44, 45, 46, 47], drop := [], keep := [] } .nil .nil) (.node 190 (.node 6 { forget := [0, 2, 3, 4, 5, 6, 7, 8, 9, 10, 11, 12, 13, 14, 15, 16, 17, 18, 19, 20, 21, 22, 23, 24, 25, 26, 27, 28, 29, 30, 31, 32, 33, 34, 35, 36, 37, 38, 39, 40, 41, 42, 43, 44, 45, 46, 47, 48, 49, 50, 54, 55, 56, 57, 58, 59, 60, 61, 62, 63, 64, 65, 66, 67, 68, 69, 70, 71, 72, 73, 74, 75, 76, 77, 78, 79, 80, 81, 82, 83, 84, 85, 86, 87, 88, 89, 90, 91, 92], drop := [7], keep := [] } .nil .nil) .nil .nil) (.node 194 (.node 1 { forget := [4, 5, 6, 7, 8, 9, 12, 13, 14, 15, 16, 17, 18, 19, 20, 21, 22, 23, 24, 25, 26, 27, 28, 29], drop := [], keep := [] } .nil .nil) .nil .nil)) (.node 202 (.node 2 { forget := [1, 2, 4, 5, 6, 7, 8, 9, 10, 11, 12, 13, 14, 15, 16, 17, 18, 19, 20], drop := [], keep := [] } .nil .nil) (.node 199 (.node 2 { forget := [0, 1, 5, 6, 7, 8, 9, 10, 11, 12, 13, 14, 15, 16, 17, 18, 19, 20, 21, 22], drop := [5], keep := [] } .nil .nil) .nil .nil) (.node 203 (.node 6 { forget := [2, 3, 4, 6, 7, 8, 9, 10, 11, 12, 13, 14, 15, 16, 17, 18, 19, 20, 21, 22, 23, 24, 25, 26, 27, 28, 29, 30, 31, 32, 33, 34, 35, 36, 37, 38, 39, 40], drop := [], keep := [] } .nil .nil) .nil .nil))) (.node 215 (.node 4 { forget := [1, 2, 4, 5, 6, 7, 8, 9, 10, 11, 12, 13, 14, 15, 16, 17, 18, 19, 20, 21, 22, 23, 24, 25, 26, 27, 28, 29, 30, 31, 32, 33, 34, 35, 36, 37, 38, 39, 40, 41, 42, 43, 44, 45, 46, 47, 48, 49, 50, 51, 52, 53, 54], drop := [], keep := [] } .nil .nil) (.node 210 (.node 2 { forget := [1, 2, 3, 4, 5, 6, 10, 11, 12, 13, 14, 15, 16, 17, 18, 19, 20, 21, 22, 23, 24, 25, 26, 27, 28, 29, 30, 31, 32, 33, 34, 35, 36, 37], drop := [], keep := [] } .nil .nil) (.node 205 (.node 4 { forget := [2, 3, 4, 8, 9, 10, 11, 12, 13, 14, 15, 16, 17, 18, 19, 20, 21, 22, 23, 24, 25, 26, 27, 28, 29, 30, 31, 32, 33, 34, 35, 36, 37, 38, 39, 40, 41], drop := [], keep := [5] } .nil .nil) .nil .nil) (.node 212 (.node 2 { forget := [0, 5, 6, 7, 8, 10, 11, 12, 13, 14, 15, 16, 17, 18, 19, 20, 21, 22, 23, 24, 25, 26, 27, 28, 29, 30, 31], drop := [], keep := [] } .nil .nil) .nil .nil)) (.node 217 (.node 2 { forget := [2, 3, 4, 5, 6, 9, 10, 11, 12, 13, 14, 15, 16, 17, 18], drop := [], keep := [] } .nil .nil) (.node 216 (.node 2 { forget := [2, 3, 4, 6, 7, 8, 9, 10, 11, 12, 13, 14, 15, 16, 17], drop := [], keep := [] } .nil .nil) .nil .nil) .nil)))))
/-- Loops over iterators, and the loop within one. -/
noncomputable def hdMore (f r : Nat) : Option Hd := cond (Nat.beq f 146) (cond (Nat.beq r 5) (some { forget := [9, 10, 11, 12, 13, 14, 15, 16, 17, 18, 19, 20, 21, 22, 23, 24, 25, 26, 27, 28, 29, 30, 31, 32, 33, 34, 35, 36, 37, 38, 39, 40, 41, 42, 43, 44, 45, 46, 47, 48, 49, 50, 51, 52, 53, 54, 55, 56, 57, 58, 59, 60, 61, 62, 63, 64, 65, 66, 67, 68, 69, 70, 71, 72, 73, 74, 75, 76, 77, 78, 79, 80, 81, 82, 83, 84, 85, 86, 87, 88, 89, 90, 91, 92, 93, 94, 95, 96, 97, 98, 99, 100, 101], drop := [8, 9, 10, 15, 96], keep := [24, 31] }) (cond (Nat.beq r 12) (some { forget := [0, 3, 8, 9, 10, 11, 13, 14, 15, 16, 17, 18, 19, 20, 21, 22, 23, 24, 25, 26, 27, 28, 29, 30, 31, 32, 33, 34, 35, 36, 37, 38, 39, 40, 41, 42, 43, 44, 45, 46, 47, 48, 49, 50, 51, 52, 53, 56, 57, 58, 59, 60, 61, 62, 63, 64, 65, 66, 67, 68, 69, 70, 71, 72, 73, 74, 75, 76, 77, 78, 79, 80, 81, 82, 83, 84, 85, 86, 87, 88, 89, 90, 91, 92, 93, 94, 95, 96, 97, 98, 99, 100, 101], drop := [15], keep := [24, 31] }) none)) none
def makerOf (n : Nat) : Option (List PV → Option (Nat × List PV × Option (List PV) × List PV)) :=
  cond (Nat.beq n 102) (some fun | [.agg p, .agg s, .agg l, .fn g cs] => some (146, [.rp p 0], some s, [.rp [.fn g cs] 0, .rp l 0]) | _ => none)
    (cond (Nat.beq n 103) (some fun | [.sl _ ls xs] => some (148, [.rp [.sl none ls xs] 0], none, []) | _ => none) none)
def ysOf (f r : Nat) : Option Nat := cond (Nat.beq f 146) (cond (Nat.beq r 8) (some 1) (cond (Nat.beq r 20) (some 2) none)) (cond (Nat.beq f 148) (cond (Nat.beq r 3) (some 2) none) none)
noncomputable def hdOf (f r : Nat) : Hd := match hdMore f r with | some h => h | none => match hdTab.find f with | some t => (match t.find r with | some h => h | none => default) | none => default
noncomputable def envF (N : Nat) : Env := { fn := fun n => fnTab.find n, ty := fun t => tyTab.find t, own := fun n => [32].contains n, eq := fun t => [28, 38, 57, 98].contains t, ext := fun _ => none, loops := hdOf, maker := makerOf, ys := ysOf, fuel := N }
noncomputable def env : Env := envF 18446744073709551616
end Go.PewTab

namespace Go.PewTab
set_option linter.unusedSimpArgs false
set_option linter.unusedVariables false
open Go.Pew Go.Proofs
set_option maxRecDepth 100000

theorem tyOk3 : TyOk Try.prog 3 ty3 := tyOk_of Try.type3 Try.underlying3 (by kernel_rfl)
theorem tyOk4 : TyOk Try.prog 4 ty4 := tyOk_of Try.type4 Try.underlying4 (by kernel_rfl)
theorem tyOk5 : TyOk Try.prog 5 ty5 := tyOk_of Try.type5 Try.underlying5 (by kernel_rfl)
theorem tyOk9 : TyOk Try.prog 9 ty9 := tyOk_of Try.type9 Try.underlying9 (by kernel_rfl)
theorem tyOk22 : TyOk Try.prog 22 ty22 := tyOk_of Try.type22 Try.underlying22 (by kernel_rfl)
theorem tyOk24 : TyOk Try.prog 24 ty24 := tyOk_of Try.type24 Try.underlying24 (by kernel_rfl)
theorem tyOk26 : TyOk Try.prog 26 ty26 := tyOk_of Try.type26 Try.underlying26 (by kernel_rfl)
theorem tyOk28 : TyOk Try.prog 28 ty28 := tyOk_of Try.type28 Try.underlying28 (by kernel_rfl)
theorem tyOk34 : TyOk Try.prog 34 ty34 := tyOk_of Try.type34 Try.underlying34 (by kernel_rfl)
theorem tyOk38 : TyOk Try.prog 38 ty38 := tyOk_of Try.type38 Try.underlying38 (by kernel_rfl)
theorem tyOk42 : TyOk Try.prog 42 ty42 := tyOk_of Try.type42 Try.underlying42 (by kernel_rfl)
theorem tyOk52 : TyOk Try.prog 52 ty52 := tyOk_of Try.type52 Try.underlying52 (by kernel_rfl)
theorem tyOk53 : TyOk Try.prog 53 ty53 := tyOk_of Try.type53 Try.underlying53 (by kernel_rfl)
theorem tyOk55 : TyOk Try.prog 55 ty55 := tyOk_of Try.type55 Try.underlying55 (by kernel_rfl)
theorem tyOk57 : TyOk Try.prog 57 ty57 := tyOk_of Try.type57 Try.underlying57 (by kernel_rfl)
theorem tyOk73 : TyOk Try.prog 73 ty73 := tyOk_of Try.type73 Try.underlying73 (by kernel_rfl)
theorem tyOk75 : TyOk Try.prog 75 ty75 := tyOk_of Try.type75 Try.underlying75 (by kernel_rfl)
theorem tyOk79 : TyOk Try.prog 79 ty79 := tyOk_of Try.type79 Try.underlying79 (by kernel_rfl)
theorem tyOk81 : TyOk Try.prog 81 ty81 := tyOk_of Try.type81 Try.underlying81 (by kernel_rfl)
theorem tyOk82 : TyOk Try.prog 82 ty82 := tyOk_of Try.type82 Try.underlying82 (by kernel_rfl)
theorem tyOk84 : TyOk Try.prog 84 ty84 := tyOk_of Try.type84 Try.underlying84 (by kernel_rfl)
theorem tyOk86 : TyOk Try.prog 86 ty86 := tyOk_of Try.type86 Try.underlying86 (by kernel_rfl)
theorem tyOk91 : TyOk Try.prog 91 ty91 := tyOk_of Try.type91 Try.underlying91 (by kernel_rfl)
theorem tyOk98 : TyOk Try.prog 98 ty98 := tyOk_of Try.type98 Try.underlying98 (by kernel_rfl)
theorem tyOk107 : TyOk Try.prog 107 ty107 := tyOk_of Try.type107 Try.underlying107 (by kernel_rfl)
theorem tyOk109 : TyOk Try.prog 109 ty109 := tyOk_of Try.type109 Try.underlying109 (by kernel_rfl)
theorem tyOk110 : TyOk Try.prog 110 ty110 := tyOk_of Try.type110 Try.underlying110 (by kernel_rfl)
theorem tyOk112 : TyOk Try.prog 112 ty112 := tyOk_of Try.type112 Try.underlying112 (by kernel_rfl)
theorem tyOk114 : TyOk Try.prog 114 ty114 := tyOk_of Try.type114 Try.underlying114 (by kernel_rfl)
theorem tyOk116 : TyOk Try.prog 116 ty116 := tyOk_of Try.type116 Try.underlying116 (by kernel_rfl)
theorem tyOk130 : TyOk Try.prog 130 ty130 := tyOk_of Try.type130 Try.underlying130 (by kernel_rfl)
theorem tyOk132 : TyOk Try.prog 132 ty132 := tyOk_of Try.type132 Try.underlying132 (by kernel_rfl)
theorem tyOk136 : TyOk Try.prog 136 ty136 := tyOk_of Try.type136 Try.underlying136 (by kernel_rfl)
theorem tyOk142 : TyOk Try.prog 142 ty142 := tyOk_of Try.type142 Try.underlying142 (by kernel_rfl)
theorem tyOk146 : TyOk Try.prog 146 ty146 := tyOk_of Try.type146 Try.underlying146 (by kernel_rfl)
theorem tyOk159 : TyOk Try.prog 159 ty159 := tyOk_of Try.type159 Try.underlying159 (by kernel_rfl)
theorem tyOk160 : TyOk Try.prog 160 ty160 := tyOk_of Try.type160 Try.underlying160 (by kernel_rfl)
theorem tyOk162 : TyOk Try.prog 162 ty162 := tyOk_of Try.type162 Try.underlying162 (by kernel_rfl)
theorem tyOk172 : TyOk Try.prog 172 ty172 := tyOk_of Try.type172 Try.underlying172 (by kernel_rfl)
theorem tyOk180 : TyOk Try.prog 180 ty180 := tyOk_of Try.type180 Try.underlying180 (by kernel_rfl)
theorem tyOk185 : TyOk Try.prog 185 ty185 := tyOk_of Try.type185 Try.underlying185 (by kernel_rfl)
theorem tyOk187 : TyOk Try.prog 187 ty187 := tyOk_of Try.type187 Try.underlying187 (by kernel_rfl)
theorem tyOk188 : TyOk Try.prog 188 ty188 := tyOk_of Try.type188 Try.underlying188 (by kernel_rfl)
theorem tyOk190 : TyOk Try.prog 190 ty190 := tyOk_of Try.type190 Try.underlying190 (by kernel_rfl)
theorem tyOk192 : TyOk Try.prog 192 ty192 := tyOk_of Try.type192 Try.underlying192 (by kernel_rfl)
theorem tyOk199 : TyOk Try.prog 199 ty199 := tyOk_of Try.type199 Try.underlying199 (by kernel_rfl)
theorem tyOk201 : TyOk Try.prog 201 ty201 := tyOk_of Try.type201 Try.underlying201 (by kernel_rfl)
theorem tyOk210 : TyOk Try.prog 210 ty210 := tyOk_of Try.type210 Try.underlying210 (by kernel_rfl)
theorem tyOk216 : TyOk Try.prog 216 ty216 := tyOk_of Try.type216 Try.underlying216 (by kernel_rfl)
theorem tyOk221 : TyOk Try.prog 221 ty221 := tyOk_of Try.type221 Try.underlying221 (by kernel_rfl)
theorem tyOk225 : TyOk Try.prog 225 ty225 := tyOk_of Try.type225 Try.underlying225 (by kernel_rfl)
theorem tyOk226 : TyOk Try.prog 226 ty226 := tyOk_of Try.type226 Try.underlying226 (by kernel_rfl)
theorem tyOk232 : TyOk Try.prog 232 ty232 := tyOk_of Try.type232 Try.underlying232 (by kernel_rfl)
theorem tyOk233 : TyOk Try.prog 233 ty233 := tyOk_of Try.type233 Try.underlying233 (by kernel_rfl)
theorem tyOk234 : TyOk Try.prog 234 ty234 := tyOk_of Try.type234 Try.underlying234 (by kernel_rfl)
theorem tyOk235 : TyOk Try.prog 235 ty235 := tyOk_of Try.type235 Try.underlying235 (by kernel_rfl)
theorem tyOk238 : TyOk Try.prog 238 ty238 := tyOk_of Try.type238 Try.underlying238 (by kernel_rfl)
theorem tyOk240 : TyOk Try.prog 240 ty240 := tyOk_of Try.type240 Try.underlying240 (by kernel_rfl)
theorem tyOk248 : TyOk Try.prog 248 ty248 := tyOk_of Try.type248 Try.underlying248 (by kernel_rfl)
theorem tyOk250 : TyOk Try.prog 250 ty250 := tyOk_of Try.type250 Try.underlying250 (by kernel_rfl)
theorem tyOk255 : TyOk Try.prog 255 ty255 := tyOk_of Try.type255 Try.underlying255 (by kernel_rfl)
theorem tyOk260 : TyOk Try.prog 260 ty260 := tyOk_of Try.type260 Try.underlying260 (by kernel_rfl)
theorem tyOk262 : TyOk Try.prog 262 ty262 := tyOk_of Try.type262 Try.underlying262 (by kernel_rfl)
theorem tyOk269 : TyOk Try.prog 269 ty269 := tyOk_of Try.type269 Try.underlying269 (by kernel_rfl)
theorem tyOk275 : TyOk Try.prog 275 ty275 := tyOk_of Try.type275 Try.underlying275 (by kernel_rfl)
theorem tyOk278 : TyOk Try.prog 278 ty278 := tyOk_of Try.type278 Try.underlying278 (by kernel_rfl)
theorem tyOk280 : TyOk Try.prog 280 ty280 := tyOk_of Try.type280 Try.underlying280 (by kernel_rfl)
theorem tyOk286 : TyOk Try.prog 286 ty286 := tyOk_of Try.type286 Try.underlying286 (by kernel_rfl)
theorem tyOk287 : TyOk Try.prog 287 ty287 := tyOk_of Try.type287 Try.underlying287 (by kernel_rfl)
theorem tyOk290 : TyOk Try.prog 290 ty290 := tyOk_of Try.type290 Try.underlying290 (by kernel_rfl)
theorem fnOk3 : fnCheck Try.f3 = true := by kernel_rfl
theorem fnOk4 : fnCheck Try.f4 = true := by kernel_rfl
theorem fnOk5 : fnCheck Try.f5 = true := by kernel_rfl
theorem fnOk6 : fnCheck Try.f6 = true := by kernel_rfl
theorem fnOk7 : fnCheck Try.f7 = true := by kernel_rfl
theorem fnOk8 : fnCheck Try.f8 = true := by kernel_rfl
theorem fnOk9 : fnCheck Try.f9 = true := by kernel_rfl
theorem fnOk10 : fnCheck Try.f10 = true := by kernel_rfl
theorem fnOk11 : fnCheck Try.f11 = true := by kernel_rfl
theorem fnOk12 : fnCheck Try.f12 = true := by kernel_rfl
theorem fnOk13 : fnCheck Try.f13 = true := by kernel_rfl
theorem fnOk14 : fnCheck Try.f14 = true := by kernel_rfl
theorem fnOk15 : fnCheck Try.f15 = true := by kernel_rfl
theorem fnOk16 : fnCheck Try.f16 = true := by kernel_rfl
theorem fnOk17 : fnCheck Try.f17 = true := by kernel_rfl
theorem fnOk18 : fnCheck Try.f18 = true := by kernel_rfl
theorem fnOk19 : fnCheck Try.f19 = true := by kernel_rfl
theorem fnOk20 : fnCheck Try.f20 = true := by kernel_rfl
theorem fnOk21 : fnCheck Try.f21 = true := by kernel_rfl
theorem fnOk22 : fnCheck Try.f22 = true := by kernel_rfl
theorem fnOk23 : fnCheck Try.f23 = true := by kernel_rfl
theorem fnOk24 : fnCheck Try.f24 = true := by kernel_rfl
theorem fnOk25 : fnCheck Try.f25 = true := by kernel_rfl
theorem fnOk26 : fnCheck Try.f26 = true := by kernel_rfl
theorem fnOk27 : fnCheck Try.f27 = true := by kernel_rfl
theorem fnOk28 : fnCheck Try.f28 = true := by kernel_rfl
theorem fnOk29 : fnCheck Try.f29 = true := by kernel_rfl
theorem fnOk30 : fnCheck Try.f30 = true := by kernel_rfl
theorem fnOk31 : fnCheck Try.f31 = true := by kernel_rfl
theorem fnOk32 : fnCheck Try.f32 = true := by kernel_rfl
theorem fnOk33 : fnCheck Try.f33 = true := by kernel_rfl
theorem fnOk34 : fnCheck Try.f34 = true := by kernel_rfl
theorem fnOk35 : fnCheck Try.f35 = true := by kernel_rfl
theorem fnOk36 : fnCheck Try.f36 = true := by kernel_rfl
theorem fnOk37 : fnCheck Try.f37 = true := by kernel_rfl
theorem fnOk38 : fnCheck Try.f38 = true := by kernel_rfl
theorem fnOk39 : fnCheck Try.f39 = true := by kernel_rfl
theorem fnOk40 : fnCheck Try.f40 = true := by kernel_rfl
theorem fnOk41 : fnCheck Try.f41 = true := by kernel_rfl
theorem fnOk42 : fnCheck Try.f42 = true := by kernel_rfl
theorem fnOk43 : fnCheck Try.f43 = true := by kernel_rfl
theorem fnOk44 : fnCheck Try.f44 = true := by kernel_rfl
theorem fnOk45 : fnCheck Try.f45 = true := by kernel_rfl
theorem fnOk46 : fnCheck Try.f46 = true := by kernel_rfl
theorem fnOk47 : fnCheck Try.f47 = true := by kernel_rfl
theorem fnOk48 : fnCheck Try.f48 = true := by kernel_rfl
theorem fnOk49 : fnCheck Try.f49 = true := by kernel_rfl
theorem fnOk50 : fnCheck Try.f50 = true := by kernel_rfl
theorem fnOk51 : fnCheck Try.f51 = true := by kernel_rfl
theorem fnOk52 : fnCheck Try.f52 = true := by kernel_rfl
theorem fnOk53 : fnCheck Try.f53 = true := by kernel_rfl
theorem fnOk54 : fnCheck Try.f54 = true := by kernel_rfl
theorem fnOk55 : fnCheck Try.f55 = true := by kernel_rfl
theorem fnOk56 : fnCheck Try.f56 = true := by kernel_rfl
theorem fnOk57 : fnCheck Try.f57 = true := by kernel_rfl
theorem fnOk58 : fnCheck Try.f58 = true := by kernel_rfl
theorem fnOk59 : fnCheck Try.f59 = true := by kernel_rfl
theorem fnOk60 : fnCheck Try.f60 = true := by kernel_rfl
theorem fnOk61 : fnCheck Try.f61 = true := by kernel_rfl
theorem fnOk62 : fnCheck Try.f62 = true := by kernel_rfl
theorem fnOk63 : fnCheck Try.f63 = true := by kernel_rfl
theorem fnOk64 : fnCheck Try.f64 = true := by kernel_rfl
theorem fnOk65 : fnCheck Try.f65 = true := by kernel_rfl
theorem fnOk66 : fnCheck Try.f66 = true := by kernel_rfl
theorem fnOk67 : fnCheck Try.f67 = true := by kernel_rfl
theorem fnOk68 : fnCheck Try.f68 = true := by kernel_rfl
theorem fnOk69 : fnCheck Try.f69 = true := by kernel_rfl
theorem fnOk70 : fnCheck Try.f70 = true := by kernel_rfl
theorem fnOk71 : fnCheck Try.f71 = true := by kernel_rfl
theorem fnOk72 : fnCheck Try.f72 = true := by kernel_rfl
theorem fnOk73 : fnCheck Try.f73 = true := by kernel_rfl
theorem fnOk74 : fnCheck Try.f74 = true := by kernel_rfl
theorem fnOk75 : fnCheck Try.f75 = true := by kernel_rfl
theorem fnOk76 : fnCheck Try.f76 = true := by kernel_rfl
theorem fnOk77 : fnCheck Try.f77 = true := by kernel_rfl
theorem fnOk78 : fnCheck Try.f78 = true := by kernel_rfl
theorem fnOk79 : fnCheck Try.f79 = true := by kernel_rfl
theorem fnOk80 : fnCheck Try.f80 = true := by kernel_rfl
theorem fnOk81 : fnCheck Try.f81 = true := by kernel_rfl
theorem fnOk82 : fnCheck Try.f82 = true := by kernel_rfl
theorem fnOk83 : fnCheck Try.f83 = true := by kernel_rfl
theorem fnOk84 : fnCheck Try.f84 = true := by kernel_rfl
theorem fnOk85 : fnCheck Try.f85 = true := by kernel_rfl
theorem fnOk86 : fnCheck Try.f86 = true := by kernel_rfl
theorem fnOk87 : fnCheck Try.f87 = true := by kernel_rfl
theorem fnOk88 : fnCheck Try.f88 = true := by kernel_rfl
theorem fnOk89 : fnCheck Try.f89 = true := by kernel_rfl
theorem fnOk90 : fnCheck Try.f90 = true := by kernel_rfl
theorem fnOk91 : fnCheck Try.f91 = true := by kernel_rfl
theorem fnOk92 : fnCheck Try.f92 = true := by kernel_rfl
theorem fnOk93 : fnCheck Try.f93 = true := by kernel_rfl
theorem fnOk94 : fnCheck Try.f94 = true := by kernel_rfl
theorem fnOk95 : fnCheck Try.f95 = true := by kernel_rfl
theorem fnOk96 : fnCheck Try.f96 = true := by kernel_rfl
theorem fnOk97 : fnCheck Try.f97 = true := by kernel_rfl
theorem fnOk98 : fnCheck Try.f98 = true := by kernel_rfl
theorem fnOk99 : fnCheck Try.f99 = true := by kernel_rfl
theorem fnOk100 : fnCheck Try.f100 = true := by kernel_rfl
theorem fnOk101 : fnCheck Try.f101 = true := by kernel_rfl
theorem fnOk102 : fnCheck Try.f102 = true := by kernel_rfl
theorem fnOk103 : fnCheck Try.f103 = true := by kernel_rfl
theorem fnOk104 : fnCheck Try.f104 = true := by kernel_rfl
theorem fnOk105 : fnCheck Try.f105 = true := by kernel_rfl
theorem fnOk106 : fnCheck Try.f106 = true := by kernel_rfl
theorem fnOk107 : fnCheck Try.f107 = true := by kernel_rfl
theorem fnOk108 : fnCheck Try.f108 = true := by kernel_rfl
theorem fnOk109 : fnCheck Try.f109 = true := by kernel_rfl
theorem fnOk110 : fnCheck Try.f110 = true := by kernel_rfl
theorem fnOk111 : fnCheck Try.f111 = true := by kernel_rfl
theorem fnOk112 : fnCheck Try.f112 = true := by kernel_rfl
theorem fnOk113 : fnCheck Try.f113 = true := by kernel_rfl
theorem fnOk114 : fnCheck Try.f114 = true := by kernel_rfl
theorem fnOk115 : fnCheck Try.f115 = true := by kernel_rfl
theorem fnOk116 : fnCheck Try.f116 = true := by kernel_rfl
theorem fnOk117 : fnCheck Try.f117 = true := by kernel_rfl
theorem fnOk118 : fnCheck Try.f118 = true := by kernel_rfl
theorem fnOk119 : fnCheck Try.f119 = true := by kernel_rfl
theorem fnOk120 : fnCheck Try.f120 = true := by kernel_rfl
theorem fnOk121 : fnCheck Try.f121 = true := by kernel_rfl
theorem fnOk122 : fnCheck Try.f122 = true := by kernel_rfl
theorem fnOk123 : fnCheck Try.f123 = true := by kernel_rfl
theorem fnOk124 : fnCheck Try.f124 = true := by kernel_rfl
theorem fnOk125 : fnCheck Try.f125 = true := by kernel_rfl
theorem fnOk126 : fnCheck Try.f126 = true := by kernel_rfl
theorem fnOk127 : fnCheck Try.f127 = true := by kernel_rfl
theorem fnOk128 : fnCheck Try.f128 = true := by kernel_rfl
theorem fnOk129 : fnCheck Try.f129 = true := by kernel_rfl
theorem fnOk130 : fnCheck Try.f130 = true := by kernel_rfl
theorem fnOk131 : fnCheck Try.f131 = true := by kernel_rfl
theorem fnOk132 : fnCheck Try.f132 = true := by kernel_rfl
theorem fnOk133 : fnCheck Try.f133 = true := by kernel_rfl
theorem fnOk134 : fnCheck Try.f134 = true := by kernel_rfl
theorem fnOk135 : fnCheck Try.f135 = true := by kernel_rfl
theorem fnOk136 : fnCheck Try.f136 = true := by kernel_rfl
theorem fnOk137 : fnCheck Try.f137 = true := by kernel_rfl
theorem fnOk138 : fnCheck Try.f138 = true := by kernel_rfl
theorem fnOk139 : fnCheck Try.f139 = true := by kernel_rfl
theorem fnOk140 : fnCheck Try.f140 = true := by kernel_rfl
theorem fnOk141 : fnCheck Try.f141 = true := by kernel_rfl
theorem fnOk142 : fnCheck Try.f142 = true := by kernel_rfl
theorem fnOk143 : fnCheck Try.f143 = true := by kernel_rfl
theorem fnOk144 : fnCheck Try.f144 = true := by kernel_rfl
theorem fnOk145 : fnCheck Try.f145 = true := by kernel_rfl
theorem fnOk146 : fnCheck Try.f146 = true := by kernel_rfl
theorem fnOk147 : fnCheck Try.f147 = true := by kernel_rfl
theorem fnOk148 : fnCheck Try.f148 = true := by kernel_rfl
theorem fnOk149 : fnCheck Try.f149 = true := by kernel_rfl
theorem fnOk150 : fnCheck Try.f150 = true := by kernel_rfl
theorem fnOk151 : fnCheck Try.f151 = true := by kernel_rfl
theorem fnOk152 : fnCheck Try.f152 = true := by kernel_rfl
theorem fnOk153 : fnCheck Try.f153 = true := by kernel_rfl
theorem fnOk154 : fnCheck Try.f154 = true := by kernel_rfl
theorem fnOk155 : fnCheck Try.f155 = true := by kernel_rfl
theorem fnOk156 : fnCheck Try.f156 = true := by kernel_rfl
theorem fnOk157 : fnCheck Try.f157 = true := by kernel_rfl
theorem fnOk158 : fnCheck Try.f158 = true := by kernel_rfl
theorem fnOk159 : fnCheck Try.f159 = true := by kernel_rfl
theorem fnOk160 : fnCheck Try.f160 = true := by kernel_rfl
theorem fnOk161 : fnCheck Try.f161 = true := by kernel_rfl
theorem fnOk162 : fnCheck Try.f162 = true := by kernel_rfl
theorem fnOk163 : fnCheck Try.f163 = true := by kernel_rfl
theorem fnOk164 : fnCheck Try.f164 = true := by kernel_rfl
theorem fnOk165 : fnCheck Try.f165 = true := by kernel_rfl
theorem fnOk166 : fnCheck Try.f166 = true := by kernel_rfl
theorem fnOk167 : fnCheck Try.f167 = true := by kernel_rfl
theorem fnOk168 : fnCheck Try.f168 = true := by kernel_rfl
theorem fnOk169 : fnCheck Try.f169 = true := by kernel_rfl
theorem fnOk170 : fnCheck Try.f170 = true := by kernel_rfl
theorem fnOk171 : fnCheck Try.f171 = true := by kernel_rfl
theorem fnOk172 : fnCheck Try.f172 = true := by kernel_rfl
theorem fnOk173 : fnCheck Try.f173 = true := by kernel_rfl
theorem fnOk174 : fnCheck Try.f174 = true := by kernel_rfl
theorem fnOk175 : fnCheck Try.f175 = true := by kernel_rfl
theorem fnOk176 : fnCheck Try.f176 = true := by kernel_rfl
theorem fnOk177 : fnCheck Try.f177 = true := by kernel_rfl
theorem fnOk178 : fnCheck Try.f178 = true := by kernel_rfl
theorem fnOk179 : fnCheck Try.f179 = true := by kernel_rfl
theorem fnOk180 : fnCheck Try.f180 = true := by kernel_rfl
theorem fnOk181 : fnCheck Try.f181 = true := by kernel_rfl
theorem fnOk182 : fnCheck Try.f182 = true := by kernel_rfl
theorem fnOk183 : fnCheck Try.f183 = true := by kernel_rfl
theorem fnOk184 : fnCheck Try.f184 = true := by kernel_rfl
theorem fnOk185 : fnCheck Try.f185 = true := by kernel_rfl
theorem fnOk186 : fnCheck Try.f186 = true := by kernel_rfl
theorem fnOk187 : fnCheck Try.f187 = true := by kernel_rfl
theorem fnOk188 : fnCheck Try.f188 = true := by kernel_rfl
theorem fnOk189 : fnCheck Try.f189 = true := by kernel_rfl
theorem fnOk190 : fnCheck Try.f190 = true := by kernel_rfl
theorem fnOk191 : fnCheck Try.f191 = true := by kernel_rfl
theorem fnOk192 : fnCheck Try.f192 = true := by kernel_rfl
theorem fnOk193 : fnCheck Try.f193 = true := by kernel_rfl
theorem fnOk194 : fnCheck Try.f194 = true := by kernel_rfl
theorem fnOk195 : fnCheck Try.f195 = true := by kernel_rfl
theorem fnOk196 : fnCheck Try.f196 = true := by kernel_rfl
theorem fnOk197 : fnCheck Try.f197 = true := by kernel_rfl
theorem fnOk198 : fnCheck Try.f198 = true := by kernel_rfl
theorem fnOk199 : fnCheck Try.f199 = true := by kernel_rfl
theorem fnOk200 : fnCheck Try.f200 = true := by kernel_rfl
theorem fnOk201 : fnCheck Try.f201 = true := by kernel_rfl
theorem fnOk202 : fnCheck Try.f202 = true := by kernel_rfl
theorem fnOk203 : fnCheck Try.f203 = true := by kernel_rfl
theorem fnOk204 : fnCheck Try.f204 = true := by kernel_rfl
theorem fnOk205 : fnCheck Try.f205 = true := by kernel_rfl
theorem fnOk206 : fnCheck Try.f206 = true := by kernel_rfl
theorem fnOk207 : fnCheck Try.f207 = true := by kernel_rfl
theorem fnOk208 : fnCheck Try.f208 = true := by kernel_rfl
theorem fnOk209 : fnCheck Try.f209 = true := by kernel_rfl
theorem fnOk210 : fnCheck Try.f210 = true := by kernel_rfl
theorem fnOk211 : fnCheck Try.f211 = true := by kernel_rfl
theorem fnOk212 : fnCheck Try.f212 = true := by kernel_rfl
theorem fnOk213 : fnCheck Try.f213 = true := by kernel_rfl
theorem fnOk214 : fnCheck Try.f214 = true := by kernel_rfl
theorem fnOk215 : fnCheck Try.f215 = true := by kernel_rfl
theorem fnOk216 : fnCheck Try.f216 = true := by kernel_rfl
theorem fnOk217 : fnCheck Try.f217 = true := by kernel_rfl
theorem fnOk218 : fnCheck Try.f218 = true := by kernel_rfl
theorem fnOk219 : fnCheck Try.f219 = true := by kernel_rfl
theorem tyAll : tyTab.All fun t ti => TyOk Try.prog t ti := ⟨tyOk159, ⟨tyOk79, ⟨tyOk34, ⟨tyOk22, ⟨tyOk5, ⟨tyOk4, ⟨tyOk3, trivial, trivial⟩, trivial⟩, ⟨tyOk9, trivial, trivial⟩⟩, ⟨tyOk26, ⟨tyOk24, trivial, trivial⟩, ⟨tyOk28, trivial, trivial⟩⟩⟩, ⟨tyOk55, ⟨tyOk52, ⟨tyOk42, ⟨tyOk38, trivial, trivial⟩, trivial⟩, ⟨tyOk53, trivial, trivial⟩⟩, ⟨tyOk73, ⟨tyOk57, trivial, trivial⟩, ⟨tyOk75, trivial, trivial⟩⟩⟩⟩, ⟨tyOk110, ⟨tyOk91, ⟨tyOk84, ⟨tyOk82, ⟨tyOk81, trivial, trivial⟩, trivial⟩, ⟨tyOk86, trivial, trivial⟩⟩, ⟨tyOk107, ⟨tyOk98, trivial, trivial⟩, ⟨tyOk109, trivial, trivial⟩⟩⟩, ⟨tyOk132, ⟨tyOk116, ⟨tyOk114, ⟨tyOk112, trivial, trivial⟩, trivial⟩, ⟨tyOk130, trivial, trivial⟩⟩, ⟨tyOk142, ⟨tyOk136, trivial, trivial⟩, ⟨tyOk146, trivial, trivial⟩⟩⟩⟩⟩, ⟨tyOk233, ⟨tyOk192, ⟨tyOk185, ⟨tyOk172, ⟨tyOk162, ⟨tyOk160, trivial, trivial⟩, trivial⟩, ⟨tyOk180, trivial, trivial⟩⟩, ⟨tyOk188, ⟨tyOk187, trivial, trivial⟩, ⟨tyOk190, trivial, trivial⟩⟩⟩, ⟨tyOk221, ⟨tyOk210, ⟨tyOk201, ⟨tyOk199, trivial, trivial⟩, trivial⟩, ⟨tyOk216, trivial, trivial⟩⟩, ⟨tyOk226, ⟨tyOk225, trivial, trivial⟩, ⟨tyOk232, trivial, trivial⟩⟩⟩⟩, ⟨tyOk262, ⟨tyOk248, ⟨tyOk238, ⟨tyOk235, ⟨tyOk234, trivial, trivial⟩, trivial⟩, ⟨tyOk240, trivial, trivial⟩⟩, ⟨tyOk255, ⟨tyOk250, trivial, trivial⟩, ⟨tyOk260, trivial, trivial⟩⟩⟩, ⟨tyOk280, ⟨tyOk275, ⟨tyOk269, trivial, trivial⟩, ⟨tyOk278, trivial, trivial⟩⟩, ⟨tyOk287, ⟨tyOk286, trivial, trivial⟩, ⟨tyOk290, trivial, trivial⟩⟩⟩⟩⟩⟩
theorem fnAll : fnTab.All fun f fn => Try.prog.funcs[f]? = some fn ∧ fnCheck fn = true := ⟨⟨Try.func111, fnOk111⟩, ⟨⟨Try.func57, fnOk57⟩, ⟨⟨Try.func30, fnOk30⟩, ⟨⟨Try.func16, fnOk16⟩, ⟨⟨Try.func9, fnOk9⟩, ⟨⟨Try.func6, fnOk6⟩, ⟨⟨Try.func4, fnOk4⟩, ⟨⟨Try.func3, fnOk3⟩, trivial, trivial⟩, ⟨⟨Try.func5, fnOk5⟩, trivial, trivial⟩⟩, ⟨⟨Try.func8, fnOk8⟩, ⟨⟨Try.func7, fnOk7⟩, trivial, trivial⟩, trivial⟩⟩, ⟨⟨Try.func13, fnOk13⟩, ⟨⟨Try.func11, fnOk11⟩, ⟨⟨Try.func10, fnOk10⟩, trivial, trivial⟩, ⟨⟨Try.func12, fnOk12⟩, trivial, trivial⟩⟩, ⟨⟨Try.func15, fnOk15⟩, ⟨⟨Try.func14, fnOk14⟩, trivial, trivial⟩, trivial⟩⟩⟩, ⟨⟨Try.func23, fnOk23⟩, ⟨⟨Try.func20, fnOk20⟩, ⟨⟨Try.func18, fnOk18⟩, ⟨⟨Try.func17, fnOk17⟩, trivial, trivial⟩, ⟨⟨Try.func19, fnOk19⟩, trivial, trivial⟩⟩, ⟨⟨Try.func22, fnOk22⟩, ⟨⟨Try.func21, fnOk21⟩, trivial, trivial⟩, trivial⟩⟩, ⟨⟨Try.func27, fnOk27⟩, ⟨⟨Try.func25, fnOk25⟩, ⟨⟨Try.func24, fnOk24⟩, trivial, trivial⟩, ⟨⟨Try.func26, fnOk26⟩, trivial, trivial⟩⟩, ⟨⟨Try.func29, fnOk29⟩, ⟨⟨Try.func28, fnOk28⟩, trivial, trivial⟩, trivial⟩⟩⟩⟩, ⟨⟨Try.func44, fnOk44⟩, ⟨⟨Try.func37, fnOk37⟩, ⟨⟨Try.func34, fnOk34⟩, ⟨⟨Try.func32, fnOk32⟩, ⟨⟨Try.func31, fnOk31⟩, trivial, trivial⟩, ⟨⟨Try.func33, fnOk33⟩, trivial, trivial⟩⟩, ⟨⟨Try.func36, fnOk36⟩, ⟨⟨Try.func35, fnOk35⟩, trivial, trivial⟩, trivial⟩⟩, ⟨⟨Try.func41, fnOk41⟩, ⟨⟨Try.func39, fnOk39⟩, ⟨⟨Try.func38, fnOk38⟩, trivial, trivial⟩, ⟨⟨Try.func40, fnOk40⟩, trivial, trivial⟩⟩, ⟨⟨Try.func43, fnOk43⟩, ⟨⟨Try.func42, fnOk42⟩, trivial, trivial⟩, trivial⟩⟩⟩, ⟨⟨Try.func51, fnOk51⟩, ⟨⟨Try.func48, fnOk48⟩, ⟨⟨Try.func46, fnOk46⟩, ⟨⟨Try.func45, fnOk45⟩, trivial, trivial⟩, ⟨⟨Try.func47, fnOk47⟩, trivial, trivial⟩⟩, ⟨⟨Try.func50, fnOk50⟩, ⟨⟨Try.func49, fnOk49⟩, trivial, trivial⟩, trivial⟩⟩, ⟨⟨Try.func54, fnOk54⟩, ⟨⟨Try.func53, fnOk53⟩, ⟨⟨Try.func52, fnOk52⟩, trivial, trivial⟩, trivial⟩, ⟨⟨Try.func56, fnOk56⟩, ⟨⟨Try.func55, fnOk55⟩, trivial, trivial⟩, trivial⟩⟩⟩⟩⟩, ⟨⟨Try.func84, fnOk84⟩, ⟨⟨Try.func71, fnOk71⟩, ⟨⟨Try.func64, fnOk64⟩, ⟨⟨Try.func61, fnOk61⟩, ⟨⟨Try.func59, fnOk59⟩, ⟨⟨Try.func58, fnOk58⟩, trivial, trivial⟩, ⟨⟨Try.func60, fnOk60⟩, trivial, trivial⟩⟩, ⟨⟨Try.func63, fnOk63⟩, ⟨⟨Try.func62, fnOk62⟩, trivial, trivial⟩, trivial⟩⟩, ⟨⟨Try.func68, fnOk68⟩, ⟨⟨Try.func66, fnOk66⟩, ⟨⟨Try.func65, fnOk65⟩, trivial, trivial⟩, ⟨⟨Try.func67, fnOk67⟩, trivial, trivial⟩⟩, ⟨⟨Try.func70, fnOk70⟩, ⟨⟨Try.func69, fnOk69⟩, trivial, trivial⟩, trivial⟩⟩⟩, ⟨⟨Try.func78, fnOk78⟩, ⟨⟨Try.func75, fnOk75⟩, ⟨⟨Try.func73, fnOk73⟩, ⟨⟨Try.func72, fnOk72⟩, trivial, trivial⟩, ⟨⟨Try.func74, fnOk74⟩, trivial, trivial⟩⟩, ⟨⟨Try.func77, fnOk77⟩, ⟨⟨Try.func76, fnOk76⟩, trivial, trivial⟩, trivial⟩⟩, ⟨⟨Try.func81, fnOk81⟩, ⟨⟨Try.func80, fnOk80⟩, ⟨⟨Try.func79, fnOk79⟩, trivial, trivial⟩, trivial⟩, ⟨⟨Try.func83, fnOk83⟩, ⟨⟨Try.func82, fnOk82⟩, trivial, trivial⟩, trivial⟩⟩⟩⟩, ⟨⟨Try.func98, fnOk98⟩, ⟨⟨Try.func91, fnOk91⟩, ⟨⟨Try.func88, fnOk88⟩, ⟨⟨Try.func86, fnOk86⟩, ⟨⟨Try.func85, fnOk85⟩, trivial, trivial⟩, ⟨⟨Try.func87, fnOk87⟩, trivial, trivial⟩⟩, ⟨⟨Try.func90, fnOk90⟩, ⟨⟨Try.func89, fnOk89⟩, trivial, trivial⟩, trivial⟩⟩, ⟨⟨Try.func95, fnOk95⟩, ⟨⟨Try.func93, fnOk93⟩, ⟨⟨Try.func92, fnOk92⟩, trivial, trivial⟩, ⟨⟨Try.func94, fnOk94⟩, trivial, trivial⟩⟩, ⟨⟨Try.func97, fnOk97⟩, ⟨⟨Try.func96, fnOk96⟩, trivial, trivial⟩, trivial⟩⟩⟩, ⟨⟨Try.func105, fnOk105⟩, ⟨⟨Try.func102, fnOk102⟩, ⟨⟨Try.func100, fnOk100⟩, ⟨⟨Try.func99, fnOk99⟩, trivial, trivial⟩, ⟨⟨Try.func101, fnOk101⟩, trivial, trivial⟩⟩, ⟨⟨Try.func104, fnOk104⟩, ⟨⟨Try.func103, fnOk103⟩, trivial, trivial⟩, trivial⟩⟩, ⟨⟨Try.func108, fnOk108⟩, ⟨⟨Try.func107, fnOk107⟩, ⟨⟨Try.func106, fnOk106⟩, trivial, trivial⟩, trivial⟩, ⟨⟨Try.func110, fnOk110⟩, ⟨⟨Try.func109, fnOk109⟩, trivial, trivial⟩, trivial⟩⟩⟩⟩⟩⟩, ⟨⟨Try.func166, fnOk166⟩, ⟨⟨Try.func139, fnOk139⟩, ⟨⟨Try.func125, fnOk125⟩, ⟨⟨Try.func118, fnOk118⟩, ⟨⟨Try.func115, fnOk115⟩, ⟨⟨Try.func113, fnOk113⟩, ⟨⟨Try.func112, fnOk112⟩, trivial, trivial⟩, ⟨⟨Try.func114, fnOk114⟩, trivial, trivial⟩⟩, ⟨⟨Try.func117, fnOk117⟩, ⟨⟨Try.func116, fnOk116⟩, trivial, trivial⟩, trivial⟩⟩, ⟨⟨Try.func122, fnOk122⟩, ⟨⟨Try.func120, fnOk120⟩, ⟨⟨Try.func119, fnOk119⟩, trivial, trivial⟩, ⟨⟨Try.func121, fnOk121⟩, trivial, trivial⟩⟩, ⟨⟨Try.func124, fnOk124⟩, ⟨⟨Try.func123, fnOk123⟩, trivial, trivial⟩, trivial⟩⟩⟩, ⟨⟨Try.func132, fnOk132⟩, ⟨⟨Try.func129, fnOk129⟩, ⟨⟨Try.func127, fnOk127⟩, ⟨⟨Try.func126, fnOk126⟩, trivial, trivial⟩, ⟨⟨Try.func128, fnOk128⟩, trivial, trivial⟩⟩, ⟨⟨Try.func131, fnOk131⟩, ⟨⟨Try.func130, fnOk130⟩, trivial, trivial⟩, trivial⟩⟩, ⟨⟨Try.func136, fnOk136⟩, ⟨⟨Try.func134, fnOk134⟩, ⟨⟨Try.func133, fnOk133⟩, trivial, trivial⟩, ⟨⟨Try.func135, fnOk135⟩, trivial, trivial⟩⟩, ⟨⟨Try.func138, fnOk138⟩, ⟨⟨Try.func137, fnOk137⟩, trivial, trivial⟩, trivial⟩⟩⟩⟩, ⟨⟨Try.func153, fnOk153⟩, ⟨⟨Try.func146, fnOk146⟩, ⟨⟨Try.func143, fnOk143⟩, ⟨⟨Try.func141, fnOk141⟩, ⟨⟨Try.func140, fnOk140⟩, trivial, trivial⟩, ⟨⟨Try.func142, fnOk142⟩, trivial, trivial⟩⟩, ⟨⟨Try.func145, fnOk145⟩, ⟨⟨Try.func144, fnOk144⟩, trivial, trivial⟩, trivial⟩⟩, ⟨⟨Try.func150, fnOk150⟩, ⟨⟨Try.func148, fnOk148⟩, ⟨⟨Try.func147, fnOk147⟩, trivial, trivial⟩, ⟨⟨Try.func149, fnOk149⟩, trivial, trivial⟩⟩, ⟨⟨Try.func152, fnOk152⟩, ⟨⟨Try.func151, fnOk151⟩, trivial, trivial⟩, trivial⟩⟩⟩, ⟨⟨Try.func160, fnOk160⟩, ⟨⟨Try.func157, fnOk157⟩, ⟨⟨Try.func155, fnOk155⟩, ⟨⟨Try.func154, fnOk154⟩, trivial, trivial⟩, ⟨⟨Try.func156, fnOk156⟩, trivial, trivial⟩⟩, ⟨⟨Try.func159, fnOk159⟩, ⟨⟨Try.func158, fnOk158⟩, trivial, trivial⟩, trivial⟩⟩, ⟨⟨Try.func163, fnOk163⟩, ⟨⟨Try.func162, fnOk162⟩, ⟨⟨Try.func161, fnOk161⟩, trivial, trivial⟩, trivial⟩, ⟨⟨Try.func165, fnOk165⟩, ⟨⟨Try.func164, fnOk164⟩, trivial, trivial⟩, trivial⟩⟩⟩⟩⟩, ⟨⟨Try.func193, fnOk193⟩, ⟨⟨Try.func180, fnOk180⟩, ⟨⟨Try.func173, fnOk173⟩, ⟨⟨Try.func170, fnOk170⟩, ⟨⟨Try.func168, fnOk168⟩, ⟨⟨Try.func167, fnOk167⟩, trivial, trivial⟩, ⟨⟨Try.func169, fnOk169⟩, trivial, trivial⟩⟩, ⟨⟨Try.func172, fnOk172⟩, ⟨⟨Try.func171, fnOk171⟩, trivial, trivial⟩, trivial⟩⟩, ⟨⟨Try.func177, fnOk177⟩, ⟨⟨Try.func175, fnOk175⟩, ⟨⟨Try.func174, fnOk174⟩, trivial, trivial⟩, ⟨⟨Try.func176, fnOk176⟩, trivial, trivial⟩⟩, ⟨⟨Try.func179, fnOk179⟩, ⟨⟨Try.func178, fnOk178⟩, trivial, trivial⟩, trivial⟩⟩⟩, ⟨⟨Try.func187, fnOk187⟩, ⟨⟨Try.func184, fnOk184⟩, ⟨⟨Try.func182, fnOk182⟩, ⟨⟨Try.func181, fnOk181⟩, trivial, trivial⟩, ⟨⟨Try.func183, fnOk183⟩, trivial, trivial⟩⟩, ⟨⟨Try.func186, fnOk186⟩, ⟨⟨Try.func185, fnOk185⟩, trivial, trivial⟩, trivial⟩⟩, ⟨⟨Try.func190, fnOk190⟩, ⟨⟨Try.func189, fnOk189⟩, ⟨⟨Try.func188, fnOk188⟩, trivial, trivial⟩, trivial⟩, ⟨⟨Try.func192, fnOk192⟩, ⟨⟨Try.func191, fnOk191⟩, trivial, trivial⟩, trivial⟩⟩⟩⟩, ⟨⟨Try.func207, fnOk207⟩, ⟨⟨Try.func200, fnOk200⟩, ⟨⟨Try.func197, fnOk197⟩, ⟨⟨Try.func195, fnOk195⟩, ⟨⟨Try.func194, fnOk194⟩, trivial, trivial⟩, ⟨⟨Try.func196, fnOk196⟩, trivial, trivial⟩⟩, ⟨⟨Try.func199, fnOk199⟩, ⟨⟨Try.func198, fnOk198⟩, trivial, trivial⟩, trivial⟩⟩, ⟨⟨Try.func204, fnOk204⟩, ⟨⟨Try.func202, fnOk202⟩, ⟨⟨Try.func201, fnOk201⟩, trivial, trivial⟩, ⟨⟨Try.func203, fnOk203⟩, trivial, trivial⟩⟩, ⟨⟨Try.func206, fnOk206⟩, ⟨⟨Try.func205, fnOk205⟩, trivial, trivial⟩, trivial⟩⟩⟩, ⟨⟨Try.func214, fnOk214⟩, ⟨⟨Try.func211, fnOk211⟩, ⟨⟨Try.func209, fnOk209⟩, ⟨⟨Try.func208, fnOk208⟩, trivial, trivial⟩, ⟨⟨Try.func210, fnOk210⟩, trivial, trivial⟩⟩, ⟨⟨Try.func213, fnOk213⟩, ⟨⟨Try.func212, fnOk212⟩, trivial, trivial⟩, trivial⟩⟩, ⟨⟨Try.func217, fnOk217⟩, ⟨⟨Try.func216, fnOk216⟩, ⟨⟨Try.func215, fnOk215⟩, trivial, trivial⟩, trivial⟩, ⟨⟨Try.func219, fnOk219⟩, ⟨⟨Try.func218, fnOk218⟩, trivial, trivial⟩, trivial⟩⟩⟩⟩⟩⟩⟩
theorem eqOk28 : EqOk Try.prog 28 ty28.lk := eqOk_two Try.eqGuardType28 Try.stoodInHeld28 Try.underlying28 (by decide) (by decide) rfl rfl Try.underlying3 Try.underlying3
theorem eqOk38 : EqOk Try.prog 38 ty38.lk := eqOk_two Try.eqGuardType38 Try.stoodInHeld38 Try.underlying38 (by decide) (by decide) rfl rfl Try.underlying3 Try.underlying3
theorem eqOk57 : EqOk Try.prog 57 ty57.lk := eqOk_two Try.eqGuardType57 Try.stoodInHeld57 Try.underlying57 (by decide) (by decide) rfl rfl Try.underlying3 Try.underlying3
theorem eqOk98 : EqOk Try.prog 98 ty98.lk := eqOk_two Try.eqGuardType98 Try.stoodInHeld98 Try.underlying98 (by decide) (by decide) rfl rfl Try.underlying3 Try.underlying3
theorem eqAll (N : Nat) : ∀ t ti, (envF N).eq t = true → (envF N).ty t = some ti → EqOk Try.prog t ti.lk := by
  intro t ti h hti
  have hm : t ∈ [28, 38, 57, 98] := by simpa [envF] using h
  simp only [List.mem_cons, List.not_mem_nil, or_false] at hm
  rcases hm with rfl | rfl | rfl | rfl
  · have q : (envF N).ty 28 = some ty28 := by kernel_rfl
    rw [q] at hti; cases hti; exact eqOk28
  · have q : (envF N).ty 38 = some ty38 := by kernel_rfl
    rw [q] at hti; cases hti; exact eqOk38
  · have q : (envF N).ty 57 = some ty57 := by kernel_rfl
    rw [q] at hti; cases hti; exact eqOk57
  · have q : (envF N).ty 98 = some ty98 := by kernel_rfl
    rw [q] at hti; cases hti; exact eqOk98
theorem progOk0 (N : Nat) (h : MakersOk Try.prog (envF N)) : ProgOk Try.prog (envF N) := progOk_of Try.checked.mixed rfl rfl tyAll fnAll (eqAll N) h
end Go.PewTab

namespace Go.Pew
set_option linter.unusedSimpArgs false
set_option linter.unusedVariables false
set_option linter.unusedVariables false

/-- The way to a piece of code: left or right of a sequence, either side of a test, into a block, into a loop (with the rounds that are left of it). -/
inductive Dir where
  | l | r | t | e | b
  | p (n : Nat)

def atK {R : Type} (E : Env) (call : Nat → List PV → Option PV) (io : Io R) (hs : Nat → Hd) (ys : Nat → Option Nat) : List Dir → Code → (Ex → St → Option R) → Code × (Ex → St → Option R)
  | [], c, κ => (c, κ)
  | .l :: ds, .seq a b, κ => atK E call io hs ys ds a fun e s' => match e with
    | .normal => codeK E call io false hs ys b s' κ
    | e => κ e s'
  | .r :: ds, .seq _ b, κ => atK E call io hs ys ds b κ
  | .t :: ds, .cond _ a _, κ => atK E call io hs ys ds a κ
  | .e :: ds, .cond _ _ b, κ => atK E call io hs ys ds b κ
  | .b :: ds, .block id c, κ => atK E call io hs ys ds c fun e s' => match e with
    | .exit j => if j = id then κ .normal s' else κ (.exit j) s'
    | e => κ e s'
  | .p n :: ds, .loop c, κ => atK E call io hs ys ds c fun e s' => match e with
    | .normal => forceSt (s'.head (hs (firstRegion c))) fun s => loopJ (codeK E call io false hs ys c) (hs (firstRegion c)) κ n s
    | e => κ e s'
  | _, _, κ => (.skip, κ)

def loopAt (E : Env) (call : Nat → List PV → Option PV) (it : Nat → List PV → Option (List PV) → List PV → Option (List (List PV))) (f : Nat) (fn : Func) (ds : List Dir) (n : Nat) (s : St) : Option PV :=
  match fn.body with
  | none => none
  | some c => match atK E call { it := it, emit := fun _ _ _ => none } (E.loops f) (fun _ => none) ds c fun e s => match e with
      | .normal | .ret => giveBack E f fn s
      | _ => none with
    | (.loop c, κ) => loopJ (codeK E call { it := it, emit := fun _ _ _ => none } false (E.loops f) (fun _ => none) c) (E.loops f (firstRegion c)) κ n s
    | _ => none

/-- What follows an iterator's body, and a function's. -/
def kIt : Ex → St → Option (List (List PV)) := fun e _ => match e with
  | .normal | .ret => some []
  | _ => none
def kFn (E : Env) (f : Nat) (fn : Func) : Ex → St → Option PV := fun e s => match e with
  | .normal | .ret => giveBack E f fn s
  | _ => none

/-- A loop of an iterator; a loop over an iterator in an iterator, in a function ('bs': the boxes that go to the iterator). -/
def loopAtI (E : Env) (call : Nat → List PV → Option PV) (it : Nat → List PV → Option (List PV) → List PV → Option (List (List PV))) (g : Nat) (fn : Func) (ds : List Dir) (n : Nat) (s : St) : Option (List (List PV)) :=
  match fn.body with
  | none => none
  | some c => match atK E call { it := it, emit := emitI } (E.loops g) (E.ys g) ds c kIt with
    | (.loop c, κ) => loopJ (codeK E call { it := it, emit := emitI } false (E.loops g) (E.ys g) c) (E.loops g (firstRegion c)) κ n s
    | _ => none
def rangeAtI (E : Env) (call : Nat → List PV → Option PV) (it : Nat → List PV → Option (List PV) → List PV → Option (List (List PV))) (g : Nat) (fn : Func) (ds : List Dir) (bs : List Nat) (xs : List (List PV)) (s : St) : Option (List (List PV)) :=
  match fn.body with
  | none => none
  | some c => match atK E call { it := it, emit := emitI } (E.loops g) (E.ys g) ds c kIt with
    | (.rangeFunc _ ps a b, κ) => rangeJ (roundK (codeK E call { it := it, emit := emitI } true (E.loops g) (E.ys g) a) (codeK E call { it := it, emit := emitI } true (E.loops g) (E.ys g) b) ps.toList) (rangeHd (E.loops g) bs a b) κ xs s
    | _ => none
def rangeAt (E : Env) (call : Nat → List PV → Option PV) (it : Nat → List PV → Option (List PV) → List PV → Option (List (List PV))) (f : Nat) (fn : Func) (ds : List Dir) (bs : List Nat) (xs : List (List PV)) (s : St) : Option PV :=
  match fn.body with
  | none => none
  | some c => match atK E call { it := it, emit := fun _ _ _ => none } (E.loops f) (fun _ => none) ds c (kFn E f fn) with
    | (.rangeFunc _ ps a b, κ) => rangeJ (roundK (codeK E call { it := it, emit := fun _ _ _ => none } true (E.loops f) (fun _ => none) a) (codeK E call { it := it, emit := fun _ _ _ => none } true (E.loops f) (fun _ => none) b) ps.toList) (rangeHd (E.loops f) bs a b) κ xs s
    | _ => none

end Go.Pew
