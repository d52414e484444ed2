/- FUNCTIONS, ITERATORS, PROGRAMS: WHAT THE EVALUATOR TELLS, THE MACHINE DOES. -/
/- FUNCTIONS, ITERATORS, PROGRAMS: WHAT THE EVALUATOR TELLS, THE MACHINE DOES. -/
/- TABLES THAT ARE CHECKED: what the evaluator is told of types and functions, against the program. -/
/- WHAT A TABLE MUST TELL: two values of three whole numbers held against each other. -/
/- THE TABLES for the evaluator: which functions and types the program has; written by a program out of Lean's print of the loaded functions. -/
/- THE TABLES tell the program rightly; written by a program (mkok.py). -/
/- A LOOP BY ITS PLACE in a function's code: what its rounds, and all that follows, give. -/
/- THE FUNCTIONS' NUMBERS BY NAME; written by a program. -/
/- WHOLE NUMBERS BY DIGITS: plain lemmas, without a program. -/
/- TABLES: levels and volumes of a lake, in plain numbers, without a program. -/
/- TABLES: levels and volumes of a lake: floors and ceilings meet, in plain numbers. -/
/- PLAIN DATA AND THE EVALUATOR's VALUES: what the specifications of the functions lean on. -/
import Derived.Test.YtfjnpgbjcgjecabGreatPewG2
import Derived.Test.YtfjnpgbjcgjecabGreatProg
import Derived.KernelRfl
import Derived.Test.YtfjnpgbjcgjecabGreatPewG0
import Derived.Eval
import Derived.Test.YtfjnpgbjcgjecabGreatRows

namespace Go.Pew
set_option linter.unusedSimpArgs false
set_option linter.unusedVariables false
open Go.RowKit
set_option linter.unusedVariables false
set_option linter.unusedSimpArgs false

section
variable {P : Program} {E : Env} {call : Nat → List PV → Option PV} {base n : Nat} {w0 : Start} {R : Type} {r : R}

/-! ### handing back -/
theorem confT_plain {t : Nat} {v : PV} (h : confT E t v = true) : plain v = true := by
  unfold confT at h
  split at h
  · split at h
    · split at h
      · rw [plain]; exact confs_plains h
      · cases h
    · split at h
      · exact conf_plain h
      · cases h
  · cases h

theorem confTs_plains : ∀ {ts : List Nat} {vs : List PV}, confTs E ts vs = true → plains vs = true
  | [], [], _ => rfl
  | [], _ :: _, h => by simp [confTs] at h
  | _ :: _, [], h => by simp [confTs] at h
  | t :: ts, v :: vs, h => by
    simp only [confTs, Bool.and_eq_true] at h
    simp [plains, confT_plain h.1, confTs_plains h.2]

theorem confTs_length : ∀ {ts : List Nat} {vs : List PV}, confTs E ts vs = true → vs.length = ts.length
  | [], [], _ => rfl
  | [], _ :: _, h => by simp [confTs] at h
  | _ :: _, [], h => by simp [confTs] at h
  | t :: ts, v :: vs, h => by
    simp only [confTs, Bool.and_eq_true] at h
    simp [confTs_length h.2]

variable {s : St} {a : Act} {w : World} {g : Gh}

theorem results_rep (T : ∀ t ti, E.ty t = some ti → TyOk P t ti) (h : SimG base w0 n g s a w) {F : ResultVar → Sem Value} (F1 : ∀ t, F (.tmp t) = pure (a.tmps.getD t undef)) (F2 : ∀ x t, F (.cell x t) = do loadVar t (← asAddr (a.tmps.getD x undef))) :
    ∀ (rs : List ResultVar) (vs : List PV), results E s rs = some vs → ∃ us, (rs.mapM F).run P w = .ok us w ∧ Reps (ctx s w g) vs us
  | [], vs, hr => by
    cases hr
    exact ⟨[], rfl, rfl⟩
  | x :: rs, vs, hr => by
    unfold results at hr
    split at hr
    · rename_i v vs' hv hvs
      cases hr
      obtain ⟨us, h1, h2⟩ := results_rep T h F1 F2 rs vs' hvs
      have hx : ∃ u, (F x).run P w = .ok u w ∧ Rep (ctx s w g) v u := by
        cases x with
        | tmp t =>
          cases hv
          rw [F1]
          exact ⟨_, rfl, eval_rep h t (.inr trivial)⟩
        | cell x t =>
          unfold resultOf at hv
          dsimp only at hv
          split at hv
          · rename_i ti d off hti hg
            split at hv
            · rename_i cs fz hb
              split at hv
              · rename_i hf
                cases hv
                have hr := eval_rep h x (.inr trivial)
                rw [hg] at hr
                obtain ⟨B, hB, hp⟩ := hr
                obtain ⟨B', us, T', h3, h4, h5, h6, _⟩ := h.cells d cs fz hb
                have hBB : B' = B := by
                  have hB : g.bx d = some B := hB
                  rw [h3] at hB; cases hB; rfl
                subst hBB
                have hp : a.tmps.getD x undef = .pointer (some ⟨B', off, none⟩) := hp
                have := (T _ _ hti).run_loadVar (w := w) (B := B') (o := 0) (off := off) (us := us.toList) (fun j u hj => by
                  simp only [World.cell?, h4, Nat.zero_add]
                  simpa using hj) (partFits_us h6 hf)
                rw [Nat.zero_add] at this
                refine ⟨partVal ti us.toList off, ?_, Rep.part h6 hf⟩
                rw [F2]
                simp only [Sem.run_bind, hp, asAddr, Sem.run_pure, Result.andThen_ok]
                exact this
              · cases hv
            · cases hv
          · cases hv
      obtain ⟨u, hx1, hx2⟩ := hx
      refine ⟨u :: us, ?_, ⟨u, us, rfl, hx2, h2⟩⟩
      rw [List.mapM_cons, Sem.run_bind, hx1]
      simp only [Result.andThen_ok, Sem.run_bind, h1, Sem.run_pure]
    · cases hr

theorem run_results (T : ∀ t ti, E.ty t = some ti → TyOk P t ti) (h : SimG base w0 n g s a w) {fn : Func} {vs : List PV} (hr : results E s fn.results.toList = some vs) :
    ∃ us, (_root_.Go.results fn a.tmps).run P w = .ok (if h : us.length = 1 then us[0] else .tuple us.toArray) w ∧ Reps (ctx s w g) vs us := by
  have key : ∀ {F : ResultVar → Sem Value} (F1 : ∀ t, F (.tmp t) = pure (a.tmps.getD t undef)) (F2 : ∀ x t, F (.cell x t) = do loadVar t (← asAddr (a.tmps.getD x undef))),
      ∃ us, ((do let vs ← fn.results.mapM F; pure (if h : vs.size = 1 then vs[0] else .tuple vs)) : Sem Value).run P w = .ok (if h : us.length = 1 then us[0] else .tuple us.toArray) w ∧ Reps (ctx s w g) vs us := fun F1 F2 => by
    obtain ⟨us, h1, h2⟩ := results_rep T h F1 F2 _ _ hr
    refine ⟨us, ?_, h2⟩
    rw [Sem.run_bind, Array.mapM_eq_mapM_toList, Sem.run_map, h1]
    simp only [Result.andThen_ok, Sem.run_pure]
    simp
  exact key (fun _ => rfl) (fun _ _ => rfl)

def rowOf : PV → Option Nat
  | .row d => some d
  | _ => none

theorem giveBack_sound (T : ∀ t ti, E.ty t = some ti → TyOk P t ti) {f : Nat} {fn : Func} {r : PV} (h : Sim base w0 n s a w) {wi : World} {ki : Nat → Nat → Prop} (hbase : base = wi.heap.size) (hbel : Below base wi w) (hnw : ∀ B o, w0.keep B o → ki B o ∨ base ≤ B) (hkk : ∀ B o, ki B o → w0.keep B o) (hkeep : StOk wi ki) (hg : giveBack E f fn s = some r) :
    RConf E fn r ∧ ∃ v, (_root_.Go.results fn a.tmps).run P w = .ok v w ∧ After E f r wi ki v w := by
  obtain ⟨g, h⟩ := h
  unfold giveBack at hg
  split at hg
  · cases hg
  · rename_i vs hvs
    obtain ⟨us, hres, hrep⟩ := run_results T h hvs
    dsimp only at hg
    by_cases hcf : confTs E fn.resultTypes.toList (vs.map (handed s)) = true
    · rw [if_pos hcf] at hg
      have hpl := confTs_plains hcf
      have hln := confTs_length hcf
      have hul := hrep.length
      have hkl : ∀ B o, ki B o → B < base := fun B o hk => by
        obtain ⟨us, T', fr, e, _⟩ := hkeep B o hk
        rw [hbase]
        exact block_lt e
      -- what stays, of a ghost
      let st' : Gh → Nat → Nat → Prop := fun g B o => ki B o ∨ (base ≤ B ∧ g.st B o)
      have hstok : ∀ {g : Gh} {s : St}, SimG base w0 n g s a w → StOk w (st' g) := fun hg B o ho => by
        rcases ho with ho | ⟨_, ho⟩
        · obtain ⟨us, T', fr, e, hl⟩ := hkeep B o ho
          refine ⟨us, T', fr, ?_, hl⟩
          rw [hbel.block B (hkl B o ho)]
          exact e
        · exact hg.stlt B o ho
      have hle : ∀ {g : Gh} {s : St}, SimG base w0 n g s a w → (ctx s w g).Le0 (plainCtx w (st' g)) := fun hg =>
        ⟨fun B o ho => ((hg.news B o ho).elim (hnw B o) .inr).imp id fun hb => ⟨hb, ho⟩, fun _ _ _ => rfl⟩
      have hafter : ∀ {g : Gh} {s : St} (hg : SimG base w0 n g s a w) (r : PV) (v : Value), Rep (plainCtx w (st' g)) r v → (E.own f = true → ∃ ls xs, r = .sl none ls xs ∧ OwnOk (gh0 (st' g)) wi.heap.size w v ls.length) → After E f r wi ki v w := fun {g s} hg r v hr ho => by
        refine ⟨by rw [← hbase]; exact hbel, st' g, fun B o hk => .inl hk, fun B o hk => ?_, hstok hg, ⟨r, rfl, hr⟩, ho⟩
        rcases hk with hk | ⟨hk, _⟩
        · exact .inl hk
        · rw [hbase] at hk; exact .inr hk
      -- the rows that are handed back are frozen
      obtain ⟨g1, h1, l1, b1, c1⟩ := SimG.freeze (vs.filterMap rowOf) h
      have hrs : Reps (plainCtx w (st' g1)) (vs.map (handed s)) us := by
        refine Reps.mono0 (hle h1) _ _ hpl ?_
        refine Reps.of_get (by rw [List.length_map]; exact hul) fun i u hu => ?_
        have hi : i < vs.length := by
          have := (List.getElem?_eq_some_iff.1 hu).1
          omega
        have hp := hrep.get i u hu
        have hn : nth vs i = vs[i] := by simp [nth, List.getD_eq_getElem?_getD, hi]
        have hn' : nth (vs.map (handed s)) i = handed s vs[i] := by simp [nth, List.getD_eq_getElem?_getD, hi]
        rw [hn] at hp
        rw [hn']
        exact handed_rep h l1 rfl hp fun d hd B hB us T fr hh o ho => c1 d (List.mem_filterMap.2 ⟨vs[i], List.getElem_mem hi, by rw [hd]; rfl⟩) B hB us T fr hh o ho
      cases vs with
      | nil =>
        have hg : (if E.own f = true then none else forceVs [] fun vs => some (PV.tup vs)) = some r := hg
        split at hg
        · cases hg
        · rename_i ho
          cases hg
          refine ⟨?_, _, hres, hafter h1 _ _ ?_ fun q => absurd q ho⟩
          · unfold RConf
            split
            · rename_i t ht; rw [ht] at hln; cases hln
            · exact ⟨_, rfl, hcf⟩
          · rw [dif_neg (by rw [hul]; simp)]
            exact ⟨_, rfl, hrs⟩
      | cons u0 vs =>
        cases vs with
        | nil =>
          simp only [List.map_cons, List.map_nil] at hg
          have hrc : ∀ r', r' = handed s u0 → RConf E fn r' := fun r' hr' => by
            subst hr'
            unfold RConf
            have hcf : confTs E fn.resultTypes.toList [handed s u0] = true := hcf
            split
            · rename_i t ht
              rw [ht] at hcf
              simpa [confTs] using hcf
            · rename_i ts hts
              exfalso
              have hln : 1 = fn.resultTypes.toList.length := hln
              match hq : fn.resultTypes.toList, hln with
              | [t], _ => exact hts t hq
          have hul : us.length = 1 := hul
          rw [dif_pos hul] at hres
          have hus : us = [us[0]] := by
            match us, hul with
            | [u], _ => rfl
          split at hg
          · rename_i ho
            split at hg
            · rename_i d k ls xs
              split at hg
              · rename_i hk
                rw [forceV_eq] at hg
                cases hg
                refine ⟨hrc _ rfl, _, hres, ?_⟩
                rw [hus] at hrep
                obtain ⟨u, ws, hq, hru, _⟩ := hrep
                cases hq
                have hru0 := hru
                obtain ⟨A, cap, rows, e1, e2, e3, e4, e5, e6, e7⟩ := hru0
                obtain ⟨_, htg⟩ := e7 d k rfl
                obtain ⟨hown, hoz⟩ := htg hk
                refine hafter h _ _ (Rep.mono0 (hle h) _ _ rfl (Rep.strip_tag hru)) fun _ => ⟨ls, xs, rfl, ?_⟩
                rw [hown, hoz, ← hbase]
                rcases h.own d with hq | ⟨B, o, len, cap', us', T', q1, q2, q3, q4, q5, q6, q7⟩
                · exact .inl hq
                · exact .inr ⟨B, o, len, cap', us', T', q1, q2, q3, q4, q5, fun j hj hq => hq.elim (fun hk => absurd (hkl B j hk) (by omega)) fun hq => q6 j hj hq.2, fun _ hq => by cases hq⟩
              · cases hg
            · cases hg
          · rename_i ho
            rw [forceV_eq] at hg
            cases hg
            refine ⟨hrc _ rfl, _, hres, hafter h1 _ _ ?_ fun q => absurd q ho⟩
            rw [hus] at hrs
            obtain ⟨u, ws, hq, hru, _⟩ := hrs
            cases hq
            exact hru
        | cons u1 vs =>
          have hg : (if E.own f = true then none else forceVs ((u0 :: u1 :: vs).map (handed s)) fun vs => some (PV.tup vs)) = some r := hg
          split at hg
          · cases hg
          · rename_i ho
            rw [forceVs_eq] at hg
            cases hg
            refine ⟨?_, _, hres, hafter h1 _ _ ?_ fun q => absurd q ho⟩
            · unfold RConf
              split
              · rename_i t ht; rw [ht] at hln; simp at hln
              · exact ⟨_, rfl, hcf⟩
            · rw [dif_neg (by rw [hul]; simp)]
              exact ⟨_, rfl, hrs⟩
    · rw [if_neg hcf] at hg
      cases hg

theorem giveBack_conf {f : Nat} {fn : Func} {r : PV} (hg : giveBack E f fn s = some r) : RConf E fn r := by
  unfold giveBack at hg
  split at hg
  · cases hg
  · rename_i vs hvs
    dsimp only at hg
    by_cases hcf : confTs E fn.resultTypes.toList (vs.map (handed s)) = true
    · rw [if_pos hcf] at hg
      have hln := confTs_length hcf
      cases vs with
      | nil =>
        have hg : (if E.own f = true then none else forceVs [] fun vs => some (PV.tup vs)) = some r := hg
        split at hg
        · cases hg
        · cases hg
          unfold RConf
          split
          · rename_i t ht; rw [ht] at hln; cases hln
          · exact ⟨_, rfl, hcf⟩
      | cons u0 vs =>
        cases vs with
        | nil =>
          simp only [List.map_cons, List.map_nil] at hg
          have hr : r = handed s u0 := by
            split at hg
            · split at hg
              · split at hg
                · rw [forceV_eq] at hg; cases hg; rfl
                · cases hg
              · cases hg
            · rw [forceV_eq] at hg; cases hg; rfl
          subst hr
          unfold RConf
          have hcf : confTs E fn.resultTypes.toList [handed s u0] = true := hcf
          split
          · rename_i t ht
            rw [ht] at hcf
            simpa [confTs] using hcf
          · rename_i ts hts
            exfalso
            have hln : 1 = fn.resultTypes.toList.length := hln
            match hq : fn.resultTypes.toList, hln with
            | [t], _ => exact hts t hq
        | cons u1 vs =>
          have hg : (if E.own f = true then none else forceVs ((u0 :: u1 :: vs).map (handed s)) fun vs => some (PV.tup vs)) = some r := hg
          split at hg
          · cases hg
          · rw [forceVs_eq] at hg
            cases hg
            unfold RConf
            split
            · rename_i t ht; rw [ht] at hln; simp at hln
            · exact ⟨_, rfl, hcf⟩
    · rw [if_neg hcf] at hg
      cases hg


/-- What is handed on at the end comes from a state. -/
theorem codeK_final {io : Io R} (hem : ∀ x a b, io.emit x a b = none) (hs : Nat → Hd) (ys : Nat → Option Nat) : ∀ (c : Code) (rd : Bool) (s : St) (κ : Ex → St → Option R) (r : R), codeK E call io rd hs ys c s κ = some r → ∃ e s', κ e s' = some r := by
  intro c
  induction c with
  | skip => intro rd s κ r h; exact ⟨_, _, h⟩
  | region id ops draw =>
    intro rd s κ r h
    unfold codeK at h
    cases hy : ys id with
    | none =>
      rw [hy] at h
      cases draw with
      | true =>
        dsimp only at h
        rw [forceL_eq] at h
        obtain ⟨tr, s', _, hk, _⟩ := opsD_run E call ops _ ops.toList 0 [] [] s _ r (by simp) h
        exact ⟨_, s', hk⟩
      | false =>
        obtain ⟨tr, s', _, hk⟩ := opsK_run E call ops ops.toList 0 s _ r h
        exact ⟨_, s', hk⟩
    | some j =>
      rw [hy] at h
      dsimp only at h
      split at h
      · obtain ⟨tr, s', _, hk⟩ := opsK_run E call ops _ 0 s _ r h
        exfalso
        unfold yieldK at hk
        split at hk
        · split at hk
          · split at hk
            · obtain ⟨_, hk⟩ := guardK_some hk
              rw [hem] at hk; cases hk
            · cases hk
          · cases hk
        · cases hk
      · cases h
  | seq x y ihx ihy =>
    intro rd s κ r h
    obtain ⟨e, s', hk⟩ := ihx _ _ _ _ h
    cases e with
    | normal => exact ihy _ _ _ _ hk
    | ret => exact ⟨_, _, hk⟩
    | exit id => exact ⟨_, _, hk⟩
  | cond c x y ihx ihy =>
    intro rd s κ r h
    cases c with
    | tmp t =>
      simp only [codeK, splitK_eq] at h
      split at h
      · rename_i b hb
        cases b with
        | true => exact ihx _ _ _ _ h
        | false => exact ihy _ _ _ _ h
      · cases h
    | const v => simp [codeK] at h
    | global v => simp [codeK] at h
    | func v => simp [codeK] at h
  | block id c ih =>
    intro rd s κ r h
    obtain ⟨e, s', hk⟩ := ih _ _ _ _ h
    cases e with
    | normal => exact ⟨_, _, hk⟩
    | ret => exact ⟨_, _, hk⟩
    | exit j =>
      dsimp only at hk
      split at hk
      · exact ⟨_, _, hk⟩
      · exact ⟨_, _, hk⟩
  | loop c ih =>
    intro rd s κ r h
    simp only [codeK, forceSt_eq] at h
    have key : ∀ k s, loopJ (codeK E call io rd hs ys c) (hs (firstRegion c)) κ k s = some r → ∃ e s', κ e s' = some r := by
      intro k
      induction k with
      | zero => intro s h; cases h
      | succ k ihk =>
        intro s h
        simp only [loopJ, forceSt_eq] at h
        obtain ⟨e, s', hk⟩ := ih _ _ _ _ h
        cases e with
        | normal => exact ihk _ hk
        | ret => exact ⟨_, _, hk⟩
        | exit id => exact ⟨_, _, hk⟩
    exact key _ _ h
  | exit id => intro rd s κ r h; exact ⟨_, _, h⟩
  | ret => intro rd s κ r h; exact ⟨_, _, h⟩
  | rangeFunc f p x y ihx ihy =>
    intro rd s κ r h
    cases f with
    | tmp t =>
      cases rd with
      | true => simp [codeK] at h
      | false =>
        simp only [codeK] at h
        have key : ∀ (hd : Hd) (xs : List (List PV)) (s : St), rangeJ (roundK (codeK E call io true hs ys x) (codeK E call io true hs ys y) p.toList) hd κ xs s = some r → ∃ e s', κ e s' = some r := by
          intro hd xs
          induction xs with
          | nil => intro s h; exact ⟨_, _, h⟩
          | cons v xs ih =>
            intro s h
            simp only [rangeJ, roundK] at h
            obtain ⟨_, h⟩ := guardK_some h
            rw [forceSt_eq] at h
            obtain ⟨e, s1, h⟩ := ihx _ _ _ _ h
            cases e with
            | normal =>
              obtain ⟨e, s2, h⟩ := ihy _ _ _ _ h
              cases e with
              | normal =>
                simp only [forceSt_eq] at h
                exact ih _ h
              | ret => exact ⟨_, _, h⟩
              | exit id => exact ⟨_, _, h⟩
            | ret => cases h
            | exit id => cases h
        unfold rangeK at h
        split at h
        · split at h
          obtain ⟨_, h⟩ := guardK_some h
          split at h
          · obtain ⟨xs, _, h⟩ := Option.bind_eq_some_iff.1 h
            rw [forceSt_eq] at h
            exact key _ _ _ h
          · split at h
            · obtain ⟨_, h⟩ := guardK_some h
              obtain ⟨xs, _, h⟩ := Option.bind_eq_some_iff.1 h
              rw [forceSt_eq] at h
              exact key _ _ _ h
            · cases h
        · cases h
    | const v => simp [codeK] at h
    | global v => simp [codeK] at h
    | func v => simp [codeK] at h
  | scope x => intro rd s κ r h; simp [codeK] at h
  | label l => intro rd s κ r h; simp [codeK] at h
  | goto l => intro rd s κ r h; simp [codeK] at h
  | refuse why => intro rd s κ r h; simp [codeK] at h

/-- The marks of loops over iterators are taken up one by one. -/
theorem leaves_marks {Inv : R → Start → Prop} (hInv : InvOk base Inv) {fn : Func} {T : Ending → World → Prop} {tmps : Array Value} {m : Nat} : ∀ (Ds : List Nat) {w0 : Start} {g : Gh} {s : St} {w : World} {r : R}, SimG base w0 n g s { tmps := tmps, defers := Ds.map mark } w → Inv r w0 →
    (∀ w0' w', Later0 base w0 w0' → Inv r w0' → SimG base w0' n g s { tmps := tmps, defers := [] } w' → ∃ v, (_root_.Go.results fn tmps).run P w' = .ok v w' ∧ T (.returned v) w') → LeavesInM (rf none) m P fn tmps T (Ds.map mark) .returning w
  | [], w0, g, s, w, r, h, hI, hT => hT w0 w (Later0.refl _ _) hI h
  | D :: Ds, w0, g, s, w, r, h, hI, hT => by
    have hmk : ∀ {a b : Nat}, mark a = mark b → a = b := fun e => by
      simp only [mark, Deferred.mk.injEq, Target.collected.injEq] at e
      exact e.1
    have hD : w0.fix D ∧ base ≤ D ∧ w0.heap[D]? = some (.deferred (some [])) ∧ (∀ D' ∈ Ds, D' ≠ D) ∧ Ds.Nodup ∧ ∀ D' ∈ Ds, w0.fix D' ∧ base ≤ D' ∧ w0.heap[D']? = some (.deferred (some [])) := by
      obtain ⟨Ds', h1, h2, h3⟩ := h.marks
      have h1 : (D :: Ds).map mark = Ds'.map mark := h1
      have e : D :: Ds = Ds' := by
        have : ∀ (l l' : List Nat), l.map mark = l'.map mark → l = l' := by
          intro l
          induction l with
          | nil => intro l' e; cases l' with | nil => rfl | cons x l' => cases e
          | cons x l ih =>
            intro l' e
            cases l' with
            | nil => cases e
            | cons y l' =>
              simp only [List.map_cons, List.cons.injEq] at e
              rw [hmk e.1, ih l' e.2]
        exact this _ _ h1
      subst e
      have hn := List.nodup_cons.1 h2
      exact ⟨(h3 D (List.mem_cons_self ..)).1, (h3 D (List.mem_cons_self ..)).2.1, (h3 D (List.mem_cons_self ..)).2.2, fun D' hD' e => hn.1 (e ▸ hD'), hn.2, fun D' hD' => h3 D' (List.mem_cons_of_mem _ hD')⟩
    obtain ⟨d1, d2, d3, d4, d5, d6⟩ := hD
    have hw : w.heap[D]? = some (.deferred (some [])) := (h.quiet D (.inr d1)).2.1.trans d3
    obtain ⟨n1, n2, n3⟩ := h.noCells hw rfl
    have hne : ∀ {b}, b ≠ D → (w.putObj D (.deferred none)).heap[b]? = w.heap[b]? := fun hq => World.putObj_heap_other hq
    have hbe : ∀ b, b ≤ D → Below b w (w.putObj D (.deferred none)) := fun b hb => ⟨rfl, rfl, rfl, by simp, fun k hk => hne (by omega)⟩
    have hce : ∀ b o, g.st b o → (w.putObj D (.deferred none)).cell? ⟨b, o, none⟩ = w.cell? ⟨b, o, none⟩ := fun b o ho => World.cell?_of_block (w := w) (hne fun q => n3 o (q ▸ ho))
    have hoke : StOk (w.putObj D (.deferred none)) g.st := fun b o ho => by
      obtain ⟨us, T, fr, e, hq⟩ := h.stlt b o ho
      exact ⟨us, T, fr, by rw [hne fun q => n3 o (q ▸ ho)]; exact e, hq⟩
    have hsz : (w.putObj D (.deferred none)).heap.size = w.heap.size := by simp
    let w0e : Start :=
      { toWorld := w.putObj D (.deferred none), keep := g.st, pin := w0.pin, far := w0.far, fix := fun b => w0.fix b ∧ b ≠ D, yl := w0.yl
        ap := fun b hb hf => w0.ap b hb.1 hf }
    have Se : SimG base w0e n g s { tmps := tmps, defers := Ds.map mark } (w.putObj D (.deferred none)) := h.turn (w0n := w0e) (st1 := g.st) (sl := s.slots) (fun d b hq => hne fun q => n1 d (q ▸ hq)) (fun d b hq => hne fun q => n2 d (q ▸ hq)) (fun _ _ h => h) hce (fun _ _ h => .inl h) hoke (fun _ _ h => .inl h)
      (by show base ≤ (w.putObj D (.deferred none)).heap.size; rw [hsz]; exact Nat.le_trans h.base_le h.below.size) (Below.refl _ _) (fun _ _ h => .inl h) (fun _ _ h => ⟨h, rfl⟩) h.pinned
      (fun b hb => by
        have hb : w0.far b ∨ w0.fix b := hb.imp id fun q => q.1
        obtain ⟨q1, q2, q3, q4⟩ := h.quiet b hb
        exact ⟨by show b < (w.putObj D (.deferred none)).heap.size; rw [hsz]; have := h.below.size; omega, rfl, q3, q4⟩) rfl h.ns (fun hle => Reps.mono hle _ _ h.slots)
      ⟨Ds, rfl, d5, fun D' hD' => ⟨⟨(d6 D' hD').1, d4 D' hD'⟩, (d6 D' hD').2.1, (hne (d4 D' hD')).trans ((h.quiet D' (.inr (d6 D' hD').1)).2.1.trans (d6 D' hD').2.2)⟩⟩
    have T4 : Turn w0 w0e :=
      { far := rfl
        same := fun b hb => (hne fun q => w0.ap D d1 (q ▸ hb)).trans (h.quiet b (.inl hb)).2.1
        below := (h.below.mono (Nat.zero_le _)).trans (hbe 0 (Nat.zero_le _))
        keep := fun b o ho => ⟨(h.kept b o ho).1, (hce b o (h.kept b o ho).1).trans (h.kept b o ho).2⟩
        news := fun b o ho => (h.newsq b o ho).imp id fun q hf => q (.inl hf)
        stok := hoke
        yl := rfl }
    have L4 : Later0 base w0 w0e :=
      { below := h.below.trans (hbe _ d2)
        keep := T4.keep
        news := fun b o ho => h.news b o ho
        far := fun k hk => .inl hk }
    refine ⟨by simp, .inl ⟨D, _, rfl, run_takeDeferred hw, ?_⟩⟩
    exact leaves_marks hInv Ds Se (hInv _ _ _ hI T4 L4) fun w0' w' hL hI' hS => hT w0' w' (L4.trans hL) hI' hS

end
end Go.Pew

namespace Go.Pew
set_option linter.unusedSimpArgs false
set_option linter.unusedVariables false
open Go.RowKit
set_option linter.unusedVariables false
set_option linter.unusedSimpArgs false

section
variable {P : Program} {E : Env} {call : Nat → List PV → Option PV} {it : Nat → List PV → Option (List PV) → List PV → Option (List (List PV))} {base n : Nat}

def st0 (sl : List PV) (n : Nat) : St := { slots := sl, boxes := List.replicate n none, vers := List.replicate n 0 }

theorem st0_box (sl : List PV) (n d : Nat) : (st0 sl n).box d = none := by
  simp only [St.box, st0, List.getD_eq_getElem?_getD, List.getElem?_replicate]
  split <;> rfl

/-- At a call. -/
theorem init_sim {w : World} {st : Nat → Nat → Prop} (hst : StOk w st) {w0 : Start} (e1 : w0.toWorld = w) (e2 : w0.keep = st) (hpin : ∀ d, w0.pin d = none) (hq : ∀ B, (w0.far B ∨ w0.fix B) → B < w.heap.size) (hb : base ≤ w.heap.size)
    (hnw : ∀ B o, st B o → w0.keep B o ∨ base ≤ B) {sl : List PV} {tmps : Array Value} (hl : sl.length = n) (hr : Reps (ctx (st0 sl n) w { gh0 st with yl := w0.yl }) sl tmps.toList) :
    SimG base w0 n { gh0 st with yl := w0.yl } (st0 sl n) { tmps := tmps, defers := [] } w := by
  subst e1 e2
  exact
  { ns := hl
    nb := by simp [st0]
    nv := by simp [st0]
    slots := hr
    marks := ⟨[], rfl, List.nodup_nil, fun D hD => by cases hD⟩
    base_le := hb
    below := Below.refl _ _
    nobox := fun _ _ => rfl
    cells := fun d cs fz h => by rw [st0_box] at h; cases h
    rows := fun d ls xs fz h => by rw [st0_box] at h; cases h
    inj := fun d d' B h => by cases h
    own := fun _ => .inl rfl
    apart := fun d d' B _ h => by simp [gh0, ownBlock] at h
    stlt := hst
    news := fun B o h => .inl h
    kept := fun B o h => ⟨h, rfl⟩
    pinned := fun d B h => by rw [hpin d] at h; cases h
    quiet := fun B h => ⟨hq B h, rfl, fun d q => (by cases q), fun d q => (by simp [gh0, ownBlock] at q)⟩
    yld := rfl
    newsq := fun B o h => .inl h }

theorem reps_undefs (C : Ctx) : ∀ (k : Nat) (us : List Value), us.length = k → Reps C (List.replicate k .undef) us
  | 0, us, h => by
    have : us = [] := List.eq_nil_of_length_eq_zero h
    subst this; rfl
  | k + 1, [], h => by cases h
  | k + 1, u :: us, h => ⟨u, us, rfl, trivial, reps_undefs C k us (by simpa using h)⟩

theorem body_sound (O : ProgOk P E) (hcall : ∀ f args r, call f args = some r → Contract P E f args r) (hit : ∀ g pre m post xs, it g pre m post = some xs → IterC P g pre m post xs) {f : Nat} {fn : Func} (hfn : E.fn f = some fn) {args : List PV} {r : PV}
    (hb : bodyK E call it f fn args = some r) : Contract P E f args r := by
  unfold bodyK at hb
  split at hb
  · cases hb
  · rename_i c hc
    split at hb
    · cases hb
    · rename_i hle
      have hle := Nat.le_of_ble_eq_true hle
      rw [forceSt_eq] at hb
      obtain ⟨hF1, _, _⟩ := O.env.fn _ _ hfn
      refine ⟨fun fn' hfn' => ?_, fun w st vals hst hr => ?_⟩
      · rw [hfn] at hfn'
        cases hfn'
        obtain ⟨e, s', hk⟩ := codeK_final (fun _ _ _ => rfl) _ _ _ _ _ _ _ hb
        have hgb : giveBack E f fn s' = some r := by
          cases e with
          | normal => exact hk
          | ret => exact hk
          | exit id => cases hk
        exact giveBack_conf hgb
      · have hvl := hr.length
        refine (callsIn_wide (n := 0)).1 ?_
        refine callsIn_of_wp_marks (F := rf none) (n := 0) hF1 hc trivial ?_ rfl
        let w0 : Start := { toWorld := w, keep := st, pin := fun _ => none, far := fun _ => False, fix := fun _ => False, yl := none, ap := fun _ h => h.elim }
        have hsim : SimG w.heap.size w0 fn.ntmps { gh0 st with yl := none } (st0 (args ++ List.replicate (fn.ntmps - args.length) .undef) fn.ntmps) { tmps := vals.toArray ++ Array.replicate (fn.ntmps - vals.toArray.size) undef, defers := [] } w :=
          init_sim (w0 := w0) hst rfl rfl (fun _ => rfl) (fun B h => h.elim (fun h => h.elim) fun h => h.elim) (Nat.le_refl _) (fun _ _ h => .inl h) (by simp; omega) (by
            have e1 : (vals.toArray ++ Array.replicate (fn.ntmps - vals.toArray.size) undef).toList = vals ++ List.replicate (fn.ntmps - args.length) undef := by simp [hvl]
            rw [e1]
            exact Reps.append (Reps.mono (plainCtx_le (C := ctx _ w _) rfl fun _ _ h => h) _ _ hr) (reps_undefs _ _ _ (by simp)))
        let Inv : PV → Start → Prop := fun r' w0' => r' = r ∧ Later0 w.heap.size w0 w0'
        have hInv : InvOk w.heap.size Inv := fun r' a b h _ hL => ⟨h.1, h.2.trans hL⟩
        refine code_sound (Inv := Inv) O hcall hit hInv (fun _ _ _ _ _ _ _ _ _ _ _ _ h => by cases h) (E.loops f) (fun _ => none) c (O.code _ _ _ hfn hc) false 0 none (fun _ => rfl) _ _ r w0 _ w _ hb (fun _ _ => rfl) (fun _ _ => rfl) ⟨_, hsim⟩ ⟨rfl, Later0.refl _ _⟩ ?_
        intro e s' r' w0' a' w' hk _ _ _ hI hS
        obtain ⟨g', hS⟩ := hS
        have hgb : giveBack E f fn s' = some r' ∧ (e = .normal ∨ e = .ret) := by
          cases e with
          | normal => exact ⟨hk, .inl rfl⟩
          | ret => exact ⟨hk, .inr rfl⟩
          | exit id => cases hk
        obtain ⟨hgb, he⟩ := hgb
        obtain ⟨tmps, defers⟩ := a'
        obtain ⟨Ds, hDs, hD2⟩ := hS.marks
        have hDs : defers = Ds.map mark := hDs
        subst hDs
        have := leaves_marks (P := P) (m := 0) (fn := fn) (T := fun e w' => ∃ v, e = .returned v ∧ After E f r w st v w') hInv Ds hS hI (fun w0'' w'' _ hI'' hS'' => by
          obtain ⟨e1, hL⟩ := hI''
          subst e1
          obtain ⟨_, v, h1, h2⟩ := giveBack_sound O.env.ty ⟨_, hS''⟩ (wi := w) (ki := st) rfl (hL.below.trans hS''.below) hL.news (fun B o h => (hL.keep B o h).1) hst hgb
          exact ⟨v, h1, v, rfl, h2⟩)
        rcases he with rfl | rfl
        · exact this
        · exact this

theorem emitI_some {x : List PV} {a b : Option (List (List PV))} {r : List (List PV)} (h : emitI x a b = some r) : ∃ tr, a = some tr ∧ b = some [] ∧ r = x :: tr := by
  unfold emitI at h
  split at h
  · cases h; exact ⟨_, rfl, rfl, rfl⟩
  · cases h

theorem iter_sound (O : ProgOk P E) (hcall : ∀ f args r, call f args = some r → Contract P E f args r) (hit : ∀ g pre m post xs, it g pre m post = some xs → IterC P g pre m post xs) {gf : Nat} {fn : Func} (hfn : E.fn gf = some fn)
    {pre : List PV} {mm : Option (List PV)} {post : List PV} {xs : List (List PV)} (hb : bodyI E call it gf fn pre mm post = some xs) : IterC P gf pre mm post xs := by
  unfold bodyI at hb
  split at hb
  · cases hb
  · rename_i c hc
    split at hb
    · cases hb
    · rename_i hle
      rw [Bool.and_eq_true] at hle
      obtain ⟨hle, hres⟩ := hle
      have hle := Nat.le_of_ble_eq_true hle
      have hres : fn.results = #[] := by simpa using hres
      rw [forceSt_eq] at hb
      obtain ⟨hF1, hF2, hF3⟩ := O.env.fn _ _ hfn
      refine ⟨⟨fn, hF1, hF2, hF3⟩, ?_⟩
      intro l J Jx w far st pv mv qv hst hpre hpost hcap hfar hJ hJx hround h0 m
      refine callsIn_of_wp_marks (F := rf none) (n := m) hF1 hc trivial ?_ rfl
      let w0 : Start := { toWorld := w, keep := st, pin := fun _ => none, far := far, fix := fun _ => False, yl := some l, ap := fun _ h => h.elim }
      let Inv : List (List PV) → Start → Prop := fun r w0' => (J r w0'.far w0'.keep w0'.toWorld ∨ (r = [] ∧ ∃ rest, Jx rest w0'.far w0'.keep w0'.toWorld)) ∧ w0'.yl = some l
      have hInv : InvOk 0 Inv := fun r a b h hT hL => by
        obtain ⟨h, hy⟩ := h
        refine ⟨?_, hT.yl.trans hy⟩
        rw [hT.far]
        rcases h with h | ⟨hr, rest, h⟩
        · exact .inl (hJ _ _ _ _ _ _ h hT.below hT.same hT.keep hT.news hT.stok)
        · exact .inr ⟨hr, rest, hJx _ _ _ _ _ _ h hT.below hT.same hT.keep hT.news hT.stok⟩
      have hnow : ∀ {w0 : Start} {g : Gh} {s : St} {a : Act} {w : World} {r : List (List PV)} {K : List (List PV) → (Nat → Prop) → (Nat → Nat → Prop) → World → Prop}, Abide K → SimG 0 w0 fn.ntmps g s a w → K r w0.far w0.keep w0.toWorld → K r w0.far g.st w := fun hK hS h =>
        hK _ _ _ _ _ _ h hS.below (fun k hk => (hS.quiet k (.inl hk)).2.1) hS.kept (fun B o ho => (hS.newsq B o ho).imp id fun q hf => q (.inl hf)) hS.stlt
      have hY : YOk P 0 fn.ntmps Inv emitI := by
        intro args x y r w0 g s a w us l' k hem hI hS hus hyl
        obtain ⟨tr, rfl, rfl, rfl⟩ := emitI_some hem
        obtain ⟨hI, hyl'⟩ := hI
        rw [hyl] at hyl'
        cases hyl'
        have hI : J (args :: tr) w0.far w0.keep w0.toWorld := by
          rcases hI with hI | ⟨hI, _⟩
          · exact hI
          · cases hI
        obtain ⟨fn', tmps, asg, body, hy, hR⟩ := hround args tr w0.far g.st w us (hnow hJ hS hI) hS.stlt hus (fun k hk => Nat.lt_of_lt_of_le (hS.quiet k (.inl hk)).1 hS.below.size) k
        refine ⟨fn', tmps, asg, body, hy, hR.mono ?_⟩
        rintro e W' ⟨far', st', hStep, hres⟩
        have hff : ∀ B, w0.fix B → ¬ far' B := fun B hB hf => by
          rcases hStep.far B hf with q | q
          · exact w0.ap B hB q
          · have := Nat.lt_of_lt_of_le (hS.quiet B (.inr hB)).1 hS.below.size; omega
        let w0' : Start := { toWorld := W', keep := st', pin := w0.pin, far := far', fix := w0.fix, yl := w0.yl, ap := hff }
        have hmine : ∀ B, B < w.heap.size → ¬ w0.far B → ¬ far' B ∧ W'.heap[B]? = w.heap[B]? := fun B hB hf => ⟨fun q => (hStep.far B q).elim hf fun q => by omega, hStep.same B hB hf⟩
        have hbx : ∀ d B, g.bx d = some B → ¬ far' B ∧ W'.heap[B]? = w.heap[B]? := fun d B hd => hmine B (hS.bx_lt hd).1 fun hf => (hS.quiet B (.inl hf)).2.2.1 d hd
        have hown : ∀ d B, ownBlock (g.own d) = some B → ¬ far' B ∧ W'.heap[B]? = w.heap[B]? := fun d B hd => hmine B (hS.own_lt hd).1 fun hf => (hS.quiet B (.inl hf)).2.2.2 d hd
        have hfix : ∀ B, w0.fix B → W'.heap[B]? = w0.heap[B]? := fun B hB => (hStep.same B (Nat.lt_of_lt_of_le (hS.quiet B (.inr hB)).1 hS.below.size) (w0.ap B hB)).trans (hS.quiet B (.inr hB)).2.1
        have S' : SimG 0 w0' fn.ntmps { g with st := st' } { s with slots := s.slots } a W' := hS.turn (w0n := w0') (st1 := st') (sl := s.slots) (a' := a) (fun d B hd => (hbx d B hd).2) (fun d B hd => (hown d B hd).2) (fun B o ho => (hStep.keep B o ho).1) (fun B o ho => (hStep.keep B o ho).2)
          (fun B o ho => (hStep.news B o ho).imp id fun hf => ⟨fun d hd => (hbx d B hd).1 hf, fun d hd => (hown d B hd).1 hf⟩) hStep.ok (fun _ _ h => .inl h) (Nat.zero_le _) (Below.refl _ _) (fun _ _ h => .inl h) (fun _ _ h => ⟨h, rfl⟩) hS.pinned
          (fun B hB => by
            rcases hB with hB | hB
            · exact ⟨hStep.lt B hB, rfl, fun d hd => (hbx d B hd).1 hB, fun d hd => (hown d B hd).1 hB⟩
            · obtain ⟨q1, q2, q3, q4⟩ := hS.quiet B (.inr hB)
              exact ⟨Nat.lt_of_lt_of_le (Nat.lt_of_lt_of_le q1 hS.below.size) hStep.below.size, rfl, q3, q4⟩) rfl hS.ns (fun hle => Reps.mono hle _ _ hS.slots) (by
            obtain ⟨Ds, h1, h2, h3⟩ := hS.marks
            exact ⟨Ds, h1, h2, fun D' hD' => ⟨(h3 D' hD').1, (h3 D' hD').2.1, (hfix D' (h3 D' hD').1).trans (h3 D' hD').2.2⟩⟩)
        have hL : Later 0 noX w0 w0' :=
          { below := hS.below.trans hStep.below
            keep := fun B o ho => ⟨(hStep.keep B o (hS.kept B o ho).1).1, (hStep.keep B o (hS.kept B o ho).1).2.trans (hS.kept B o ho).2⟩
            news := fun _ _ _ => .inr (Nat.zero_le _)
            far := fun k hk => (hStep.far k hk).imp id fun q => Nat.le_trans hS.below.size q
            fix := fun B _ hB => ⟨hB, hfix B hB, fun o ho => by
              rcases hStep.news B o ho with q | q
              · exact (hS.newsq B o q).resolve_right fun q => q (.inr hB)
              · exact absurd q (hff B hB)⟩ }
        rcases hres with ⟨rfl, hJ'⟩ | ⟨rfl, hJ'⟩
        · exact ⟨true, tr, rfl, rfl, w0', rfl, rfl, hL, ⟨.inl hJ', hyl⟩, ⟨_, S'⟩⟩
        · exact ⟨false, [], rfl, rfl, w0', rfl, rfl, hL, ⟨.inr ⟨rfl, tr, hJ'⟩, hyl⟩, ⟨_, S'⟩⟩
      have hpl := hpre.length
      have hql := hpost.length
      -- the start
      have hsim : ∃ g, SimG 0 w0 fn.ntmps g { slots := itSlots fn.ntmps pre mm post, boxes := itBoxes fn.ntmps pre mm, vers := List.replicate fn.ntmps 0 }
          { tmps := (.func (.yield l) #[] #[] :: (pv ++ mv ++ qv)).toArray ++ Array.replicate (fn.ntmps - (.func (.yield l) #[] #[] :: (pv ++ mv ++ qv) : List Value).toArray.size) undef, defers := [] } w := by
        have hmk : ∀ sl : List PV, ∀ ps : List Value, sl.length = fn.ntmps → (∀ C : Ctx, (plainCtx w st).Le C → C.yl = some l → Reps C sl (.func (.yield l) #[] #[] :: ps)) →
            SimG 0 w0 fn.ntmps { gh0 st with yl := some l } (st0 sl fn.ntmps) { tmps := (.func (.yield l) #[] #[] :: ps).toArray, defers := [] } w := fun sl ps hsl hr =>
          init_sim (w0 := w0) hst rfl rfl (fun _ => rfl) (fun B h => h.elim (hfar B) fun h => h.elim) (Nat.zero_le _) (fun _ _ h => .inl h) hsl (hr _ (plainCtx_le rfl fun _ _ h => h) rfl)
        cases mm with
        | none =>
          have hcap : mv = [] := hcap
          subst hcap
          have := hmk (itSlots fn.ntmps pre none post) (pv ++ qv ++ List.replicate (fn.ntmps - (pre.length + post.length + 1)) undef) (by simp [itSlots]; omega) (fun C hC hy => by
            refine ⟨_, _, rfl, ⟨l, hy, rfl⟩, ?_⟩
            exact ((Reps.mono hC _ _ hpre).append (Reps.mono hC _ _ hpost)).append (reps_undefs _ _ _ (by simp)))
          have e : ((.func (.yield l) #[] #[] :: (pv ++ [] ++ qv)).toArray ++ Array.replicate (fn.ntmps - (.func (.yield l) #[] #[] :: (pv ++ [] ++ qv) : List Value).toArray.size) undef) = (.func (.yield l) #[] #[] :: (pv ++ qv ++ List.replicate (fn.ntmps - (pre.length + post.length + 1)) undef)).toArray := by
            apply Array.ext'
            simp [hpl, hql]
          rw [e]
          exact ⟨_, this⟩
        | some cs =>
          obtain ⟨B, us, T, rfl, e2, e3, e4, e5⟩ := hcap
          have h1 := hmk (.yld :: (pre ++ (.undef :: post) ++ List.replicate (fn.ntmps - (pre.length + post.length + 2)) .undef)) (pv ++ [.pointer (some ⟨B, 0, none⟩)] ++ qv ++ List.replicate (fn.ntmps - (pre.length + post.length + 2)) undef) (by simp; omega) (fun C hC hy => by
            refine ⟨_, _, rfl, ⟨l, hy, rfl⟩, ?_⟩
            refine Reps.append ?_ (reps_undefs _ _ _ (by simp))
            have := (Reps.mono hC _ _ hpre).append (show Reps C (.undef :: post) (.pointer (some ⟨B, 0, none⟩) :: qv) from ⟨_, _, rfl, trivial, Reps.mono hC _ _ hpost⟩)
            simpa using this)
          have h2 := h1.adopt (d := pre.length + 1) (b := .cells cs false) (p := .ptr (pre.length + 1) 0) (v := .pointer (some ⟨B, 0, none⟩)) (by omega) (st0_box _ _ _) e2 (Nat.zero_le _) (fun e q => by cases q) (fun e q => by simp [gh0, ownBlock] at q) e4
            (fun q => q.elim e5 fun q => q.elim) (.inl ⟨cs, rfl, Reps.mono (plainCtx_le (C := ctx _ w _) rfl fun _ _ h => h) _ _ e3⟩) (fun C' _ hb _ => ⟨B, hb, rfl⟩) (some (pre.length + 1))
          have e : ((.func (.yield l) #[] #[] :: (pv ++ [.pointer (some ⟨B, 0, none⟩)] ++ qv)).toArray ++ Array.replicate (fn.ntmps - (.func (.yield l) #[] #[] :: (pv ++ [.pointer (some ⟨B, 0, none⟩)] ++ qv) : List Value).toArray.size) undef) = (.func (.yield l) #[] #[] :: (pv ++ [.pointer (some ⟨B, 0, none⟩)] ++ qv ++ List.replicate (fn.ntmps - (pre.length + post.length + 2)) undef)).toArray := by
            apply Array.ext'
            simp [hpl, hql, Nat.add_assoc]
          rw [e]
          have e6 : ∀ rest : List Value, ({ tmps := (.func (.yield l) #[] #[] :: (pv ++ [.pointer (some ⟨B, 0, none⟩)] ++ rest)).toArray, defers := [] } : Act).put (some (pre.length + 1)) (.pointer (some ⟨B, 0, none⟩)) = { tmps := (.func (.yield l) #[] #[] :: (pv ++ [.pointer (some ⟨B, 0, none⟩)] ++ rest)).toArray, defers := [] } := fun rest => by
            simp only [Act.put]
            congr 1
            apply Array.ext'
            simp [← hpl]
          have e7 : (.yld :: (pre ++ (.undef :: post) ++ List.replicate (fn.ntmps - (pre.length + post.length + 2)) PV.undef)).set (pre.length + 1) (.ptr (pre.length + 1) 0) = itSlots fn.ntmps pre (some cs) post := by
            simp [itSlots]
          have e8 := e6 (qv ++ List.replicate (fn.ntmps - (pre.length + post.length + 2)) undef)
          rw [← List.append_assoc] at e8
          rw [e8] at h2
          simp only [st0, putD] at h2
          rw [e7] at h2
          exact ⟨_, h2⟩
      refine code_sound (Inv := Inv) O hcall hit hInv hY (E.loops gf) (E.ys gf) c (O.code _ _ _ hfn hc) false m none (fun _ => rfl) _ _ xs w0 _ w _ hb (fun _ _ => rfl) (fun _ _ => rfl) hsim ⟨.inl h0, rfl⟩ ?_
      intro e s' r' w0' a' w' hk _ _ _ hI hS
      obtain ⟨g', hS⟩ := hS
      have hgb : r' = [] ∧ (e = .normal ∨ e = .ret) := by
        cases e with
        | normal => cases hk; exact ⟨rfl, .inl rfl⟩
        | ret => cases hk; exact ⟨rfl, .inr rfl⟩
        | exit id => cases hk
      obtain ⟨rfl, he⟩ := hgb
      obtain ⟨tmps, defers⟩ := a'
      obtain ⟨Ds, hDs, hD2⟩ := hS.marks
      have hDs : defers = Ds.map mark := hDs
      subst hDs
      have := leaves_marks (P := P) (m := m) (fn := fn) (T := fun e w' => (∃ v, e = .returned v) ∧ ∃ far' st', J [] far' st' w' ∨ ∃ rest, Jx rest far' st' w') hInv Ds hS hI (fun w0'' w'' _ hI'' hS'' => by
        refine ⟨_, results_none hres _ _ _, ⟨_, rfl⟩, w0''.far, g'.st, ?_⟩
        rcases hI''.1 with h | ⟨_, rest, h⟩
        · exact .inl (hnow hJ hS'' h)
        · exact .inr ⟨rest, hnow hJx hS'' h⟩)
      rcases he with rfl | rfl
      · exact this
      · exact this

/-- WHAT THE EVALUATOR TELLS OF A FUNCTION, THE MACHINE DOES. -/
theorem evs_sound (O : ProgOk P E) (hext : ∀ f g, E.ext f = some g → ∀ args r, g args = some r → Contract P E f args r) : ∀ k : Nat,
    (∀ f args r, ev E k f args = some r → Contract P E f args r) ∧ ∀ g pre m post xs, evI E k g pre m post = some xs → IterC P g pre m post xs
  | 0 => ⟨fun f args r h => (by cases h), fun g pre m post xs h => (by cases h)⟩
  | k + 1 => by
    obtain ⟨ih1, ih2⟩ := evs_sound O hext k
    refine ⟨fun f args r h => ?_, fun g pre m post xs h => ?_⟩
    · unfold ev at h
      split at h
      · rename_i g hg
        exact hext f g hg args r h
      · split at h
        · cases h
        · rename_i fn hfn
          exact body_sound O ih1 ih2 hfn h
    · unfold evI at h
      split at h
      · cases h
      · rename_i fn hfn
        exact iter_sound O ih1 ih2 hfn h

theorem ev_sound (O : ProgOk P E) (hext : ∀ f g, E.ext f = some g → ∀ args r, g args = some r → Contract P E f args r) (k f : Nat) (args : List PV) (r : PV) (h : ev E k f args = some r) : Contract P E f args r :=
  (evs_sound O hext k).1 f args r h

end
end Go.Pew

namespace Go.Pew
set_option linter.unusedSimpArgs false
set_option linter.unusedVariables false
open Go.RowKit
set_option linter.unusedVariables false
set_option linter.unusedSimpArgs false

def Tab.All {α : Type} (p : Nat → α → Prop) : Tab α → Prop
  | .nil => True
  | .node k v l r => p k v ∧ l.All p ∧ r.All p

theorem Tab.find_all {α : Type} {p : Nat → α → Prop} {n : Nat} {v : α} : ∀ {t : Tab α}, t.All p → t.find n = some v → p n v
  | .nil, _, h => by cases h
  | .node k u l r, ha, h => by
    obtain ⟨h1, h2, h3⟩ := ha
    unfold Tab.find at h
    split at h
    · rename_i q
      cases h
      rw [Nat.eq_of_beq_eq_true q]
      exact h1
    · split at h
      · exact Tab.find_all h2 h
      · exact Tab.find_all h3 h

def cellOk : PV → Value → Bool
  | .undef, _ => true
  | .bool b, .bool b' => b == b'
  | .int k n, .int k' m => k == k' && decide (n = m)
  | .str s, .string s' => s.data.toList.isEmpty && s'.data.toList.isEmpty
  | .nilp, .pointer none => true
  | .sl none _ [], .slice none 0 0 => true
  | _, _ => false

def cellsOk : List PV → List Value → Bool
  | [], [] => true
  | p :: ps, v :: vs => cellOk p v && cellsOk ps vs
  | _, _ => false

theorem cellOk_rep {C : Ctx} {p : PV} {v : Value} (h : cellOk p v = true) : Rep C p v := by
  unfold cellOk at h
  split at h
  · trivial
  · rename_i b b'
    have : b = b' := by simpa using h
    subst this; rfl
  · rename_i k n k' m
    simp only [Bool.and_eq_true, decide_eq_true_eq, beq_iff_eq] at h
    obtain ⟨rfl, rfl⟩ := h
    rfl
  · rename_i s s'
    simp only [Bool.and_eq_true, List.isEmpty_iff] at h
    have h1 : s.data = #[] := by apply Array.ext'; simpa using h.1
    have h2 : s'.data = #[] := by apply Array.ext'; simpa using h.2
    cases s; cases s'
    simp only at h1 h2
    subst h1; subst h2; rfl
  · rfl
  · exact rep_nil _ _
  · cases h

theorem cellsOk_rep {C : Ctx} : ∀ {ps : List PV} {vs : List Value}, cellsOk ps vs = true → Reps C ps vs
  | [], [], _ => rfl
  | [], _ :: _, h => by simp [cellsOk] at h
  | _ :: _, [], h => by simp [cellsOk] at h
  | p :: ps, v :: vs, h => by
    simp only [cellsOk, Bool.and_eq_true] at h
    exact ⟨v, vs, rfl, cellOk_rep h.1, cellsOk_rep h.2⟩

def tyCheck (ti : TI) (i : TypeInfo) : Bool :=
  Nat.beq i.size ti.size && Nat.beq i.bytes ti.bytes && (match i.zero with | some z => cellsOk ti.zero z.cells.toList | none => false) &&
    (ti.agg == aggDesc ti.desc) && Nat.beq ti.lk.length ti.size && Nat.beq ti.zero.length ti.size

theorem info_some {P : Program} {t : Nat} {i : TypeInfo} (h : P.types[t]? = some i) : P.info? t = some i := by
  have hlt : t < P.types.size := (Array.getElem?_eq_some_iff.1 h).1
  unfold Tables.info?
  rw [if_pos hlt]
  exact h

theorem tyOk_of {P : Program} {t : Nat} {ti : TI} {i : TypeInfo} (hi : P.types[t]? = some i) (hu : P.underlying t = some ti.desc) (hc : tyCheck ti i = true) : TyOk P t ti := by
  unfold tyCheck at hc
  simp only [Bool.and_eq_true] at hc
  obtain ⟨⟨⟨⟨⟨h1, h2⟩, h3⟩, h4⟩, h5⟩, h6⟩ := hc
  split at h3
  · rename_i z hz
    exact { info := ⟨i, z, info_some hi, Nat.eq_of_beq_eq_true h1, Nat.eq_of_beq_eq_true h2, hz, fun C => cellsOk_rep h3⟩, und := hu, agg := by simpa using h4, lk := Nat.eq_of_beq_eq_true h5, zl := Nat.eq_of_beq_eq_true h6 }
  · cases h3

def fnCheck (fn : Func) : Bool := !(fn.name == "runtime.NumGoroutine") && !fn.body.isNone && (match fn.body with | some c => okCode c | none => true)

theorem fnCheck_spec {fn : Func} (h : fnCheck fn = true) : (fn.name == "runtime.NumGoroutine") = false ∧ fn.body.isNone = false ∧ ∀ c, fn.body = some c → okCode c = true := by
  unfold fnCheck at h
  simp only [Bool.and_eq_true, Bool.not_eq_true'] at h
  refine ⟨h.1.1, h.1.2, fun c hc => ?_⟩
  have := h.2
  rw [hc] at this
  exact this

theorem progOk_of {P : Program} {E : Env} {tys : Tab TI} {fns : Tab Func} (hm : P.follows .mixedOrders = true) (ht : E.ty = fun t => tys.find t) (hf : E.fn = fun f => fns.find f)
    (h1 : tys.All fun t ti => TyOk P t ti) (h2 : fns.All fun f fn => P.funcs[f]? = some fn ∧ fnCheck fn = true) (h3 : ∀ t ti, E.eq t = true → E.ty t = some ti → EqOk P t ti.lk) (h4 : MakersOk P E) : ProgOk P E :=
  { env := { ty := (fun t ti h => Tab.find_all h1 (by rw [ht] at h; exact h)), eq := h3, fn := fun f fn h => (by
      obtain ⟨e1, e2⟩ := Tab.find_all h2 (by rw [hf] at h; exact h)
      obtain ⟨e3, e4, _⟩ := fnCheck_spec e2
      exact ⟨e1, e3, e4⟩), makers := h4 }
    mixed := hm
    code := fun f fn c h hc => by
      obtain ⟨e1, e2⟩ := Tab.find_all h2 (by rw [hf] at h; exact h)
      exact (fnCheck_spec e2).2.2 c hc }

theorem conf_int {k : IntKind} {v : PV} (h : conf (.int k) v = true) : ∃ n, v = .int k n := by
  cases v with
  | int k' n =>
    have : k = k' := by simpa [conf] using h
    subst this
    exact ⟨n, rfl⟩
  | _ => simp [conf] at h

theorem confs_cons {l : LK} {ls : List LK} {cs : List PV} (h : confs (l :: ls) cs = true) : ∃ c cs', cs = c :: cs' ∧ conf l c = true ∧ confs ls cs' = true := by
  cases cs with
  | nil => simp [confs] at h
  | cons c cs => simp only [confs, Bool.and_eq_true] at h; exact ⟨c, cs, rfl, h.1, h.2⟩

theorem confs_nil {cs : List PV} (h : confs [] cs = true) : cs = [] := by
  cases cs with
  | nil => rfl
  | cons c cs => simp [confs] at h

theorem reps_ints {C : Ctx} {ls : List LK} {cs : List PV} {us : List Value} : (∀ l ∈ ls, l = .int .i64) → confs ls cs = true → Reps C cs us → ∃ ns : List Int, ns.length = ls.length ∧ cs = ns.map (PV.int .i64) ∧ us = ns.map (Value.int .i64) := by
  intro hl hc hr
  induction ls generalizing cs us with
  | nil =>
    have := confs_nil hc
    subst this
    rw [Reps] at hr
    exact ⟨[], rfl, rfl, hr⟩
  | cons l ls ih =>
    obtain ⟨c, cs', rfl, h1, h2⟩ := confs_cons hc
    rw [Reps] at hr
    obtain ⟨u, ws, rfl, h3, h4⟩ := hr
    rw [hl l (List.mem_cons_self ..)] at h1
    obtain ⟨n, rfl⟩ := conf_int h1
    obtain ⟨ns, e1, rfl, rfl⟩ := ih (fun x hx => hl x (List.mem_cons_of_mem _ hx)) h2 h4
    have h3 : u = .int .i64 n := h3
    subst h3
    exact ⟨n :: ns, by simp [e1], rfl, rfl⟩

theorem run_part_int {P : Program} {t : Nat} {k : IntKind} (h : P.underlying t = some (.int k)) {us : Array Value} {off : Nat} {v : Value} (hv : us[off]? = some v) (w : World) : (part t us off).run P w = .ok v w := by
  have : (isAgg t).run P w = .ok false w := by
    unfold isAgg
    rw [Sem.run_bind, run_underlying h]
    rfl
  unfold part
  rw [Sem.run_bind, this]
  simp [hv]

theorem run_equalIn_int {P : Program} {t : Nat} {k : IntKind} (h : P.underlying t = some (.int k)) (d : Nat) (a b : Int) (w : World) : (Op.equalIn (d + 1) t (.int k a) (.int k b)).run P w = .ok (a == b) w := by
  unfold Op.equalIn
  rw [Sem.run_bind, run_underlying h]
  simp

theorem eqOk_two {P : Program} {t : Nat} {f1 f2 : Field} (hg : P.eqGuardType P.depth t = false) (hs : P.stoodInHeld t = false) (hu : P.underlying t = some (.struct #[f1, f2])) (n1 : f1.name ≠ "_") (n2 : f2.name ≠ "_") (o1 : f1.offset = 0) (o2 : f2.offset = 1)
    (k1 : P.underlying f1.type = some (.int .i64)) (k2 : P.underlying f2.type = some (.int .i64)) : EqOk P t [.int .i64, .int .i64] := by
  intro C xs ys us vs b x y w h1 h2 h3 h4 he
  obtain ⟨ns, e1, rfl, hu1⟩ := reps_ints (by simp) h1 h3
  obtain ⟨ms, e2, rfl, hv1⟩ := reps_ints (by simp) h2 h4
  have hu' : us = (ns.map (Value.int .i64)).toArray := by rw [← hu1]
  have hv' : vs = (ms.map (Value.int .i64)).toArray := by rw [← hv1]
  subst hu'; subst hv'
  match ns, ms, e1, e2 with
  | [a1, a2], [b1, b2], _, _ =>
    simp [eqCells, eqLeaf] at he
    subst he
    have hgd : ∀ op, (eqGuard op t x y (.agg #[.int .i64 a1, .int .i64 a2]) (.agg #[.int .i64 b1, .int .i64 b2])).run P w = .ok () w := fun op => by
      cases op <;> simp [eqGuard, hg]
    have heq : (Op.equal t (.agg #[.int .i64 a1, .int .i64 a2]) (.agg #[.int .i64 b1, .int .i64 b2])).run P w = .ok (decide (a1 = b1) && decide (a2 = b2)) w := by
      have e1 := fun d => run_equalIn_int k1 d a1 b1 w
      have e2 := fun d => run_equalIn_int k2 d a2 b2 w
      unfold Op.equal
      rw [show Op.maxDepth = (Op.maxDepth - 2) + 1 + 1 from rfl]
      rw [Op.equalIn]
      simp only [Sem.run_bind, run_underlying hu, Result.andThen_ok, run_program, hs, Bool.false_eq_true, if_false]
      have p1 := fun v1 v2 => run_part_int k1 (us := #[Value.int .i64 v1, .int .i64 v2]) (off := 0) (v := .int .i64 v1) rfl w
      have p2 := fun v1 v2 => run_part_int k2 (us := #[Value.int .i64 v1, .int .i64 v2]) (off := 1) (v := .int .i64 v2) rfl w
      simp only [← Array.forIn_toList, List.forIn_cons, List.forIn_nil, n1, n2, o1, o2, ne_eq, not_false_eq_true, if_true, Sem.run_bind, p1, p2, e1, Result.andThen_ok]
      by_cases q1 : a1 = b1
      · have q1' : (a1 == b1) = true := by simp [q1]
        by_cases q2 : a2 = b2
        · have q2' : (a2 == b2) = true := by simp [q2]
          simp [q1', q2', e2, p1, p2]
          simp [q1, q2]
        · have q2' : (a2 == b2) = false := by simp [q2]
          simp [q1', q2', e2, p1, p2]
          simp [q1, q2]
      · have q1' : (a1 == b1) = false := by simp [q1]
        simp [q1']
        simp [q1]
    constructor
    · simp [hgd, binOp, heq]
    · simp [hgd, binOp, heq]

end Go.Pew

namespace Go.Pew
set_option linter.unusedSimpArgs false
set_option linter.unusedVariables false
set_option linter.unusedVariables false
set_option linter.unusedSimpArgs false

theorem eqOk_three {P : Program} {t : Nat} {f1 f2 f3 : Field} (hg : P.eqGuardType P.depth t = false) (hs : P.stoodInHeld t = false) (hu : P.underlying t = some (.struct #[f1, f2, f3])) (n1 : f1.name ≠ "_") (n2 : f2.name ≠ "_") (n3 : f3.name ≠ "_") (o1 : f1.offset = 0) (o2 : f2.offset = 1) (o3 : f3.offset = 2)
    (k1 : P.underlying f1.type = some (.int .i64)) (k2 : P.underlying f2.type = some (.int .i64)) (k3 : P.underlying f3.type = some (.int .i64)) : EqOk P t [.int .i64, .int .i64, .int .i64] := by
  intro C xs ys us vs b x y w h1 h2 h3 h4 he
  obtain ⟨ns, e1, rfl, hu1⟩ := reps_ints (by simp) h1 h3
  obtain ⟨ms, e2, rfl, hv1⟩ := reps_ints (by simp) h2 h4
  have hu' : us = (ns.map (Value.int .i64)).toArray := by rw [← hu1]
  have hv' : vs = (ms.map (Value.int .i64)).toArray := by rw [← hv1]
  subst hu'; subst hv'
  match ns, ms, e1, e2 with
  | [a1, a2, a3], [b1, b2, b3], _, _ =>
    simp [eqCells, eqLeaf] at he
    subst he
    have hgd : ∀ op, (eqGuard op t x y (.agg #[.int .i64 a1, .int .i64 a2, .int .i64 a3]) (.agg #[.int .i64 b1, .int .i64 b2, .int .i64 b3])).run P w = .ok () w := fun op => by
      cases op <;> simp [eqGuard, hg]
    have heq : (Op.equal t (.agg #[.int .i64 a1, .int .i64 a2, .int .i64 a3]) (.agg #[.int .i64 b1, .int .i64 b2, .int .i64 b3])).run P w = .ok (decide (a1 = b1) && (decide (a2 = b2) && decide (a3 = b3))) w := by
      have e1 := fun d => run_equalIn_int k1 d a1 b1 w
      have e2 := fun d => run_equalIn_int k2 d a2 b2 w
      have e3 := fun d => run_equalIn_int k3 d a3 b3 w
      unfold Op.equal
      rw [show Op.maxDepth = (Op.maxDepth - 2) + 1 + 1 from rfl]
      rw [Op.equalIn]
      simp only [Sem.run_bind, run_underlying hu, Result.andThen_ok, run_program, hs, Bool.false_eq_true, if_false]
      have p1 := fun v1 v2 v3 => run_part_int k1 (us := #[Value.int .i64 v1, .int .i64 v2, .int .i64 v3]) (off := 0) (v := .int .i64 v1) rfl w
      have p2 := fun v1 v2 v3 => run_part_int k2 (us := #[Value.int .i64 v1, .int .i64 v2, .int .i64 v3]) (off := 1) (v := .int .i64 v2) rfl w
      have p3 := fun v1 v2 v3 => run_part_int k3 (us := #[Value.int .i64 v1, .int .i64 v2, .int .i64 v3]) (off := 2) (v := .int .i64 v3) rfl w
      simp only [← Array.forIn_toList, List.forIn_cons, List.forIn_nil, n1, n2, n3, o1, o2, o3, ne_eq, not_false_eq_true, if_true, Sem.run_bind, p1, p2, p3, e1, Result.andThen_ok]
      by_cases q1 : a1 = b1
      · have q1' : (a1 == b1) = true := by simp [q1]
        by_cases q2 : a2 = b2
        · have q2' : (a2 == b2) = true := by simp [q2]
          by_cases q3 : a3 = b3
          · have q3' : (a3 == b3) = true := by simp [q3]
            simp [q1', q2', q3', e2, e3, p1, p2, p3]
            simp [q1, q2, q3]
          · have q3' : (a3 == b3) = false := by simp [q3]
            simp [q1', q2', q3', e2, e3, p1, p2, p3]
            simp [q1, q2, q3]
        · have q2' : (a2 == b2) = false := by simp [q2]
          simp [q1', q2', e2, e3, p1, p2, p3]
          simp [q1, q2]
      · have q1' : (a1 == b1) = false := by simp [q1]
        simp [q1']
        simp [q1]
    constructor
    · simp [hgd, binOp, heq]
    · simp [hgd, binOp, heq]

end Go.Pew

namespace Go.PewTab
set_option linter.unusedSimpArgs false
set_option linter.unusedVariables false
open Go.Pew

noncomputable def ty3 : TI := { size := 1, bytes := 8, agg := false, desc := .int .i64, zero := [.int .i64 0], lk := [.int .i64] }
noncomputable def ty4 : TI := { size := 1, bytes := 1, agg := false, desc := .bool, zero := [.bool false], lk := [.bool] }
noncomputable def ty9 : TI := { size := 1, bytes := 16, agg := false, desc := .string, zero := [.str ⟨#[]⟩], lk := [.str] }
noncomputable def ty22 : TI := { size := 1, bytes := 24, agg := false, desc := .slice 108, zero := [.sl none [.int .i64, .int .i64] []], lk := [.sl [.int .i64, .int .i64]] }
noncomputable def ty24 : TI := { size := 1, bytes := 24, agg := true, desc := .struct #[{ name := "Knots", type := 22, offset := 0, embedded := false, tag := "", pkgPath := "", byteOffset := 0 }], zero := [.sl none [.int .i64, .int .i64] []], lk := [.sl [.int .i64, .int .i64]] }
noncomputable def ty26 : TI := { size := 3, bytes := 56, agg := true, desc := .struct #[{ name := "Upper", type := 24, offset := 0, embedded := false, tag := "", pkgPath := "", byteOffset := 0 }, { name := "Lower", type := 24, offset := 1, embedded := false, tag := "", pkgPath := "", byteOffset := 24 }, { name := "Rate", type := 3, offset := 2, embedded := false, tag := "", pkgPath := "", byteOffset := 48 }], zero := [.sl none [.int .i64, .int .i64] [], .sl none [.int .i64, .int .i64] [], .int .i64 0], lk := [.sl [.int .i64, .int .i64], .sl [.int .i64, .int .i64], .int .i64] }
noncomputable def ty28 : TI := { size := 2, bytes := 16, agg := true, desc := .struct #[{ name := "Upper", type := 3, offset := 0, embedded := false, tag := "", pkgPath := "", byteOffset := 0 }, { name := "Lower", type := 3, offset := 1, embedded := false, tag := "", pkgPath := "", byteOffset := 8 }], zero := [.int .i64 0, .int .i64 0], lk := [.int .i64, .int .i64] }
noncomputable def ty30 : TI := { size := 2, bytes := 16, agg := true, desc := .struct #[{ name := "Lo", type := 3, offset := 0, embedded := false, tag := "", pkgPath := "", byteOffset := 0 }, { name := "Hi", type := 3, offset := 1, embedded := false, tag := "", pkgPath := "", byteOffset := 8 }], zero := [.int .i64 0, .int .i64 0], lk := [.int .i64, .int .i64] }
noncomputable def ty32 : TI := { size := 5, bytes := 40, agg := true, desc := .struct #[{ name := "Levels", type := 30, offset := 0, embedded := false, tag := "", pkgPath := "", byteOffset := 0 }, { name := "Fall", type := 3, offset := 2, embedded := false, tag := "", pkgPath := "", byteOffset := 16 }, { name := "Rise", type := 3, offset := 3, embedded := false, tag := "", pkgPath := "", byteOffset := 24 }, { name := "Window", type := 3, offset := 4, embedded := false, tag := "", pkgPath := "", byteOffset := 32 }], zero := [.int .i64 0, .int .i64 0, .int .i64 0, .int .i64 0, .int .i64 0], lk := [.int .i64, .int .i64, .int .i64, .int .i64, .int .i64] }
noncomputable def ty34 : TI := { size := 10, bytes := 80, agg := true, desc := .struct #[{ name := "Upper", type := 32, offset := 0, embedded := false, tag := "", pkgPath := "", byteOffset := 0 }, { name := "Lower", type := 32, offset := 5, embedded := false, tag := "", pkgPath := "", byteOffset := 40 }], zero := [.int .i64 0, .int .i64 0, .int .i64 0, .int .i64 0, .int .i64 0, .int .i64 0, .int .i64 0, .int .i64 0, .int .i64 0, .int .i64 0], lk := [.int .i64, .int .i64, .int .i64, .int .i64, .int .i64, .int .i64, .int .i64, .int .i64, .int .i64, .int .i64] }
noncomputable def ty35 : TI := { size := 1, bytes := 24, agg := false, desc := .slice 63, zero := [.sl none [.int .i64, .int .i64, .int .i64] []], lk := [.sl [.int .i64, .int .i64, .int .i64]] }
noncomputable def ty37 : TI := { size := 11, bytes := 104, agg := true, desc := .struct #[{ name := "Limits", type := 34, offset := 0, embedded := false, tag := "", pkgPath := "", byteOffset := 0 }, { name := "Flows", type := 35, offset := 10, embedded := false, tag := "", pkgPath := "", byteOffset := 80 }], zero := [.int .i64 0, .int .i64 0, .int .i64 0, .int .i64 0, .int .i64 0, .int .i64 0, .int .i64 0, .int .i64 0, .int .i64 0, .int .i64 0, .sl none [.int .i64, .int .i64, .int .i64] []], lk := [.int .i64, .int .i64, .int .i64, .int .i64, .int .i64, .int .i64, .int .i64, .int .i64, .int .i64, .int .i64, .sl [.int .i64, .int .i64, .int .i64]] }
noncomputable def ty40 : TI := { size := 1, bytes := 8, agg := false, desc := .func #[3] #[4] false, zero := [.undef], lk := [.any] }
noncomputable def ty42 : TI := { size := 3, bytes := 24, agg := true, desc := .struct #[{ name := "Tick", type := 3, offset := 0, embedded := false, tag := "", pkgPath := "", byteOffset := 0 }, { name := "Lake", type := 3, offset := 1, embedded := false, tag := "", pkgPath := "", byteOffset := 8 }, { name := "Kind", type := 3, offset := 2, embedded := false, tag := "", pkgPath := "", byteOffset := 16 }], zero := [.int .i64 0, .int .i64 0, .int .i64 0], lk := [.int .i64, .int .i64, .int .i64] }
noncomputable def ty43 : TI := { size := 1, bytes := 8, agg := false, desc := .int .i64, zero := [.int .i64 0], lk := [.int .i64] }
noncomputable def ty63 : TI := { size := 3, bytes := 24, agg := true, desc := .struct #[{ name := "InUpper", type := 3, offset := 0, embedded := false, tag := "", pkgPath := "", byteOffset := 0 }, { name := "InLower", type := 3, offset := 1, embedded := false, tag := "", pkgPath := "", byteOffset := 8 }, { name := "Exchange", type := 3, offset := 2, embedded := false, tag := "", pkgPath := "", byteOffset := 16 }], zero := [.int .i64 0, .int .i64 0, .int .i64 0], lk := [.int .i64, .int .i64, .int .i64] }
noncomputable def ty68 : TI := { size := 2, bytes := 16, agg := true, desc := .struct #[{ name := "Evaporated", type := 3, offset := 0, embedded := false, tag := "", pkgPath := "", byteOffset := 0 }, { name := "Spilled", type := 3, offset := 1, embedded := false, tag := "", pkgPath := "", byteOffset := 8 }], zero := [.int .i64 0, .int .i64 0], lk := [.int .i64, .int .i64] }
noncomputable def ty75 : TI := { size := 1, bytes := 24, agg := false, desc := .slice 3, zero := [.sl none [.int .i64] []], lk := [.sl [.int .i64]] }
noncomputable def ty77 : TI := { size := 3, bytes := 24, agg := true, desc := .struct #[{ name := "Tick", type := 3, offset := 0, embedded := false, tag := "", pkgPath := "", byteOffset := 0 }, { name := "Level", type := 30, offset := 1, embedded := false, tag := "", pkgPath := "", byteOffset := 8 }], zero := [.int .i64 0, .int .i64 0, .int .i64 0], lk := [.int .i64, .int .i64, .int .i64] }
noncomputable def ty78 : TI := { size := 1, bytes := 24, agg := false, desc := .slice 77, zero := [.sl none [.int .i64, .int .i64, .int .i64] []], lk := [.sl [.int .i64, .int .i64, .int .i64]] }
noncomputable def ty81 : TI := { size := 1, bytes := 24, agg := true, desc := .struct #[{ name := "LakeTable", type := 24, offset := 0, embedded := true, tag := "", pkgPath := "", byteOffset := 0 }], zero := [.sl none [.int .i64, .int .i64] []], lk := [.sl [.int .i64, .int .i64]] }
noncomputable def ty82 : TI := { size := 2, bytes := 48, agg := true, desc := .array 2 81, zero := [.sl none [.int .i64, .int .i64] [], .sl none [.int .i64, .int .i64] []], lk := [.sl [.int .i64, .int .i64], .sl [.int .i64, .int .i64]] }
noncomputable def ty84 : TI := { size := 3, bytes := 56, agg := true, desc := .struct #[{ name := "lakes", type := 82, offset := 0, embedded := false, tag := "", pkgPath := "guidevane/lake", byteOffset := 0 }, { name := "rate", type := 3, offset := 2, embedded := false, tag := "", pkgPath := "guidevane/lake", byteOffset := 48 }], zero := [.sl none [.int .i64, .int .i64] [], .sl none [.int .i64, .int .i64] [], .int .i64 0], lk := [.sl [.int .i64, .int .i64], .sl [.int .i64, .int .i64], .int .i64] }
noncomputable def ty87 : TI := { size := 1, bytes := 8, agg := false, desc := .func #[126] #[] false, zero := [.undef], lk := [.any] }
noncomputable def ty89 : TI := { size := 1, bytes := 8, agg := false, desc := .func #[133] #[] false, zero := [.undef], lk := [.any] }
noncomputable def ty90 : TI := { size := 1, bytes := 8, agg := false, desc := .func #[133] #[] false, zero := [.undef], lk := [.any] }
noncomputable def ty92 : TI := { size := 1, bytes := 8, agg := false, desc := .pointer 42, zero := [.nilp], lk := [.any] }
noncomputable def ty99 : TI := { size := 1, bytes := 24, agg := false, desc := .slice 28, zero := [.sl none [.int .i64, .int .i64] []], lk := [.sl [.int .i64, .int .i64]] }
noncomputable def ty108 : TI := { size := 2, bytes := 16, agg := true, desc := .struct #[{ name := "Level", type := 3, offset := 0, embedded := false, tag := "", pkgPath := "", byteOffset := 0 }, { name := "Volume", type := 3, offset := 1, embedded := false, tag := "", pkgPath := "", byteOffset := 8 }], zero := [.int .i64 0, .int .i64 0], lk := [.int .i64, .int .i64] }
noncomputable def ty113 : TI := { size := 3, bytes := 24, agg := true, desc := .struct #[{ name := "whole", type := 3, offset := 0, embedded := false, tag := "", pkgPath := "guidevane/lake", byteOffset := 0 }, { name := "num", type := 3, offset := 1, embedded := false, tag := "", pkgPath := "guidevane/lake", byteOffset := 8 }, { name := "den", type := 3, offset := 2, embedded := false, tag := "", pkgPath := "guidevane/lake", byteOffset := 16 }], zero := [.int .i64 0, .int .i64 0, .int .i64 0], lk := [.int .i64, .int .i64, .int .i64] }
noncomputable def ty120 : TI := { size := 1, bytes := 24, agg := false, desc := .slice 30, zero := [.sl none [.int .i64, .int .i64] []], lk := [.sl [.int .i64, .int .i64]] }
noncomputable def ty126 : TI := { size := 1, bytes := 8, agg := false, desc := .func #[4, 92] #[4] false, zero := [.undef], lk := [.any] }
noncomputable def ty127 : TI := { size := 1, bytes := 24, agg := false, desc := .slice 113, zero := [.sl none [.int .i64, .int .i64, .int .i64] []], lk := [.sl [.int .i64, .int .i64, .int .i64]] }
noncomputable def ty128 : TI := { size := 2, bytes := 48, agg := true, desc := .array 2 127, zero := [.sl none [.int .i64, .int .i64, .int .i64] [], .sl none [.int .i64, .int .i64, .int .i64] []], lk := [.sl [.int .i64, .int .i64, .int .i64], .sl [.int .i64, .int .i64, .int .i64]] }
noncomputable def ty129 : TI := { size := 2, bytes := 16, agg := true, desc := .array 2 3, zero := [.int .i64 0, .int .i64 0], lk := [.int .i64, .int .i64] }
noncomputable def ty130 : TI := { size := 10, bytes := 80, agg := true, desc := .array 2 32, zero := [.int .i64 0, .int .i64 0, .int .i64 0, .int .i64 0, .int .i64 0, .int .i64 0, .int .i64 0, .int .i64 0, .int .i64 0, .int .i64 0], lk := [.int .i64, .int .i64, .int .i64, .int .i64, .int .i64, .int .i64, .int .i64, .int .i64, .int .i64, .int .i64] }
noncomputable def ty133 : TI := { size := 1, bytes := 8, agg := false, desc := .func #[63] #[4] false, zero := [.undef], lk := [.any] }
noncomputable def ty144 : TI := { size := 2, bytes := 32, agg := true, desc := .struct #[{ name := "Sign", type := 3, offset := 0, embedded := false, tag := "", pkgPath := "", byteOffset := 0 }, { name := "Digits", type := 75, offset := 1, embedded := false, tag := "", pkgPath := "", byteOffset := 8 }], zero := [.int .i64 0, .sl none [.int .i64] []], lk := [.int .i64, .sl [.int .i64]] }
noncomputable def ty146 : TI := { size := 4, bytes := 64, agg := true, desc := .struct #[{ name := "Num", type := 144, offset := 0, embedded := false, tag := "", pkgPath := "", byteOffset := 0 }, { name := "Den", type := 144, offset := 2, embedded := false, tag := "", pkgPath := "", byteOffset := 32 }], zero := [.int .i64 0, .sl none [.int .i64] [], .int .i64 0, .sl none [.int .i64] []], lk := [.int .i64, .sl [.int .i64], .int .i64, .sl [.int .i64]] }
noncomputable def ty152 : TI := { size := 4, bytes := 4, agg := true, desc := .array 4 4, zero := [.bool false, .bool false, .bool false, .bool false], lk := [.bool, .bool, .bool, .bool] }
noncomputable def ty153 : TI := { size := 1, bytes := 24, agg := false, desc := .slice 43, zero := [.sl none [.int .i64] []], lk := [.sl [.int .i64]] }
noncomputable def ty154 : TI := { size := 1, bytes := 8, agg := false, desc := .int .u64, zero := [.int .u64 0], lk := [.int .u64] }
noncomputable def ty159 : TI := { size := 4, bytes := 32, agg := true, desc := .struct #[{ name := "low", type := 108, offset := 0, embedded := false, tag := "", pkgPath := "guidevane/lake", byteOffset := 0 }, { name := "high", type := 108, offset := 2, embedded := false, tag := "", pkgPath := "guidevane/lake", byteOffset := 16 }], zero := [.int .i64 0, .int .i64 0, .int .i64 0, .int .i64 0], lk := [.int .i64, .int .i64, .int .i64, .int .i64] }
noncomputable def ty169 : TI := { size := 1, bytes := 24, agg := false, desc := .slice 4, zero := [.sl none [.bool] []], lk := [.sl [.bool]] }
noncomputable def ty176 : TI := { size := 1, bytes := 4, agg := false, desc := .int .u32, zero := [.int .u32 0], lk := [.int .u32] }
noncomputable def ty179 : TI := { size := 1, bytes := 8, agg := false, desc := .int .u64, zero := [.int .u64 0], lk := [.int .u64] }
noncomputable def ty184 : TI := { size := 1, bytes := 8, agg := false, desc := .func #[108] #[4] false, zero := [.undef], lk := [.any] }
noncomputable def tyTab : Tab TI := (.node 87 ty87 (.node 37 ty37 (.node 26 ty26 (.node 9 ty9 (.node 4 ty4 (.node 3 ty3 .nil .nil) .nil) (.node 24 ty24 (.node 22 ty22 .nil .nil) .nil)) (.node 32 ty32 (.node 30 ty30 (.node 28 ty28 .nil .nil) .nil) (.node 35 ty35 (.node 34 ty34 .nil .nil) .nil))) (.node 75 ty75 (.node 43 ty43 (.node 42 ty42 (.node 40 ty40 .nil .nil) .nil) (.node 68 ty68 (.node 63 ty63 .nil .nil) .nil)) (.node 81 ty81 (.node 78 ty78 (.node 77 ty77 .nil .nil) .nil) (.node 84 ty84 (.node 82 ty82 .nil .nil) .nil)))) (.node 130 ty130 (.node 113 ty113 (.node 92 ty92 (.node 90 ty90 (.node 89 ty89 .nil .nil) .nil) (.node 108 ty108 (.node 99 ty99 .nil .nil) .nil)) (.node 127 ty127 (.node 126 ty126 (.node 120 ty120 .nil .nil) .nil) (.node 129 ty129 (.node 128 ty128 .nil .nil) .nil))) (.node 154 ty154 (.node 146 ty146 (.node 144 ty144 (.node 133 ty133 .nil .nil) .nil) (.node 153 ty153 (.node 152 ty152 .nil .nil) .nil)) (.node 176 ty176 (.node 169 ty169 (.node 159 ty159 .nil .nil) .nil) (.node 184 ty184 (.node 179 ty179 .nil .nil) .nil)))))
noncomputable def fnTab : Tab Func := (.node 69 Go.Proofs.Tryz.f69 (.node 36 Go.Proofs.Tryz.f36 (.node 19 Go.Proofs.Tryz.f19 (.node 11 Go.Proofs.Tryz.f11 (.node 7 Go.Proofs.Tryz.f7 (.node 5 Go.Proofs.Tryz.f5 (.node 4 Go.Proofs.Tryz.f4 (.node 3 Go.Proofs.Tryz.f3 .nil .nil) .nil) (.node 6 Go.Proofs.Tryz.f6 .nil .nil)) (.node 9 Go.Proofs.Tryz.f9 (.node 8 Go.Proofs.Tryz.f8 .nil .nil) (.node 10 Go.Proofs.Tryz.f10 .nil .nil))) (.node 15 Go.Proofs.Tryz.f15 (.node 13 Go.Proofs.Tryz.f13 (.node 12 Go.Proofs.Tryz.f12 .nil .nil) (.node 14 Go.Proofs.Tryz.f14 .nil .nil)) (.node 17 Go.Proofs.Tryz.f17 (.node 16 Go.Proofs.Tryz.f16 .nil .nil) (.node 18 Go.Proofs.Tryz.f18 .nil .nil)))) (.node 28 Go.Proofs.Tryz.f28 (.node 24 Go.Proofs.Tryz.f24 (.node 22 Go.Proofs.Tryz.f22 (.node 21 Go.Proofs.Tryz.f21 (.node 20 Go.Proofs.Tryz.f20 .nil .nil) .nil) (.node 23 Go.Proofs.Tryz.f23 .nil .nil)) (.node 26 Go.Proofs.Tryz.f26 (.node 25 Go.Proofs.Tryz.f25 .nil .nil) (.node 27 Go.Proofs.Tryz.f27 .nil .nil))) (.node 32 Go.Proofs.Tryz.f32 (.node 30 Go.Proofs.Tryz.f30 (.node 29 Go.Proofs.Tryz.f29 .nil .nil) (.node 31 Go.Proofs.Tryz.f31 .nil .nil)) (.node 34 Go.Proofs.Tryz.f34 (.node 33 Go.Proofs.Tryz.f33 .nil .nil) (.node 35 Go.Proofs.Tryz.f35 .nil .nil))))) (.node 53 Go.Proofs.Tryz.f53 (.node 45 Go.Proofs.Tryz.f45 (.node 41 Go.Proofs.Tryz.f41 (.node 39 Go.Proofs.Tryz.f39 (.node 38 Go.Proofs.Tryz.f38 (.node 37 Go.Proofs.Tryz.f37 .nil .nil) .nil) (.node 40 Go.Proofs.Tryz.f40 .nil .nil)) (.node 43 Go.Proofs.Tryz.f43 (.node 42 Go.Proofs.Tryz.f42 .nil .nil) (.node 44 Go.Proofs.Tryz.f44 .nil .nil))) (.node 49 Go.Proofs.Tryz.f49 (.node 47 Go.Proofs.Tryz.f47 (.node 46 Go.Proofs.Tryz.f46 .nil .nil) (.node 48 Go.Proofs.Tryz.f48 .nil .nil)) (.node 51 Go.Proofs.Tryz.f51 (.node 50 Go.Proofs.Tryz.f50 .nil .nil) (.node 52 Go.Proofs.Tryz.f52 .nil .nil)))) (.node 61 Go.Proofs.Tryz.f61 (.node 57 Go.Proofs.Tryz.f57 (.node 55 Go.Proofs.Tryz.f55 (.node 54 Go.Proofs.Tryz.f54 .nil .nil) (.node 56 Go.Proofs.Tryz.f56 .nil .nil)) (.node 59 Go.Proofs.Tryz.f59 (.node 58 Go.Proofs.Tryz.f58 .nil .nil) (.node 60 Go.Proofs.Tryz.f60 .nil .nil))) (.node 65 Go.Proofs.Tryz.f65 (.node 63 Go.Proofs.Tryz.f63 (.node 62 Go.Proofs.Tryz.f62 .nil .nil) (.node 64 Go.Proofs.Tryz.f64 .nil .nil)) (.node 67 Go.Proofs.Tryz.f67 (.node 66 Go.Proofs.Tryz.f66 .nil .nil) (.node 68 Go.Proofs.Tryz.f68 .nil .nil)))))) (.node 103 Go.Proofs.Tryz.f103 (.node 86 Go.Proofs.Tryz.f86 (.node 78 Go.Proofs.Tryz.f78 (.node 74 Go.Proofs.Tryz.f74 (.node 72 Go.Proofs.Tryz.f72 (.node 71 Go.Proofs.Tryz.f71 (.node 70 Go.Proofs.Tryz.f70 .nil .nil) .nil) (.node 73 Go.Proofs.Tryz.f73 .nil .nil)) (.node 76 Go.Proofs.Tryz.f76 (.node 75 Go.Proofs.Tryz.f75 .nil .nil) (.node 77 Go.Proofs.Tryz.f77 .nil .nil))) (.node 82 Go.Proofs.Tryz.f82 (.node 80 Go.Proofs.Tryz.f80 (.node 79 Go.Proofs.Tryz.f79 .nil .nil) (.node 81 Go.Proofs.Tryz.f81 .nil .nil)) (.node 84 Go.Proofs.Tryz.f84 (.node 83 Go.Proofs.Tryz.f83 .nil .nil) (.node 85 Go.Proofs.Tryz.f85 .nil .nil)))) (.node 95 Go.Proofs.Tryz.f95 (.node 91 Go.Proofs.Tryz.f91 (.node 89 Go.Proofs.Tryz.f89 (.node 88 Go.Proofs.Tryz.f88 (.node 87 Go.Proofs.Tryz.f87 .nil .nil) .nil) (.node 90 Go.Proofs.Tryz.f90 .nil .nil)) (.node 93 Go.Proofs.Tryz.f93 (.node 92 Go.Proofs.Tryz.f92 .nil .nil) (.node 94 Go.Proofs.Tryz.f94 .nil .nil))) (.node 99 Go.Proofs.Tryz.f99 (.node 97 Go.Proofs.Tryz.f97 (.node 96 Go.Proofs.Tryz.f96 .nil .nil) (.node 98 Go.Proofs.Tryz.f98 .nil .nil)) (.node 101 Go.Proofs.Tryz.f101 (.node 100 Go.Proofs.Tryz.f100 .nil .nil) (.node 102 Go.Proofs.Tryz.f102 .nil .nil))))) (.node 120 Go.Proofs.Tryz.f120 (.node 112 Go.Proofs.Tryz.f112 (.node 108 Go.Proofs.Tryz.f108 (.node 106 Go.Proofs.Tryz.f106 (.node 105 Go.Proofs.Tryz.f105 (.node 104 Go.Proofs.Tryz.f104 .nil .nil) .nil) (.node 107 Go.Proofs.Tryz.f107 .nil .nil)) (.node 110 Go.Proofs.Tryz.f110 (.node 109 Go.Proofs.Tryz.f109 .nil .nil) (.node 111 Go.Proofs.Tryz.f111 .nil .nil))) (.node 116 Go.Proofs.Tryz.f116 (.node 114 Go.Proofs.Tryz.f114 (.node 113 Go.Proofs.Tryz.f113 .nil .nil) (.node 115 Go.Proofs.Tryz.f115 .nil .nil)) (.node 118 Go.Proofs.Tryz.f118 (.node 117 Go.Proofs.Tryz.f117 .nil .nil) (.node 119 Go.Proofs.Tryz.f119 .nil .nil)))) (.node 128 Go.Proofs.Tryz.f128 (.node 124 Go.Proofs.Tryz.f124 (.node 122 Go.Proofs.Tryz.f122 (.node 121 Go.Proofs.Tryz.f121 .nil .nil) (.node 123 Go.Proofs.Tryz.f123 .nil .nil)) (.node 126 Go.Proofs.Tryz.f126 (.node 125 Go.Proofs.Tryz.f125 .nil .nil) (.node 127 Go.Proofs.Tryz.f127 .nil .nil))) (.node 132 Go.Proofs.Tryz.f132 (.node 130 Go.Proofs.Tryz.f130 (.node 129 Go.Proofs.Tryz.f129 .nil .nil) (.node 131 Go.Proofs.Tryz.f131 .nil .nil)) (.node 134 Go.Proofs.Tryz.f134 (.node 133 Go.Proofs.Tryz.f133 .nil .nil) (.node 135 Go.Proofs.Tryz.f135 .nil .nil)))))))
noncomputable def hdTab : Tab (Tab Hd) := (.node 85 (.node 6 { forget := [0, 2, 3, 4, 5, 6, 7, 9, 10, 11, 12, 13, 14, 15, 16, 17, 18, 19, 20, 21, 22, 23, 24, 25, 26, 30, 31, 32, 33, 34, 35, 36, 37, 38, 39, 40, 41, 42, 43, 44, 45, 46, 47, 48, 49, 50, 51, 52, 53, 54, 55, 56, 57, 58, 59, 60, 61, 62, 63, 64, 65, 66, 67], drop := [10], keep := [] } .nil .nil) (.node 44 (.node 8 { forget := [0, 1, 2, 3, 4, 5, 6, 9, 10, 11, 12, 13, 14, 15, 16, 17, 18, 19, 20, 21, 22, 23, 24, 25, 26, 27, 28, 29, 30, 31, 32, 33, 34, 35, 36, 37, 38, 39, 40, 41, 42, 43, 44, 45, 46, 47], drop := [], keep := [] } .nil .nil) (.node 39 (.node 4 { forget := [1, 2, 4, 5, 6, 7, 8, 9, 10, 11, 12, 13, 14, 15, 16, 17, 18, 19, 20, 21], drop := [], keep := [] } .nil .nil) (.node 17 (.node 4 { forget := [0, 1, 2, 4, 7, 8, 9, 13, 14, 15, 16, 17, 18, 19, 20, 21, 22, 23, 24, 25, 26, 27, 28, 29, 30, 31, 32, 33, 34, 35, 36, 37, 38, 39, 40, 41, 42, 43, 44, 45, 46, 47, 48], drop := [13], keep := [25] } .nil .nil) (.node 5 (.node 25 { forget := [0, 1, 2, 6, 7, 8, 9, 10, 11, 12, 13, 14, 15, 17, 20, 21, 22, 23, 24, 25, 26, 27, 28, 29, 30, 31, 32, 33, 34, 35, 36, 37, 38, 39, 40, 41, 42, 43, 44, 45, 46, 47, 48, 49, 50, 51, 52, 53, 54, 55, 56, 57, 58, 59, 60, 61, 62, 63, 64, 65, 66, 67, 68, 69, 70, 71, 72, 73, 74, 75, 76, 77, 78, 79, 80, 81, 82, 83, 84, 85, 86, 87, 88, 89, 90, 91, 92, 93, 94, 95, 96, 97, 98, 99, 100, 101, 102, 103, 104, 105, 106, 107, 108, 109, 110, 111, 112, 113, 114, 115, 116, 117, 118, 119, 120, 121, 122, 123, 124, 125, 126, 127, 128, 129, 130, 131, 132, 133, 134, 135, 136, 137, 138, 139, 140, 141, 142, 143, 144, 145, 146, 147, 148, 149, 150, 151, 152, 153, 154, 155, 156, 157, 158, 159, 160, 161, 162, 163, 164, 165, 166, 167, 168, 169, 170, 171, 172, 173, 174, 175, 176, 177, 178, 179, 180, 181, 182, 183, 184, 185, 186, 187, 188, 189, 190, 191, 192, 193, 194, 195, 196, 197, 198, 199, 200, 201, 202, 203, 204, 205, 206, 207, 208, 209, 210, 211, 212, 213, 214, 215, 216, 217, 218, 219, 220, 221, 222, 223, 224, 225, 226, 227, 228, 229, 230, 231, 232, 233, 234, 235, 236, 237, 238, 239, 240, 241, 242, 243, 244, 245, 246, 247, 248, 249, 250, 251, 252, 253, 254, 255, 256, 257, 258, 259], drop := [], keep := [18] } .nil .nil) .nil .nil) (.node 19 (.node 9 { forget := [0, 1, 2, 4, 6, 7, 8, 10, 11, 14, 15, 16, 17, 18, 19, 20, 21, 22, 23, 24, 25, 26, 27, 28, 29, 30, 31, 32, 33, 34, 35, 36, 37, 38, 39, 40, 41, 42, 43, 44, 45, 46, 47, 48, 49, 50, 51, 52, 53, 54, 55, 56, 57, 58, 59, 60, 61, 62], drop := [14], keep := [7, 40] } (.node 3 { forget := [0, 1, 2, 6, 9, 10, 11, 12, 13, 14, 15, 16, 17, 18, 19, 20, 21, 22, 23, 24, 25, 26, 27, 28, 29, 30, 31, 32, 33, 34, 35, 36, 37, 38, 39, 40, 41, 42, 43, 44, 45, 46, 47, 48, 49, 50, 51, 52, 53, 54, 55, 56, 57, 58, 59, 60, 61, 62], drop := [], keep := [7, 40] } .nil .nil) .nil) .nil .nil)) (.node 41 (.node 9 { forget := [0, 1, 6, 7, 9, 11, 12, 13, 14, 17, 18, 19, 20, 21, 22, 23, 24, 25, 26, 27, 28, 29, 30, 31, 32, 33, 34, 35, 36, 37, 38, 39, 40, 41, 42, 43, 44, 45, 46, 47, 48, 49, 50, 51, 52, 53, 54, 55, 56, 57, 58, 59, 60, 61, 62, 63, 64, 65, 66, 67, 68, 69, 70, 71, 72, 73, 74, 75, 76, 77, 78, 79, 80, 81, 82, 83, 84, 85, 86, 87, 88, 89], drop := [], keep := [] } (.node 2 { forget := [0, 1, 6, 7, 9, 11, 12, 13, 14, 15, 16, 17, 18, 19, 20, 21, 22, 23, 24, 25, 26, 27, 28, 29, 30, 31, 32, 33, 34, 35, 36, 37, 38, 39, 40, 41, 42, 43, 44, 45, 46, 47, 48, 49, 50, 51, 52, 53, 54, 55, 56, 57, 58, 59, 60, 61, 62, 63, 64, 65, 66, 67, 68, 69, 70, 71, 72, 73, 74, 75, 76, 77, 78, 79, 80, 81, 82, 83, 84, 85, 86, 87, 88, 89], drop := [11, 12, 13, 14, 15], keep := [] } .nil .nil) .nil) (.node 40 (.node 4 { forget := [0, 1, 5, 6, 8, 12, 13, 14, 15, 16, 17, 18, 19, 20, 21, 22, 23, 24, 25, 26, 27, 28, 29, 30, 31, 32, 33, 34, 35, 36, 37, 38, 39, 40, 41, 42, 43, 44, 45, 46, 47, 48, 49, 50, 51, 52, 53], drop := [12, 13], keep := [9] } .nil .nil) .nil .nil) (.node 42 (.node 2 { forget := [0, 1, 2, 3, 4, 8, 9, 10, 11, 12, 13, 14], drop := [], keep := [] } .nil .nil) .nil .nil))) (.node 56 (.node 4 { forget := [0, 1, 2, 3, 4, 5, 6, 7, 8, 12, 13, 14, 15, 16, 17, 18, 19, 20], drop := [4], keep := [] } .nil .nil) (.node 54 (.node 14 { forget := [0, 2, 3, 4, 5, 6, 7, 8, 10, 12, 15, 16, 17, 18, 19, 20, 21, 22, 23, 24, 25, 26, 27, 28, 29, 30, 31, 32, 33, 34, 38, 39, 40, 41, 42, 43, 47, 48, 49, 50, 51, 52, 53, 54, 55, 56, 57, 58, 59, 60, 61, 62, 63, 64, 65, 66, 67, 68, 69, 70, 71, 72, 73, 74, 75], drop := [], keep := [11] } (.node 10 { forget := [0, 2, 3, 4, 5, 6, 7, 8, 10, 12, 13, 14, 15, 16, 17, 18, 19, 20, 21, 22, 23, 24, 25, 26, 27, 28, 29, 30, 31, 32, 33, 34, 38, 39, 40, 41, 42, 43, 44, 45, 46, 47, 48, 49, 50, 51, 52, 53, 54, 55, 56, 57, 58, 59, 60, 61, 62, 63, 64, 65, 66, 67, 68, 69, 70, 71, 72, 73, 74, 75], drop := [13], keep := [11] } .nil .nil) .nil) (.node 51 (.node 5 { forget := [0, 1, 2, 4, 5, 8, 12, 13, 14, 15, 16, 17, 18, 19, 20, 21, 22, 23, 24, 25, 26, 27, 28, 29, 30, 31, 32, 35, 36, 37, 38, 39, 40, 41, 42, 43, 44, 45, 46, 47, 48, 49, 50, 51, 52, 53, 54, 55, 56, 57, 58, 59, 60, 61, 62, 63, 64, 65, 66, 67, 68, 69, 70, 71, 72, 73, 74, 75, 76, 77, 78, 79, 80, 81, 82, 83, 84, 85, 86, 87, 88, 89, 90, 91, 92, 93, 94], drop := [13], keep := [] } .nil .nil) .nil .nil) (.node 55 (.node 3 { forget := [0, 1, 3, 5, 6, 7, 8, 9, 10, 14, 15, 16, 17, 18, 19, 20, 21, 22, 23, 24, 25, 26, 27, 28, 29, 30, 31, 32, 33, 34], drop := [6], keep := [] } .nil .nil) .nil .nil)) (.node 60 (.node 6 { forget := [0, 2, 3, 5, 6, 7, 8, 9, 10, 11, 12, 13, 14, 15, 16, 17, 18, 19, 20, 21, 22, 23, 24, 25, 26, 27, 28, 29, 30, 31, 32, 33, 34, 35, 36, 37, 38, 39, 40, 41, 42, 43, 44, 45, 46, 47, 48, 49, 50, 51, 52, 53, 54, 55, 56, 57, 58, 59, 60, 61, 62, 63, 64, 65, 66, 67, 68, 69, 70, 71, 72, 73, 74, 75], drop := [5], keep := [] } .nil .nil) (.node 59 (.node 1 { forget := [1, 2, 3, 4, 8, 9, 10, 11, 12, 13, 14, 15], drop := [4], keep := [] } .nil .nil) .nil .nil) .nil))) (.node 124 (.node 5 { forget := [0, 2, 3, 6, 7, 8, 9, 10, 11, 12, 13, 14, 15, 16, 17, 18, 19, 20, 21, 22, 23, 24, 25, 26, 27, 28, 29], drop := [], keep := [] } .nil .nil) (.node 99 (.node 5 { forget := [1, 5, 6, 7, 8, 9, 10, 11, 12, 13, 14, 15, 16, 17, 18, 19], drop := [], keep := [4] } .nil .nil) (.node 94 (.node 2 { forget := [0, 3, 4, 6, 7, 8, 9, 10, 11, 12, 13, 14, 15, 16], drop := [], keep := [] } .nil .nil) (.node 89 (.node 2 { forget := [2, 3, 4, 5, 6, 9, 10, 11, 12, 13, 14, 15, 16, 17, 18], drop := [], keep := [] } .nil .nil) .nil .nil) (.node 98 (.node 7 { forget := [0, 1, 9, 10, 11, 12, 13, 14, 15, 16, 17, 18, 19, 20, 21, 22, 23, 24, 25, 26, 27, 28, 29, 30, 31, 32, 33, 34, 35, 36, 37, 38, 39, 40, 41, 42, 43, 44, 45, 46, 47, 48, 49, 50, 51, 52, 53, 54, 55, 56, 57, 58, 59, 60, 61, 62, 63, 64, 65, 66, 67, 68, 69, 70, 71, 72, 73, 74, 75, 76, 77, 78, 79, 80, 81, 82, 83, 84, 85], drop := [], keep := [] } (.node 3 { forget := [0, 1, 7, 8, 9, 10, 11, 12, 13, 14, 15, 16, 17, 18, 19, 20, 21, 22, 23, 24, 25, 26, 27, 28, 29, 30, 31, 32, 33, 34, 35, 36, 37, 38, 39, 40, 41, 42, 43, 44, 45, 46, 47, 48, 49, 50, 51, 52, 53, 54, 55, 56, 57, 58, 59, 60, 61, 62, 63, 64, 65, 66, 67, 68, 69, 70, 71, 72, 73, 74, 75, 76, 77, 78, 79, 80, 81, 82, 83, 84, 85], drop := [], keep := [] } .nil .nil) .nil) .nil .nil)) (.node 122 (.node 2 { forget := [2, 3, 4, 5, 6, 9, 10, 11, 12, 13, 14, 15, 16, 17, 18], drop := [], keep := [] } .nil .nil) (.node 103 (.node 5 { forget := [0, 2, 3, 4, 5, 6, 7, 8, 9, 10, 11, 12, 13, 14, 15, 16, 17, 18, 19, 20, 21, 22, 23, 27, 28, 29, 30, 31, 32, 33, 34, 35, 36, 37, 38, 39, 40, 41, 42, 43, 44, 45, 46, 47, 48, 49, 50, 51, 52, 53, 54, 55, 56, 57, 58, 59, 60, 61, 62, 63, 64, 65, 66, 67, 68, 69, 70, 71, 72, 73, 74, 75, 76, 77, 78, 79, 80, 81], drop := [6, 7], keep := [] } .nil .nil) .nil .nil) (.node 123 (.node 2 { forget := [2, 3, 4, 5, 6, 9, 10, 11, 12, 13, 14, 15, 16, 17, 18], drop := [], keep := [] } .nil .nil) .nil .nil))) (.node 131 (.node 6 { forget := [2, 3, 4, 6, 7, 8, 9, 10, 11, 12, 13, 14, 15, 16, 17, 18, 19, 20, 21, 22, 23, 24, 25, 26, 27, 28, 29, 30, 31, 32, 33, 34, 35, 36, 37, 38, 39, 40], drop := [], keep := [] } .nil .nil) (.node 129 (.node 9 { forget := [0, 1, 10, 11, 12, 13, 14, 15, 16, 17, 18, 19, 20, 21, 22, 23, 24, 25, 26, 27, 28, 29, 30, 31, 32, 33, 34, 35, 36, 37, 38, 39, 40, 41, 42, 43, 44, 45, 46, 47, 48, 49, 50, 51, 52, 53, 54, 55, 56, 57, 58, 59, 60, 61, 62, 63, 64, 65, 66, 67, 68, 69, 70, 71, 72, 73, 74, 75, 76, 77, 78, 79, 80, 81, 82, 83, 84, 85, 86, 87], drop := [], keep := [34] } (.node 5 { forget := [0, 1, 8, 9, 10, 11, 12, 13, 14, 15, 16, 17, 18, 19, 20, 21, 22, 23, 24, 25, 26, 27, 28, 29, 30, 31, 32, 33, 34, 35, 36, 37, 38, 39, 40, 41, 42, 43, 44, 45, 46, 47, 48, 49, 50, 51, 52, 53, 54, 55, 56, 57, 58, 59, 60, 61, 62, 63, 64, 65, 66, 67, 68, 69, 70, 71, 72, 73, 74, 75, 76, 77, 78, 79, 80, 81, 82, 83, 84, 85, 86, 87], drop := [], keep := [34] } .nil .nil) .nil) (.node 128 (.node 2 { forget := [0, 1, 5, 6, 7, 8, 9, 10, 11, 12, 13, 14, 15, 16, 17, 18, 19, 20, 21, 22], drop := [5], keep := [] } .nil .nil) .nil .nil) (.node 130 (.node 4 { forget := [2, 3, 4, 8, 9, 10, 11, 12, 13, 14, 15, 16, 17, 18, 19, 20, 21, 22, 23, 24, 25, 26, 27, 28, 29, 30, 31, 32, 33, 34, 35, 36, 37, 38, 39, 40, 41], drop := [], keep := [5] } .nil .nil) .nil .nil)) (.node 133 (.node 2 { forget := [1, 2, 4, 5, 6, 7, 8, 9, 10, 11, 12, 13, 14, 15, 16, 17, 18, 19, 20], drop := [], keep := [] } .nil .nil) (.node 132 (.node 4 { forget := [2, 3, 4, 8, 9, 10, 11, 12, 13, 14, 15, 16, 17, 18, 19, 20, 21, 22, 23, 24, 25, 26, 27, 28, 29, 30, 31, 32, 33, 34], drop := [], keep := [5] } .nil .nil) .nil .nil) .nil))))
/-- Loops over iterators, and the loop within one. -/
noncomputable def hdMore (f r : Nat) : Option Hd := cond (Nat.beq f 5) (cond (Nat.beq r 25) (some { forget := [0, 1, 2, 6, 7, 8, 9, 10, 11, 12, 13, 14, 15, 17, 20, 21, 22, 23, 24, 25, 26, 27, 28, 29, 30, 31, 32, 33, 34, 35, 36, 37, 38, 39, 40, 41, 42, 43, 44, 45, 46, 47, 48, 49, 50, 51, 52, 53, 54, 55, 56, 57, 58, 59, 60, 61, 62, 63, 64, 65, 66, 67, 68, 69, 70, 71, 72, 73, 74, 75, 76, 77, 78, 79, 80, 81, 82, 83, 84, 85, 86, 87, 88, 89, 90, 91, 92, 93, 94, 95, 96, 97, 98, 99, 100, 101, 102, 103, 104, 105, 106, 107, 108, 109, 110, 111, 112, 113, 114, 115, 116, 117, 118, 119, 120, 121, 122, 123, 124, 125, 126, 127, 128, 129, 130, 131, 132, 133, 134, 135, 136, 137, 138, 139, 140, 141, 142, 143, 144, 145, 146, 147, 148, 149, 150, 151, 152, 153, 154, 155, 156, 157, 158, 159, 160, 161, 162, 163, 164, 165, 166, 167, 168, 169, 170, 171, 172, 173, 174, 175, 176, 177, 178, 179, 180, 181, 182, 183, 184, 185, 186, 187, 188, 189, 190, 191, 192, 193, 194, 195, 196, 197, 198, 199, 200, 201, 202, 203, 204, 205, 206, 207, 208, 209, 210, 211, 212, 213, 214, 215, 216, 217, 218, 219, 220, 221, 222, 223, 224, 225, 226, 227, 228, 229, 230, 231, 232, 233, 234, 235, 236, 237, 238, 239, 240, 241, 242, 243, 244, 245, 246, 247, 248, 249, 250, 251, 252, 253, 254, 255, 256, 257, 258, 259], drop := [7, 9, 11, 13, 14], keep := [18] }) none) <| cond (Nat.beq f 57) (cond (Nat.beq r 5) (some { forget := [9, 10, 11, 12, 13, 14, 15, 16, 17, 18, 19, 20, 21, 22, 23, 24, 25, 26, 27, 28, 29, 30, 31, 32, 33, 34, 35, 36, 37, 38, 39, 40, 41, 42, 43, 44, 45, 46, 47, 48, 49, 50, 51, 52, 53, 54, 55, 56, 57, 58, 59, 60, 61, 62, 63, 64, 65, 66, 67, 68, 69, 70, 71, 72, 73, 74, 75, 76, 77, 78, 79, 80, 81, 82, 83, 84, 85, 86, 87, 88, 89, 90, 91, 92, 93, 94, 95, 96, 97, 98, 99, 100, 101], drop := [8, 9, 10, 15, 96], keep := [24, 31] }) (cond (Nat.beq r 12) (some { forget := [0, 3, 8, 9, 10, 11, 13, 14, 15, 16, 17, 18, 19, 20, 21, 22, 23, 24, 25, 26, 27, 28, 29, 30, 31, 32, 33, 34, 35, 36, 37, 38, 39, 40, 41, 42, 43, 44, 45, 46, 47, 48, 49, 50, 51, 52, 53, 56, 57, 58, 59, 60, 61, 62, 63, 64, 65, 66, 67, 68, 69, 70, 71, 72, 73, 74, 75, 76, 77, 78, 79, 80, 81, 82, 83, 84, 85, 86, 87, 88, 89, 90, 91, 92, 93, 94, 95, 96, 97, 98, 99, 100, 101], drop := [15], keep := [24, 31] }) none)) none
def makerOf (n : Nat) : Option (List PV → Option (Nat × List PV × Option (List PV) × List PV)) :=
  cond (Nat.beq n 31) (some fun | [.agg p, .agg s, .agg l, .fn g cs] => some (57, [.rp p 0], some s, [.rp [.fn g cs] 0, .rp l 0]) | _ => none)
    (cond (Nat.beq n 32) (some fun | [.sl _ ls xs] => some (59, [.rp [.sl none ls xs] 0], none, []) | _ => none) none)
def ysOf (f r : Nat) : Option Nat := cond (Nat.beq f 57) (cond (Nat.beq r 8) (some 1) (cond (Nat.beq r 20) (some 2) none)) (cond (Nat.beq f 59) (cond (Nat.beq r 3) (some 2) none) none)
/-- slices.Repeat of flows. -/
def repeatG : List PV → Option PV
  | [.sl _ ls [x], .int .i64 c] => cond (decide (c = 200) && confs [.int .i64, .int .i64, .int .i64] x) (some (.sl none [.int .i64, .int .i64, .int .i64] (List.replicate 200 x))) none
  | _ => none
def extOf (n : Nat) : Option (List PV → Option PV) := cond (Nat.beq n 44) (some repeatG) none
noncomputable def hdOf (f r : Nat) : Hd := match hdMore f r with | some h => h | none => match hdTab.find f with | some t => (match t.find r with | some h => h | none => default) | none => default
noncomputable def envF (N : Nat) : Env := { fn := fun n => fnTab.find n, ty := fun t => tyTab.find t, own := fun n => [].contains n, eq := fun t => [28, 30, 42, 68].contains t, ext := extOf, loops := hdOf, maker := makerOf, ys := ysOf, fuel := N }
noncomputable def env : Env := envF 18446744073709551616
end Go.PewTab

namespace Go.PewTab
set_option linter.unusedSimpArgs false
set_option linter.unusedVariables false
open Go.Pew Go.Proofs
set_option maxRecDepth 100000

theorem tyOk3 : TyOk Tryz.prog 3 ty3 := tyOk_of Tryz.type3 Tryz.underlying3 (by kernel_rfl)
theorem tyOk4 : TyOk Tryz.prog 4 ty4 := tyOk_of Tryz.type4 Tryz.underlying4 (by kernel_rfl)
theorem tyOk9 : TyOk Tryz.prog 9 ty9 := tyOk_of Tryz.type9 Tryz.underlying9 (by kernel_rfl)
theorem tyOk22 : TyOk Tryz.prog 22 ty22 := tyOk_of Tryz.type22 Tryz.underlying22 (by kernel_rfl)
theorem tyOk24 : TyOk Tryz.prog 24 ty24 := tyOk_of Tryz.type24 Tryz.underlying24 (by kernel_rfl)
theorem tyOk26 : TyOk Tryz.prog 26 ty26 := tyOk_of Tryz.type26 Tryz.underlying26 (by kernel_rfl)
theorem tyOk28 : TyOk Tryz.prog 28 ty28 := tyOk_of Tryz.type28 Tryz.underlying28 (by kernel_rfl)
theorem tyOk30 : TyOk Tryz.prog 30 ty30 := tyOk_of Tryz.type30 Tryz.underlying30 (by kernel_rfl)
theorem tyOk32 : TyOk Tryz.prog 32 ty32 := tyOk_of Tryz.type32 Tryz.underlying32 (by kernel_rfl)
theorem tyOk34 : TyOk Tryz.prog 34 ty34 := tyOk_of Tryz.type34 Tryz.underlying34 (by kernel_rfl)
theorem tyOk35 : TyOk Tryz.prog 35 ty35 := tyOk_of Tryz.type35 Tryz.underlying35 (by kernel_rfl)
theorem tyOk37 : TyOk Tryz.prog 37 ty37 := tyOk_of Tryz.type37 Tryz.underlying37 (by kernel_rfl)
theorem tyOk40 : TyOk Tryz.prog 40 ty40 := tyOk_of Tryz.type40 Tryz.underlying40 (by kernel_rfl)
theorem tyOk42 : TyOk Tryz.prog 42 ty42 := tyOk_of Tryz.type42 Tryz.underlying42 (by kernel_rfl)
theorem tyOk43 : TyOk Tryz.prog 43 ty43 := tyOk_of Tryz.type43 Tryz.underlying43 (by kernel_rfl)
theorem tyOk63 : TyOk Tryz.prog 63 ty63 := tyOk_of Tryz.type63 Tryz.underlying63 (by kernel_rfl)
theorem tyOk68 : TyOk Tryz.prog 68 ty68 := tyOk_of Tryz.type68 Tryz.underlying68 (by kernel_rfl)
theorem tyOk75 : TyOk Tryz.prog 75 ty75 := tyOk_of Tryz.type75 Tryz.underlying75 (by kernel_rfl)
theorem tyOk77 : TyOk Tryz.prog 77 ty77 := tyOk_of Tryz.type77 Tryz.underlying77 (by kernel_rfl)
theorem tyOk78 : TyOk Tryz.prog 78 ty78 := tyOk_of Tryz.type78 Tryz.underlying78 (by kernel_rfl)
theorem tyOk81 : TyOk Tryz.prog 81 ty81 := tyOk_of Tryz.type81 Tryz.underlying81 (by kernel_rfl)
theorem tyOk82 : TyOk Tryz.prog 82 ty82 := tyOk_of Tryz.type82 Tryz.underlying82 (by kernel_rfl)
theorem tyOk84 : TyOk Tryz.prog 84 ty84 := tyOk_of Tryz.type84 Tryz.underlying84 (by kernel_rfl)
theorem tyOk87 : TyOk Tryz.prog 87 ty87 := tyOk_of Tryz.type87 Tryz.underlying87 (by kernel_rfl)
theorem tyOk89 : TyOk Tryz.prog 89 ty89 := tyOk_of Tryz.type89 Tryz.underlying89 (by kernel_rfl)
theorem tyOk90 : TyOk Tryz.prog 90 ty90 := tyOk_of Tryz.type90 Tryz.underlying90 (by kernel_rfl)
theorem tyOk92 : TyOk Tryz.prog 92 ty92 := tyOk_of Tryz.type92 Tryz.underlying92 (by kernel_rfl)
theorem tyOk99 : TyOk Tryz.prog 99 ty99 := tyOk_of Tryz.type99 Tryz.underlying99 (by kernel_rfl)
theorem tyOk108 : TyOk Tryz.prog 108 ty108 := tyOk_of Tryz.type108 Tryz.underlying108 (by kernel_rfl)
theorem tyOk113 : TyOk Tryz.prog 113 ty113 := tyOk_of Tryz.type113 Tryz.underlying113 (by kernel_rfl)
theorem tyOk120 : TyOk Tryz.prog 120 ty120 := tyOk_of Tryz.type120 Tryz.underlying120 (by kernel_rfl)
theorem tyOk126 : TyOk Tryz.prog 126 ty126 := tyOk_of Tryz.type126 Tryz.underlying126 (by kernel_rfl)
theorem tyOk127 : TyOk Tryz.prog 127 ty127 := tyOk_of Tryz.type127 Tryz.underlying127 (by kernel_rfl)
theorem tyOk128 : TyOk Tryz.prog 128 ty128 := tyOk_of Tryz.type128 Tryz.underlying128 (by kernel_rfl)
theorem tyOk129 : TyOk Tryz.prog 129 ty129 := tyOk_of Tryz.type129 Tryz.underlying129 (by kernel_rfl)
theorem tyOk130 : TyOk Tryz.prog 130 ty130 := tyOk_of Tryz.type130 Tryz.underlying130 (by kernel_rfl)
theorem tyOk133 : TyOk Tryz.prog 133 ty133 := tyOk_of Tryz.type133 Tryz.underlying133 (by kernel_rfl)
theorem tyOk144 : TyOk Tryz.prog 144 ty144 := tyOk_of Tryz.type144 Tryz.underlying144 (by kernel_rfl)
theorem tyOk146 : TyOk Tryz.prog 146 ty146 := tyOk_of Tryz.type146 Tryz.underlying146 (by kernel_rfl)
theorem tyOk152 : TyOk Tryz.prog 152 ty152 := tyOk_of Tryz.type152 Tryz.underlying152 (by kernel_rfl)
theorem tyOk153 : TyOk Tryz.prog 153 ty153 := tyOk_of Tryz.type153 Tryz.underlying153 (by kernel_rfl)
theorem tyOk154 : TyOk Tryz.prog 154 ty154 := tyOk_of Tryz.type154 Tryz.underlying154 (by kernel_rfl)
theorem tyOk159 : TyOk Tryz.prog 159 ty159 := tyOk_of Tryz.type159 Tryz.underlying159 (by kernel_rfl)
theorem tyOk169 : TyOk Tryz.prog 169 ty169 := tyOk_of Tryz.type169 Tryz.underlying169 (by kernel_rfl)
theorem tyOk176 : TyOk Tryz.prog 176 ty176 := tyOk_of Tryz.type176 Tryz.underlying176 (by kernel_rfl)
theorem tyOk179 : TyOk Tryz.prog 179 ty179 := tyOk_of Tryz.type179 Tryz.underlying179 (by kernel_rfl)
theorem tyOk184 : TyOk Tryz.prog 184 ty184 := tyOk_of Tryz.type184 Tryz.underlying184 (by kernel_rfl)
theorem fnOk3 : fnCheck Tryz.f3 = true := by kernel_rfl
theorem fnOk4 : fnCheck Tryz.f4 = true := by kernel_rfl
theorem fnOk5 : fnCheck Tryz.f5 = true := by kernel_rfl
theorem fnOk6 : fnCheck Tryz.f6 = true := by kernel_rfl
theorem fnOk7 : fnCheck Tryz.f7 = true := by kernel_rfl
theorem fnOk8 : fnCheck Tryz.f8 = true := by kernel_rfl
theorem fnOk9 : fnCheck Tryz.f9 = true := by kernel_rfl
theorem fnOk10 : fnCheck Tryz.f10 = true := by kernel_rfl
theorem fnOk11 : fnCheck Tryz.f11 = true := by kernel_rfl
theorem fnOk12 : fnCheck Tryz.f12 = true := by kernel_rfl
theorem fnOk13 : fnCheck Tryz.f13 = true := by kernel_rfl
theorem fnOk14 : fnCheck Tryz.f14 = true := by kernel_rfl
theorem fnOk15 : fnCheck Tryz.f15 = true := by kernel_rfl
theorem fnOk16 : fnCheck Tryz.f16 = true := by kernel_rfl
theorem fnOk17 : fnCheck Tryz.f17 = true := by kernel_rfl
theorem fnOk18 : fnCheck Tryz.f18 = true := by kernel_rfl
theorem fnOk19 : fnCheck Tryz.f19 = true := by kernel_rfl
theorem fnOk20 : fnCheck Tryz.f20 = true := by kernel_rfl
theorem fnOk21 : fnCheck Tryz.f21 = true := by kernel_rfl
theorem fnOk22 : fnCheck Tryz.f22 = true := by kernel_rfl
theorem fnOk23 : fnCheck Tryz.f23 = true := by kernel_rfl
theorem fnOk24 : fnCheck Tryz.f24 = true := by kernel_rfl
theorem fnOk25 : fnCheck Tryz.f25 = true := by kernel_rfl
theorem fnOk26 : fnCheck Tryz.f26 = true := by kernel_rfl
theorem fnOk27 : fnCheck Tryz.f27 = true := by kernel_rfl
theorem fnOk28 : fnCheck Tryz.f28 = true := by kernel_rfl
theorem fnOk29 : fnCheck Tryz.f29 = true := by kernel_rfl
theorem fnOk30 : fnCheck Tryz.f30 = true := by kernel_rfl
theorem fnOk31 : fnCheck Tryz.f31 = true := by kernel_rfl
theorem fnOk32 : fnCheck Tryz.f32 = true := by kernel_rfl
theorem fnOk33 : fnCheck Tryz.f33 = true := by kernel_rfl
theorem fnOk34 : fnCheck Tryz.f34 = true := by kernel_rfl
theorem fnOk35 : fnCheck Tryz.f35 = true := by kernel_rfl
theorem fnOk36 : fnCheck Tryz.f36 = true := by kernel_rfl
theorem fnOk37 : fnCheck Tryz.f37 = true := by kernel_rfl
theorem fnOk38 : fnCheck Tryz.f38 = true := by kernel_rfl
theorem fnOk39 : fnCheck Tryz.f39 = true := by kernel_rfl
theorem fnOk40 : fnCheck Tryz.f40 = true := by kernel_rfl
theorem fnOk41 : fnCheck Tryz.f41 = true := by kernel_rfl
theorem fnOk42 : fnCheck Tryz.f42 = true := by kernel_rfl
theorem fnOk43 : fnCheck Tryz.f43 = true := by kernel_rfl
theorem fnOk44 : fnCheck Tryz.f44 = true := by kernel_rfl
theorem fnOk45 : fnCheck Tryz.f45 = true := by kernel_rfl
theorem fnOk46 : fnCheck Tryz.f46 = true := by kernel_rfl
theorem fnOk47 : fnCheck Tryz.f47 = true := by kernel_rfl
theorem fnOk48 : fnCheck Tryz.f48 = true := by kernel_rfl
theorem fnOk49 : fnCheck Tryz.f49 = true := by kernel_rfl
theorem fnOk50 : fnCheck Tryz.f50 = true := by kernel_rfl
theorem fnOk51 : fnCheck Tryz.f51 = true := by kernel_rfl
theorem fnOk52 : fnCheck Tryz.f52 = true := by kernel_rfl
theorem fnOk53 : fnCheck Tryz.f53 = true := by kernel_rfl
theorem fnOk54 : fnCheck Tryz.f54 = true := by kernel_rfl
theorem fnOk55 : fnCheck Tryz.f55 = true := by kernel_rfl
theorem fnOk56 : fnCheck Tryz.f56 = true := by kernel_rfl
theorem fnOk57 : fnCheck Tryz.f57 = true := by kernel_rfl
theorem fnOk58 : fnCheck Tryz.f58 = true := by kernel_rfl
theorem fnOk59 : fnCheck Tryz.f59 = true := by kernel_rfl
theorem fnOk60 : fnCheck Tryz.f60 = true := by kernel_rfl
theorem fnOk61 : fnCheck Tryz.f61 = true := by kernel_rfl
theorem fnOk62 : fnCheck Tryz.f62 = true := by kernel_rfl
theorem fnOk63 : fnCheck Tryz.f63 = true := by kernel_rfl
theorem fnOk64 : fnCheck Tryz.f64 = true := by kernel_rfl
theorem fnOk65 : fnCheck Tryz.f65 = true := by kernel_rfl
theorem fnOk66 : fnCheck Tryz.f66 = true := by kernel_rfl
theorem fnOk67 : fnCheck Tryz.f67 = true := by kernel_rfl
theorem fnOk68 : fnCheck Tryz.f68 = true := by kernel_rfl
theorem fnOk69 : fnCheck Tryz.f69 = true := by kernel_rfl
theorem fnOk70 : fnCheck Tryz.f70 = true := by kernel_rfl
theorem fnOk71 : fnCheck Tryz.f71 = true := by kernel_rfl
theorem fnOk72 : fnCheck Tryz.f72 = true := by kernel_rfl
theorem fnOk73 : fnCheck Tryz.f73 = true := by kernel_rfl
theorem fnOk74 : fnCheck Tryz.f74 = true := by kernel_rfl
theorem fnOk75 : fnCheck Tryz.f75 = true := by kernel_rfl
theorem fnOk76 : fnCheck Tryz.f76 = true := by kernel_rfl
theorem fnOk77 : fnCheck Tryz.f77 = true := by kernel_rfl
theorem fnOk78 : fnCheck Tryz.f78 = true := by kernel_rfl
theorem fnOk79 : fnCheck Tryz.f79 = true := by kernel_rfl
theorem fnOk80 : fnCheck Tryz.f80 = true := by kernel_rfl
theorem fnOk81 : fnCheck Tryz.f81 = true := by kernel_rfl
theorem fnOk82 : fnCheck Tryz.f82 = true := by kernel_rfl
theorem fnOk83 : fnCheck Tryz.f83 = true := by kernel_rfl
theorem fnOk84 : fnCheck Tryz.f84 = true := by kernel_rfl
theorem fnOk85 : fnCheck Tryz.f85 = true := by kernel_rfl
theorem fnOk86 : fnCheck Tryz.f86 = true := by kernel_rfl
theorem fnOk87 : fnCheck Tryz.f87 = true := by kernel_rfl
theorem fnOk88 : fnCheck Tryz.f88 = true := by kernel_rfl
theorem fnOk89 : fnCheck Tryz.f89 = true := by kernel_rfl
theorem fnOk90 : fnCheck Tryz.f90 = true := by kernel_rfl
theorem fnOk91 : fnCheck Tryz.f91 = true := by kernel_rfl
theorem fnOk92 : fnCheck Tryz.f92 = true := by kernel_rfl
theorem fnOk93 : fnCheck Tryz.f93 = true := by kernel_rfl
theorem fnOk94 : fnCheck Tryz.f94 = true := by kernel_rfl
theorem fnOk95 : fnCheck Tryz.f95 = true := by kernel_rfl
theorem fnOk96 : fnCheck Tryz.f96 = true := by kernel_rfl
theorem fnOk97 : fnCheck Tryz.f97 = true := by kernel_rfl
theorem fnOk98 : fnCheck Tryz.f98 = true := by kernel_rfl
theorem fnOk99 : fnCheck Tryz.f99 = true := by kernel_rfl
theorem fnOk100 : fnCheck Tryz.f100 = true := by kernel_rfl
theorem fnOk101 : fnCheck Tryz.f101 = true := by kernel_rfl
theorem fnOk102 : fnCheck Tryz.f102 = true := by kernel_rfl
theorem fnOk103 : fnCheck Tryz.f103 = true := by kernel_rfl
theorem fnOk104 : fnCheck Tryz.f104 = true := by kernel_rfl
theorem fnOk105 : fnCheck Tryz.f105 = true := by kernel_rfl
theorem fnOk106 : fnCheck Tryz.f106 = true := by kernel_rfl
theorem fnOk107 : fnCheck Tryz.f107 = true := by kernel_rfl
theorem fnOk108 : fnCheck Tryz.f108 = true := by kernel_rfl
theorem fnOk109 : fnCheck Tryz.f109 = true := by kernel_rfl
theorem fnOk110 : fnCheck Tryz.f110 = true := by kernel_rfl
theorem fnOk111 : fnCheck Tryz.f111 = true := by kernel_rfl
theorem fnOk112 : fnCheck Tryz.f112 = true := by kernel_rfl
theorem fnOk113 : fnCheck Tryz.f113 = true := by kernel_rfl
theorem fnOk114 : fnCheck Tryz.f114 = true := by kernel_rfl
theorem fnOk115 : fnCheck Tryz.f115 = true := by kernel_rfl
theorem fnOk116 : fnCheck Tryz.f116 = true := by kernel_rfl
theorem fnOk117 : fnCheck Tryz.f117 = true := by kernel_rfl
theorem fnOk118 : fnCheck Tryz.f118 = true := by kernel_rfl
theorem fnOk119 : fnCheck Tryz.f119 = true := by kernel_rfl
theorem fnOk120 : fnCheck Tryz.f120 = true := by kernel_rfl
theorem fnOk121 : fnCheck Tryz.f121 = true := by kernel_rfl
theorem fnOk122 : fnCheck Tryz.f122 = true := by kernel_rfl
theorem fnOk123 : fnCheck Tryz.f123 = true := by kernel_rfl
theorem fnOk124 : fnCheck Tryz.f124 = true := by kernel_rfl
theorem fnOk125 : fnCheck Tryz.f125 = true := by kernel_rfl
theorem fnOk126 : fnCheck Tryz.f126 = true := by kernel_rfl
theorem fnOk127 : fnCheck Tryz.f127 = true := by kernel_rfl
theorem fnOk128 : fnCheck Tryz.f128 = true := by kernel_rfl
theorem fnOk129 : fnCheck Tryz.f129 = true := by kernel_rfl
theorem fnOk130 : fnCheck Tryz.f130 = true := by kernel_rfl
theorem fnOk131 : fnCheck Tryz.f131 = true := by kernel_rfl
theorem fnOk132 : fnCheck Tryz.f132 = true := by kernel_rfl
theorem fnOk133 : fnCheck Tryz.f133 = true := by kernel_rfl
theorem fnOk134 : fnCheck Tryz.f134 = true := by kernel_rfl
theorem fnOk135 : fnCheck Tryz.f135 = true := by kernel_rfl
theorem tyAll : tyTab.All fun t ti => TyOk Tryz.prog t ti := ⟨tyOk87, ⟨tyOk37, ⟨tyOk26, ⟨tyOk9, ⟨tyOk4, ⟨tyOk3, trivial, trivial⟩, trivial⟩, ⟨tyOk24, ⟨tyOk22, trivial, trivial⟩, trivial⟩⟩, ⟨tyOk32, ⟨tyOk30, ⟨tyOk28, trivial, trivial⟩, trivial⟩, ⟨tyOk35, ⟨tyOk34, trivial, trivial⟩, trivial⟩⟩⟩, ⟨tyOk75, ⟨tyOk43, ⟨tyOk42, ⟨tyOk40, trivial, trivial⟩, trivial⟩, ⟨tyOk68, ⟨tyOk63, trivial, trivial⟩, trivial⟩⟩, ⟨tyOk81, ⟨tyOk78, ⟨tyOk77, trivial, trivial⟩, trivial⟩, ⟨tyOk84, ⟨tyOk82, trivial, trivial⟩, trivial⟩⟩⟩⟩, ⟨tyOk130, ⟨tyOk113, ⟨tyOk92, ⟨tyOk90, ⟨tyOk89, trivial, trivial⟩, trivial⟩, ⟨tyOk108, ⟨tyOk99, trivial, trivial⟩, trivial⟩⟩, ⟨tyOk127, ⟨tyOk126, ⟨tyOk120, trivial, trivial⟩, trivial⟩, ⟨tyOk129, ⟨tyOk128, trivial, trivial⟩, trivial⟩⟩⟩, ⟨tyOk154, ⟨tyOk146, ⟨tyOk144, ⟨tyOk133, trivial, trivial⟩, trivial⟩, ⟨tyOk153, ⟨tyOk152, trivial, trivial⟩, trivial⟩⟩, ⟨tyOk176, ⟨tyOk169, ⟨tyOk159, trivial, trivial⟩, trivial⟩, ⟨tyOk184, ⟨tyOk179, trivial, trivial⟩, trivial⟩⟩⟩⟩⟩
theorem fnAll : fnTab.All fun f fn => Tryz.prog.funcs[f]? = some fn ∧ fnCheck fn = true := ⟨⟨Tryz.func69, fnOk69⟩, ⟨⟨Tryz.func36, fnOk36⟩, ⟨⟨Tryz.func19, fnOk19⟩, ⟨⟨Tryz.func11, fnOk11⟩, ⟨⟨Tryz.func7, fnOk7⟩, ⟨⟨Tryz.func5, fnOk5⟩, ⟨⟨Tryz.func4, fnOk4⟩, ⟨⟨Tryz.func3, fnOk3⟩, trivial, trivial⟩, trivial⟩, ⟨⟨Tryz.func6, fnOk6⟩, trivial, trivial⟩⟩, ⟨⟨Tryz.func9, fnOk9⟩, ⟨⟨Tryz.func8, fnOk8⟩, trivial, trivial⟩, ⟨⟨Tryz.func10, fnOk10⟩, trivial, trivial⟩⟩⟩, ⟨⟨Tryz.func15, fnOk15⟩, ⟨⟨Tryz.func13, fnOk13⟩, ⟨⟨Tryz.func12, fnOk12⟩, trivial, trivial⟩, ⟨⟨Tryz.func14, fnOk14⟩, trivial, trivial⟩⟩, ⟨⟨Tryz.func17, fnOk17⟩, ⟨⟨Tryz.func16, fnOk16⟩, trivial, trivial⟩, ⟨⟨Tryz.func18, fnOk18⟩, trivial, trivial⟩⟩⟩⟩, ⟨⟨Tryz.func28, fnOk28⟩, ⟨⟨Tryz.func24, fnOk24⟩, ⟨⟨Tryz.func22, fnOk22⟩, ⟨⟨Tryz.func21, fnOk21⟩, ⟨⟨Tryz.func20, fnOk20⟩, trivial, trivial⟩, trivial⟩, ⟨⟨Tryz.func23, fnOk23⟩, trivial, trivial⟩⟩, ⟨⟨Tryz.func26, fnOk26⟩, ⟨⟨Tryz.func25, fnOk25⟩, trivial, trivial⟩, ⟨⟨Tryz.func27, fnOk27⟩, trivial, trivial⟩⟩⟩, ⟨⟨Tryz.func32, fnOk32⟩, ⟨⟨Tryz.func30, fnOk30⟩, ⟨⟨Tryz.func29, fnOk29⟩, trivial, trivial⟩, ⟨⟨Tryz.func31, fnOk31⟩, trivial, trivial⟩⟩, ⟨⟨Tryz.func34, fnOk34⟩, ⟨⟨Tryz.func33, fnOk33⟩, trivial, trivial⟩, ⟨⟨Tryz.func35, fnOk35⟩, trivial, trivial⟩⟩⟩⟩⟩, ⟨⟨Tryz.func53, fnOk53⟩, ⟨⟨Tryz.func45, fnOk45⟩, ⟨⟨Tryz.func41, fnOk41⟩, ⟨⟨Tryz.func39, fnOk39⟩, ⟨⟨Tryz.func38, fnOk38⟩, ⟨⟨Tryz.func37, fnOk37⟩, trivial, trivial⟩, trivial⟩, ⟨⟨Tryz.func40, fnOk40⟩, trivial, trivial⟩⟩, ⟨⟨Tryz.func43, fnOk43⟩, ⟨⟨Tryz.func42, fnOk42⟩, trivial, trivial⟩, ⟨⟨Tryz.func44, fnOk44⟩, trivial, trivial⟩⟩⟩, ⟨⟨Tryz.func49, fnOk49⟩, ⟨⟨Tryz.func47, fnOk47⟩, ⟨⟨Tryz.func46, fnOk46⟩, trivial, trivial⟩, ⟨⟨Tryz.func48, fnOk48⟩, trivial, trivial⟩⟩, ⟨⟨Tryz.func51, fnOk51⟩, ⟨⟨Tryz.func50, fnOk50⟩, trivial, trivial⟩, ⟨⟨Tryz.func52, fnOk52⟩, trivial, trivial⟩⟩⟩⟩, ⟨⟨Tryz.func61, fnOk61⟩, ⟨⟨Tryz.func57, fnOk57⟩, ⟨⟨Tryz.func55, fnOk55⟩, ⟨⟨Tryz.func54, fnOk54⟩, trivial, trivial⟩, ⟨⟨Tryz.func56, fnOk56⟩, trivial, trivial⟩⟩, ⟨⟨Tryz.func59, fnOk59⟩, ⟨⟨Tryz.func58, fnOk58⟩, trivial, trivial⟩, ⟨⟨Tryz.func60, fnOk60⟩, trivial, trivial⟩⟩⟩, ⟨⟨Tryz.func65, fnOk65⟩, ⟨⟨Tryz.func63, fnOk63⟩, ⟨⟨Tryz.func62, fnOk62⟩, trivial, trivial⟩, ⟨⟨Tryz.func64, fnOk64⟩, trivial, trivial⟩⟩, ⟨⟨Tryz.func67, fnOk67⟩, ⟨⟨Tryz.func66, fnOk66⟩, trivial, trivial⟩, ⟨⟨Tryz.func68, fnOk68⟩, trivial, trivial⟩⟩⟩⟩⟩⟩, ⟨⟨Tryz.func103, fnOk103⟩, ⟨⟨Tryz.func86, fnOk86⟩, ⟨⟨Tryz.func78, fnOk78⟩, ⟨⟨Tryz.func74, fnOk74⟩, ⟨⟨Tryz.func72, fnOk72⟩, ⟨⟨Tryz.func71, fnOk71⟩, ⟨⟨Tryz.func70, fnOk70⟩, trivial, trivial⟩, trivial⟩, ⟨⟨Tryz.func73, fnOk73⟩, trivial, trivial⟩⟩, ⟨⟨Tryz.func76, fnOk76⟩, ⟨⟨Tryz.func75, fnOk75⟩, trivial, trivial⟩, ⟨⟨Tryz.func77, fnOk77⟩, trivial, trivial⟩⟩⟩, ⟨⟨Tryz.func82, fnOk82⟩, ⟨⟨Tryz.func80, fnOk80⟩, ⟨⟨Tryz.func79, fnOk79⟩, trivial, trivial⟩, ⟨⟨Tryz.func81, fnOk81⟩, trivial, trivial⟩⟩, ⟨⟨Tryz.func84, fnOk84⟩, ⟨⟨Tryz.func83, fnOk83⟩, trivial, trivial⟩, ⟨⟨Tryz.func85, fnOk85⟩, trivial, trivial⟩⟩⟩⟩, ⟨⟨Tryz.func95, fnOk95⟩, ⟨⟨Tryz.func91, fnOk91⟩, ⟨⟨Tryz.func89, fnOk89⟩, ⟨⟨Tryz.func88, fnOk88⟩, ⟨⟨Tryz.func87, fnOk87⟩, trivial, trivial⟩, trivial⟩, ⟨⟨Tryz.func90, fnOk90⟩, trivial, trivial⟩⟩, ⟨⟨Tryz.func93, fnOk93⟩, ⟨⟨Tryz.func92, fnOk92⟩, trivial, trivial⟩, ⟨⟨Tryz.func94, fnOk94⟩, trivial, trivial⟩⟩⟩, ⟨⟨Tryz.func99, fnOk99⟩, ⟨⟨Tryz.func97, fnOk97⟩, ⟨⟨Tryz.func96, fnOk96⟩, trivial, trivial⟩, ⟨⟨Tryz.func98, fnOk98⟩, trivial, trivial⟩⟩, ⟨⟨Tryz.func101, fnOk101⟩, ⟨⟨Tryz.func100, fnOk100⟩, trivial, trivial⟩, ⟨⟨Tryz.func102, fnOk102⟩, trivial, trivial⟩⟩⟩⟩⟩, ⟨⟨Tryz.func120, fnOk120⟩, ⟨⟨Tryz.func112, fnOk112⟩, ⟨⟨Tryz.func108, fnOk108⟩, ⟨⟨Tryz.func106, fnOk106⟩, ⟨⟨Tryz.func105, fnOk105⟩, ⟨⟨Tryz.func104, fnOk104⟩, trivial, trivial⟩, trivial⟩, ⟨⟨Tryz.func107, fnOk107⟩, trivial, trivial⟩⟩, ⟨⟨Tryz.func110, fnOk110⟩, ⟨⟨Tryz.func109, fnOk109⟩, trivial, trivial⟩, ⟨⟨Tryz.func111, fnOk111⟩, trivial, trivial⟩⟩⟩, ⟨⟨Tryz.func116, fnOk116⟩, ⟨⟨Tryz.func114, fnOk114⟩, ⟨⟨Tryz.func113, fnOk113⟩, trivial, trivial⟩, ⟨⟨Tryz.func115, fnOk115⟩, trivial, trivial⟩⟩, ⟨⟨Tryz.func118, fnOk118⟩, ⟨⟨Tryz.func117, fnOk117⟩, trivial, trivial⟩, ⟨⟨Tryz.func119, fnOk119⟩, trivial, trivial⟩⟩⟩⟩, ⟨⟨Tryz.func128, fnOk128⟩, ⟨⟨Tryz.func124, fnOk124⟩, ⟨⟨Tryz.func122, fnOk122⟩, ⟨⟨Tryz.func121, fnOk121⟩, trivial, trivial⟩, ⟨⟨Tryz.func123, fnOk123⟩, trivial, trivial⟩⟩, ⟨⟨Tryz.func126, fnOk126⟩, ⟨⟨Tryz.func125, fnOk125⟩, trivial, trivial⟩, ⟨⟨Tryz.func127, fnOk127⟩, trivial, trivial⟩⟩⟩, ⟨⟨Tryz.func132, fnOk132⟩, ⟨⟨Tryz.func130, fnOk130⟩, ⟨⟨Tryz.func129, fnOk129⟩, trivial, trivial⟩, ⟨⟨Tryz.func131, fnOk131⟩, trivial, trivial⟩⟩, ⟨⟨Tryz.func134, fnOk134⟩, ⟨⟨Tryz.func133, fnOk133⟩, trivial, trivial⟩, ⟨⟨Tryz.func135, fnOk135⟩, trivial, trivial⟩⟩⟩⟩⟩⟩⟩
theorem eqOk28 : EqOk Tryz.prog 28 ty28.lk := eqOk_two Tryz.eqGuardType28 Tryz.stoodInHeld28 Tryz.underlying28 (by decide) (by decide) rfl rfl Tryz.underlying3 Tryz.underlying3
theorem eqOk30 : EqOk Tryz.prog 30 ty30.lk := eqOk_two Tryz.eqGuardType30 Tryz.stoodInHeld30 Tryz.underlying30 (by decide) (by decide) rfl rfl Tryz.underlying3 Tryz.underlying3
theorem eqOk42 : EqOk Tryz.prog 42 ty42.lk := eqOk_three Tryz.eqGuardType42 Tryz.stoodInHeld42 Tryz.underlying42 (by decide) (by decide) (by decide) rfl rfl rfl Tryz.underlying3 Tryz.underlying3 Tryz.underlying3
theorem eqOk68 : EqOk Tryz.prog 68 ty68.lk := eqOk_two Tryz.eqGuardType68 Tryz.stoodInHeld68 Tryz.underlying68 (by decide) (by decide) rfl rfl Tryz.underlying3 Tryz.underlying3
theorem eqAll (N : Nat) : ∀ t ti, (envF N).eq t = true → (envF N).ty t = some ti → EqOk Tryz.prog t ti.lk := by
  intro t ti h hti
  have hm : t ∈ [28, 30, 42, 68] := by simpa [envF] using h
  simp only [List.mem_cons, List.not_mem_nil, or_false] at hm
  rcases hm with rfl | rfl | rfl | rfl
  · have q : (envF N).ty 28 = some ty28 := by kernel_rfl
    rw [q] at hti; cases hti; exact eqOk28
  · have q : (envF N).ty 30 = some ty30 := by kernel_rfl
    rw [q] at hti; cases hti; exact eqOk30
  · have q : (envF N).ty 42 = some ty42 := by kernel_rfl
    rw [q] at hti; cases hti; exact eqOk42
  · have q : (envF N).ty 68 = some ty68 := by kernel_rfl
    rw [q] at hti; cases hti; exact eqOk68
theorem progOk0 (N : Nat) (h : MakersOk Tryz.prog (envF N)) : ProgOk Tryz.prog (envF N) := progOk_of Tryz.checked.mixed rfl rfl tyAll fnAll (eqAll N) h
end Go.PewTab

namespace Go.Pew
set_option linter.unusedSimpArgs false
set_option linter.unusedVariables false
set_option linter.unusedVariables false

/-- The way to a piece of code: left or right of a sequence, either side of a test, into a block, into a loop (with the rounds that are left of it). -/
inductive Dir where
  | l | r | t | e | b
  | p (n : Nat)

def atK {R : Type} (E : Env) (call : Nat → List PV → Option PV) (io : Io R) (hs : Nat → Hd) (ys : Nat → Option Nat) : List Dir → Code → (Ex → St → Option R) → Code × (Ex → St → Option R)
  | [], c, κ => (c, κ)
  | .l :: ds, .seq a b, κ => atK E call io hs ys ds a fun e s' => match e with
    | .normal => codeK E call io false hs ys b s' κ
    | e => κ e s'
  | .r :: ds, .seq _ b, κ => atK E call io hs ys ds b κ
  | .t :: ds, .cond _ a _, κ => atK E call io hs ys ds a κ
  | .e :: ds, .cond _ _ b, κ => atK E call io hs ys ds b κ
  | .b :: ds, .block id c, κ => atK E call io hs ys ds c fun e s' => match e with
    | .exit j => if j = id then κ .normal s' else κ (.exit j) s'
    | e => κ e s'
  | .p n :: ds, .loop c, κ => atK E call io hs ys ds c fun e s' => match e with
    | .normal => forceSt (s'.head (hs (firstRegion c))) fun s => loopJ (codeK E call io false hs ys c) (hs (firstRegion c)) κ n s
    | e => κ e s'
  | _, _, κ => (.skip, κ)

def loopAt (E : Env) (call : Nat → List PV → Option PV) (it : Nat → List PV → Option (List PV) → List PV → Option (List (List PV))) (f : Nat) (fn : Func) (ds : List Dir) (n : Nat) (s : St) : Option PV :=
  match fn.body with
  | none => none
  | some c => match atK E call { it := it, emit := fun _ _ _ => none } (E.loops f) (fun _ => none) ds c fun e s => match e with
      | .normal | .ret => giveBack E f fn s
      | _ => none with
    | (.loop c, κ) => loopJ (codeK E call { it := it, emit := fun _ _ _ => none } false (E.loops f) (fun _ => none) c) (E.loops f (firstRegion c)) κ n s
    | _ => none

/-- What follows an iterator's body, and a function's. -/
def kIt : Ex → St → Option (List (List PV)) := fun e _ => match e with
  | .normal | .ret => some []
  | _ => none
def kFn (E : Env) (f : Nat) (fn : Func) : Ex → St → Option PV := fun e s => match e with
  | .normal | .ret => giveBack E f fn s
  | _ => none

/-- A loop of an iterator; a loop over an iterator in an iterator, in a function ('bs': the boxes that go to the iterator). -/
def loopAtI (E : Env) (call : Nat → List PV → Option PV) (it : Nat → List PV → Option (List PV) → List PV → Option (List (List PV))) (g : Nat) (fn : Func) (ds : List Dir) (n : Nat) (s : St) : Option (List (List PV)) :=
  match fn.body with
  | none => none
  | some c => match atK E call { it := it, emit := emitI } (E.loops g) (E.ys g) ds c kIt with
    | (.loop c, κ) => loopJ (codeK E call { it := it, emit := emitI } false (E.loops g) (E.ys g) c) (E.loops g (firstRegion c)) κ n s
    | _ => none
def rangeAtI (E : Env) (call : Nat → List PV → Option PV) (it : Nat → List PV → Option (List PV) → List PV → Option (List (List PV))) (g : Nat) (fn : Func) (ds : List Dir) (bs : List Nat) (xs : List (List PV)) (s : St) : Option (List (List PV)) :=
  match fn.body with
  | none => none
  | some c => match atK E call { it := it, emit := emitI } (E.loops g) (E.ys g) ds c kIt with
    | (.rangeFunc _ ps a b, κ) => rangeJ (roundK (codeK E call { it := it, emit := emitI } true (E.loops g) (E.ys g) a) (codeK E call { it := it, emit := emitI } true (E.loops g) (E.ys g) b) ps.toList) (rangeHd (E.loops g) bs a b) κ xs s
    | _ => none
def rangeAt (E : Env) (call : Nat → List PV → Option PV) (it : Nat → List PV → Option (List PV) → List PV → Option (List (List PV))) (f : Nat) (fn : Func) (ds : List Dir) (bs : List Nat) (xs : List (List PV)) (s : St) : Option PV :=
  match fn.body with
  | none => none
  | some c => match atK E call { it := it, emit := fun _ _ _ => none } (E.loops f) (fun _ => none) ds c (kFn E f fn) with
    | (.rangeFunc _ ps a b, κ) => rangeJ (roundK (codeK E call { it := it, emit := fun _ _ _ => none } true (E.loops f) (fun _ => none) a) (codeK E call { it := it, emit := fun _ _ _ => none } true (E.loops f) (fun _ => none) b) ps.toList) (rangeHd (E.loops f) bs a b) κ xs s
    | _ => none

end Go.Pew

namespace Go.PewTab
set_option linter.unusedSimpArgs false
set_option linter.unusedVariables false
open Go.Pew Go

def F_law01_LakeLimits : Nat := 3
def F_law01_LakePermitted : Nat := 4
def F_law01_LakeBeginnings : Nat := 5
def F_law01_awake : Nat := 6
def F_law01_FewPair : Nat := 7
def F_law01_short : Nat := 8
def F_lake_ViolationOf : Nat := 9
def F_ref01_CopyPair : Nat := 10
def F_ref01_CopyTask : Nat := 11
def F_ref01_PairErr : Nat := 12
def F_ref01_LimitsErr : Nat := 13
def F_lake_CheckLimits : Nat := 14
def F_ref01_BothErr : Nat := 15
def F_ref01_TaskErr : Nat := 16
def F_ref01_ViolationOf : Nat := 17
def F_lake_PermittedFor : Nat := 18
def F_ref01_PermittedFor : Nat := 19
def F_base_Within : Nat := 20
def F_ref01_CopyList : Nat := 21
def F_law01_wider : Nat := 22
def F_lake_LevelAt : Nat := 23
def F_law01_Table : Nat := 24
def F_lake_Step : Nat := 25
def F_law01_Pair : Nat := 26
def F_lake_Usable : Nat := 27
def F_lake_AgreedOf : Nat := 28
def F_law01_Few : Nat := 29
def F_lake_openTask : Nat := 30
def F_lake_pair_watch : Nat := 31
def F_slices_Values_LakeFlows : Nat := 32
def F_ref01_Copy : Nat := 33
def F_ref01_TableErr : Nat := 34
def F_ref01_limitErr : Nat := 35
def F_lake_openPair : Nat := 36
def F_lake_pair_limitsErr : Nat := 37
def F_ref01_StateErr : Nat := 38
def F_ref01_ListErr : Nat := 39
def F_ref01_RunOf : Nat := 40
def F_ref01_At : Nat := 41
def F_lake_first : Nat := 42
def F_lake_unless : Nat := 43
def F_slices_Repeat_LakeFlows : Nat := 44
def F_ref01_Bottom : Nat := 45
def F_ref01_Top : Nat := 46
def F_lake_openVolume : Nat := 47
def F_lake_table_levelAt : Nat := 48
def F_lake_openState : Nat := 49
def F_lake_flowsErr : Nat := 50
def F_lake_pair_step : Nat := 51
def F_lake_table_bottom : Nat := 52
def F_lake_table_top : Nat := 53
def F_lake_permitted : Nat := 54
def F_lake_common : Nat := 55
def F_lake_ticksErr : Nat := 56
def F_lake_pair_watch_c1 : Nat := 57
def F_lake_violated : Nat := 58
def F_slices_Values_LakeFlows_c1 : Nat := 59
def F_ref01_CheckTable : Nat := 60
def F_ref01_IsLevel : Nat := 61
def F_lake_CheckPair : Nat := 62
def F_lake_table_limitErr : Nat := 63
def F_ref01_IsVolume : Nat := 64
def F_ref01_FlowsErr : Nat := 65
def F_ref01_Step : Nat := 66
def F_ref01_tableOf : Nat := 67
def F_ref01_limitOf : Nat := 68
def F_ref01_Level : Nat := 69
def F_ref01_volumeOf : Nat := 70
def F_base_RatioCmp : Nat := 71
def F_base_RatioInt : Nat := 72
def F_base_RatioSub : Nat := 73
def F_math_bits_Mul : Nat := 74
def F_lake_tableErr : Nat := 75
def F_lake_table_holds : Nat := 76
def F_lake_table_byVolume : Nat := 77
def F_lake_piece_height : Nat := 78
def F_lake_piece_volume : Nat := 79
def F_lake_pair_stateErr : Nat := 80
def F_lake_flowsErr_c1 : Nat := 81
def F_lake_within : Nat := 82
def F_lake_table_evaporated : Nat := 83
def F_lake_netErr : Nat := 84
def F_lake_table_readingsErr : Nat := 85
def F_lake_table_volumeAt : Nat := 86
def F_lake_whole : Nat := 87
def F_lake_height_above : Nat := 88
def F_slices_Index_bool : Nat := 89
def F_ref01_piece : Nat := 90
def F_lake_table_limitErr_c1 : Nat := 91
def F_lake_table_limitErr_c2 : Nat := 92
def F_ref01_evaporated : Nat := 93
def F_ref01_above : Nat := 94
def F_base_RatioAdd : Nat := 95
def F_base_RatioDiv : Nat := 96
def F_base_WideCmp : Nat := 97
def F_base_WideMul : Nat := 98
def F_base_WideOf : Nat := 99
def F_base_RatioNeg : Nat := 100
def F_math_bits_Mul32 : Nat := 101
def F_math_bits_Mul64 : Nat := 102
def F_lake_CheckTable : Nat := 103
def F_lake_table_pieceTo : Nat := 104
def F_lake_table_byVolume_c1 : Nat := 105
def F_slices_ContainsFunc_int : Nat := 106
def F_lake_netErr_c1 : Nat := 107
def F_lake_table_readingsErr_c1 : Nat := 108
def F_lake_table_volumeAt_c1 : Nat := 109
def F_lake_floor : Nat := 110
def F_lake_ceil : Nat := 111
def F_base_RatioOf : Nat := 112
def F_ref01_rounded : Nat := 113
def F_base_RatioMul : Nat := 114
def F_base_RatioMake : Nat := 115
def F_base_WideAdd : Nat := 116
def F_base_WideSub : Nat := 117
def F_base_wideOf : Nat := 118
def F_base_Size : Nat := 119
def F_base_WideNeg : Nat := 120
def F_lake_piece_narrower : Nat := 121
def F_slices_IndexFunc_LakeKnot : Nat := 122
def F_slices_IndexFunc_int : Nat := 123
def F_base_WideInt : Nat := 124
def F_base_RatioFloor : Nat := 125
def F_base_RatioCeil : Nat := 126
def F_base_WideSign : Nat := 127
def F_base_wideGcd : Nat := 128
def F_base_WideFloor : Nat := 129
def F_base_addDigits : Nat := 130
def F_base_cmpDigits : Nat := 131
def F_base_subDigits : Nat := 132
def F_base_trimmed : Nat := 133
def F_base_wideSize : Nat := 134
def F_base_digit : Nat := 135
def F_runtime_boundsError_Error : Nat := 136
def F_runtime_boundsError_RuntimeError : Nat := 137
def F_runtime_errorString_Error : Nat := 138
def F_runtime_errorString_RuntimeError : Nat := 139
def F_runtime_plainError_Error : Nat := 140
def F_runtime_plainError_RuntimeError : Nat := 141
def F_runtime_errorAddressString_Error : Nat := 142
def F_runtime_errorAddressString_RuntimeError : Nat := 143
def F_pruntime_TypeAssertionError_Error : Nat := 144
def F_pruntime_TypeAssertionError_RuntimeError : Nat := 145
def F_pruntime_PanicNilError_Error : Nat := 146
def F_pruntime_PanicNilError_RuntimeError : Nat := 147
def F_pinternal_abi_Type_Align : Nat := 148
def F_internal_runtime_maps_unhashableTypeError_Error : Nat := 149
def F_internal_runtime_maps_unhashableTypeError_RuntimeError : Nat := 150
def F_internal_abi_Kind_String : Nat := 151
def w64 (x : Int) : Int := IntKind.wrap IntKind.i64 x
def und : Nat → List PV → List PV
  | 0, l => l
  | n + 1, l => .undef :: und n l
def nos : Nat → List (Option Box) → List (Option Box)
  | 0, l => l
  | n + 1, l => none :: nos n l
end Go.PewTab

namespace Go.Num
set_option linter.unusedSimpArgs false
set_option linter.unusedVariables false




/-- The number that digits tell, the lowest one first. -/
def val : List Nat → Nat
  | [] => 0
  | d :: l => d + 1000000000 * val l

/-- The digits of a number, without zeros at the end. -/
def digs (n : Nat) : List Nat := if h : n = 0 then [] else n % 1000000000 :: digs (n / 1000000000)
termination_by n
decreasing_by exact Nat.div_lt_self (Nat.pos_of_ne_zero h) (by decide)

/-- All below the base. -/
def Dig (l : List Nat) : Prop := ∀ d ∈ l, d < 1000000000

theorem digs_zero : digs 0 = [] := by unfold digs; simp
theorem digs_pos {n : Nat} (h : n ≠ 0) : digs n = n % 1000000000 :: digs (n / 1000000000) := by rw [digs.eq_1, dif_neg h]

theorem val_digs (n : Nat) : val (digs n) = n := by
  induction n using Nat.strongRecOn with
  | _ n ih =>
    by_cases h : n = 0
    · subst h; rw [digs_zero]; rfl
    · rw [digs_pos h, val, ih _ (Nat.div_lt_self (Nat.pos_of_ne_zero h) (by decide))]
      omega

theorem dig_digs (n : Nat) : Dig (digs n) := by
  induction n using Nat.strongRecOn with
  | _ n ih =>
    by_cases h : n = 0
    · subst h; rw [digs_zero]; intro d hd; cases hd
    · rw [digs_pos h]
      intro d hd
      rcases List.mem_cons.1 hd with rfl | hd
      · exact Nat.mod_lt _ (by decide)
      · exact ih _ (Nat.div_lt_self (Nat.pos_of_ne_zero h) (by decide)) d hd

theorem Dig.tail {d : Nat} {l : List Nat} (h : Dig (d :: l)) : Dig l := fun x hx => h x (List.mem_cons_of_mem _ hx)
theorem Dig.head {d : Nat} {l : List Nat} (h : Dig (d :: l)) : d < 1000000000 := h d (List.mem_cons_self ..)
theorem Dig.append {l m : List Nat} (h : Dig l) (k : Dig m) : Dig (l ++ m) := fun x hx => (List.mem_append.1 hx).elim (h x) (k x)
theorem Dig.take {l : List Nat} (h : Dig l) (n : Nat) : Dig (l.take n) := fun x hx => h x (List.mem_of_mem_take hx)
theorem Dig.getD {l : List Nat} (h : Dig l) (i : Nat) : l.getD i 0 < 1000000000 := by
  rw [List.getD_eq_getElem?_getD]
  cases hh : l[i]? with
  | none => decide
  | some x => exact h x (List.mem_of_getElem? hh)
theorem Dig.set {l : List Nat} (h : Dig l) (i : Nat) {x : Nat} (hx : x < 1000000000) : Dig (l.set i x) := fun y hy => by
  rcases List.mem_or_eq_of_mem_set hy with hy | rfl
  · exact h y hy
  · exact hx

theorem val_lt {l : List Nat} (h : Dig l) : val l < 1000000000 ^ l.length := by
  induction l with
  | nil => simp [val]
  | cons d l ih =>
    have := ih h.tail
    have hd := h.head
    rw [val, List.length_cons, Nat.pow_succ]
    calc d + 1000000000 * val l < 1000000000 + 1000000000 * val l := by omega
      _ = 1000000000 * (val l + 1) := by rw [Nat.mul_add]; omega
      _ ≤ 1000000000 * 1000000000 ^ l.length := Nat.mul_le_mul_left _ this
      _ = 1000000000 ^ l.length * 1000000000 := Nat.mul_comm _ _

theorem val_append (l m : List Nat) : val (l ++ m) = val l + 1000000000 ^ l.length * val m := by
  induction l with
  | nil => simp [val]
  | cons d l ih =>
    rw [List.cons_append, val, val, ih, List.length_cons, Nat.pow_succ, Nat.mul_add, Nat.add_assoc, Nat.mul_comm (1000000000 ^ l.length) 1000000000, Nat.mul_assoc]

/-- Without a zero at the end the digits are those of the number. -/
theorem eq_digs {l : List Nat} (h : Dig l) (hz : l ≠ [] → l.getD (l.length - 1) 0 ≠ 0) : l = digs (val l) := by
  induction l with
  | nil => rw [val, digs_zero]
  | cons d l ih =>
    have hne : val (d :: l) ≠ 0 := by
      have key : ∀ (l : List Nat), l ≠ [] → l.getD (l.length - 1) 0 ≠ 0 → val l ≠ 0 := by
        intro l
        induction l with
        | nil => intro h; exact absurd rfl h
        | cons d l ih =>
          intro _ hz
          cases l with
          | nil => simp [val] at hz ⊢; exact hz
          | cons e l =>
            have := ih (by simp) (by simpa using hz)
            rw [val]; omega
      exact key _ (by simp) (hz (by simp))
    rw [digs_pos hne, val]
    have hd := h.head
    have h1 : (d + 1000000000 * val l) % 1000000000 = d := by omega
    have h2 : (d + 1000000000 * val l) / 1000000000 = val l := by omega
    rw [h1, h2]
    congr 1
    exact ih h.tail fun hl => by
      cases l with
      | nil => exact absurd rfl hl
      | cons e l => simpa using hz (by simp)

theorem val_take_succ (l : List Nat) (n : Nat) : val (l.take (n + 1)) = val (l.take n) + 1000000000 ^ n * l.getD n 0 := by
  induction l generalizing n with
  | nil => simp [val]
  | cons d l ih =>
    cases n with
    | zero => simp [val]
    | succ n =>
      rw [List.take_succ_cons, val, ih, List.take_succ_cons, val, Nat.pow_succ]
      simp only [List.getD_cons_succ]
      rw [Nat.mul_add, Nat.add_assoc, Nat.mul_comm (1000000000 ^ n) 1000000000, Nat.mul_assoc]

theorem val_drop (l : List Nat) (n : Nat) : val (l.drop n) = l.getD n 0 + 1000000000 * val (l.drop (n + 1)) := by
  induction l generalizing n with
  | nil => simp [val]
  | cons d l ih =>
    cases n with
    | zero => simp [val]
    | succ n => simpa using ih n

theorem val_set (l : List Nat) (n x : Nat) (h : n < l.length) : val (l.set n x) + 1000000000 ^ n * l.getD n 0 = val l + 1000000000 ^ n * x := by
  induction l generalizing n with
  | nil => simp at h
  | cons d l ih =>
    cases n with
    | zero => simp [val]; omega
    | succ n =>
      have := ih n (by simpa using h)
      simp only [List.set_cons_succ, val, List.getD_cons_succ, Nat.pow_succ]
      have e1 : 1000000000 ^ n * 1000000000 * l.getD n 0 = 1000000000 * (1000000000 ^ n * l.getD n 0) := by rw [Nat.mul_comm (1000000000 ^ n) 1000000000, Nat.mul_assoc]
      have e2 : 1000000000 ^ n * 1000000000 * x = 1000000000 * (1000000000 ^ n * x) := by rw [Nat.mul_comm (1000000000 ^ n) 1000000000, Nat.mul_assoc]
      rw [e1, e2]
      have e3 := congrArg (1000000000 * ·) this
      simp only [Nat.mul_add] at e3
      omega

theorem val_replicate (n : Nat) : val (List.replicate n 0) = 0 := by
  induction n with
  | zero => rfl
  | succ n ih => rw [List.replicate_succ, val, ih]
theorem dig_replicate (n : Nat) : Dig (List.replicate n 0) := fun d hd => by
  rw [List.eq_of_mem_replicate hd]; decide

theorem digs_len (n k : Nat) (h : n < 1000000000 ^ k) : (digs n).length ≤ k := by
  induction k generalizing n with
  | zero => rw [show n = 0 by simpa using h, digs_zero]; decide
  | succ k ih =>
    by_cases hn : n = 0
    · subst hn; rw [digs_zero]; simp
    · rw [digs_pos hn, List.length_cons]
      have : n / 1000000000 < 1000000000 ^ k := by
        rw [Nat.div_lt_iff_lt_mul (by decide)]
        rwa [Nat.pow_succ] at h
      have := ih _ this
      omega

/-- The digits down from the top tell which number is greater. -/
theorem digs_len_lt {a b : Nat} (h : (digs a).length < (digs b).length) : a < b := by
  rcases Nat.lt_or_ge a b with h' | h'
  · exact h'
  · have h1 : b < 1000000000 ^ (digs a).length := Nat.lt_of_le_of_lt h' (by have := val_lt (dig_digs a); rwa [val_digs] at this)
    have := digs_len b _ h1
    omega

theorem val_lt_of {l m : List Nat} (hl : Dig l) (hm : Dig m) (hlen : l.length = m.length) {n : Nat} (hn : n < l.length) (hlt : l.getD n 0 < m.getD n 0) (he : ∀ i, n < i → l.getD i 0 = m.getD i 0) : val l < val m := by
  induction l generalizing m n with
  | nil => simp at hn
  | cons d l ih =>
    cases m with
    | nil => simp at hlen
    | cons e m =>
      have hd := hl.head
      have he' := hm.head
      cases n with
      | zero =>
        have hlm : l = m := by
          apply List.ext_getElem (by simpa using hlen)
          intro i h1 h2
          have := he (i + 1) (by omega)
          simpa [List.getD_eq_getElem?_getD, h1, h2] using this
        subst hlm
        simp only [List.getD_cons_zero] at hlt
        simp only [val]; omega
      | succ n =>
        have := ih hl.tail hm.tail (by simpa using hlen) (n := n) (by simpa using hn) (by simpa using hlt) (fun i hi => by simpa using he (i + 1) (by omega))
        simp only [val]
        have h3 : 1000000000 * (val l + 1) ≤ 1000000000 * val m := Nat.mul_le_mul_left _ this
        rw [Nat.mul_add] at h3
        omega

end Go.Num

namespace Go.Num
set_option linter.unusedSimpArgs false
set_option linter.unusedVariables false

/-- A knot: a level, and the volume below it. -/
structure Knot where
  l : Int
  v : Int
  deriving DecidableEq

abbrev Tab := List Knot
def kn (t : Tab) (i : Nat) : Knot := t.getD i ⟨0, 0⟩

/-- What is wrong with the knots from i on, d of them left. -/
def knotErr (t : Tab) (i : Nat) : Int :=
  if ¬ (0 ≤ (kn t i).l ∧ (kn t i).l ≤ 1000000 ∧ 0 ≤ (kn t i).v ∧ (kn t i).v ≤ 1000000000) then 2
  else if i = 0 then 0
  else if (kn t i).l ≤ (kn t (i - 1)).l ∨ (kn t i).v ≤ (kn t (i - 1)).v then 9
  else if 1 < i ∧ ((kn t i).v - (kn t (i - 1)).v) * ((kn t (i - 1)).l - (kn t (i - 2)).l) < ((kn t (i - 1)).v - (kn t (i - 2)).v) * ((kn t i).l - (kn t (i - 1)).l) then 22
  else 0

def knotsErr (t : Tab) : Nat → Nat → Int × Int
  | 0, _ => (0, 0)
  | d + 1, i => if knotErr t i = 0 then knotsErr t d (i + 1) else ((i : Int), knotErr t i)

/-- The index and the error of a table. -/
def tabErr (t : Tab) : Int × Int :=
  if t.length < 2 then (0, 10) else if 10 < t.length then (0, 8) else knotsErr t t.length 0

/-- A valid table. -/
structure Ok (t : Tab) : Prop where
  two : 2 ≤ t.length
  ten : t.length ≤ 10
  range : ∀ i, i < t.length → 0 ≤ (kn t i).l ∧ (kn t i).l ≤ 1000000 ∧ 0 ≤ (kn t i).v ∧ (kn t i).v ≤ 1000000000
  up : ∀ i, 1 ≤ i → i < t.length → (kn t (i - 1)).l < (kn t i).l ∧ (kn t (i - 1)).v < (kn t i).v
  wide : ∀ i, 2 ≤ i → i < t.length → ((kn t (i - 1)).v - (kn t (i - 2)).v) * ((kn t i).l - (kn t (i - 1)).l) ≤ ((kn t i).v - (kn t (i - 1)).v) * ((kn t (i - 1)).l - (kn t (i - 2)).l)

theorem knotErr_zero {t : Tab} {i : Nat} (h : knotErr t i = 0) : (0 ≤ (kn t i).l ∧ (kn t i).l ≤ 1000000 ∧ 0 ≤ (kn t i).v ∧ (kn t i).v ≤ 1000000000) ∧
    (1 ≤ i → (kn t (i - 1)).l < (kn t i).l ∧ (kn t (i - 1)).v < (kn t i).v) ∧
    (2 ≤ i → ((kn t (i - 1)).v - (kn t (i - 2)).v) * ((kn t i).l - (kn t (i - 1)).l) ≤ ((kn t i).v - (kn t (i - 1)).v) * ((kn t (i - 1)).l - (kn t (i - 2)).l)) := by
  unfold knotErr at h
  split at h
  · simp at h
  · rename_i h1
    split at h
    · exact ⟨Decidable.not_not.1 h1, by omega, by omega⟩
    · split at h
      · simp at h
      · rename_i h3
        split at h
        · simp at h
        · rename_i h4
          refine ⟨Decidable.not_not.1 h1, fun _ => by omega, fun h2 => ?_⟩
          have := not_and.1 h4 (by omega)
          exact Int.not_lt.1 this

theorem knotsErr_zero {t : Tab} : ∀ (d i : Nat), (knotsErr t d i).2 = 0 → ∀ j, i ≤ j → j < i + d → knotErr t j = 0
  | 0, i, _, j, h1, h2 => by omega
  | d + 1, i, h, j, h1, h2 => by
    unfold knotsErr at h
    split at h
    · rename_i he
      by_cases hj : j = i
      · rw [hj]; exact he
      · exact knotsErr_zero d (i + 1) h j (by omega) (by omega)
    · rename_i he
      exact absurd h he

theorem ok_of {t : Tab} (h : (tabErr t).2 = 0) : Ok t := by
  unfold tabErr at h
  split at h
  · simp at h
  · split at h
    · simp at h
    · have := fun j => knotsErr_zero t.length 0 h j
      exact ⟨by omega, by omega, fun i hi => (knotErr_zero (this i (by omega) (by omega))).1, fun i h1 hi => (knotErr_zero (this i (by omega) (by omega))).2.1 h1, fun i h1 hi => (knotErr_zero (this i (by omega) (by omega))).2.2 h1⟩

theorem Ok.mono {t : Tab} (h : Ok t) {i j : Nat} (hij : i ≤ j) (hj : j < t.length) : (kn t i).l ≤ (kn t j).l ∧ (kn t i).v ≤ (kn t j).v := by
  induction j with
  | zero => rw [show i = 0 by omega]; exact ⟨Int.le_refl _, Int.le_refl _⟩
  | succ j ih =>
    by_cases e : i = j + 1
    · rw [e]; exact ⟨Int.le_refl _, Int.le_refl _⟩
    · have h1 := ih (by omega) (by omega)
      have h2 := h.up (j + 1) (by omega) hj
      rw [Nat.add_sub_cancel] at h2
      omega

theorem Ok.lt {t : Tab} (h : Ok t) {i j : Nat} (hij : i < j) (hj : j < t.length) : (kn t i).l < (kn t j).l ∧ (kn t i).v < (kn t j).v := by
  have h1 := h.mono (i := i) (j := j - 1) (by omega) (by omega)
  have h2 := h.up j (by omega) hj
  omega

/-- The first piece that reaches up to a volume (by its upper knot), and that to a level. -/
def byV (t : Tab) (v : Int) : Nat := 1 + (t.drop 1).findIdx fun k => decide (v ≤ k.v)
def byL (t : Tab) (l : Int) : Nat := 1 + (t.drop 1).findIdx fun k => decide (l ≤ k.l)

theorem drop_kn (t : Tab) (i : Nat) (h : i < (t.drop 1).length) : (t.drop 1)[i] = kn t (i + 1) := by
  simp only [List.length_drop] at h
  rw [List.getElem_drop]
  unfold kn
  rw [List.getD_eq_getElem?_getD, List.getElem?_eq_getElem (by omega)]
  simp [Nat.add_comm]

structure At (t : Tab) (f : Knot → Int) (x : Int) (i : Nat) : Prop where
  one : 1 ≤ i
  lt : i < t.length
  reach : x ≤ f (kn t i)
  first : ∀ j, 1 ≤ j → j < i → f (kn t j) < x

theorem at_find {t : Tab} (f : Knot → Int) (x : Int) (h2 : 2 ≤ t.length) (h : x ≤ f (kn t (t.length - 1))) : At t f x (1 + (t.drop 1).findIdx fun k => decide (x ≤ f k)) := by
  have hlt : (t.drop 1).findIdx (fun k => decide (x ≤ f k)) < (t.drop 1).length := by
    rw [List.findIdx_lt_length]
    have hl : t.length - 2 < (t.drop 1).length := by simp; omega
    refine ⟨(t.drop 1)[t.length - 2], List.getElem_mem hl, ?_⟩
    rw [drop_kn t _ hl, show t.length - 2 + 1 = t.length - 1 by omega]
    simpa using h
  refine ⟨by omega, by rw [List.length_drop] at hlt; omega, ?_, fun j h1 hj => ?_⟩
  · have := List.findIdx_getElem (w := hlt)
    rw [drop_kn t _ hlt] at this
    rw [Nat.add_comm]
    simpa using this
  · have := List.not_of_lt_findIdx (p := fun k => decide (x ≤ f k)) (xs := t.drop 1) (i := j - 1) (by omega)
    rw [drop_kn t _ (by omega), show j - 1 + 1 = j by omega] at this
    simpa using this

theorem At.unique {t : Tab} {f : Knot → Int} {x : Int} {i j : Nat} (h : At t f x i) (k : At t f x j) : i = j := by
  rcases Nat.lt_trichotomy i j with h1 | h1 | h1
  · have := k.first i h.one h1; have := h.reach; omega
  · exact h1
  · have := h.first j k.one h1; have := k.reach; omega

theorem Ok.atV {t : Tab} (h : Ok t) {v : Int} (hv : v ≤ (kn t (t.length - 1)).v) : At t Knot.v v (byV t v) := at_find Knot.v v h.two hv
theorem Ok.atL {t : Tab} (h : Ok t) {l : Int} (hl : l ≤ (kn t (t.length - 1)).l) : At t Knot.l l (byL t l) := at_find Knot.l l h.two hl

end Go.Num

namespace Go.Num
set_option linter.unusedSimpArgs false
set_option linter.unusedVariables false

def cdiv (n d : Int) : Int := -((-n) / d)

theorem cdiv_le {n d x : Int} (hd : 0 < d) : cdiv n d ≤ x ↔ n ≤ x * d := by
  unfold cdiv
  have : -((-n) / d) ≤ x ↔ -x ≤ (-n) / d := by omega
  rw [this, Int.le_ediv_iff_mul_le hd, Int.neg_mul]
  omega
theorem le_div {n d x : Int} (hd : 0 < d) : x ≤ n / d ↔ x * d ≤ n := Int.le_ediv_iff_mul_le hd
theorem cdiv_eq {n d : Int} (hd : 0 < d) : n / d + min (n % d) 1 = cdiv n d := by
  have h1 := Int.mul_ediv_add_emod n d
  have h2 := Int.emod_nonneg n (Int.ne_of_gt hd)
  have h3 := Int.emod_lt_of_pos n hd
  apply Int.le_antisymm
  · by_cases h : n % d = 0
    · rw [h]
      have : n / d ≤ cdiv n d := by
        rcases Int.lt_or_le (cdiv n d) (n / d) with h4 | h4
        · have : cdiv n d ≤ n / d - 1 := by omega
          rw [cdiv_le hd, Int.sub_mul, Int.one_mul] at this
          rw [Int.mul_comm] at h1
          omega
        · exact h4
      omega
    · have : n / d + 1 ≤ cdiv n d := by
        rcases Int.lt_or_le (cdiv n d) (n / d + 1) with h4 | h4
        · have : cdiv n d ≤ n / d := by omega
          rw [cdiv_le hd] at this
          rw [Int.mul_comm] at h1
          omega
        · exact h4
      omega
  · rw [cdiv_le hd, Int.add_mul]
    rw [Int.mul_comm] at h1
    by_cases h : n % d = 0
    · rw [h, show min (0 : Int) 1 = 0 by decide, Int.zero_mul]; omega
    · rw [show min (n % d) 1 = 1 by omega, Int.one_mul]; omega

theorem cdiv_mul_self {n d : Int} (hd : 0 < d) : cdiv (n * d) d = n := by
  unfold cdiv
  rw [← Int.neg_mul, Int.mul_ediv_cancel _ (Int.ne_of_gt hd)]
  omega

/-- Of the piece below knot i: its height and volume. -/
def hgt (t : Tab) (i : Nat) : Int := (kn t i).l - (kn t (i - 1)).l
def vol (t : Tab) (i : Nat) : Int := (kn t i).v - (kn t (i - 1)).v

theorem Ok.pos {t : Tab} (h : Ok t) {i : Nat} (h1 : 1 ≤ i) (hi : i < t.length) : 0 < hgt t i ∧ 0 < vol t i := by
  have := h.up i h1 hi
  unfold hgt vol; omega

def lvN (t : Tab) (v : Int) : Int := (v - (kn t (byV t v - 1)).v) * hgt t (byV t v)
def lvLo (t : Tab) (v : Int) : Int := (kn t (byV t v - 1)).l + lvN t v / vol t (byV t v)
def lvHi (t : Tab) (v : Int) : Int := (kn t (byV t v - 1)).l + cdiv (lvN t v) (vol t (byV t v))
def vlN (t : Tab) (l : Int) : Int := (l - (kn t (byL t l - 1)).l) * vol t (byL t l)
def vlLo (t : Tab) (l : Int) : Int := (kn t (byL t l - 1)).v + vlN t l / hgt t (byL t l)
def vlHi (t : Tab) (l : Int) : Int := (kn t (byL t l - 1)).v + cdiv (vlN t l) (hgt t (byL t l))

def IsV (t : Tab) (v : Int) : Prop := (kn t 0).v ≤ v ∧ v ≤ (kn t (t.length - 1)).v
def IsL (t : Tab) (l : Int) : Prop := (kn t 0).l ≤ l ∧ l ≤ (kn t (t.length - 1)).l

section
variable {t : Tab} (h : Ok t)
include h

theorem Ok.pieceV {v : Int} (hv : IsV t v) : 1 ≤ byV t v ∧ byV t v < t.length ∧ (kn t (byV t v - 1)).v ≤ v ∧ v ≤ (kn t (byV t v)).v := by
  have a := h.atV hv.2
  refine ⟨a.one, a.lt, ?_, a.reach⟩
  by_cases e : byV t v = 1
  · rw [e]; exact hv.1
  · exact Int.le_of_lt (a.first _ (by have := a.one; omega) (by have := a.one; omega))
theorem Ok.pieceL {l : Int} (hl : IsL t l) : 1 ≤ byL t l ∧ byL t l < t.length ∧ (kn t (byL t l - 1)).l ≤ l ∧ l ≤ (kn t (byL t l)).l := by
  have a := h.atL hl.2
  refine ⟨a.one, a.lt, ?_, a.reach⟩
  by_cases e : byL t l = 1
  · rw [e]; exact hl.1
  · exact Int.le_of_lt (a.first _ (by have := a.one; omega) (by have := a.one; omega))

theorem Ok.lvN_bounds {v : Int} (hv : IsV t v) : 0 ≤ lvN t v ∧ lvN t v ≤ hgt t (byV t v) * vol t (byV t v) := by
  obtain ⟨h1, h2, h3, h4⟩ := h.pieceV hv
  obtain ⟨p1, p2⟩ := h.pos h1 h2
  refine ⟨Int.mul_nonneg (by omega) (by omega), ?_⟩
  unfold lvN
  rw [Int.mul_comm (hgt t _)]
  exact Int.mul_le_mul_of_nonneg_right (by unfold vol; omega) (by omega)
theorem Ok.vlN_bounds {l : Int} (hl : IsL t l) : 0 ≤ vlN t l ∧ vlN t l ≤ hgt t (byL t l) * vol t (byL t l) := by
  obtain ⟨h1, h2, h3, h4⟩ := h.pieceL hl
  obtain ⟨p1, p2⟩ := h.pos h1 h2
  refine ⟨Int.mul_nonneg (by omega) (by omega), ?_⟩
  unfold vlN
  exact Int.mul_le_mul_of_nonneg_right (by unfold hgt; omega) (by omega)

/-- Levels lie between the knots of their piece. -/
theorem Ok.lv_between {v : Int} (hv : IsV t v) : (kn t (byV t v - 1)).l ≤ lvLo t v ∧ lvLo t v ≤ lvHi t v ∧ lvHi t v ≤ (kn t (byV t v)).l := by
  obtain ⟨h1, h2, h3, h4⟩ := h.pieceV hv
  obtain ⟨p1, p2⟩ := h.pos h1 h2
  obtain ⟨b1, b2⟩ := h.lvN_bounds hv
  have e1 : 0 ≤ lvN t v / vol t (byV t v) := Int.ediv_nonneg b1 (by omega)
  have e2 : cdiv (lvN t v) (vol t (byV t v)) ≤ hgt t (byV t v) := (cdiv_le p2).2 b2
  have e3 := cdiv_eq (n := lvN t v) p2
  have e4 := Int.emod_nonneg (lvN t v) (Int.ne_of_gt p2)
  unfold lvLo lvHi
  unfold hgt at e2
  omega
theorem Ok.vl_between {l : Int} (hl : IsL t l) : (kn t (byL t l - 1)).v ≤ vlLo t l ∧ vlLo t l ≤ vlHi t l ∧ vlHi t l ≤ (kn t (byL t l)).v := by
  obtain ⟨h1, h2, h3, h4⟩ := h.pieceL hl
  obtain ⟨p1, p2⟩ := h.pos h1 h2
  obtain ⟨b1, b2⟩ := h.vlN_bounds hl
  have e1 : 0 ≤ vlN t l / hgt t (byL t l) := Int.ediv_nonneg b1 (by omega)
  have e2 : cdiv (vlN t l) (hgt t (byL t l)) ≤ vol t (byL t l) := (cdiv_le p1).2 (by rw [Int.mul_comm]; exact b2)
  have e3 := cdiv_eq (n := vlN t l) p1
  have e4 := Int.emod_nonneg (vlN t l) (Int.ne_of_gt p1)
  unfold vlLo vlHi
  unfold vol at e2
  omega

theorem Ok.lv_level {v : Int} (hv : IsV t v) : IsL t (lvLo t v) ∧ IsL t (lvHi t v) := by
  obtain ⟨h1, h2, h3, h4⟩ := h.pieceV hv
  obtain ⟨a, b, c⟩ := h.lv_between hv
  have k1 := h.mono (i := 0) (j := byV t v - 1) (by omega) (by omega)
  have k2 := h.mono (i := byV t v) (j := t.length - 1) (by omega) (by omega)
  unfold IsL; omega
theorem Ok.vl_volume {l : Int} (hl : IsL t l) : IsV t (vlLo t l) ∧ IsV t (vlHi t l) := by
  obtain ⟨h1, h2, h3, h4⟩ := h.pieceL hl
  obtain ⟨a, b, c⟩ := h.vl_between hl
  have k1 := h.mono (i := 0) (j := byL t l - 1) (by omega) (by omega)
  have k2 := h.mono (i := byL t l) (j := t.length - 1) (by omega) (by omega)
  unfold IsV; omega

/-- A level is at most that of a volume exactly if its volume is at most that one. -/
theorem Ok.galois_lo {v l : Int} (hv : IsV t v) (hl : IsL t l) : l ≤ lvLo t v ↔ vlHi t l ≤ v := by
  obtain ⟨i1, i2, i3, i4⟩ := h.pieceV hv
  obtain ⟨j1, j2, j3, j4⟩ := h.pieceL hl
  obtain ⟨pi1, pi2⟩ := h.pos i1 i2
  obtain ⟨pj1, pj2⟩ := h.pos j1 j2
  obtain ⟨a1, a2, a3⟩ := h.lv_between hv
  obtain ⟨b1, b2, b3⟩ := h.vl_between hl
  have aV := h.atV hv.2
  have aL := h.atL hl.2
  rcases Nat.lt_trichotomy (byL t l) (byV t v) with e | e | e
  · have m := h.mono (i := byL t l) (j := byV t v - 1) (by omega) (by omega)
    omega
  · have r1 : l ≤ lvLo t v ↔ (l - (kn t (byV t v - 1)).l) * vol t (byV t v) ≤ lvN t v := by
      rw [← le_div pi2]; unfold lvLo; omega
    have r2 : vlHi t l ≤ v ↔ vlN t l ≤ (v - (kn t (byL t l - 1)).v) * hgt t (byL t l) := by
      rw [← cdiv_le pj1]; unfold vlHi; omega
    rw [r1, r2]
    unfold lvN vlN
    rw [e]
  · have m := h.mono (i := byV t v) (j := byL t l - 1) (by omega) (by omega)
    have f := aL.first (byL t l - 1) (by omega) (by omega)
    have g : 0 < cdiv (vlN t l) (hgt t (byL t l)) := by
      rcases Int.lt_or_le 0 (cdiv (vlN t l) (hgt t (byL t l))) with g | g
      · exact g
      · rw [cdiv_le pj1, Int.zero_mul] at g
        have : 0 < vlN t l := Int.mul_pos (by omega) pj2
        omega
    unfold vlHi
    omega

theorem Ok.galois_hi {v l : Int} (hv : IsV t v) (hl : IsL t l) : lvHi t v ≤ l ↔ v ≤ vlLo t l := by
  obtain ⟨i1, i2, i3, i4⟩ := h.pieceV hv
  obtain ⟨j1, j2, j3, j4⟩ := h.pieceL hl
  obtain ⟨pi1, pi2⟩ := h.pos i1 i2
  obtain ⟨pj1, pj2⟩ := h.pos j1 j2
  obtain ⟨a1, a2, a3⟩ := h.lv_between hv
  obtain ⟨b1, b2, b3⟩ := h.vl_between hl
  have aV := h.atV hv.2
  have aL := h.atL hl.2
  rcases Nat.lt_trichotomy (byV t v) (byL t l) with e | e | e
  · have m := h.mono (i := byV t v) (j := byL t l - 1) (by omega) (by omega)
    omega
  · have r1 : lvHi t v ≤ l ↔ lvN t v ≤ (l - (kn t (byV t v - 1)).l) * vol t (byV t v) := by
      rw [← cdiv_le pi2]; unfold lvHi; omega
    have r2 : v ≤ vlLo t l ↔ (v - (kn t (byL t l - 1)).v) * hgt t (byL t l) ≤ vlN t l := by
      rw [← le_div pj1]; unfold vlLo; omega
    rw [r1, r2]
    unfold lvN vlN
    rw [e]
  · have m := h.mono (i := byL t l) (j := byV t v - 1) (by omega) (by omega)
    have f := aV.first (byV t v - 1) (by omega) (by omega)
    have g : 0 < cdiv (lvN t v) (vol t (byV t v)) := by
      rcases Int.lt_or_le 0 (cdiv (lvN t v) (vol t (byV t v))) with g | g
      · exact g
      · rw [cdiv_le pi2, Int.zero_mul] at g
        have : 0 < lvN t v := Int.mul_pos (by omega) pi1
        omega
    unfold lvHi
    omega

theorem Ok.lv_mono {v w : Int} (hv : IsV t v) (hw : IsV t w) (hvw : v ≤ w) : lvLo t v ≤ lvLo t w ∧ lvHi t v ≤ lvHi t w := by
  obtain ⟨a1, a2⟩ := h.lv_level hv
  obtain ⟨b1, b2⟩ := h.lv_level hw
  have g1 := (h.galois_lo hv a1).1 (Int.le_refl _)
  have g2 := (h.galois_lo hw a1).2 (by omega)
  have g3 := (h.galois_hi hw b2).1 (Int.le_refl _)
  have g4 := (h.galois_hi hv b2).2 (by omega)
  exact ⟨g2, g4⟩

theorem Ok.lv_encloses {v : Int} (hv : IsV t v) : vlLo t (lvLo t v) ≤ v ∧ v ≤ vlHi t (lvHi t v) := by
  obtain ⟨a1, a2⟩ := h.lv_level hv
  have g1 := (h.galois_lo hv a1).1 (Int.le_refl _)
  have g3 := (h.galois_hi hv a2).1 (Int.le_refl _)
  have b := (h.vl_between a1).2.1
  have c := (h.vl_between a2).2.1
  omega

theorem Ok.byV_knot {i : Nat} (hi : i < t.length) : byV t (kn t i).v = max i 1 := by
  have hv : (kn t i).v ≤ (kn t (t.length - 1)).v := (h.mono (i := i) (j := t.length - 1) (by omega) (by omega)).2
  have h2 := h.two
  refine (h.atV hv).unique ⟨by omega, by omega, ?_, fun j h1 hj => (h.lt (by omega) hi).2⟩
  exact (h.mono (by omega) (by omega)).2
theorem Ok.byL_knot {i : Nat} (hi : i < t.length) : byL t (kn t i).l = max i 1 := by
  have hv : (kn t i).l ≤ (kn t (t.length - 1)).l := (h.mono (i := i) (j := t.length - 1) (by omega) (by omega)).1
  have h2 := h.two
  refine (h.atL hv).unique ⟨by omega, by omega, ?_, fun j h1 hj => (h.lt (by omega) hi).1⟩
  exact (h.mono (by omega) (by omega)).1

theorem Ok.lv_knot {i : Nat} (hi : i < t.length) : lvLo t (kn t i).v = (kn t i).l ∧ lvHi t (kn t i).v = (kn t i).l := by
  have e := h.byV_knot hi
  have h2 := h.two
  unfold lvLo lvHi lvN
  rw [e]
  by_cases h0 : i = 0
  · subst h0
    have : ((kn t 0).v - (kn t (max 0 1 - 1)).v) * hgt t (max 0 1) = 0 * vol t (max 0 1) := by simp
    have p := (h.pos (i := max 0 1) (by omega) (by omega)).2
    rw [this, Int.mul_ediv_cancel _ (Int.ne_of_gt p), cdiv_mul_self p]
    simp
  · rw [show max i 1 = i by omega]
    have p := (h.pos (i := i) (by omega) (by omega)).2
    rw [show ((kn t i).v - (kn t (i - 1)).v) * hgt t i = hgt t i * vol t i by unfold vol; rw [Int.mul_comm], Int.mul_ediv_cancel _ (Int.ne_of_gt p), cdiv_mul_self p]
    unfold hgt; omega
theorem Ok.vl_knot {i : Nat} (hi : i < t.length) : vlLo t (kn t i).l = (kn t i).v ∧ vlHi t (kn t i).l = (kn t i).v := by
  have e := h.byL_knot hi
  have h2 := h.two
  unfold vlLo vlHi vlN
  rw [e]
  by_cases h0 : i = 0
  · subst h0
    have : ((kn t 0).l - (kn t (max 0 1 - 1)).l) * vol t (max 0 1) = 0 * hgt t (max 0 1) := by simp
    have p := (h.pos (i := max 0 1) (by omega) (by omega)).1
    rw [this, Int.mul_ediv_cancel _ (Int.ne_of_gt p), cdiv_mul_self p]
    simp
  · rw [show max i 1 = i by omega]
    have p := (h.pos (i := i) (by omega) (by omega)).1
    rw [show ((kn t i).l - (kn t (i - 1)).l) * vol t i = vol t i * hgt t i by unfold hgt; rw [Int.mul_comm], Int.mul_ediv_cancel _ (Int.ne_of_gt p), cdiv_mul_self p]
    unfold vol; omega

end
end Go.Num

namespace Go.PewTab
set_option linter.unusedSimpArgs false
set_option linter.unusedVariables false
open Go.Pew Go.Num

/-- The bounds of an int. -/
abbrev I64 (x : Int) : Prop := -9223372036854775808 ≤ x ∧ x ≤ 9223372036854775807

theorem w64_id {x : Int} (h1 : -9223372036854775808 ≤ x) (h2 : x ≤ 9223372036854775807) : w64 x = x := by
  unfold w64 IntKind.wrap
  simp only [IntKind.bits, IntKind.signed, Bool.true_and, decide_eq_true_eq, Nat.reduceSub, Int.reducePow, ge_iff_le]
  split <;> omega

/-- Not by 'rfl' for the simplifier: else the kernel would carry calls out to compare them. -/
theorem obind {α β : Type} (x : α) (f : α → Option β) : (some x).bind f = f x := id rfl
theorem nth_zero (x : PV) (l : List PV) : nth (x :: l) 0 = x := id rfl
theorem nth_one (x y : PV) (l : List PV) : nth (x :: y :: l) 1 = y := id rfl
theorem nth_two (x y z : PV) (l : List PV) : nth (x :: y :: z :: l) 2 = z := id rfl
theorem nth_three (x y z u : PV) (l : List PV) : nth (x :: y :: z :: u :: l) 3 = u := id rfl
theorem asI_int (k : IntKind) (n : Int) : asI (.int k n) = n := id rfl
theorem asB_bool (b : Bool) : asB (.bool b) = b := id rfl
theorem asL_sl (tag : Option (Nat × Nat)) (ls : List LK) (xs : List (List PV)) : asL (.sl tag ls xs) = xs := id rfl
theorem asA_agg (cs : List PV) : asA (.agg cs) = cs := id rfl
theorem asT_tup (vs : List PV) : asT (.tup vs) = vs := id rfl
theorem cond_dec {α : Type} (p : Prop) [Decidable p] (a b : α) : cond (decide p) a b = if p then a else b := by
  by_cases h : p <;> simp [h]
theorem cond_ndec {α : Type} (p : Prop) [Decidable p] (a b : α) : cond (!decide p) a b = if p then b else a := by
  by_cases h : p <;> simp [h]
theorem ite_max (a b : Int) : (if a > b then a else b) = max a b := by
  by_cases h : a > b <;> simp [h] <;> omega
theorem ite_min (a b : Int) : (if a < b then a else b) = min a b := by
  by_cases h : a < b <;> simp [h] <;> omega
theorem cond_t {α : Type} (a b : α) : cond true a b = a := id rfl
theorem cond_f {α : Type} (a b : α) : cond false a b = b := id rfl
theorem cond_n {α : Type} (c : Bool) (a b : α) : cond (!c) a b = cond c b a := by cases c <;> rfl
theorem cond_if {α : Type} (c : Bool) (a b : α) : cond c a b = if c = true then a else b := by cases c <;> rfl

theorem nths_map {α : Type} (c : α → List PV) (l : List α) (i : Nat) (h : i < l.length) : nths (l.map c) i = c l[i] := by
  simp [nths, h]

theorem leafI {α : Type} (c : α → List PV) (g : α → Int) (j : Nat) (d : α) (hc : ∀ a, asI (nth (c a) j) = g a) (hd : g d = 0) (l : List α) (i : Nat) : asI (nth (nths (l.map c) i) j) = g (l.getD i d) := by
  by_cases h : i < l.length
  · rw [nths_map c l i h, hc, List.getD_eq_getElem?_getD, List.getElem?_eq_getElem h]
    rfl
  · have : nths (l.map c) i = [] := by
      unfold nths
      rw [List.getD_eq_getElem?_getD, List.getElem?_eq_none (by simpa using h)]
      rfl
    rw [this, List.getD_eq_getElem?_getD, List.getElem?_eq_none (by omega)]
    simp [nth, asI, hd]

/-! Rows of plain data. -/
def cI (n : Int) : List PV := [.int .i64 n]
def cD (d : Nat) : List PV := [.int .i64 (d : Int)]
def cK (k : Knot) : List PV := [.int .i64 k.l, .int .i64 k.v]
theorem leaf_cI (l : List Int) (i : Nat) : asI (nth (nths (l.map cI) i) 0) = l.getD i 0 := leafI cI id 0 0 (fun _ => rfl) rfl l i
theorem leaf_cD (l : List Nat) (i : Nat) : asI (nth (nths (l.map cD) i) 0) = (l.getD i 0 : Nat) := leafI cD (fun n => (n : Int)) 0 0 (fun _ => rfl) rfl l i
theorem leaf_cKl (l : Tab) (i : Nat) : asI (nth (nths (l.map cK) i) 0) = (kn l i).l := leafI cK Knot.l 0 ⟨0, 0⟩ (fun _ => rfl) rfl l i
theorem leaf_cKv (l : Tab) (i : Nat) : asI (nth (nths (l.map cK) i) 1) = (kn l i).v := leafI cK Knot.v 1 ⟨0, 0⟩ (fun _ => rfl) rfl l i

/-- A table's value. -/
abbrev vTab (t : Tab) : PV := .agg [.sl none [.int .i64, .int .i64] (t.map cK)]
abbrev vRng (r : Int × Int) : PV := .agg [.int .i64 r.1, .int .i64 r.2]

end Go.PewTab
