/- CODE, FUNCTIONS, PROGRAMS: WHAT THE EVALUATOR TELLS, THE MACHINE DOES. -/
import Derived.Test.YtfjnpgbjcgjecaaPevHead
namespace Go.Pev
open Go.RowKit
set_option linter.unusedVariables false
set_option linter.unusedSimpArgs false

def okCode : Code → Bool
  | .region _ ops draw => !draw || okRegion ops
  | .seq a b => okCode a && okCode b
  | .cond _ a b => okCode a && okCode b
  | .block _ c => okCode c
  | .loop c => okCode c
  | _ => true

def toExit : Ex → Exit
  | .normal => .normal
  | .ret => .ret
  | .exit id => .exit id

structure ProgOk (P : Program) (E : Env) : Prop where
  env : EnvOk P E
  mixed : P.follows .mixedOrders = true
  code : ∀ f fn c, E.fn f = some fn → fn.body = some c → okCode c = true

theorem wp_loop_nat {P : Program} {Q : Exit → Act → World → Prop} {c : Code} (I : Nat → Act → World → Prop) {k : Nat} {a : Act} {w : World} (h0 : I k a w)
    (round : ∀ k a w, I k a w → c.wp P (Exit.then (fun a' w' => ∃ k', k' < k ∧ I k' a' w') Q) a w) : (Code.loop c).wp P Q a w := by
  intro b kk cs
  have key : ∀ n a w, I n a w → ∃ e a' w', Q e a' w' ∧ Arrives P (lone (b.at a (.code c :: .inLoop c :: kk)) cs w) b kk cs e a' w' := by
    intro n
    induction n using Nat.strongRecOn with
    | _ n ih =>
      intro a w hI
      obtain ⟨e, a₁, w₁, hq, harr⟩ := round n a w hI b (.inLoop c :: kk) cs
      cases e with
      | normal =>
        obtain ⟨k', hlt, hI₁⟩ := hq
        obtain ⟨e₂, a₂, w₂, hq₂, harr₂⟩ := ih k' hlt a₁ w₁ hI₁
        exact ⟨e₂, a₂, w₂, hq₂, .of_steps (Steps.trans harr (.one step_inLoop)) harr₂⟩
      | exit id => exact ⟨_, a₁, w₁, hq, .pass (x := .inLoop c) rfl (fun _ _ => .inl (by simp)) harr⟩
      | goto l => exact ⟨_, a₁, w₁, hq, .pass (x := .inLoop c) rfl (fun _ _ => .inl (by simp)) harr⟩
      | ret => exact ⟨_, a₁, w₁, hq, .pass (x := .inLoop c) rfl (fun _ _ => .inl (by simp)) harr⟩
      | panic ch => exact ⟨_, a₁, w₁, hq, .pass (x := .inLoop c) rfl (fun _ _ => .inl (by simp)) harr⟩
      | outgrown => exact ⟨_, a₁, w₁, hq, .pass (x := .inLoop c) rfl (fun _ _ => .inl (by simp)) harr⟩
  obtain ⟨e, a', w', hq, harr⟩ := key _ a w h0
  exact ⟨e, a', w', hq, .of_steps (.one step_loop) harr⟩

section
variable {P : Program} {E : Env} {call : Nat → List PV → Option PV} {base n : Nat} {w0 : Start} {R : Type} {r : R}

theorem code_sound (O : ProgOk P E) (hcall : ∀ f args r, call f args = some r → Contract P E f args r) (hs : Nat → Hd) : ∀ (c : Code), okCode c = true → ∀ (s : St) (κ : Ex → St → Option R) (a : Act) (w : World) (Q : Exit → Act → World → Prop),
    codeK E call hs c s κ = some r → Sim base w0 n s a w → (∀ e s', κ e s' = some r → ∀ a' w', Sim base w0 n s' a' w' → Q (toExit e) a' w') → c.wp P Q a w := by
  intro c
  induction c with
  | skip => intro hok s κ a w Q hc h hQ; exact wp_skip (hQ .normal s hc a w h)
  | region id ops draw =>
    intro hok s κ a w Q hc h hQ
    cases draw with
    | true => exact region_sound (draw := true) (κ := κ .normal) (r := r) O.env O.mixed hcall (fun _ => by simpa [okCode] using hok) h (fun s1 hk a' w' h' => hQ .normal s1 hk a' w' h') hc
    | false => exact region_sound (draw := false) (κ := κ .normal) (r := r) O.env O.mixed hcall (fun hd => by cases hd) h (fun s1 hk a' w' h' => hQ .normal s1 hk a' w' h') hc
  | seq x y ihx ihy =>
    intro hok s κ a w Q hc h hQ
    simp only [okCode, Bool.and_eq_true] at hok
    refine wp_seq (ihx hok.1 s _ a w _ hc h fun e s' hk a' w' h' => ?_)
    cases e with
    | normal => exact ihy hok.2 s' κ a' w' Q hk h' hQ
    | ret => exact hQ .ret s' hk a' w' h'
    | exit id => exact hQ (.exit id) s' hk a' w' h'
  | cond c x y ihx ihy =>
    intro hok s κ a w Q hc h hQ
    simp only [okCode, Bool.and_eq_true] at hok
    cases c with
    | tmp t =>
      simp only [codeK, splitK_eq] at hc
      split at hc
      · rename_i b hb
        obtain ⟨g, h0⟩ := h
        have hev := eval_rep h0 t (.inr trivial)
        rw [hb] at hev
        have hev : a.eval (.tmp t) = .bool b := hev
        cases b with
        | true => exact wp_cond_true hev (ihx hok.1 s κ a w Q hc ⟨g, h0⟩ hQ)
        | false => exact wp_cond_false hev (ihy hok.2 s κ a w Q hc ⟨g, h0⟩ hQ)
      · cases hc
    | const v => simp [codeK] at hc
    | global v => simp [codeK] at hc
    | func v => simp [codeK] at hc
  | block id c ih =>
    intro hok s κ a w Q hc h hQ
    refine wp_block (ih hok s _ a w _ hc h fun e s' hk a' w' h' => ?_)
    cases e with
    | normal => exact hQ .normal s' hk a' w' h'
    | ret => exact hQ .ret s' hk a' w' h'
    | exit j =>
      dsimp only at hk
      show if j = id then _ else _
      split at hk
      · rename_i q; rw [if_pos q]; exact hQ .normal s' hk a' w' h'
      · rename_i q; rw [if_neg q]; exact hQ (.exit j) s' hk a' w' h'
  | loop c ih =>
    intro hok s κ a w Q hc h hQ
    simp only [codeK, forceSt_eq] at hc
    refine wp_loop_nat (fun k a w => ∃ s, Sim base w0 n s a w ∧ loopJ (codeK E call hs c) (hs (firstRegion c)) κ k (s.head (hs (firstRegion c))) = some r) (k := E.fuel) ⟨s, h, hc⟩ fun k a w hI => ?_
    obtain ⟨s, h, hl⟩ := hI
    cases k with
    | zero => cases hl
    | succ k =>
      simp only [loopJ, forceSt_eq] at hl
      refine ih hok _ _ a w _ hl (h.head _) fun e s' hk a' w' h' => ?_
      cases e with
      | normal => exact ⟨k, Nat.lt_succ_self k, s', h', hk⟩
      | ret => exact hQ .ret s' hk a' w' h'
      | exit id => exact hQ (.exit id) s' hk a' w' h'
  | exit id => intro hok s κ a w Q hc h hQ; exact wp_exit (hQ (.exit id) s hc a w h)
  | ret => intro hok s κ a w Q hc h hQ; exact wp_ret (hQ .ret s hc a w h)
  | rangeFunc f p x y => intro hok s κ a w Q hc; simp [codeK] at hc
  | scope x => intro hok s κ a w Q hc; simp [codeK] at hc
  | label l => intro hok s κ a w Q hc; simp [codeK] at hc
  | goto l => intro hok s κ a w Q hc; simp [codeK] at hc
  | refuse why => intro hok s κ a w Q hc; simp [codeK] at hc

/-- What is handed on at the end comes from a state. -/
theorem codeK_final (hs : Nat → Hd) : ∀ (c : Code) (s : St) (κ : Ex → St → Option R), codeK E call hs c s κ = some r → ∃ e s', κ e s' = some r := by
  intro c
  induction c with
  | skip => intro s κ h; exact ⟨_, _, h⟩
  | region id ops draw =>
    intro s κ h
    cases draw with
    | true =>
      have h : (forceL (masks ops.toList) fun ms => opsD E call ops ms 0 ops.toList [] s fun s' => κ .normal s') = some r := h
      rw [forceL_eq] at h
      obtain ⟨tr, s', _, hk, _⟩ := opsD_run E call ops _ ops.toList 0 [] [] s _ r (by simp) h
      exact ⟨_, s', hk⟩
    | false =>
      obtain ⟨tr, s', _, hk⟩ := opsK_run E call ops ops.toList 0 s _ r h
      exact ⟨_, s', hk⟩
  | seq x y ihx ihy =>
    intro s κ h
    obtain ⟨e, s', hk⟩ := ihx _ _ h
    cases e with
    | normal => exact ihy _ _ hk
    | ret => exact ⟨_, _, hk⟩
    | exit id => exact ⟨_, _, hk⟩
  | cond c x y ihx ihy =>
    intro s κ h
    cases c with
    | tmp t =>
      simp only [codeK, splitK_eq] at h
      split at h
      · rename_i b hb
        cases b with
        | true => exact ihx _ _ h
        | false => exact ihy _ _ h
      · cases h
    | const v => simp [codeK] at h
    | global v => simp [codeK] at h
    | func v => simp [codeK] at h
  | block id c ih =>
    intro s κ h
    obtain ⟨e, s', hk⟩ := ih _ _ h
    cases e with
    | normal => exact ⟨_, _, hk⟩
    | ret => exact ⟨_, _, hk⟩
    | exit j =>
      dsimp only at hk
      split at hk
      · exact ⟨_, _, hk⟩
      · exact ⟨_, _, hk⟩
  | loop c ih =>
    intro s κ h
    simp only [codeK, forceSt_eq] at h
    have key : ∀ k s, loopJ (codeK E call hs c) (hs (firstRegion c)) κ k s = some r → ∃ e s', κ e s' = some r := by
      intro k
      induction k with
      | zero => intro s h; cases h
      | succ k ihk =>
        intro s h
        simp only [loopJ, forceSt_eq] at h
        obtain ⟨e, s', hk⟩ := ih _ _ h
        cases e with
        | normal => exact ihk _ hk
        | ret => exact ⟨_, _, hk⟩
        | exit id => exact ⟨_, _, hk⟩
    exact key _ _ h
  | exit id => intro s κ h; exact ⟨_, _, h⟩
  | ret => intro s κ h; exact ⟨_, _, h⟩
  | rangeFunc f p x y => intro s κ h; simp [codeK] at h
  | scope x => intro s κ h; simp [codeK] at h
  | label l => intro s κ h; simp [codeK] at h
  | goto l => intro s κ h; simp [codeK] at h
  | refuse why => intro s κ h; simp [codeK] at h

/-! ### handing back -/
theorem confT_plain {t : Nat} {v : PV} (h : confT E t v = true) : plain v = true := by
  unfold confT at h
  split at h
  · split at h
    · split at h
      · rw [plain]; exact confs_plains h
      · cases h
    · split at h
      · exact conf_plain h
      · cases h
  · cases h

theorem confTs_plains : ∀ {ts : List Nat} {vs : List PV}, confTs E ts vs = true → plains vs = true
  | [], [], _ => rfl
  | [], _ :: _, h => by simp [confTs] at h
  | _ :: _, [], h => by simp [confTs] at h
  | t :: ts, v :: vs, h => by
    simp only [confTs, Bool.and_eq_true] at h
    simp [plains, confT_plain h.1, confTs_plains h.2]

theorem confTs_length : ∀ {ts : List Nat} {vs : List PV}, confTs E ts vs = true → vs.length = ts.length
  | [], [], _ => rfl
  | [], _ :: _, h => by simp [confTs] at h
  | _ :: _, [], h => by simp [confTs] at h
  | t :: ts, v :: vs, h => by
    simp only [confTs, Bool.and_eq_true] at h
    simp [confTs_length h.2]

variable {s : St} {a : Act} {w : World} {g : Gh}

theorem results_rep (T : ∀ t ti, E.ty t = some ti → TyOk P t ti) (h : SimG base w0 n g s a w) {F : ResultVar → Sem Value} (F1 : ∀ t, F (.tmp t) = pure (a.tmps.getD t undef)) (F2 : ∀ x t, F (.cell x t) = do loadVar t (← asAddr (a.tmps.getD x undef))) :
    ∀ (rs : List ResultVar) (vs : List PV), results E s rs = some vs → ∃ us, (rs.mapM F).run P w = .ok us w ∧ Reps (ctx s w g) vs us
  | [], vs, hr => by
    cases hr
    exact ⟨[], rfl, rfl⟩
  | x :: rs, vs, hr => by
    unfold results at hr
    split at hr
    · rename_i v vs' hv hvs
      cases hr
      obtain ⟨us, h1, h2⟩ := results_rep T h F1 F2 rs vs' hvs
      have hx : ∃ u, (F x).run P w = .ok u w ∧ Rep (ctx s w g) v u := by
        cases x with
        | tmp t =>
          cases hv
          rw [F1]
          exact ⟨_, rfl, eval_rep h t (.inr trivial)⟩
        | cell x t =>
          unfold resultOf at hv
          dsimp only at hv
          split at hv
          · rename_i ti d off hti hg
            split at hv
            · rename_i cs fz hb
              split at hv
              · rename_i hf
                cases hv
                have hr := eval_rep h x (.inr trivial)
                rw [hg] at hr
                obtain ⟨B, hB, hp⟩ := hr
                obtain ⟨B', us, T', h3, h4, h5, h6, _⟩ := h.cells d cs fz hb
                have hBB : B' = B := by
                  have hB : g.bx d = some B := hB
                  rw [h3] at hB; cases hB; rfl
                subst hBB
                have hp : a.tmps.getD x undef = .pointer (some ⟨B', off, none⟩) := hp
                have := (T _ _ hti).run_loadVar (w := w) (B := B') (o := 0) (off := off) (us := us.toList) (fun j u hj => by
                  simp only [World.cell?, h4, Nat.zero_add]
                  simpa using hj) (partFits_us h6 hf)
                rw [Nat.zero_add] at this
                refine ⟨partVal ti us.toList off, ?_, Rep.part h6 hf⟩
                rw [F2]
                simp only [Sem.run_bind, hp, asAddr, Sem.run_pure, Result.andThen_ok]
                exact this
              · cases hv
            · cases hv
          · cases hv
      obtain ⟨u, hx1, hx2⟩ := hx
      refine ⟨u :: us, ?_, ⟨u, us, rfl, hx2, h2⟩⟩
      rw [List.mapM_cons, Sem.run_bind, hx1]
      simp only [Result.andThen_ok, Sem.run_bind, h1, Sem.run_pure]
    · cases hr

theorem run_results (T : ∀ t ti, E.ty t = some ti → TyOk P t ti) (h : SimG base w0 n g s a w) {fn : Func} {vs : List PV} (hr : results E s fn.results.toList = some vs) :
    ∃ us, (_root_.Go.results fn a.tmps).run P w = .ok (if h : us.length = 1 then us[0] else .tuple us.toArray) w ∧ Reps (ctx s w g) vs us := by
  have key : ∀ {F : ResultVar → Sem Value} (F1 : ∀ t, F (.tmp t) = pure (a.tmps.getD t undef)) (F2 : ∀ x t, F (.cell x t) = do loadVar t (← asAddr (a.tmps.getD x undef))),
      ∃ us, ((do let vs ← fn.results.mapM F; pure (if h : vs.size = 1 then vs[0] else .tuple vs)) : Sem Value).run P w = .ok (if h : us.length = 1 then us[0] else .tuple us.toArray) w ∧ Reps (ctx s w g) vs us := fun F1 F2 => by
    obtain ⟨us, h1, h2⟩ := results_rep T h F1 F2 _ _ hr
    refine ⟨us, ?_, h2⟩
    rw [Sem.run_bind, Array.mapM_eq_mapM_toList, Sem.run_map, h1]
    simp only [Result.andThen_ok, Sem.run_pure]
    simp
  exact key (fun _ => rfl) (fun _ _ => rfl)

def rowOf : PV → Option Nat
  | .row d => some d
  | _ => none

theorem giveBack_sound (T : ∀ t ti, E.ty t = some ti → TyOk P t ti) {f : Nat} {fn : Func} {r : PV} (h : Sim base w0 n s a w) (hbase : base = w0.heap.size) (hkeep : StOk w0.toWorld w0.keep) (hg : giveBack E f fn s = some r) :
    RConf E fn r ∧ a.defers = [] ∧ ∃ v, (_root_.Go.results fn a.tmps).run P w = .ok v w ∧ After E f r w0.toWorld w0.keep v w := by
  obtain ⟨g, h⟩ := h
  unfold giveBack at hg
  split at hg
  · cases hg
  · rename_i vs hvs
    obtain ⟨us, hres, hrep⟩ := run_results T h hvs
    dsimp only at hg
    by_cases hcf : confTs E fn.resultTypes.toList (vs.map (handed s)) = true
    · rw [if_pos hcf] at hg
      have hpl := confTs_plains hcf
      have hln := confTs_length hcf
      have hul := hrep.length
      have hkl : ∀ B o, w0.keep B o → B < base := fun B o hk => by
        obtain ⟨us, T', fr, e, _⟩ := hkeep B o hk
        rw [hbase]
        exact block_lt e
      -- what stays, of a ghost
      let st' : Gh → Nat → Nat → Prop := fun g B o => w0.keep B o ∨ (base ≤ B ∧ g.st B o)
      have hstok : ∀ {g : Gh} {s : St}, SimG base w0 n g s a w → StOk w (st' g) := fun hg B o ho => by
        rcases ho with ho | ⟨_, ho⟩
        · obtain ⟨us, T', fr, e, hl⟩ := hkeep B o ho
          refine ⟨us, T', fr, ?_, hl⟩
          rw [hg.below.block B (hkl B o ho)]
          exact e
        · exact hg.stlt B o ho
      have hle : ∀ {g : Gh} {s : St}, SimG base w0 n g s a w → (ctx s w g).Le0 (plainCtx w (st' g)) := fun hg =>
        ⟨fun B o ho => (hg.news B o ho).imp id fun hb => ⟨hb, ho⟩, fun _ _ _ => rfl⟩
      have hafter : ∀ {g : Gh} {s : St} (hg : SimG base w0 n g s a w) (r : PV) (v : Value), Rep (plainCtx w (st' g)) r v → (E.own f = true → ∃ ls xs, r = .sl none ls xs ∧ OwnOk (gh0 (st' g)) w0.heap.size w v ls.length) → After E f r w0.toWorld w0.keep v w := fun {g s} hg r v hr ho => by
        refine ⟨by rw [← hbase]; exact hg.below, st' g, fun B o hk => .inl hk, fun B o hk => ?_, hstok hg, ⟨r, rfl, hr⟩, ho⟩
        rcases hk with hk | ⟨hk, _⟩
        · exact .inl hk
        · rw [hbase] at hk; exact .inr hk
      -- the rows that are handed back are frozen
      obtain ⟨g1, h1, l1, b1, c1⟩ := SimG.freeze (vs.filterMap rowOf) h
      have hrs : Reps (plainCtx w (st' g1)) (vs.map (handed s)) us := by
        refine Reps.mono0 (hle h1) _ _ hpl ?_
        refine Reps.of_get (by rw [List.length_map]; exact hul) fun i u hu => ?_
        have hi : i < vs.length := by
          have := (List.getElem?_eq_some_iff.1 hu).1
          omega
        have hp := hrep.get i u hu
        have hn : nth vs i = vs[i] := by simp [nth, List.getD_eq_getElem?_getD, hi]
        have hn' : nth (vs.map (handed s)) i = handed s vs[i] := by simp [nth, List.getD_eq_getElem?_getD, hi]
        rw [hn] at hp
        rw [hn']
        exact handed_rep h l1 rfl hp fun d hd B hB us T fr hh o ho => c1 d (List.mem_filterMap.2 ⟨vs[i], List.getElem_mem hi, by rw [hd]; rfl⟩) B hB us T fr hh o ho
      refine (?_ : RConf E fn r ∧ ∃ v, (_root_.Go.results fn a.tmps).run P w = .ok v w ∧ After E f r w0.toWorld w0.keep v w).elim fun x y => ⟨x, h.defers, y⟩
      cases vs with
      | nil =>
        have hg : (if E.own f = true then none else forceVs [] fun vs => some (PV.tup vs)) = some r := hg
        split at hg
        · cases hg
        · rename_i ho
          cases hg
          refine ⟨?_, _, hres, hafter h1 _ _ ?_ fun q => absurd q ho⟩
          · unfold RConf
            split
            · rename_i t ht; rw [ht] at hln; cases hln
            · exact ⟨_, rfl, hcf⟩
          · rw [dif_neg (by rw [hul]; simp)]
            exact ⟨_, rfl, hrs⟩
      | cons u0 vs =>
        cases vs with
        | nil =>
          simp only [List.map_cons, List.map_nil] at hg
          have hrc : ∀ r', r' = handed s u0 → RConf E fn r' := fun r' hr' => by
            subst hr'
            unfold RConf
            have hcf : confTs E fn.resultTypes.toList [handed s u0] = true := hcf
            split
            · rename_i t ht
              rw [ht] at hcf
              simpa [confTs] using hcf
            · rename_i ts hts
              exfalso
              have hln : 1 = fn.resultTypes.toList.length := hln
              match hq : fn.resultTypes.toList, hln with
              | [t], _ => exact hts t hq
          have hul : us.length = 1 := hul
          rw [dif_pos hul] at hres
          have hus : us = [us[0]] := by
            match us, hul with
            | [u], _ => rfl
          split at hg
          · rename_i ho
            split at hg
            · rename_i d k ls xs
              split at hg
              · rename_i hk
                rw [forceV_eq] at hg
                cases hg
                refine ⟨hrc _ rfl, _, hres, ?_⟩
                rw [hus] at hrep
                obtain ⟨u, ws, hq, hru, _⟩ := hrep
                cases hq
                have hru0 := hru
                obtain ⟨A, cap, rows, e1, e2, e3, e4, e5, e6, e7⟩ := hru0
                obtain ⟨_, htg⟩ := e7 d k rfl
                obtain ⟨hown, hoz⟩ := htg hk
                refine hafter h _ _ (Rep.mono0 (hle h) _ _ rfl (Rep.strip_tag hru)) fun _ => ⟨ls, xs, rfl, ?_⟩
                rw [hown, hoz, ← hbase]
                rcases h.own d with hq | ⟨B, o, len, cap', us', T', q1, q2, q3, q4, q5, q6, q7⟩
                · exact .inl hq
                · exact .inr ⟨B, o, len, cap', us', T', q1, q2, q3, q4, q5, fun j hj hq => hq.elim (fun hk => absurd (hkl B j hk) (by omega)) fun hq => q6 j hj hq.2, fun _ hq => by cases hq⟩
              · cases hg
            · cases hg
          · rename_i ho
            rw [forceV_eq] at hg
            cases hg
            refine ⟨hrc _ rfl, _, hres, hafter h1 _ _ ?_ fun q => absurd q ho⟩
            rw [hus] at hrs
            obtain ⟨u, ws, hq, hru, _⟩ := hrs
            cases hq
            exact hru
        | cons u1 vs =>
          have hg : (if E.own f = true then none else forceVs ((u0 :: u1 :: vs).map (handed s)) fun vs => some (PV.tup vs)) = some r := hg
          split at hg
          · cases hg
          · rename_i ho
            rw [forceVs_eq] at hg
            cases hg
            refine ⟨?_, _, hres, hafter h1 _ _ ?_ fun q => absurd q ho⟩
            · unfold RConf
              split
              · rename_i t ht; rw [ht] at hln; simp at hln
              · exact ⟨_, rfl, hcf⟩
            · rw [dif_neg (by rw [hul]; simp)]
              exact ⟨_, rfl, hrs⟩
    · rw [if_neg hcf] at hg
      cases hg

theorem giveBack_conf {f : Nat} {fn : Func} {r : PV} (hg : giveBack E f fn s = some r) : RConf E fn r := by
  unfold giveBack at hg
  split at hg
  · cases hg
  · rename_i vs hvs
    dsimp only at hg
    by_cases hcf : confTs E fn.resultTypes.toList (vs.map (handed s)) = true
    · rw [if_pos hcf] at hg
      have hln := confTs_length hcf
      cases vs with
      | nil =>
        have hg : (if E.own f = true then none else forceVs [] fun vs => some (PV.tup vs)) = some r := hg
        split at hg
        · cases hg
        · cases hg
          unfold RConf
          split
          · rename_i t ht; rw [ht] at hln; cases hln
          · exact ⟨_, rfl, hcf⟩
      | cons u0 vs =>
        cases vs with
        | nil =>
          simp only [List.map_cons, List.map_nil] at hg
          have hr : r = handed s u0 := by
            split at hg
            · split at hg
              · split at hg
                · rw [forceV_eq] at hg; cases hg; rfl
                · cases hg
              · cases hg
            · rw [forceV_eq] at hg; cases hg; rfl
          subst hr
          unfold RConf
          have hcf : confTs E fn.resultTypes.toList [handed s u0] = true := hcf
          split
          · rename_i t ht
            rw [ht] at hcf
            simpa [confTs] using hcf
          · rename_i ts hts
            exfalso
            have hln : 1 = fn.resultTypes.toList.length := hln
            match hq : fn.resultTypes.toList, hln with
            | [t], _ => exact hts t hq
        | cons u1 vs =>
          have hg : (if E.own f = true then none else forceVs ((u0 :: u1 :: vs).map (handed s)) fun vs => some (PV.tup vs)) = some r := hg
          split at hg
          · cases hg
          · rw [forceVs_eq] at hg
            cases hg
            unfold RConf
            split
            · rename_i t ht; rw [ht] at hln; simp at hln
            · exact ⟨_, rfl, hcf⟩
    · rw [if_neg hcf] at hg
      cases hg

theorem body_sound (O : ProgOk P E) (hcall : ∀ f args r, call f args = some r → Contract P E f args r) {f : Nat} {fn : Func} (hfn : E.fn f = some fn) {args : List PV} {r : PV} (hb : bodyK E call f fn args = some r) : Contract P E f args r := by
  unfold bodyK at hb
  split at hb
  · cases hb
  · rename_i c hc
    split at hb
    · cases hb
    · rename_i hle
      have hle := Nat.le_of_ble_eq_true hle
      rw [forceSt_eq] at hb
      obtain ⟨hF1, _, _⟩ := O.env.fn _ _ hfn
      have key : ∀ w st vals, StOk w st → Reps (plainCtx w st) args vals → c.wp P (fun e a w' => (e = .normal ∨ e = .ret) ∧ RConf E fn r ∧ a.defers = [] ∧ ∃ v, (_root_.Go.results fn a.tmps).run P w' = .ok v w' ∧ After E f r w st v w')
          { tmps := vals.toArray ++ Array.replicate (fn.ntmps - vals.toArray.size) undef, defers := [] } w := fun w st vals hst hr => by
        have hvl := hr.length
        let w0 : Start := { toWorld := w, keep := st }
        have hsim : Sim w.heap.size w0 fn.ntmps { slots := args ++ List.replicate (fn.ntmps - args.length) .undef, boxes := List.replicate fn.ntmps none, vers := List.replicate fn.ntmps 0 }
            { tmps := vals.toArray ++ Array.replicate (fn.ntmps - vals.toArray.size) undef, defers := [] } w := by
          have hnb : ∀ d, ({ slots := args ++ List.replicate (fn.ntmps - args.length) .undef, boxes := List.replicate fn.ntmps none, vers := List.replicate fn.ntmps 0 } : St).box d = none := fun d => by
            simp only [St.box, List.getD_eq_getElem?_getD, List.getElem?_replicate]
            split <;> rfl
          refine ⟨gh0 st, ?_⟩
          exact
          { ns := by show (args ++ List.replicate (fn.ntmps - args.length) PV.undef).length = _; simp; omega
            nb := by simp
            nv := by simp
            slots := by
              have e1 : (vals.toArray ++ Array.replicate (fn.ntmps - vals.toArray.size) undef).toList = vals ++ List.replicate (fn.ntmps - args.length) undef := by simp [hvl]
              show Reps _ _ (vals.toArray ++ Array.replicate (fn.ntmps - vals.toArray.size) undef).toList
              rw [e1]
              refine Reps.append (Reps.mono (plainCtx_le (C := ctx _ w (gh0 st)) rfl fun _ _ h => h) _ _ hr) ?_
              refine Reps.of_get (by simp) fun i u hu => ?_
              simp only [nth, List.getD_eq_getElem?_getD, List.getElem?_replicate]
              split <;> trivial
            defers := rfl
            base_le := Nat.le_refl _
            below := Below.refl _ _
            nobox := fun _ _ => rfl
            cells := fun d cs fz hq => by rw [hnb] at hq; cases hq
            rows := fun d ls xs fz hq => by rw [hnb] at hq; cases hq
            inj := fun d d' B hq => by cases hq
            own := fun _ => .inl rfl
            apart := fun d d' B _ hq => by simp [gh0, ownBlock] at hq
            stlt := hst
            news := fun B o hq => .inl hq }
        refine code_sound O hcall (E.loops f) c (O.code _ _ _ hfn hc) _ _ _ _ _ hb hsim fun e s' hk a' w' h' => ?_
        have hgb : (e = .normal ∨ e = .ret) ∧ giveBack E f fn s' = some r := by
          cases e with
          | normal => exact ⟨.inl rfl, hk⟩
          | ret => exact ⟨.inr rfl, hk⟩
          | exit id => cases hk
        obtain ⟨he, hgb⟩ := hgb
        refine ⟨by rcases he with rfl | rfl <;> simp [toExit], ?_⟩
        exact giveBack_sound (w0 := w0) O.env.ty h' rfl hst hgb
      refine ⟨fun fn' hfn' => ?_, fun w st vals hst hr => ?_⟩
      · rw [hfn] at hfn'
        cases hfn'
        obtain ⟨e, s', hk⟩ := codeK_final _ _ _ _ hb
        have hgb : giveBack E f fn s' = some r := by
          cases e with
          | normal => exact hk
          | ret => exact hk
          | exit id => cases hk
        exact giveBack_conf hgb
      · refine calls_of_wp hF1 hc (wp_mono (key w st vals hst hr) ?_)
        rintro e a' w' ⟨he, _, hd, v, hv, hA⟩
        rcases he with rfl | rfl
        · exact ⟨hd, v, hv, v, rfl, hA⟩
        · exact ⟨hd, v, hv, v, rfl, hA⟩

end
end Go.Pev

namespace Go.Pev
/-- WHAT THE EVALUATOR TELLS OF A FUNCTION, THE MACHINE DOES. -/
theorem ev_sound {P : Program} {E : Env} (O : ProgOk P E) (hext : ∀ f g, E.ext f = some g → ∀ args r, g args = some r → Contract P E f args r) : ∀ (k f : Nat) (args : List PV) (r : PV), ev E k f args = some r → Contract P E f args r
  | 0, f, args, r, h => by cases h
  | k + 1, f, args, r, h => by
    unfold ev at h
    split at h
    · rename_i g hg
      exact hext f g hg args r h
    · split at h
      · cases h
      · rename_i fn hfn
        exact body_sound O (ev_sound O hext k) hfn h
end Go.Pev
