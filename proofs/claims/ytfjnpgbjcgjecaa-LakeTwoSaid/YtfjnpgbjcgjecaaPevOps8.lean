/- EACH OPERATION OF THE MACHINE DOES WHAT THE EVALUATOR TELLS: calls. -/
import Derived.Test.YtfjnpgbjcgjecaaPevOps7
namespace Go.Pev
open Go.RowKit
set_option linter.unusedVariables false
set_option linter.unusedSimpArgs false

def plainCtx (w : World) (st : Nat → Nat → Prop) : Ctx := { w := w, st := st, bx := fun _ => none, tg := fun _ _ _ _ => False, rs := fun _ => 0, rl := fun _ => 0 }
def StOk (w : World) (st : Nat → Nat → Prop) : Prop := ∀ B o, st B o → ∃ us T fr, w.heap[B]? = some (.cells us T fr) ∧ o < us.size

def RConf (E : Env) (fn : Func) (r : PV) : Prop := match fn.resultTypes.toList with
  | [t] => confT E t r = true
  | ts => ∃ vs, r = .tup vs ∧ confTs E ts vs = true

def gh0 (st : Nat → Nat → Prop) : Gh := { st := st, bx := fun _ => none, own := fun _ => .slice none 0 0, osz := fun _ => 0 }

/-- What a call leaves. -/
def After (E : Env) (f : Nat) (r : PV) (w : World) (st : Nat → Nat → Prop) (v : Value) (w' : World) : Prop :=
  Below w.heap.size w w' ∧ ∃ st', (∀ B o, st B o → st' B o) ∧ (∀ B o, st' B o → st B o ∨ w.heap.size ≤ B) ∧ StOk w' st' ∧
    ((∃ u, r = u ∧ Rep (plainCtx w' st') u v)) ∧ (E.own f = true → ∃ ls xs, r = .sl none ls xs ∧ OwnOk (gh0 st') w.heap.size w' v ls.length)

/-- A function, called with what 'args' tell, hands back what r tells. -/
def Contract (P : Program) (E : Env) (f : Nat) (args : List PV) (r : PV) : Prop :=
  (∀ fn, E.fn f = some fn → RConf E fn r) ∧ ∀ w st vals, StOk w st → Reps (plainCtx w st) args vals → Calls P f vals.toArray w fun e w' => ∃ v, e = .returned v ∧ After E f r w st v w'

def FnOk (P : Program) (E : Env) : Prop := ∀ f fn, E.fn f = some fn → P.funcs[f]? = some fn ∧ (fn.name == "runtime.NumGoroutine") = false ∧ fn.body.isNone = false

section
variable {P : Program} {E : Env} {call : Nat → List PV → Option PV} {base n : Nat} {w0 : Start} {g : Gh} {s : St} {a : Act} {w : World} {o : Oper} {e : Eff}

theorem argsK_some {R : Type} (s : St) {κ : List PV → List Nat → Option R} {r : R} : ∀ (os : List Operand) (ds : List Nat) (acc : List PV), argsK s os ds acc κ = some r →
    ∃ ds', (∀ d ∈ ds, d ∈ ds') ∧ (∀ o ∈ os, ∀ d, operand s o = .row d → d ∈ ds') ∧ κ (acc.reverse ++ os.map fun o => handed s (operand s o)) ds' = some r
  | [], ds, acc, h => ⟨ds, fun _ h => h, by simp, by simpa [argsK] using h⟩
  | o :: os, ds, acc, h => by
    unfold argsK at h
    split at h
    · rename_i d hd
      split at h
      · rename_i ls xs fz hb
        obtain ⟨ds', h1, h2, h3⟩ := argsK_some s os (d :: ds) _ h
        refine ⟨ds', fun x hx => h1 x (List.mem_cons_of_mem _ hx), fun x hx e he => ?_, ?_⟩
        · rcases List.mem_cons.1 hx with rfl | hx
          · rw [hd] at he; cases he
            exact h1 _ (List.mem_cons_self ..)
          · exact h2 x hx e he
        · rw [← h3]
          simp [hd, handed, hb]
      · cases h
    · rename_i hnr
      obtain ⟨ds', h1, h2, h3⟩ := argsK_some s os ds _ h
      refine ⟨ds', h1, fun x hx e he => ?_, ?_⟩
      · rcases List.mem_cons.1 hx with rfl | hx
        · exact absurd he (hnr e)
        · exact h2 x hx e he
      · rw [← h3]
        have : handed s (operand s o) = strip (operand s o) := by
          cases hq : operand s o with
          | row d => exact absurd hq (hnr d)
          | _ => rfl
        simp [this]

theorem argsK_nil {R : Type} {s : St} {κ : List PV → List Nat → Option R} {r : R} {os : List Operand} (h : argsK s os [] [] κ = some r) :
    ∃ ds', (∀ o ∈ os, ∀ d, operand s o = .row d → d ∈ ds') ∧ κ (os.map fun o => handed s (operand s o)) ds' = some r := by
  obtain ⟨ds', _, h2, h3⟩ := argsK_some s os [] [] h
  exact ⟨ds', h2, by simpa using h3⟩

/-- What is handed on, behind the row's box being frozen. -/
theorem handed_rep (h : SimG base w0 n g s a w) {C' : Ctx} (hle : (ctx s w g).Le C') (hw : C'.w = w) {p : PV} {u : Value} (hp : Rep (ctx s w g) p u)
    (hst : ∀ d, p = .row d → ∀ B, g.bx d = some B → ∀ us T fr, w.heap[B]? = some (.cells us T fr) → ∀ o, o < us.size → C'.st B o) : Rep C' (handed s p) u := by
  cases p with
  | row d =>
    obtain ⟨B, hB, hv⟩ := hp
    have hB : g.bx d = some B := hB
    unfold handed
    simp only
    cases hb : s.box d with
    | none => rw [h.nobox d hb] at hB; cases hB
    | some b =>
      cases b with
      | cells cs fz => trivial
      | row ls xs fz =>
        simp only
        obtain ⟨B', us, T, rws, h1, h2, h3, h4, h5, h6, h7, _⟩ := h.rows d ls xs fz hb
        have hBB : B' = B := by rw [h1] at hB; cases hB; rfl
        subst hBB
        have hrl : (ctx s w g).rl d = rws.length := by
          show rowLen (s.box d) = _
          rw [hb, h5.length]; rfl
        rw [hrl] at hv
        refine ⟨_, _, rws, hv, Nat.le_refl _, RepRows.mono hle _ _ h5, h6, .inr ⟨B', 0, rfl, reads_block (C := C') (cells := us) (T := T) (fr := (0, 0)) (by rw [hw]; exact h2) h4.symm fun o ho => hst d rfl B' h1 us T _ h2 o ho⟩, h7, fun d k e => by cases e⟩
  | _ => exact Rep.mono hle _ _ (Rep.strip _ _ hp)

theorem confT_rep {C : Ctx} {t : Nat} {r v : PV} {u : Value} (hc : confT E t r = true) (he : etaT E t r = some v) (h : Rep C r u) : Rep C v u := by
  unfold confT at hc
  unfold etaT at he
  split at hc
  · rename_i ti hti
    rw [hti] at he
    dsimp only at he
    cases hq : ti.agg with
    | true =>
      simp only [hq, if_true] at hc he
      split at hc
      · rename_i cs
        cases he
        obtain ⟨us, rfl, hr⟩ := h
        exact ⟨us, rfl, Reps.etas hc hr⟩
      · cases hc
    | false =>
      simp only [hq, Bool.false_eq_true, if_false] at hc he
      split at hc
      · rename_i l hl
        rw [hl] at he
        cases he
        exact Rep.eta hc h
      · cases hc
  · cases hc

theorem confTs_rep {C : Ctx} : ∀ {ts : List Nat} {i : Nat} {rs vs : List PV} {us : List Value}, confTs E ts (rs.drop i) = true → etaTs E ts i rs = some vs → Reps C (rs.drop i) us → Reps C vs us
  | [], i, rs, vs, us, hc, he, h => by
    have he : some [] = some vs := he
    cases he
    cases hd : rs.drop i with
    | nil => rw [hd] at h; exact h
    | cons r rest => rw [hd] at hc; simp [confTs] at hc
  | t :: ts, i, rs, vs, us, hc, he, h => by
    cases hd : rs.drop i with
    | nil => rw [hd] at hc; simp [confTs] at hc
    | cons r rest =>
      have hi : rs[i]? = some r := by
        have := congrArg (·[0]?) hd
        simpa [List.getElem?_drop] using this
      have hrest : rs.drop (i + 1) = rest := by
        have := congrArg (List.drop 1) hd
        simpa [List.drop_drop] using this
      have hn : nth rs i = r := by simp [nth, List.getD_eq_getElem?_getD, hi]
      rw [hd] at hc h
      simp only [confTs, Bool.and_eq_true] at hc
      rw [Reps] at h
      obtain ⟨u, ws, rfl, h1, h2⟩ := h
      unfold etaTs at he
      split at he
      · rename_i x y hx hy
        cases he
        rw [hn] at hx
        refine ⟨u, ws, rfl, confT_rep hc.1 hx h1, confTs_rep (i := i + 1) (rs := rs) (by rw [hrest]; exact hc.2) hy (by rw [hrest]; exact h2)⟩
      · cases he

theorem etaR_rep {C : Ctx} {fn : Func} {r v : PV} {u : Value} (hc : RConf E fn r) (he : etaR E fn r = some v) (h : Rep C r u) : Rep C v u := by
  unfold RConf at hc
  unfold etaR at he
  split at hc
  · rename_i t ht
    rw [ht] at he
    exact confT_rep hc he h
  · rename_i ts hts
    obtain ⟨vs, rfl, hc⟩ := hc
    split at he
    · rename_i t ht
      exact absurd ht (hts t)
    · split at he
      · rename_i ws hw
        cases he
        obtain ⟨us, rfl, hr⟩ := h
        exact ⟨us, rfl, confTs_rep (i := 0) (rs := vs) (by simpa using hc) hw (by simpa using hr)⟩
      · cases he

theorem plainCtx_le {st : Nat → Nat → Prop} {C : Ctx} (hw : C.w = w) (hst : ∀ B o, st B o → C.st B o) : (plainCtx w st).Le C :=
  { st := hst, cell := fun _ _ _ => by rw [hw]; rfl, bx := fun _ _ h => (by cases h), tg := fun _ _ _ _ h => False.elim h, rs := fun _ _ h => (by cases h), rl := fun _ _ h => (by cases h) }

theorem etaR_sl {fn : Func} {ls : List LK} {xs : List (List PV)} {v : PV} (hc : RConf E fn (.sl none ls xs)) (he : etaR E fn (.sl none ls xs) = some v) : v = .sl none ls xs := by
  unfold RConf at hc
  unfold etaR at he
  split at hc
  · rename_i t ht
    rw [ht] at he
    dsimp only at he
    unfold confT at hc
    unfold etaT at he
    split at hc
    · rename_i ti hti
      rw [hti] at he
      dsimp only at he
      cases hq : ti.agg with
      | true => simp [hq] at hc
      | false =>
        simp only [hq, Bool.false_eq_true, if_false] at hc he
        split at hc
        · rename_i l hl
          rw [hl] at he
          cases he
          cases l with
          | sl ls' =>
            simp only [conf, Bool.and_eq_true] at hc
            rw [sameLK_eq _ _ hc.2]
            rfl
          | _ => simp [conf] at hc
        · cases hc
    · cases hc
  · obtain ⟨vs, hv, _⟩ := hc
    cases hv

theorem act_call (F : FnOk P E) (hcall : ∀ f args r, call f args = some r → Contract P E f args r) (h : SimG base w0 n g s a w) {c : Call} {f : Operand} (ho : o.op = .call c) (hc : c.callee = .value f)
    (ha : actCall E call s c some = some e) (hok : okEff s o.dst e = true) : Good P o a w (Sim base w0 n (upd s o.dst e)) := by
  unfold actCall at ha
  rw [hc] at ha
  dsimp only at ha
  split at ha
  · rename_i k caps hf
    obtain ⟨ds, hds, ha⟩ := argsK_nil ha
    by_cases hpl : plains (List.map (fun o => handed s (operand s o)) c.args.toList ++ caps) = true
    · rw [if_pos hpl] at ha
      unfold callK at ha
      split at ha
      · cases ha
      · rename_i fn hfn
        obtain ⟨r, hr, ha⟩ := Option.bind_eq_some_iff.1 ha
        obtain ⟨hrc, hcon⟩ := hcall _ _ _ hr
        have hrc := hrc fn hfn
        obtain ⟨hF1, hF2, hF3⟩ := F _ _ hfn
        have hfr := operand_rep h f
        rw [hf] at hfr
        obtain ⟨us, hfv, hus⟩ := hfr
        -- the rows that are handed on are frozen
        obtain ⟨g1, h1, l1, b1, c1⟩ := SimG.freeze ds h
        have hargs : ∀ (os : List Operand), (∀ o ∈ os, ∀ d, operand s o = .row d → d ∈ ds) → Reps (ctx { s with boxes := edit s.boxes (ds.map fun d => (d, freezeBox)) } w g1) (os.map fun o => handed s (operand s o)) (os.map a.eval) := by
          intro os
          induction os with
          | nil => intro _; rfl
          | cons x os ih =>
            intro hx
            exact ⟨_, _, rfl, handed_rep h l1 rfl (operand_rep h x) (fun d hd B hB us T fr hh o ho => c1 d (hx x (List.mem_cons_self ..) d hd) B hB us T fr hh o ho), ih fun y hy => hx y (List.mem_cons_of_mem _ hy)⟩
        have hall := (hargs c.args.toList hds).append (Reps.mono l1 _ _ hus)
        have hall' := Reps.mono0 (C := ctx _ w g1) (C' := plainCtx w g1.st) ⟨fun _ _ h => h, fun _ _ _ => rfl⟩ _ _ hpl hall
        have hC := hcon w g1.st _ h1.stlt hall'
        have hrun : (execOp a.eval o).run P w = .ok (.enter k (c.args.toList.map a.eval ++ us.toList).toArray) w := by
          simp only [execOp, ho, resolve, hc, Sem.run_bind, hfv, Deferred.ofValue, Sem.run_pure, Result.andThen_ok, invoke, callFunc, run_program, hF1, hF2, hF3]
          simp
        have key : ∀ v w', After E k r w g1.st v w' → Sim base w0 n (upd s o.dst e) (a.put o.dst v) w' := by
          rintro v w' ⟨hb, st', s1, s2, s3, ⟨u, rfl, hrep⟩, hown⟩
          obtain ⟨h2, l2⟩ := h1.world hb st' s1 s2 s3
          split at ha
          · cases ha
          · rename_i v' hv'
            have hv2 : Rep (plainCtx w' st') v' v := etaR_rep hrc hv' hrep
            split at ha
            · rename_i ho'
              split at ha
              · rename_i tag ls xs
                cases ha
                obtain ⟨ls', xs', hr', hownok⟩ := hown ho'
                subst hr'
                have hvv := etaR_sl hrc hv'
                cases hvv
                have hd : ∃ d, o.dst = some d ∧ d < n := by
                  unfold okEff at hok
                  cases hd : o.dst with
                  | none => rw [hd] at hok; cases hok
                  | some d => rw [hd] at hok; exact ⟨d, rfl, by rw [← h.ns]; exact blt_lt hok⟩
                obtain ⟨d, hd, hdn⟩ := hd
                have hown' : OwnOk { g1 with st := st' } base w' v ls.length := by
                  rcases hownok with hq | ⟨B, q, len, cap, us, T, q1, q2, q3, q4, q5, q6, q7⟩
                  · exact .inl hq
                  · exact .inr ⟨B, q, len, cap, us, T, q1, Nat.le_trans h.base_le (Nat.le_trans h.below.size q2), q3, q4, q5, q6, fun d' hd' => absurd (h1.bx_lt hd').1 (by omega)⟩
                have := h2.tag hdn (w' := w') (st' := st') (v := v) (ls := ls) (xs := xs) (Below.refl _ _) (fun _ _ _ => rfl) (fun _ _ _ => rfl) (fun _ _ h => h) (fun _ _ h => .inl h) s3 hown' (fun d' B hne hB hq => by
                  have hq : ownBlock (g1.own d') = some B := hq
                  have := (h1.own_lt hq).1
                  rcases hownok with hn | ⟨B', q, len, cap, us, T, q1, q2, _⟩
                  · rw [hn] at hB; simp [ownBlock] at hB
                  · rw [q1] at hB; simp [ownBlock] at hB; omega)
                  (Rep.mono (plainCtx_le (C := ctx _ w' _) rfl fun _ _ h => h) _ _ hv2) (some d)
                rw [hd]
                exact ⟨_, this⟩
              · cases ha
            · cases ha
              exact ⟨_, h2.val (Rep.mono (plainCtx_le (C := ctx _ w' _) rfl fun _ _ h => h) _ _ hv2) o.dst⟩
        intro K Q hK
        unfold Oper.wp
        rw [hrun, Oper.upon_enter]
        refine hC.mono ?_
        rintro e' w' ⟨v, rfl, hA⟩
        exact hK _ _ (key v w' hA)
    · rw [if_neg hpl] at ha
      cases ha
  · cases ha

end
end Go.Pev
