/- EACH OPERATION OF THE MACHINE DOES WHAT THE EVALUATOR TELLS: closures, rows that are made, parts of rows. -/
import Derived.Test.YtfjnpgbjcgjecaaPevOps5
namespace Go.Pev
open Go.RowKit
set_option linter.unusedVariables false
set_option linter.unusedSimpArgs false

section
variable {P : Program} {E : Env} {call : Nat → List PV → Option PV} {base n : Nat} {w0 : Start} {g : Gh} {s : St} {a : Act} {w : World} {o : Oper} {e : Eff}

theorem upd_froze (s : St) (dst : Option Nat) (ds : List Nat) (p : PV) : upd s dst (.froze ds p) = { s with slots := putD s.slots dst p, boxes := edit s.boxes (ds.map fun d => (d, freezeBox)) } := rfl

/-- Boxes that are written no more, and a value. -/
theorem good_froze (h : SimG base w0 n g s a w) {ds : List Nat} {p : PV} {v : Value} (hr : (execOp a.eval o).run P w = .ok (.value v) w)
    (hp : ∀ g' s', (ctx s w g).Le (ctx s' w g') → g'.bx = g.bx → (∀ d, d ∈ ds → ∀ B, g.bx d = some B → ∀ us T fr, w.heap[B]? = some (.cells us T fr) → ∀ o, o < us.size → g'.st B o) → Rep (ctx s' w g') p v) :
    Good P o a w (Sim base w0 n (upd s o.dst (.froze ds p))) := by
  obtain ⟨g', h1, h2, h3, h4⟩ := SimG.freeze ds h
  refine good_value hr ⟨g', ?_⟩
  rw [upd_froze]
  exact h1.val (hp g' _ h2 h3 h4) o.dst

theorem act_makeFunc (h : SimG base w0 n g s a w) {f : Nat} {first caps : Array Operand} (ho : o.op = .makeFunc (.func f) first caps) (ha : actMakeFunc E call s f first caps some = some e) :
    Good P o a w (Sim base w0 n (upd s o.dst e)) := by
  unfold actMakeFunc at ha
  split at ha
  · rename_i hq
    obtain ⟨hq1, hq2⟩ := hq
    cases ha
    have hfe : first = #[] := by simpa using hq1
    subst hfe
    refine good_froze h (v := .func (.func f) #[] (caps.map a.eval)) (by simp [execOp, ho, Instr.makeFunc]) fun g' s' hle hbx hst => ?_
    refine ⟨caps.map a.eval, rfl, ?_⟩
    have hr := map_eval_rep h caps.toList
    have e1 : (caps.map a.eval).toList = caps.toList.map a.eval := by simp
    rw [e1]
    generalize caps.toList.map (operand s) = ps at hr hst hq2
    generalize caps.toList.map a.eval = us at hr
    clear e1
    have key : ∀ (ps : List PV) (us : List Value), Reps (ctx s w g) ps us → (∀ d, d ∈ ps.filterMap capBox → ∀ B, g.bx d = some B → ∀ us T fr, w.heap[B]? = some (.cells us T fr) → ∀ o, o < us.size → g'.st B o) →
        plains (ps.map (capPV s)) = true → Reps (ctx s' w g') (ps.map (capPV s)) us := by
      intro ps
      induction ps with
      | nil => intro us hr _ _; exact hr
      | cons p ps ih =>
        intro us hr hst hpl
        rw [Reps] at hr
        obtain ⟨u, ws, rfl, h1, h2⟩ := hr
        simp only [List.map_cons, plains, Bool.and_eq_true] at hpl
        refine ⟨u, ws, rfl, ?_, ih ws h2 (fun d hd => hst d (by
          simp only [List.filterMap_cons]
          split
          · exact hd
          · exact List.mem_cons_of_mem _ hd)) hpl.2⟩
        cases p with
        | ptr d off =>
          obtain ⟨B, hB, hv⟩ := h1
          have hB : g.bx d = some B := hB
          simp only [capPV] at hpl ⊢
          cases hb : s.box d with
          | none => rw [hb] at hpl; simp [plain] at hpl
          | some b =>
            cases b with
            | row ls xs fz => rw [hb] at hpl; simp [plain] at hpl
            | cells cs fz =>
              obtain ⟨B', us, T, h3, h4, h5, h6, _⟩ := h.cells d cs fz hb
              have hBB : B' = B := by rw [h3] at hB; cases hB; rfl
              subst hBB
              refine ⟨B', 0, us.toList, by rw [hv, Nat.zero_add], Reps.strips _ _ (Reps.mono hle _ _ h6), reads_block (C := ctx s' w g') h4 rfl fun o ho => ?_⟩
              exact hst d (by simp [List.filterMap_cons, capBox]) B' hB us T _ h4 o ho
        | _ => exact Rep.mono hle _ _ h1
    exact key ps us hr hst hq2
  · cases ha

theorem row_ok {ls : List LK} {xs : List (List PV)} (hok : okEff s o.dst (.row ls xs) = true) (h : SimG base w0 n g s a w) : ∃ d, o.dst = some d ∧ d < n ∧ s.box d = none := by
  unfold okEff at hok
  cases hd : o.dst with
  | none => rw [hd] at hok; cases hok
  | some d =>
    rw [hd] at hok
    simp only [Bool.and_eq_true, Option.isNone_iff_eq_none] at hok
    exact ⟨d, rfl, by rw [← h.ns]; exact blt_lt hok.2, hok.1⟩

theorem wrap_small {m : Int} (h0 : 0 ≤ m) (h1 : m ≤ 9223372036854775807) : IntKind.i64.wrap m = m := by
  unfold IntKind.wrap
  simp only [IntKind.bits, IntKind.signed]
  have : m % (2 ^ 64 : Int) = m := Int.emod_eq_of_lt h0 (by omega)
  simp only [this]
  rw [if_neg]
  simp
  omega

theorem act_makeSlice (T : ∀ t ti, E.ty t = some ti → TyOk P t ti) (h : SimG base w0 n g s a w) {t : Nat} {l c : Operand} (ho : o.op = .makeSlice t l c) (ha : actMakeSlice E call s t l c some = some e) (hok : okEff s o.dst e = true) :
    Good P o a w (Sim base w0 n (upd s o.dst e)) := by
  have hl := operand_rep h l
  have hc := operand_rep h c
  unfold actMakeSlice at ha
  split at ha
  · cases ha
  · rename_i ti hti
    have hu := (T _ _ hti).run_und w
    split at ha
    · cases ha
    · rename_i el hel
      unfold elemOf at hel
      split at hel
      · rename_i el' hd
        cases hel
        rw [hd] at hu
        split at ha
        · cases ha
        · rename_i te hte
          have hTe := T _ _ hte
          obtain ⟨i0, z, hi1, hi2, hi3, hi4, hz⟩ := hTe.info
          have hzl := (hz (ctx s w g)).length
          simp at hzl
          rw [hTe.zl] at hzl
          split at ha
          · rename_i k i k' j hvl hvc
            rw [hvl] at hl
            rw [hvc] at hc
            have hl : a.eval l = .int k i := hl
            have hc : a.eval c = .int k' j := hc
            split at ha
            · rename_i hk
              obtain ⟨rfl, rfl, hb0⟩ := hk
              obtain ⟨q1, ha1⟩ := guardK_some ha
              obtain ⟨q2, ha2⟩ := guardK_some ha1
              obtain ⟨q3, ha3⟩ := guardK_some ha2
              obtain ⟨q4, ha4⟩ := guardK_some ha3
              clear ha ha1 ha2 ha3
              have q1 := of_decide_eq_true q1
              have q2 := of_decide_eq_true q2
              have q3 := of_decide_eq_true q3
              subst q1
              cases ha4
              obtain ⟨d, hdst, hdn, hfree⟩ := row_ok hok h
              have him : i ≤ 9223372036854775807 := by
                have : i * 1 ≤ i * (te.bytes : Int) := Int.mul_le_mul_of_nonneg_left (by omega) q2
                omega
              have hw := wrap_small q2 him
              have hbz : ¬ ((te.bytes : Int) * i > 2 ^ 48) := by rw [Int.mul_comm]; omega
              generalize hzero : (if i.toNat * te.size = 0 then #[] else z.cells) = zero
              have hrun : (Instr.makeSlice t (.int .i64 i) (.int .i64 i)).run P w = .ok (.slice (some ⟨w.heap.size, 0, none⟩) i.toNat i.toNat) (w.alloc (.cells ((Array.range (i.toNat * te.size)).map (zero[· % zero.size]!)) el)) := by
                unfold Instr.makeSlice
                simp only [Sem.run_bind, hu, Result.andThen_ok, asInt, asIntOf, Sem.run_pure, typeInfo, run_program, hi1, hi3, hw, Sem.run_ite]
                rw [if_neg (by
                  simp only [Bool.or_eq_true, decide_eq_true_eq, not_or]
                  exact ⟨⟨⟨by omega, hbz⟩, by omega⟩, by omega⟩)]
                simp only [run_askRoom, Result.andThen_ok, hTe.run_sizeOf w]
                by_cases hz0 : i.toNat * te.size = 0
                · rw [if_pos hz0] at hzero ⊢
                  subst hzero
                  rfl
                · rw [if_neg hz0] at hzero ⊢
                  subst hzero
                  simp only [zeroValue, typeInfo, Sem.run_bind, run_program, Result.andThen_ok, hi1, Sem.run_pure, hi4]
                  rfl
              refine good_value (v := .slice (some ⟨w.heap.size, 0, none⟩) i.toNat i.toNat) (w' := w.alloc (.cells ((Array.range (i.toNat * te.size)).map (zero[· % zero.size]!)) el)) (by simp only [execOp, ho, hl, hc, Sem.run_bind, hrun]; rfl) ?_
              rw [hdst]
              have hzr := zeros_rep (hz (ctx s w g)) i.toNat zero (fun hne => by rw [hzl] at hne; rw [← hzero, if_neg hne])
              rw [hzl] at hzr
              have hlen : ((Array.range (i.toNat * te.size)).map (zero[· % zero.size]!)).toList.length = i.toNat * te.size := by simp
              have hch := chunk_rep hzr te.size i.toNat
              have hchz : chunks te.size (List.replicate i.toNat te.zero).flatten i.toNat = List.replicate i.toNat te.zero := by
                have : ∀ (m k : Nat) (rest : List PV), chunks te.size ((List.replicate m te.zero).flatten ++ rest) m = List.replicate m te.zero := by
                  intro m
                  induction m with
                  | zero => intro k rest; rfl
                  | succ m ih =>
                    intro k rest
                    unfold chunks
                    rw [List.range_succ_eq_map, List.map_cons, List.map_map, List.replicate_succ, List.flatten_cons]
                    congr 1
                    · rw [Nat.zero_mul, List.drop_zero, List.append_assoc, ← hTe.zl, List.take_left]
                    · have := ih k rest
                      unfold chunks at this
                      refine Eq.trans (List.map_congr_left fun j hj => ?_) this
                      show ((te.zero ++ (List.replicate m te.zero).flatten ++ rest).drop ((j + 1) * te.size)).take te.size = _
                      rw [Nat.succ_mul, Nat.add_comm, ← hTe.zl, List.append_assoc, List.drop_length_add_append, hTe.zl]
                simpa using this i.toNat 0 []
              rw [hchz] at hch
              exact ⟨_, h.newBox hdn hfree (b := .row te.lk (List.replicate i.toNat te.zero) false) (p := .row d) (.inr (by simp [rowLen]))
                (.inr ⟨te.lk, _, _, rfl, rfl, by simp, (chunk_flatten _ te.size i.toNat hlen).symm, hch, by rw [hTe.lk]; exact chunk_len hlen, fun y hy => by rw [List.eq_of_mem_replicate hy]; exact q4⟩) (some d)⟩
            · cases ha
          · cases ha
      · cases hel

theorem act_slice (T : ∀ t ti, E.ty t = some ti → TyOk P t ti) (h : SimG base w0 n g s a w) {t : Nat} {x : Operand} {lo hi : Option Operand} (ho : o.op = .slice t x lo hi none) (ha : actSlice E call s t x lo hi some = some e) :
    Good P o a w (Sim base w0 n (upd s o.dst e)) := by
  have hx := operand_rep h x
  unfold actSlice at ha
  split at ha
  · cases ha
  · rename_i ti hti
    have hu := (T _ _ hti).run_und w
    split at ha
    · rename_i el tag ls xs hd hv
      rw [hv] at hx
      obtain ⟨A, cap, rows, hx, hcap, hrr, hrl, hmem, hcf, _⟩ := hx
      rw [hd] at hu
      split at ha
      · cases ha
      · rename_i te hte
        have hTe := T _ _ hte
        split at ha
        · rename_i hsz
          have hlr := hrr.length
          have hhigh : ∃ hh : Nat, hh ≤ rows.length ∧ (∀ (lv : Option Value) (l : Nat), (match lv with | some v => Instr.sliceBound v hh .sliceB | none => pure 0).run P w = .ok l w →
              (Instr.sliceBounds true rows.length cap lv (hi.map a.eval) none).run P w = .ok (l, hh, cap) w) ∧
              (lowK s lo hh fun l => some (Eff.val (.sl none ls ((xs.take hh).drop l)))) = some e := by
            unfold highK at ha
            split at ha
            · refine ⟨rows.length, Nat.le_refl _, fun lv l hl => ?_, by rw [hlr]; exact ha⟩
              cases lv with
              | none => simp [Instr.sliceBounds] at hl ⊢; exact hl
              | some v => simp [Instr.sliceBounds] at hl ⊢; rw [hl]; rfl
            · rename_i ho'
              split at ha
              · rename_i k m hm
                obtain ⟨h1, ha⟩ := guardK_some ha
                obtain ⟨h2, ha⟩ := guardK_some ha
                have h1 := of_decide_eq_true h1
                have h2 := of_decide_eq_true h2
                have hev := operand_rep h ho'
                rw [hm] at hev
                have hev : a.eval ho' = .int k m := hev
                refine ⟨m.toNat, by omega, fun lv l hl => ?_, ha⟩
                have hmc : m ≤ (cap : Int) := by omega
                have hsb : (Instr.sliceBound (.int k m) cap .sliceAcap).run P w = .ok m.toNat w := by simp [Instr.sliceBound, asIntOf, h1, hmc]
                cases lv with
                | none =>
                  have hl : (pure 0 : Sem Nat).run P w = .ok l w := hl
                  cases hl
                  simp only [Instr.sliceBounds, Option.map_some, hev, Sem.run_bind, Sem.run_pure, Result.andThen_ok, if_true, hsb]
                | some v =>
                  have hl : (Instr.sliceBound v m.toNat .sliceB).run P w = .ok l w := hl
                  simp only [Instr.sliceBounds, Option.map_some, hev, Sem.run_bind, Sem.run_pure, Result.andThen_ok, if_true, hsb, Option.isSome_none, Bool.false_eq_true, if_false, hl]
              · cases ha
          obtain ⟨hh, hhl, hrun, ha⟩ := hhigh
          have hlow : ∃ l : Nat, l ≤ hh ∧ (match lo.map a.eval with | some v => Instr.sliceBound v hh .sliceB | none => pure 0).run P w = .ok l w ∧ e = .val (.sl none ls ((xs.take hh).drop l)) := by
            unfold lowK at ha
            split at ha
            · cases ha; exact ⟨0, Nat.zero_le _, rfl, rfl⟩
            · rename_i lo' _
              split at ha
              · rename_i k m hm
                obtain ⟨h1, ha⟩ := guardK_some ha
                obtain ⟨h2, ha⟩ := guardK_some ha
                have h1 := of_decide_eq_true h1
                have h2 := of_decide_eq_true h2
                cases ha
                have hev := operand_rep h lo'
                rw [hm] at hev
                have hev : a.eval lo' = .int k m := hev
                exact ⟨m.toNat, by omega, by simp [hev, Instr.sliceBound, asIntOf, h1, h2], rfl⟩
              · cases ha
          obtain ⟨l, hll, hlrun, rfl⟩ := hlow
          refine good_val h (v := .slice (if cap = l then A else A.map (·.add (l * te.size))) (hh - l) (cap - l)) ?_ ?_
          · have hb := hrun _ _ hlrun
            simp only [execOp, ho, Instr.sliceAt, Sem.run_bind, hu, Result.andThen_ok, hx, Instr.slice, Option.map_none, hb, hTe.run_sizeOf w, Sem.run_pure]
          · refine ⟨_, cap - l, (rows.take hh).drop l, by congr 1; simp; omega, by simp; omega, (hrr.take hh).drop l, fun r hr => hrl r (List.mem_of_mem_take (List.mem_of_mem_drop hr)), ?_, fun y hy => hcf y (List.mem_of_mem_take (List.mem_of_mem_drop hy)), fun d k e => by cases e⟩
            by_cases hne : (rows.take hh).drop l = []
            · exact .inl hne
            · right
              have hlt : l < hh := by
                apply Classical.byContradiction
                intro hq
                exact hne (List.drop_eq_nil_of_le (by simp; omega))
              rcases hmem with rfl | ⟨B, q, rfl, hrd⟩
              · simp at hne
              · refine ⟨B, q + l * te.size, by rw [if_neg (by omega)]; simp [addr_add], ?_⟩
                intro j u hj
                have hflat : rows.flatten[l * ls.length + j]? = some u := by
                  have hsplit : rows = rows.take l ++ ((rows.take hh).drop l ++ rows.drop hh) := by
                    have e1 : (rows.take hh).take l = rows.take l := by rw [List.take_take]; congr 1; omega
                    rw [← List.append_assoc, ← e1, List.take_append_drop, List.take_append_drop]
                  have hlen1 : (rows.take l).flatten.length = l * ls.length := by
                    have : ∀ (R : List (List Value)), (∀ r ∈ R, r.length = ls.length) → R.flatten.length = R.length * ls.length := by
                      intro R hR
                      induction R with
                      | nil => simp
                      | cons r R ih => rw [List.flatten_cons, List.length_append, hR r (List.mem_cons_self ..), ih fun q hq => hR q (List.mem_cons_of_mem _ hq), List.length_cons, Nat.succ_mul]; omega
                    rw [this _ (fun r hr => hrl r (List.mem_of_mem_take hr)), List.length_take]
                    congr 1; omega
                  have hjl : j < ((rows.take hh).drop l).flatten.length := (List.getElem?_eq_some_iff.1 hj).1
                  rw [hsplit, List.flatten_append, List.flatten_append, List.getElem?_append_right (by rw [hlen1]; omega), hlen1, Nat.add_sub_cancel_left, List.getElem?_append_left hjl]
                  exact hj
                have := hrd _ _ hflat
                rw [hsz, Nat.add_assoc]
                exact this
        · cases ha
    · rename_i m el d off hd hv
      rw [hv] at hx
      obtain ⟨B, hB, hx⟩ := hx
      have hB : g.bx d = some B := hB
      rw [hd] at hu
      split at ha
      · rename_i te cs fz hte hb
        have hTe := T _ _ hte
        split at ha
        · rename_i hq
          obtain ⟨rfl, hs1, hl1, hcm, hcf⟩ := hq
          cases ha
          obtain ⟨B', us, T', h3, h4, h5, h6, _⟩ := h.cells d cs fz hb
          have hBB : B' = B := by rw [h3] at hB; cases hB; rfl
          subst hBB
          have hlen := h6.length
          simp at hlen
          refine good_froze h (v := .slice (some ⟨B', 0, none⟩) m m) ?_ fun g' s' hle hbx hst => ?_
          · simp only [execOp, ho, Instr.sliceAt, Sem.run_bind, hu, Result.andThen_ok, hx, Instr.sureAddr, Sem.run_pure, Instr.sliceBounds, Option.map_none, hTe.run_sizeOf w]
            by_cases hm0 : m = 0
            · subst hm0; simp
            · simp [hm0, addr_add]
          · have hrs := Reps.strips _ _ (Reps.mono hle _ _ h6)
            have hslen : (strips cs).length = cs.length := by
              have : ∀ l : List PV, (strips l).length = l.length := by
                intro l; induction l with
                | nil => rfl
                | cons x l ih => simp [strips, ih]
              exact this cs
            refine ⟨some ⟨B', 0, none⟩, m, us.toList.map fun u => [u], by congr 1; simp; omega, by simp; omega, ?_, fun r hr => ?_, .inr ⟨B', 0, rfl, ?_⟩, fun y hy => ?_, fun d k e => by cases e⟩
            · refine RepRows.of_get (by simp [hslen, hlen]) fun i u hu' => ?_
              rw [List.getElem?_map] at hu'
              cases hi : us.toList[i]? with
              | none => rw [hi] at hu'; cases hu'
              | some z =>
                rw [hi] at hu'
                cases hu'
                have hr1 := hrs.get i z hi
                have hil : i < (strips cs).length := by
                  have := (List.getElem?_eq_some_iff.1 hi).1
                  rw [hslen, ← hlen]
                  simpa using this
                have : nths ((strips cs).map fun c => [c]) i = [nth (strips cs) i] := by
                  simp [nths, nth, List.getD_eq_getElem?_getD, hil]
                rw [this]
                exact ⟨z, [], rfl, hr1, rfl⟩
            · obtain ⟨u, _, rfl⟩ := List.mem_map.1 hr
              rw [hl1]; rfl
            · have : (us.toList.map fun u => [u]).flatten = us.toList := by
                generalize us.toList = L
                induction L with
                | nil => rfl
                | cons x L ih => simp [ih]
              rw [this]
              exact reads_block (C := ctx s' w g') h4 rfl fun o ho => hst d (List.mem_singleton.2 rfl) B' hB us T' _ h4 o ho
            · obtain ⟨c, hc, rfl⟩ := List.mem_map.1 hy
              have hcf' := List.all_eq_true.1 hcf
              have : ∀ l : List PV, ∀ c ∈ strips l, ∃ d ∈ l, c = strip d := by
                intro l; induction l with
                | nil => intro c hc; cases hc
                | cons x l ih =>
                  intro c hc
                  rcases List.mem_cons.1 hc with rfl | hc
                  · exact ⟨x, List.mem_cons_self .., rfl⟩
                  · obtain ⟨d, hd, hq⟩ := ih c hc
                    exact ⟨d, List.mem_cons_of_mem _ hd, hq⟩
              obtain ⟨d0, hd0, rfl⟩ := this cs c hc
              exact hcf' d0 hd0
        · cases ha
      · cases ha
    · cases ha

end
end Go.Pev
