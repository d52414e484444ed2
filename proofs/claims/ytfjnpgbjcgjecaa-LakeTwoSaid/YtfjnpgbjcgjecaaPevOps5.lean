/- EACH OPERATION OF THE MACHINE DOES WHAT THE EVALUATOR TELLS: structs and rows that are made, closures, parts of rows. -/
import Derived.Test.YtfjnpgbjcgjecaaPevOps4
namespace Go.Pev
open Go.RowKit
set_option linter.unusedVariables false
set_option linter.unusedSimpArgs false

section
variable {P : Program} {E : Env} {call : Nat → List PV → Option PV} {base n : Nat} {w0 : Start} {g : Gh} {s : St} {a : Act} {w : World} {o : Oper} {e : Eff}

theorem run_mapM_list {α β : Type} {f : α → Sem β} {q : α → β} {w : World} : ∀ (l : List α), (∀ x ∈ l, (f x).run P w = .ok (q x) w) → (l.mapM f).run P w = .ok (l.map q) w
  | [], _ => rfl
  | x :: l, h => by
    rw [List.mapM_cons]
    simp only [Sem.run_bind, h x (List.mem_cons_self ..), Result.andThen_ok, run_mapM_list l fun y hy => h y (List.mem_cons_of_mem _ hy), Sem.run_pure, List.map_cons]

theorem run_mapM {α β : Type} {f : α → Sem β} {q : α → β} {w : World} (l : Array α) (h : ∀ x ∈ l.toList, (f x).run P w = .ok (q x) w) : (l.mapM f).run P w = .ok (l.map q) w := by
  rw [Array.mapM_eq_mapM_toList]
  simp only [Sem.run_map, run_mapM_list l.toList h, Result.andThen_ok]
  congr 1
  apply Array.ext'
  simp

theorem parts_rep (h : SimG base w0 n g s a w) (ps : List (Nat × Operand)) : ∀ (j : Nat) (p : Nat × PV) (v : Nat × Value), (ps.map fun p => (p.1, operand s p.2))[j]? = some p → (ps.map fun p => (p.1, a.eval p.2))[j]? = some v →
    p.1 = v.1 ∧ Rep (ctx s w g) p.2 v.2 := by
  intro j p v hp hv
  rw [List.getElem?_map] at hp hv
  cases hq : ps[j]? with
  | none => rw [hq] at hp; cases hp
  | some q =>
    rw [hq] at hp hv
    cases hp; cases hv
    exact ⟨rfl, operand_rep h q.2⟩

theorem act_build (T : ∀ t ti, E.ty t = some ti → TyOk P t ti) (h : SimG base w0 n g s a w) {t : Nat} {parts : Array (Nat × Operand)} (ho : o.op = .build t parts) (ha : actBuild E call s t parts some = some e) :
    Good P o a w (Sim base w0 n (upd s o.dst e)) := by
  unfold actBuild at ha
  have hpm : (parts.map fun (i, x) => (i, a.eval x)).toList = parts.toList.map fun p => (p.1, a.eval p.2) := by simp
  split at ha
  · cases ha
  · rename_i ti hti
    have ht := T t ti hti
    have hu := ht.run_und w
    obtain ⟨i0, z, hi1, hi2, hi3, hi4, hz⟩ := ht.info
    split at ha
    · rename_i fs hfs
      split at ha
      · cases ha
      · rename_i hall
        have hall : ∀ f ∈ fs.toList, (E.ty f.type).isSome = true := List.all_eq_true.1 (eq_true_of_ne_false hall)
        split at ha
        · rename_i cs hcs
          cases ha
          rw [hfs] at hu
          let pl : Array (Nat × Nat) := fs.map fun f => (f.offset, ((E.ty f.type).map (·.size)).getD 0)
          have hmap : (fs.mapM fun f => (do pure (f.offset, ← sizeOf f.type) : Sem (Nat × Nat))).run P w = .ok pl w := by
            refine run_mapM fs fun f hf => ?_
            have := hall f hf
            cases hq : E.ty f.type with
            | none => rw [hq] at this; cases this
            | some tf => simp [(T _ _ hq).run_sizeOf w]
          obtain ⟨us', h1, h2⟩ := fill_rep (C := ctx s w g) (place' := (pl[·]?)) (fun i q hq => by
            obtain ⟨f, hf, hq⟩ := Option.bind_eq_some_iff.1 hq
            obtain ⟨tf, htf, hq⟩ := Option.map_eq_some_iff.1 hq
            simp only [pl, Array.getElem?_map, hf, Option.map_some, htf, Option.getD_some]
            rw [hq]) _ (parts.toList.map fun p => (p.1, a.eval p.2)) _ z.cells cs (by simp) (parts_rep h parts.toList) (hz _) hcs
          refine good_val h (v := .agg us') ?_ ⟨us', rfl, h2⟩
          simp only [execOp, ho, Instr.build, Sem.run_bind, zeroValue, typeInfo, run_program, Result.andThen_ok, hi1, Sem.run_pure, hi4, hu, hmap, hpm, h1]
        · cases ha
    · rename_i m el hd
      split at ha
      · cases ha
      · rename_i te hte
        have hTe := T _ _ hte
        split at ha
        · rename_i cs hcs
          cases ha
          rw [hd] at hu
          obtain ⟨us', h1, h2⟩ := fill_rep (C := ctx s w g) (place' := fun i => some (i * te.size, te.size)) (fun i q hq => hq) _ (parts.toList.map fun p => (p.1, a.eval p.2)) _ z.cells cs (by simp) (parts_rep h parts.toList) (hz _) hcs
          refine good_val h (v := .agg us') ?_ ⟨us', rfl, h2⟩
          simp only [execOp, ho, Instr.build, Sem.run_bind, zeroValue, typeInfo, run_program, Result.andThen_ok, hi1, Sem.run_pure, hi4, hu, hTe.run_sizeOf w, hpm, h1]
        · cases ha
    · cases ha

/-! ### rows of equal elements -/
theorem nth_flatten_replicate (z : List PV) : ∀ (m j : Nat), j < m * z.length → nth (List.replicate m z).flatten j = nth z (j % z.length)
  | 0, j, h => by simp at h
  | m + 1, j, h => by
    rw [List.replicate_succ, List.flatten_cons]
    by_cases hj : j < z.length
    · rw [Nat.mod_eq_of_lt hj]
      simp [nth, List.getD_eq_getElem?_getD, List.getElem?_append_left hj]
    · have h' : j - z.length < m * z.length := by rw [Nat.succ_mul] at h; omega
      have := nth_flatten_replicate z m (j - z.length) h'
      rw [Nat.mod_eq_sub_mod (by omega), ← this]
      simp [nth, List.getD_eq_getElem?_getD, List.getElem?_append_right (Nat.le_of_not_lt hj)]

theorem flatten_replicate_length (z : List PV) (m : Nat) : (List.replicate m z).flatten.length = m * z.length := by
  induction m with
  | zero => simp
  | succ m ih => rw [List.replicate_succ, List.flatten_cons, List.length_append, ih, Nat.succ_mul, Nat.add_comm]

theorem zeros_rep {C : Ctx} {z : List PV} {us : Array Value} (hz : Reps C z us.toList) (m : Nat) (zero : Array Value) (h0 : m * us.size ≠ 0 → zero = us) :
    Reps C (List.replicate m z).flatten ((Array.range (m * us.size)).map (zero[· % zero.size]!)).toList := by
  have hl := hz.length
  simp at hl
  refine Reps.of_get (by simp [flatten_replicate_length, hl]) fun j u hu => ?_
  have hj : j < m * us.size := by
    have := (List.getElem?_eq_some_iff.1 hu).1
    simpa using this
  have hne : m * us.size ≠ 0 := by omega
  have := h0 hne
  subst this
  have hzp : 0 < zero.size := Nat.pos_of_ne_zero fun q => hne (by rw [q, Nat.mul_zero])
  rw [nth_flatten_replicate z m j (by rw [← hl]; exact hj), ← hl]
  have hm := Nat.mod_lt j hzp
  have : u = zero[j % zero.size] := by
    simp [hj] at hu
    rw [← hu, getElem!_pos zero _ hm]
  subst this
  exact hz.get _ _ (by simp [hm])

theorem chunk_rep {C : Ctx} {cs : List PV} {us : List Value} (hr : Reps C cs us) (size len : Nat) : RepRows C (chunks size cs len) ((List.range len).map fun i => (us.drop (i * size)).take size) := by
  refine RepRows.of_get (by simp [chunks]) fun i u hu => ?_
  rw [List.getElem?_map] at hu
  cases hi : (List.range len)[i]? with
  | none => rw [hi] at hu; cases hu
  | some q =>
    rw [hi] at hu
    cases hu
    have hq : q = i := by
      have := List.getElem?_eq_some_iff.1 hi
      obtain ⟨h1, h2⟩ := this
      simpa using h2.symm
    subst hq
    have : nths (chunks size cs len) q = (cs.drop (q * size)).take size := by
      simp [nths, chunks, List.getD_eq_getElem?_getD, hi]
    rw [this]
    exact (hr.drop _).take _

theorem chunk_flatten {α : Type} (us : List α) (size : Nat) : ∀ (len : Nat), us.length = len * size → ((List.range len).map fun i => (us.drop (i * size)).take size).flatten = us
  | 0, h => by
    have : us = [] := List.eq_nil_of_length_eq_zero (by simpa using h)
    subst this; rfl
  | len + 1, h => by
    rw [List.range_succ_eq_map, List.map_cons, List.flatten_cons, List.map_map]
    have h' : (us.drop size).length = len * size := by rw [List.length_drop, h, Nat.succ_mul]; omega
    have ih := chunk_flatten (us.drop size) size len h'
    have e : ((fun i => (us.drop (i * size)).take size) ∘ Nat.succ) = fun i => ((us.drop size).drop (i * size)).take size := by
      funext i
      simp [List.drop_drop, Nat.succ_mul, Nat.add_comm]
    rw [e, ih]
    simp

theorem chunk_len {α : Type} {us : List α} {size len : Nat} (h : us.length = len * size) : ∀ r ∈ (List.range len).map fun i => (us.drop (i * size)).take size, r.length = size := by
  intro r hr
  obtain ⟨i, hi, rfl⟩ := List.mem_map.1 hr
  have hi : i < len := List.mem_range.1 hi
  have : i * size + size ≤ len * size := by rw [← Nat.succ_mul]; exact Nat.mul_le_mul_right _ hi
  simp only [List.length_take, List.length_drop]
  omega

theorem fillParts_length {place : Nat → Option (Nat × Nat)} : ∀ (ps : List (Nat × PV)) (cs cs' : List PV), fillParts place cs ps = some cs' → cs'.length = cs.length
  | [], cs, cs', h => by cases h; rfl
  | (i, p) :: ps, cs, cs', h => by
    unfold fillParts at h
    split at h
    · cases h
    · cases h
    · split at h
      · rw [fillParts_length ps _ _ h, over_length]
      · cases h

theorem reads_block {C : Ctx} {B : Nat} {us : List Value} {cells : Array Value} {T : TypeId} {fr : Nat × Nat} (hh : C.w.heap[B]? = some (.cells cells T fr)) (hu : us = cells.toList) (hst : ∀ o, o < cells.size → C.st B o) : C.reads B 0 us := by
  intro j u hj
  subst hu
  have hlt : j < cells.size := by
    have := (List.getElem?_eq_some_iff.1 hj).1
    simpa using this
  rw [Nat.zero_add]
  refine ⟨?_, hst j hlt⟩
  simp only [World.cell?, hh]
  simpa using hj

/-- A row of the call's own in a new block. -/
theorem SimG.mkNew (h : SimG base w0 n g s a w) {d : Nat} (hd : d < n) {ls : List LK} {xs : List (List PV)} {rws : List (List Value)} {us : Array Value} {T : TypeId} (hr : RepRows (ctx s w g) xs rws) (hl : ∀ r ∈ rws, r.length = ls.length)
    (hc : ∀ x ∈ xs, confs ls x = true) (hu : us.toList = rws.flatten) (hus : us.size = rws.length * ls.length) :
    Sim base w0 n (upd s (some d) (.mk ls xs)) (a.put (some d) (.slice (some ⟨w.heap.size, 0, none⟩) rws.length rws.length)) (w.alloc (.cells us T)) := by
  let w' := w.alloc (.cells us T)
  let st' : Nat → Nat → Prop := fun B o => g.st B o ∨ (B = w.heap.size ∧ o < us.size)
  have hold : ∀ k, k < w.heap.size → w'.heap[k]? = w.heap[k]? := fun k hk => Below.heap_alloc w _ k hk
  have hnewb : w'.heap[w.heap.size]? = some (.cells us T (0, 0)) := heap_alloc_new w _
  have hstlt : ∀ B o, g.st B o → B < w.heap.size := fun B o ho => by
    obtain ⟨us, T, fr, e, _⟩ := h.stlt B o ho
    exact block_lt e
  have hle : (ctx s w g).Le (ctx s w' { g with st := st' }) := ⟨fun _ _ h => .inl h, fun B o ho => World.cell?_of_block (w := w) (hold B (hstlt B o ho)), fun _ _ h => h, fun _ _ _ _ h => h, fun _ _ _ => rfl, fun _ _ _ => rfl⟩
  refine ⟨_, h.tag hd (w' := w') (st' := st') (ls := ls) (xs := xs) ((Below.refl base w).alloc (Nat.le_trans h.base_le h.below.size) _) (fun k hk _ => hold k hk) (fun B o ho => World.cell?_of_block (w := w) (hold B (hstlt B o ho)))
    (fun _ _ h => .inl h) (fun B o ho => ?_) (fun B o ho => ?_) (.inr ⟨w.heap.size, 0, rws.length, rws.length, us, T, rfl, Nat.le_trans h.base_le h.below.size, hnewb, by rw [Nat.zero_add, hus]; exact Nat.le_refl _, Nat.le_refl _, fun j hj hq => ?_, fun d' hq => ?_⟩)
    (fun d' B hne hB hq => ?_) ?_ (some d)⟩
  · rcases ho with ho | ⟨ho, _⟩
    · exact .inl ho
    · exact .inr (.inr (by omega))
  · rcases ho with ho | ⟨rfl, ho⟩
    · obtain ⟨us', T', fr, e, hl⟩ := h.stlt B o ho
      exact ⟨us', T', fr, by rw [hold B (block_lt e)]; exact e, hl⟩
    · exact ⟨us, T, _, hnewb, ho⟩
  · rcases hq with hq | ⟨_, hq⟩
    · exact absurd (hstlt _ _ hq) (Nat.lt_irrefl _)
    · omega
  · exact absurd (h.bx_lt hq).1 (Nat.lt_irrefl _)
  · simp [ownBlock] at hB
    subst hB
    exact absurd (h.own_lt hq).1 (Nat.lt_irrefl _)
  · exact ⟨some ⟨w.heap.size, 0, none⟩, rws.length, rws, rfl, Nat.le_refl _, RepRows.mono hle _ _ hr, hl, .inr ⟨w.heap.size, 0, rfl, reads_block (C := ctx s w' { g with st := st' }) hnewb hu.symm (fun o ho => .inr ⟨rfl, ho⟩)⟩, hc, fun d k e => by cases e⟩

theorem mk_ok {ls : List LK} {xs : List (List PV)} (hok : okEff s o.dst (.mk ls xs) = true) (h : SimG base w0 n g s a w) : ∃ d, o.dst = some d ∧ d < n := by
  unfold okEff at hok
  cases hd : o.dst with
  | none => rw [hd] at hok; cases hok
  | some d =>
    rw [hd] at hok
    exact ⟨d, rfl, by rw [← h.ns]; exact blt_lt hok⟩

theorem act_buildSlice (T : ∀ t ti, E.ty t = some ti → TyOk P t ti) (h : SimG base w0 n g s a w) {t len : Nat} {parts : Array (Nat × Operand)} (ho : o.op = .buildSlice t len parts) (ha : actBuildSlice E call s t len parts some = some e)
    (hok : okEff s o.dst e = true) : Good P o a w (Sim base w0 n (upd s o.dst e)) := by
  unfold actBuildSlice at ha
  have hpm : (parts.map fun (i, x) => (i, a.eval x)).toList = parts.toList.map fun p => (p.1, a.eval p.2) := by simp
  split at ha
  · cases ha
  · rename_i ti hti
    have hu := (T t ti hti).run_und w
    split at ha
    · cases ha
    · rename_i el hel
      unfold elemOf at hel
      split at hel
      · rename_i el' hd
        cases hel
        rw [hd] at hu
        split at ha
        · cases ha
        · rename_i te hte
          have hTe := T _ _ hte
          obtain ⟨i0, z, hi1, hi2, hi3, hi4, hz⟩ := hTe.info
          have hzl := (hz (ctx s w g)).length
          simp at hzl
          rw [hTe.zl] at hzl
          split at ha
          · cases ha
          · rename_i cs hcs
            split at ha
            · rename_i hq
              obtain ⟨hq1, hq2⟩ := hq
              cases ha
              obtain ⟨d, hd', hdn⟩ := mk_ok hok h
              have hle := Nat.le_of_ble_eq_true hq2
              have hzr := zeros_rep (hz (ctx s w g)) len (if len * te.size = 0 then #[] else z.cells) (fun hne => if_neg (by rw [hzl] at hne; exact hne))
              obtain ⟨us', h1, h2⟩ := fill_rep (C := ctx s w g) (place' := fun i => some (i * te.size, te.size)) (fun i q hq => hq) _ (parts.toList.map fun p => (p.1, a.eval p.2)) _ _ cs (by simp) (parts_rep h parts.toList) hzr hcs
              have h2 := Reps.strips _ _ h2
              have hlen : us'.toList.length = len * te.size := by
                rw [h2.length]
                have e1 : (strips cs).length = cs.length := by
                  have : ∀ l : List PV, (strips l).length = l.length := by
                    intro l; induction l with
                    | nil => rfl
                    | cons x l ih => simp [strips, ih]
                  exact this cs
                rw [e1, fillParts_length _ _ _ hcs, flatten_replicate_length, hTe.zl]
              have hS := h.mkNew hdn (T := el) (us := us') (ls := te.lk) (chunk_rep h2 te.size len) (by rw [hTe.lk]; exact chunk_len hlen) (by simpa using hq1) (chunk_flatten us'.toList te.size len hlen).symm (by rw [hTe.lk]; simpa using hlen)
              refine good_value (v := .slice (some ⟨w.heap.size, 0, none⟩) len len) (w' := w.alloc (.cells us' el)) ?_ (by rw [hd']; simpa using hS)
              rw [hzl] at h1
              simp only [execOp, ho, Instr.buildSlice, Sem.run_bind, hu, Result.andThen_ok, hTe.run_sizeOf w, Sem.run_ite]
              rw [if_neg (by omega)]
              by_cases hz0 : len * te.size = 0
              · rw [if_pos hz0] at h1 ⊢
                simp only [Sem.run_pure, Result.andThen_ok, hpm, h1]
                rfl
              · rw [if_neg hz0] at h1 ⊢
                simp only [Sem.run_bind, zeroValue, typeInfo, run_program, Result.andThen_ok, hi1, Sem.run_pure, hi4, hpm, h1]
                rfl
            · cases ha
      · cases hel

end
end Go.Pev
