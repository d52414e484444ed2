/- EACH OPERATION OF THE MACHINE DOES WHAT THE EVALUATOR TELLS: append. -/
import Derived.Test.YtfjnpgbjcgjecaaPevOps6
namespace Go.Pev
open Go.RowKit
set_option linter.unusedVariables false
set_option linter.unusedSimpArgs false

section
variable {P : Program} {E : Env} {call : Nat → List PV → Option PV} {base n : Nat} {w0 : Start} {g : Gh} {s : St} {a : Act} {w : World} {o : Oper} {e : Eff}

theorem flatten_len {R : List (List Value)} {m : Nat} (hR : ∀ r ∈ R, r.length = m) : R.flatten.length = R.length * m := by
  induction R with
  | nil => simp
  | cons r R ih => rw [List.flatten_cons, List.length_append, hR r (List.mem_cons_self ..), ih fun q hq => hR q (List.mem_cons_of_mem _ hq), List.length_cons, Nat.succ_mul]; omega

theorem growBy_le (need : Nat) : ∀ (k c : Nat), 256 ≤ c → c < need → Builtin.growBy need k c ≤ 2 * need
  | 0, c, h1, h2 => by simp only [Builtin.growBy]; omega
  | k + 1, c, h1, h2 => by
    simp only [Builtin.growBy]
    rw [if_neg (by omega)]
    by_cases hq : c + (c + 768) / 4 < need
    · exact growBy_le need k _ (by omega) hq
    · have : ∀ k c, need ≤ c → Builtin.growBy need k c = c := by
        intro k c hc
        cases k with
        | zero => rfl
        | succ k => simp only [Builtin.growBy]; rw [if_pos hc]
      rw [this k _ (by omega)]
      omega

theorem nextslicecap_le {need cap : Nat} (h : cap < need) : Builtin.nextslicecap need cap ≤ 2 * need := by
  unfold Builtin.nextslicecap
  split
  · omega
  · split
    · omega
    · exact growBy_le need 4 cap (by omega) h

theorem run_firstCells {C : Ctx} {rows : List (List Value)} {m cap : Nat} {A : Option Addr} (hl : ∀ r ∈ rows, r.length = m) (hr : rows = [] ∨ ∃ B q, A = some ⟨B, q, none⟩ ∧ C.reads B q rows.flatten) :
    (Builtin.firstCells m rows.length (.slice A rows.length cap)).run P C.w = .ok rows.flatten.toArray C.w := by
  rcases hr with rfl | ⟨B, q, rfl, hr⟩
  · cases A with
    | none => rfl
    | some x =>
      simp only [Builtin.firstCells, List.length_nil, Nat.zero_mul, List.flatten_nil]
      rfl
  · have := run_loadCells_list (P := P) C.w ⟨B, q, none⟩ rows.flatten (fun j v hv => by rw [addr_add]; exact (hr j v hv).1)
    rw [flatten_len hl] at this
    exact this

theorem conf_leaf {l : LK} {p : PV} (h : conf l p = true) : leaf p = true := by
  cases l <;> cases p <;> simp_all [conf, leaf]

theorem confs_leafs : ∀ {ls : List LK} {cs : List PV}, confs ls cs = true → cs.all leaf = true
  | [], [], _ => rfl
  | [], _ :: _, h => by simp [confs] at h
  | _ :: _, [], h => by simp [confs] at h
  | l :: ls, c :: cs, h => by
    simp only [confs, Bool.and_eq_true] at h
    simp [conf_leaf h.1, confs_leafs h.2]

theorem rows_oneCell {C : Ctx} {ls : List LK} : ∀ {xs : List (List PV)} {rows : List (List Value)}, RepRows C xs rows → (∀ x ∈ xs, confs ls x = true) → ∀ u ∈ rows.flatten, u.oneCell' = true
  | [], rows, hr, hc, u, hu => by rw [RepRows] at hr; subst hr; simp at hu
  | x :: xs, rows, hr, hc, u, hu => by
    rw [RepRows] at hr
    obtain ⟨r, ws, rfl, h1, h2⟩ := hr
    rw [List.flatten_cons] at hu
    rcases List.mem_append.1 hu with hu | hu
    · exact leafs_oneCell (confs_leafs (hc x (List.mem_cons_self ..))) h1 u hu
    · exact rows_oneCell h2 (fun y hy => hc y (List.mem_cons_of_mem _ hy)) u hu

/-- A row of the call's own that has grown into a new block. -/
theorem SimG.grow (h : SimG base w0 n g s a w) {d : Nat} (hd : d < n) {ls : List LK} {xs : List (List PV)} {rws : List (List Value)} {us : Array Value} {T : TypeId} {cap : Nat} {w1 : World} (hw1 : w1.heap = w.heap) (hos : Below base w w1)
    (hr : RepRows (ctx s w g) xs rws) (hl : ∀ r ∈ rws, r.length = ls.length) (hc : ∀ x ∈ xs, confs ls x = true) (hu : us.toList.take rws.flatten.length = rws.flatten) (hcap : rws.length ≤ cap) (hus : us.size = cap * ls.length) (dst : Option Nat) :
    Sim base w0 n (upd s dst (.app d ls xs)) (a.put dst (.slice (some ⟨w.heap.size, 0, none⟩) rws.length cap)) (w1.alloc (.cells us T)) := by
  let w' := w1.alloc (.cells us T)
  have hsz : w1.heap.size = w.heap.size := by rw [hw1]
  have hfl := flatten_len hl
  let st' : Nat → Nat → Prop := fun B o => g.st B o ∨ (B = w.heap.size ∧ o < rws.length * ls.length)
  have hold : ∀ k, k < w.heap.size → w'.heap[k]? = w.heap[k]? := fun k hk => by
    have := Below.heap_alloc w1 (.cells us T) k (by rw [hsz]; exact hk)
    rw [hw1] at this
    exact this
  have hnewb : w'.heap[w.heap.size]? = some (.cells us T (0, 0)) := by
    have := heap_alloc_new w1 (.cells us T)
    rw [hsz] at this
    exact this
  have hle2 : rws.length * ls.length ≤ us.size := by rw [hus]; exact Nat.mul_le_mul_right _ hcap
  have hstlt : ∀ B o, g.st B o → B < w.heap.size := fun B o ho => by
    obtain ⟨us, T, fr, e, _⟩ := h.stlt B o ho
    exact block_lt e
  have hle : (ctx s w g).Le (ctx s w' { g with st := st' }) := ⟨fun _ _ h => .inl h, fun B o ho => World.cell?_of_block (w := w) (hold B (hstlt B o ho)), fun _ _ h => h, fun _ _ _ _ h => h, fun _ _ _ => rfl, fun _ _ _ => rfl⟩
  refine ⟨_, h.tag hd (w' := w') (st' := st') (ls := ls) (xs := xs) (hos.alloc (by rw [hsz]; exact Nat.le_trans h.base_le h.below.size) _) (fun k hk _ => hold k hk) (fun B o ho => World.cell?_of_block (w := w) (hold B (hstlt B o ho)))
    (fun _ _ h => .inl h) (fun B o ho => ?_) (fun B o ho => ?_) (.inr ⟨w.heap.size, 0, rws.length, cap, us, T, rfl, Nat.le_trans h.base_le h.below.size, hnewb, by rw [Nat.zero_add, hus]; exact Nat.le_refl _, hcap, fun j hj hq => ?_, fun d' hq => ?_⟩)
    (fun d' B hne hB hq => ?_) ?_ dst⟩
  · rcases ho with ho | ⟨ho, _⟩
    · exact .inl ho
    · exact .inr (.inr (by omega))
  · rcases ho with ho | ⟨rfl, ho⟩
    · obtain ⟨us', T', fr, e, hl⟩ := h.stlt B o ho
      exact ⟨us', T', fr, by rw [hold B (block_lt e)]; exact e, hl⟩
    · exact ⟨us, T, _, hnewb, by omega⟩
  · rcases hq with hq | ⟨_, hq⟩
    · exact absurd (hstlt _ _ hq) (Nat.lt_irrefl _)
    · omega
  · exact absurd (h.bx_lt hq).1 (Nat.lt_irrefl _)
  · simp [ownBlock] at hB
    subst hB
    exact absurd (h.own_lt hq).1 (Nat.lt_irrefl _)
  · refine ⟨some ⟨w.heap.size, 0, none⟩, cap, rws, rfl, hcap, RepRows.mono hle _ _ hr, hl, .inr ⟨w.heap.size, 0, rfl, fun j u hj => ?_⟩, hc, fun d k e => by cases e⟩
    have hjl : j < rws.length * ls.length := by
      have := (List.getElem?_eq_some_iff.1 hj).1
      omega
    rw [Nat.zero_add]
    refine ⟨?_, .inr ⟨rfl, hjl⟩⟩
    have hju : us.toList[j]? = some u := by
      rw [← hu, List.getElem?_take] at hj
      split at hj
      · exact hj
      · cases hj
    show w'.cell? _ = _
    simp only [World.cell?, hnewb]
    simpa using hju

/-- A row of the call's own that has grown in its own block. -/
theorem SimG.growIn (h : SimG base w0 n g s a w) {d : Nat} (hd : d < n) {ls : List LK} {xs ys : List (List PV)} {rws rws' : List (List Value)} {us : Array Value} {T : TypeId} {B q cap : Nat} (hz : g.osz d = ls.length)
    (hown : g.own d = .slice (some ⟨B, q, none⟩) rws.length cap) (hh : w.heap[B]? = some (.cells us T (0, 0))) (hqc : q + cap * ls.length ≤ us.size) (hfree : ∀ j, q + rws.length * ls.length ≤ j → ¬ g.st B j) (hbase : base ≤ B) (hnb : ∀ d', g.bx d' ≠ some B)
    (hr : RepRows (ctx s w g) xs rws) (hl : ∀ r ∈ rws, r.length = ls.length) (hc : ∀ x ∈ xs, confs ls x = true) (hrd : rws = [] ∨ (ctx s w g).reads B q rws.flatten)
    (hr' : RepRows (ctx s w g) ys rws') (hl' : ∀ r ∈ rws', r.length = ls.length) (hc' : ∀ x ∈ ys, confs ls x = true) (hcap : rws.length + rws'.length ≤ cap) (dst : Option Nat) :
    Sim base w0 n (upd s dst (.app d ls (xs ++ ys))) (a.put dst (.slice (some ⟨B, q, none⟩) (rws.length + rws'.length) cap))
      (w.setRow B (us.toList.take (q + rws.length * ls.length) ++ rws'.flatten ++ us.toList.drop (q + rws.length * ls.length + rws'.flatten.length)).toArray) := by
  have hfl := flatten_len hl
  have hfl' := flatten_len hl'
  have hmul : (rws.length + rws'.length) * ls.length ≤ cap * ls.length := Nat.mul_le_mul_right _ hcap
  rw [Nat.add_mul] at hmul
  let us' : Array Value := (us.toList.take (q + rws.length * ls.length) ++ rws'.flatten ++ us.toList.drop (q + rws.length * ls.length + rws'.flatten.length)).toArray
  have hsz : us'.size = us.size := by simp [us', hfl']; omega
  let w' := w.setRow B us'
  let st' : Nat → Nat → Prop := fun B' o => g.st B' o ∨ (B' = B ∧ q + rws.length * ls.length ≤ o ∧ o < q + (rws.length + rws'.length) * ls.length)
  have hnew : w'.heap[B]? = some (.cells us' T (0, 0)) := setRow_heap w B us us' T (0, 0) hh
  have hold : ∀ k, k ≠ B → w'.heap[k]? = w.heap[k]? := fun k hk => setRow_other w B k us' hk
  have hob : ownBlock (g.own d) = some B := by rw [hown]; rfl
  have hlow : ∀ j, j < q + rws.length * ls.length → us'[j]? = us[j]? := fun j hj => by
    have : us'.toList[j]? = us.toList[j]? := by
      have e1 : us'.toList = us.toList.take (q + rws.length * ls.length) ++ (rws'.flatten ++ us.toList.drop (q + rws.length * ls.length + rws'.flatten.length)) := by simp [us']
      rw [e1, List.getElem?_append_left (by simp; omega), List.getElem?_take, if_pos hj]
    simpa using this
  have hcell : ∀ B' o, g.st B' o → w'.cell? ⟨B', o, none⟩ = w.cell? ⟨B', o, none⟩ := fun B' o ho => by
    by_cases hB : B' = B
    · subst hB
      have : o < q + rws.length * ls.length := by
        apply Classical.byContradiction
        intro hq
        exact hfree o (by omega) ho
      simp only [World.cell?, hnew, hh]
      simp [hlow o this]
    · exact World.cell?_of_block (w := w) (hold B' hB)
  have hle : (ctx s w g).Le (ctx s w' { g with st := st' }) := ⟨fun _ _ h => .inl h, hcell, fun _ _ h => h, fun _ _ _ _ h => h, fun _ _ _ => rfl, fun _ _ _ => rfl⟩
  refine ⟨_, h.tag hd (w' := w') (st' := st') (ls := ls) (xs := xs ++ ys) ⟨rfl, rfl, rfl, by simp [w', World.setRow], fun k hk => hold k (by omega)⟩ (fun k hk hne => hold k (fun q => hne (by rw [hob, q]))) hcell
    (fun _ _ h => .inl h) (fun B' o ho => ?_) (fun B' o ho => ?_) (.inr ⟨B, q, rws.length + rws'.length, cap, us', T, rfl, hbase, hnew, by rw [hsz]; exact hqc, hcap, fun j hj hq => ?_, hnb⟩)
    (fun d' B' hne hB hq => ?_) ?_ dst⟩
  · rcases ho with ho | ⟨ho, _⟩
    · exact .inl ho
    · exact .inr (.inl (by rw [hob, ho]))
  · rcases ho with ho | ⟨rfl, ho1, ho2⟩
    · obtain ⟨us1, T1, fr, e, hl⟩ := h.stlt B' o ho
      by_cases hB : B' = B
      · subst hB
        rw [hh] at e
        cases e
        exact ⟨us', T, _, hnew, by rw [hsz]; exact hl⟩
      · exact ⟨us1, T1, fr, by rw [hold B' hB]; exact e, hl⟩
    · refine ⟨us', T, _, hnew, ?_⟩
      rw [hsz]
      rw [Nat.add_mul] at ho2
      omega
  · rcases hq with hq | ⟨_, _, hq⟩
    · refine hfree j ?_ hq
      rw [Nat.add_mul] at hj
      omega
    · omega
  · simp [ownBlock] at hB
    subst hB
    exact h.apart d d' B hne.symm hob hq
  · refine ⟨some ⟨B, q, none⟩, cap, rws ++ rws', by simp, by simpa using hcap, (RepRows.mono hle _ _ hr).append (RepRows.mono hle _ _ hr'), fun r hr => (List.mem_append.1 hr).elim (hl r) (hl' r), .inr ⟨B, q, rfl, fun j u hj => ?_⟩,
      fun x hx => (List.mem_append.1 hx).elim (hc x) (hc' x), fun d k e => by cases e⟩
    rw [List.flatten_append] at hj
    by_cases hjl : j < rws.flatten.length
    · rw [List.getElem?_append_left hjl] at hj
      rcases hrd with rfl | hrd
      · simp at hjl
      · exact hle.reads hrd j u hj
    · rw [List.getElem?_append_right (by omega)] at hj
      have hj2 : j - rws.flatten.length < rws'.flatten.length := (List.getElem?_eq_some_iff.1 hj).1
      refine ⟨?_, .inr ⟨rfl, by omega, by rw [Nat.add_mul]; omega⟩⟩
      show w'.cell? _ = _
      simp only [World.cell?, hnew]
      have : us'.toList[q + j]? = some u := by
        have e1 : us'.toList = us.toList.take (q + rws.length * ls.length) ++ (rws'.flatten ++ us.toList.drop (q + rws.length * ls.length + rws'.flatten.length)) := by simp [us']
        have e2 : (us.toList.take (q + rws.length * ls.length)).length = q + rws.length * ls.length := by simp; omega
        rw [e1, List.getElem?_append_right (by omega), e2, List.getElem?_append_left (by omega), show q + j - (q + rws.length * ls.length) = j - rws.flatten.length by omega]
        exact hj
      simpa using this

/-- The arm with room. -/
theorem run_append_in {P : Program} {w : World} {ts : Array TypeId} {ty t t' el el2 sz n m cap cap' : Nat} {A A' : Option Addr} {news : List Value} (h1 : ts[0]? = some t) (h1' : ts[1]? = some t') (hu : (underlying t).run P w = .ok (.slice el) w)
    (hu' : (underlying t').run P w = .ok (.slice el2) w) (hs : (sizeOf el).run P w = .ok sz w) (hn : (Builtin.firstCells sz m (.slice A' m cap')).run P w = .ok news.toArray w) (hneed : n + m ≤ cap) {w' : World}
    (hst : (match A with | some a => storeCells (a.add (n * sz)) news | none => pure ()).run P w = .ok () w') :
    (Builtin.append_ ts ty #[.slice A n cap, .slice A' m cap']).run P w = .ok (.slice A (n + m) cap) w' := by
  cases A with
  | none =>
    have hst : (pure () : Sem Unit).run P w = .ok () w' := hst
    cases hst
    simp [Builtin.append_, h1, h1', hu, hu', hs, Builtin.lenOf, hneed, hn]
  | some a =>
    have hst : (storeCells (a.add (n * sz)) news).run P w = .ok () w' := hst
    simp [Builtin.append_, h1, h1', hu, hu', hs, Builtin.lenOf, hneed, hn, hst]

/-- The arm that grows. -/
theorem run_append_out {P : Program} {w : World} {ts : Array TypeId} {ty t t' el el2 sz n m cap cap' : Nat} {A A' : Option Addr} {olds news : List Value} (h1 : ts[0]? = some t) (h1' : ts[1]? = some t') (hu : P.underlying t = some (.slice el))
    (hu' : P.underlying t' = some (.slice el2)) {i : TypeInfo} {z : Value} (hi : P.info? el = some i) (hz : i.zero = some z) (hsz : i.size = sz)
    (hn : ∀ w' : World, w'.heap = w.heap → (Builtin.firstCells sz m (.slice A' m cap')).run P w' = .ok news.toArray w') (ho : ∀ w' : World, w'.heap = w.heap → (Builtin.firstCells sz n (.slice A n cap)).run P w' = .ok olds.toArray w') (hneed : cap < n + m)
    (h63 : ((n + m : Nat) : Int) ≤ 9223372036854775807) (hfit : Builtin.nextslicecap (n + m) cap * i.bytes ≤ 281474976710656) :
    (Builtin.append_ ts ty #[.slice A n cap, .slice A' m cap']).run P w = .ok (.slice (some ⟨w.heap.size, 0, none⟩) (n + m) (grownCap w (n + m) cap el))
      (w.drew.alloc (.cells (olds.toArray ++ news.toArray ++ Builtin.zeroCells z.cells (grownCap w (n + m) cap el - (n + m))) el)) := by
  have hn' : ¬ (n + m ≤ cap) := by omega
  have h63' : ¬ (9223372036854775807 < ((n : Int) + (m : Int))) := by omega
  have h48' : ¬ (281474976710656 < Builtin.nextslicecap (n + m) cap * i.bytes) := by omega
  subst hsz
  have hf := hn w.drew rfl
  have hfo := ho w.drew rfl
  simp [Builtin.append_, h1, h1', run_underlying hu, run_underlying hu', sizeOf, typeInfo, zeroValue, hi, hz, Builtin.lenOf, hn', h63', h48', Question.forced, hf, hfo, newRow, grownCap]
  congr 2
  apply Array.ext'
  simp [List.append_assoc]

theorem app_ok {tag : Nat} {ls : List LK} {xs : List (List PV)} (hok : okEff s o.dst (.app tag ls xs) = true) (h : SimG base w0 n g s a w) : tag < n := by
  unfold okEff at hok
  simp only [Bool.and_eq_true] at hok
  rw [← h.ns]
  exact blt_lt hok.2

theorem act_append (T : ∀ t ti, E.ty t = some ti → TyOk P t ti) (h : SimG base w0 n g s a w) {args : Array Operand} {ts : Array TypeId} {t t' : Nat} {x y : Operand} (ho : o.op = .call { callee := .builtin .append, args := args, argTypes := ts })
    (hargs : args.toList = [x, y]) (hts : ts.toList = [t, t']) (ha : appK E s t t' (operand s x) (operand s y) some = some e) (hok : okEff s o.dst e = true) : Good P o a w (Sim base w0 n (upd s o.dst e)) := by
  have hx := operand_rep h x
  have hy := operand_rep h y
  have h0 : args = #[x, y] := by apply Array.ext'; simpa using hargs
  have h1 : ts[0]? = some t := by rw [← Array.getElem?_toList, hts]; rfl
  have h1' : ts[1]? = some t' := by rw [← Array.getElem?_toList, hts]; rfl
  unfold appK at ha
  split at ha
  · rename_i ti tu hti htu
    have hu := (T _ _ hti).run_und w
    have hu' := (T _ _ htu).run_und w
    split at ha
    · rename_i el el2 hd hd2
      rw [hd] at hu
      rw [hd2] at hu'
      split at ha
      · cases ha
      · rename_i te hte
        have hTe := T _ _ hte
        obtain ⟨i0, z, hi1, hi2, hi3, hi4, hz⟩ := hTe.info
        have hzl := (hz (ctx s w g)).length
        simp at hzl
        rw [hTe.zl] at hzl
        split at ha
        · rename_i d v ls xs tag2 ls2 ys hvx hvy
          split at ha
          · rename_i hq
            obtain ⟨rfl, hb0, hsz, hsame⟩ := hq
            have := sameLK_eq _ _ hsame
            subst this
            obtain ⟨q1, ha1⟩ := guardK_some ha
            have q1 := of_decide_eq_true q1
            cases ha1
            clear ha
            have hdn := app_ok hok h
            rw [hvx] at hx
            rw [hvy] at hy
            obtain ⟨A, cap, rows, hx, hcap, hrr, hrl, hmem, hcf, htg⟩ := hx
            obtain ⟨A', cap', rows', hy, hcap', hrr', hrl', hmem', hcf', _⟩ := hy
            obtain ⟨_, htg⟩ := htg d (s.ver d) rfl
            obtain ⟨hown, hoz⟩ := htg rfl
            have hoz : g.osz d = ls.length := hoz.symm
            have hlx := hrr.length
            have hly := hrr'.length
            rw [← hlx, ← hly] at q1
            have hev : (execOp a.eval o).run P w = ((Builtin.append_ ts o.type #[.slice A rows.length cap, .slice A' rows'.length cap']).run P w).andThen fun v w' => .ok (.value v) w' := by
              rw [run_builtin _ _ _ ho w, h0]
              simp only [builtin, Sem.run_bind, List.map_toArray, List.map_cons, List.map_nil, hx, hy]
              rfl
            have hnew : (Builtin.firstCells ls.length rows'.length (.slice A' rows'.length cap')).run P w = .ok rows'.flatten.toArray w := run_firstCells (C := ctx s w g) hrl' hmem'
            have hold : (Builtin.firstCells ls.length rows.length (.slice A rows.length cap)).run P w = .ok rows.flatten.toArray w := run_firstCells (C := ctx s w g) hrl hmem
            have hmatch : (match TypeDesc.slice el2 with | TypeDesc.int _ => true | _ => false) = false := rfl
            by_cases hneed : rows.length + rows'.length ≤ cap
            · -- in its own block
              rcases h.own d with hnil | ⟨B, q, len, cap0, us, T0, hv, hbase, hh, hqc, hlc, hfree, hnb⟩
              · rw [hnil] at hown
                rw [hown] at hx
                have hxx : Value.slice none 0 0 = Value.slice A rows.length cap := hx
                simp only [Value.slice.injEq] at hxx
                obtain ⟨rfl, hr0, rfl⟩ := hxx
                have hr1 : rows' = [] := List.eq_nil_of_length_eq_zero (by omega)
                have hr2 : rows = [] := List.eq_nil_of_length_eq_zero hr0.symm
                subst hr1; subst hr2
                have hx0 : xs = [] := List.eq_nil_of_length_eq_zero hlx.symm
                have hy0 : ys = [] := List.eq_nil_of_length_eq_zero hly.symm
                subst hx0; subst hy0
                refine good_value (v := .slice none 0 0) (w' := w) ?_ ?_
                · rw [hev]
                  have := run_append_in (ty := o.type) (A := none) (cap := 0) (n := 0) h1 h1' hu hu' (by rw [← hsz]; exact hTe.run_sizeOf w) hnew (Nat.zero_le _) (w' := w) rfl
                  simp only [List.length_nil] at this ⊢
                  rw [this]
                  rfl
                · exact ⟨_, h.tag hdn (w' := w) (st' := g.st) (v := .slice none 0 0) (ls := ls) (xs := []) (Below.refl _ _) (fun _ _ _ => rfl) (fun _ _ _ => rfl) (fun _ _ h => h) (fun _ _ h => .inl h) h.stlt (.inl rfl)
                    (fun _ _ _ e => by cases e) (rep_nil _ _) o.dst⟩
              · rw [hv] at hown
                have hown := hx.symm.trans hown
                simp only [Value.slice.injEq] at hown
                obtain ⟨rfl, hlen, rfl⟩ := hown
                subst hlen
                rw [hoz] at hqc hfree
                have h1c := rows_oneCell hrr' hcf'
                have hfl' := flatten_len hrl'
                have hmul : (rows.length + rows'.length) * ls.length ≤ cap * ls.length := Nat.mul_le_mul_right _ hneed
                rw [Nat.add_mul] at hmul
                have hst := run_storeCells (P := P) B (q + rows.length * ls.length) T0 rows'.flatten 0 us w hh (by omega) h1c
                simp only [Nat.add_zero] at hst
                refine good_value (v := .slice (some ⟨B, q, none⟩) (rows.length + rows'.length) cap) (w' := w.setRow B (us.toList.take (q + rows.length * ls.length) ++ rows'.flatten ++ us.toList.drop (q + rows.length * ls.length + rows'.flatten.length)).toArray) ?_ ?_
                · rw [hev]
                  have := run_append_in (ty := o.type) (A := some ⟨B, q, none⟩) (n := rows.length) h1 h1' hu hu' (by rw [← hsz]; exact hTe.run_sizeOf w) hnew hneed (w' := w.setRow B (us.toList.take (q + rows.length * ls.length) ++ rows'.flatten ++ us.toList.drop (q + rows.length * ls.length + rows'.flatten.length)).toArray) (by
                    show (storeCells ((⟨B, q, none⟩ : Addr).add (rows.length * ls.length)) rows'.flatten).run P w = _
                    rw [addr_add]
                    exact hst)
                  rw [this]
                  rfl
                · exact h.growIn hdn hoz hv hh hqc hfree hbase hnb hrr hrl hcf (hmem.imp id fun ⟨B', q', e, hrd⟩ => by cases e; exact hrd) hrr' hrl' hcf' hneed o.dst
            · -- in a new one
              have hneed : cap < rows.length + rows'.length := by omega
              have hbm : rows.length + rows'.length ≤ (rows.length + rows'.length) * te.bytes := Nat.le_mul_of_pos_right _ (by omega)
              have hgl := nextslicecap_le hneed
              have hfit : Builtin.nextslicecap (rows.length + rows'.length) cap * i0.bytes ≤ 281474976710656 := by
                rw [hi3]
                have : Builtin.nextslicecap (rows.length + rows'.length) cap * te.bytes ≤ 2 * (rows.length + rows'.length) * te.bytes := Nat.mul_le_mul_right _ hgl
                rw [Nat.mul_assoc] at this
                omega
              have hcell : ∀ (w' : World), w'.heap = w.heap → ∀ B o us, (ctx s w g).reads B o us → ({ ctx s w g with w := w' } : Ctx).reads B o us := fun w' hw' B o us hr j u hj => by
                obtain ⟨r1, r2⟩ := hr j u hj
                refine ⟨?_, r2⟩
                have r1 : w.cell? _ = _ := r1
                show w'.cell? _ = _
                simp only [World.cell?, hw'] at r1 ⊢
                exact r1
              have hge := grownCap_ge w (rows.length + rows'.length) cap el
              have hrun := run_append_out (ty := o.type) (P := P) (w := w) (sz := ls.length) (n := rows.length) (m := rows'.length) (A := A) (A' := A') (cap := cap) (cap' := cap') h1 h1' (by rw [← hd]; exact (T _ _ hti).und) (by rw [← hd2]; exact (T _ _ htu).und) hi1 hi4 (by rw [hi2, hsz])
                (fun w' hw' => run_firstCells (C := { ctx s w g with w := w' }) hrl' (hmem'.imp id fun ⟨B, q, e, hr⟩ => ⟨B, q, e, hcell w' hw' _ _ _ hr⟩)) (fun w' hw' => run_firstCells (C := { ctx s w g with w := w' }) hrl (hmem.imp id fun ⟨B, q, e, hr⟩ => ⟨B, q, e, hcell w' hw' _ _ _ hr⟩)) hneed (by omega) hfit
              have hfl := flatten_len hrl
              have hfl' := flatten_len hrl'
              have hfa : (rows ++ rows').flatten.length = (rows.length + rows'.length) * ls.length := by rw [List.flatten_append, List.length_append, hfl, hfl', Nat.add_mul]
              have hG := h.grow (d := d) hdn (ls := ls) (xs := xs ++ ys) (rws := rows ++ rows') (us := rows.flatten.toArray ++ rows'.flatten.toArray ++ Builtin.zeroCells z.cells (grownCap w (rows.length + rows'.length) cap el - (rows.length + rows'.length))) (T := el) (cap := grownCap w (rows.length + rows'.length) cap el) (w1 := w.drew) rfl
                ⟨rfl, rfl, rfl, Nat.le_refl _, fun _ _ => rfl⟩ (hrr.append hrr') (fun r hr => (List.mem_append.1 hr).elim (hrl r) (hrl' r)) (fun x hx => (List.mem_append.1 hx).elim (hcf x) (hcf' x))
                (by
                  rw [hfa]
                  simp only [Array.toList_append, List.flatten_append]
                  rw [List.take_left' (by simp [hfl, hfl', Nat.add_mul])])
                (by simpa using hge)
                (by
                  simp only [Array.size_append, List.size_toArray, hfl, hfl', Builtin.zeroCells, Array.size_map, Array.size_range]
                  have : z.cells.size = ls.length := by rw [← hsz]; exact hzl
                  rw [this, ← Nat.add_mul, ← Nat.add_mul]
                  congr 1
                  omega) o.dst
              rw [List.length_append] at hG
              refine good_value ?_ hG
              rw [hev, hrun]
              rfl
          · cases ha
        · cases ha
    · cases ha
  · cases ha

end
end Go.Pev
