/- NEW VARIABLES AND STORES: the frame and the plain state behind them. -/
import Derived.Test.YtfjnpgbjcgjecaaPevSim
namespace Go.Pev
open Go.RowKit
set_option linter.unusedVariables false
set_option linter.unusedSimpArgs false

/-- A new variable, or a new row of the call's own that is stored into: box d. -/
theorem SimG.newBox {base n : Nat} {w0 : Start} {g : Gh} {s : St} {a : Act} {w : World} (h : SimG base w0 n g s a w) {d : Nat} (hd : d < n) (hfree : s.box d = none) {us : Array Value} {T : TypeId} {b : Box} {p : PV} {v : Value}
    (hv : v = .pointer (some ⟨w.heap.size, 0, none⟩) ∨ v = .slice (some ⟨w.heap.size, 0, none⟩) (rowLen (some b)) (rowLen (some b)))
    (hb : (∃ cs, b = .cells cs false ∧ p = .ptr d 0 ∧ v = .pointer (some ⟨w.heap.size, 0, none⟩) ∧ Reps (ctx s w g) cs us.toList) ∨
      (∃ ls xs rws, b = .row ls xs false ∧ p = .row d ∧ v = .slice (some ⟨w.heap.size, 0, none⟩) xs.length xs.length ∧ us.toList = rws.flatten ∧ RepRows (ctx s w g) xs rws ∧ (∀ r ∈ rws, r.length = ls.length) ∧ (∀ x ∈ xs, confs ls x = true))) (dst : Option Nat) :
    SimG base w0 n { g with bx := fun e => if e = d then some w.heap.size else g.bx e }
      { s with slots := putD s.slots dst p, boxes := s.boxes.set d (some b) } (a.put dst v) (w.alloc (.cells us T)) := by
  let g' : Gh := { g with bx := fun e => if e = d then some w.heap.size else g.bx e }
  let s' : St := { s with slots := putD s.slots dst p, boxes := s.boxes.set d (some b) }
  let w' : World := w.alloc (.cells us T)
  have hnone : g.bx d = none := h.nobox d hfree
  have hdl : d < s.boxes.length := by rw [h.nb]; exact hd
  have hbox : ∀ e, s'.box e = if d = e then some b else s.box e := fun e => by
    have : s'.box e = if d = e ∧ d < s.boxes.length then some b else s.box e := get_set _ _ _ _
    rw [this]
    by_cases q : d = e
    · rw [if_pos ⟨q, hdl⟩, if_pos q]
    · rw [if_neg (fun x => q x.1), if_neg q]
  have hold : ∀ k, k < w.heap.size → w'.heap[k]? = w.heap[k]? := fun k hk => Below.heap_alloc w _ k hk
  have hnewb : w'.heap[w.heap.size]? = some (.cells us T (0, 0)) := heap_alloc_new w _
  have hstlt : ∀ B o, g.st B o → B < w.heap.size := fun B o ho => by
    obtain ⟨us, T, fr, e, _⟩ := h.stlt B o ho
    exact block_lt e
  have hle : (ctx s w g).Le (ctx s' w' g') := by
    refine ⟨fun _ _ h => h, fun B o ho => World.cell?_of_block (w := w) (hold B (hstlt B o ho)), fun e B he => ?_, fun _ _ _ _ h => h, fun e B he => ?_, fun e B he => ?_⟩
    · show (if e = d then some w.heap.size else g.bx e) = some B
      have he : g.bx e = some B := he
      by_cases q : e = d
      · rw [q, hnone] at he; cases he
      · rw [if_neg q]; exact he
    · show rowSize (s'.box e) = rowSize (s.box e)
      have he : g.bx e = some B := he
      rw [hbox e, if_neg (fun q => by rw [← q, hnone] at he; cases he)]
    · show rowLen (s'.box e) = rowLen (s.box e)
      have he : g.bx e = some B := he
      rw [hbox e, if_neg (fun q => by rw [← q, hnone] at he; cases he)]
  have hprep : Rep (ctx s' w' g') p v := by
    rcases hb with ⟨cs, rfl, rfl, rfl, _⟩ | ⟨ls, xs, rws, rfl, rfl, rfl, _⟩
    · exact ⟨w.heap.size, if_pos rfl, rfl⟩
    · refine ⟨w.heap.size, if_pos rfl, ?_⟩
      show _ = Value.slice _ (rowLen (s'.box d)) (rowLen (s'.box d))
      rw [hbox d, if_pos rfl]
      rfl
  exact
  { ns := by show (putD _ _ _).length = n; rw [putD_length]; exact h.ns
    nb := by show (s.boxes.set _ _).length = n; rw [List.length_set]; exact h.nb
    nv := h.nv
    slots := Reps.putD (Reps.mono hle _ _ h.slots) hprep dst
    defers := by cases dst <;> exact h.defers
    base_le := h.base_le
    below := h.below.alloc (Nat.le_trans h.base_le h.below.size) _
    nobox := fun e he => by
      rw [hbox e] at he
      show (if e = d then some w.heap.size else g.bx e) = none
      by_cases q : d = e
      · rw [if_pos q] at he; cases he
      · rw [if_neg q] at he
        rw [if_neg (fun x => q x.symm)]
        exact h.nobox e he
    cells := fun e cs fz he => by
      rw [hbox e] at he
      by_cases q : d = e
      · rw [if_pos q] at he
        rcases hb with ⟨cs', rfl, rfl, rfl, hr⟩ | ⟨ls, xs, rws, rfl, _⟩
        · cases he
          refine ⟨w.heap.size, us, T, if_pos q.symm, hnewb, Nat.le_trans h.base_le h.below.size, Reps.mono hle _ _ hr, (fun hf => by cases hf), fun _ o ho => ?_⟩
          exact absurd (hstlt _ _ ho) (Nat.lt_irrefl _)
        · cases he
      · rw [if_neg q] at he
        obtain ⟨B, us', T', h1, h2, h3, h4, h5, h6⟩ := h.cells e cs fz he
        exact ⟨B, us', T', (if_neg (fun x => q x.symm)).trans h1, by rw [hold B (block_lt h2)]; exact h2, h3, Reps.mono hle _ _ h4, h5, h6⟩
    rows := fun e ls xs fz he => by
      rw [hbox e] at he
      by_cases q : d = e
      · rw [if_pos q] at he
        rcases hb with ⟨cs', rfl, rfl, rfl, hr⟩ | ⟨ls', xs', rws, rfl, rfl, rfl, e1, e2, e3, e4⟩
        · cases he
        · cases he
          refine ⟨w.heap.size, us, T, rws, if_pos q.symm, hnewb, Nat.le_trans h.base_le h.below.size, e1, RepRows.mono hle _ _ e2, e3, e4, (fun hf => by cases hf), fun _ o ho => ?_⟩
          exact absurd (hstlt _ _ ho) (Nat.lt_irrefl _)
      · rw [if_neg q] at he
        obtain ⟨B, us', T', rws, h1, h2, h3, h4, h5, h6, h7, h8, h9⟩ := h.rows e ls xs fz he
        exact ⟨B, us', T', rws, (if_neg (fun x => q x.symm)).trans h1, by rw [hold B (block_lt h2)]; exact h2, h3, h4, RepRows.mono hle _ _ h5, h6, h7, h8, h9⟩
    inj := fun e e' B he he' => by
      have he : (if e = d then some w.heap.size else g.bx e) = some B := he
      have he' : (if e' = d then some w.heap.size else g.bx e') = some B := he'
      by_cases q : e = d
      · by_cases q' : e' = d
        · exact q.trans q'.symm
        · rw [if_pos q] at he; rw [if_neg q'] at he'
          cases he
          exact absurd (h.bx_lt he').1 (Nat.lt_irrefl _)
      · rw [if_neg q] at he
        by_cases q' : e' = d
        · rw [if_pos q'] at he'
          cases he'
          exact absurd (h.bx_lt he).1 (Nat.lt_irrefl _)
        · rw [if_neg q'] at he'
          exact h.inj e e' B he he'
    own := fun e => (h.own e).mono (fun B hB => hold B (h.own_lt hB).1) (fun _ _ _ h => h) (fun e' B hB he' => by
      have he' : (if e' = d then some w.heap.size else g.bx e') = some B := he'
      by_cases q : e' = d
      · rw [if_pos q] at he'
        cases he'
        exact absurd (h.own_lt hB).1 (Nat.lt_irrefl _)
      · rw [if_neg q] at he'; exact he')
    apart := h.apart
    news := h.news
    stlt := fun B o ho => by
      obtain ⟨us', T', fr, e, hl⟩ := h.stlt B o ho
      exact ⟨us', T', fr, by rw [hold B (block_lt e)]; exact e, hl⟩ }

/-- A store into a variable: its block is written anew. -/
theorem SimG.store {base n : Nat} {w0 : Start} {g : Gh} {s : St} {a : Act} {w : World} (h : SimG base w0 n g s a w) {d B : Nat} (hB : g.bx d = some B) {us us' : Array Value} {T : TypeId} (hh : w.heap[B]? = some (.cells us T (0, 0)))
    {b b' : Box} (hs : s.box d = some b) (hsz : us'.size = us.size)
    (hb : (∃ cs cs', b = .cells cs false ∧ b' = .cells cs' false ∧ Reps (ctx s w g) cs' us'.toList) ∨
      (∃ ls xs xs' rws, b = .row ls xs false ∧ b' = .row ls xs' false ∧ xs'.length = xs.length ∧ us'.toList = rws.flatten ∧ RepRows (ctx s w g) xs' rws ∧ (∀ r ∈ rws, r.length = ls.length) ∧ (∀ x ∈ xs', confs ls x = true))) :
    SimG base w0 n g { s with boxes := s.boxes.set d (some b') } a (w.setRow B us') := by
  let s' : St := { s with boxes := s.boxes.set d (some b') }
  let w' : World := w.setRow B us'
  have hdl : d < s.boxes.length := by
    rcases Nat.lt_or_ge d s.boxes.length with q | q
    · exact q
    · have : s.box d = none := by unfold St.box; rw [List.getD_eq_getElem?_getD, List.getElem?_eq_none q]; rfl
      rw [this] at hs; cases hs
  have hbox : ∀ e, s'.box e = if d = e then some b' else s.box e := fun e => by
    have : s'.box e = if d = e ∧ d < s.boxes.length then some b' else s.box e := get_set _ _ _ _
    rw [this]
    by_cases q : d = e
    · rw [if_pos ⟨q, hdl⟩, if_pos q]
    · rw [if_neg (fun x => q x.1), if_neg q]
  have hnew : w'.heap[B]? = some (.cells us' T (0, 0)) := setRow_heap w B us us' T (0, 0) hh
  have hold : ∀ k, k ≠ B → w'.heap[k]? = w.heap[k]? := fun k hk => setRow_other w B k us' hk
  have hnst : ∀ o, ¬ g.st B o := by
    rcases hb with ⟨cs, cs', rfl, _⟩ | ⟨ls, xs, xs', rws, rfl, _⟩
    · obtain ⟨B', us1, T1, h1, h2, h3, h4, h5, h6⟩ := h.cells d cs false hs
      rw [h1] at hB; cases hB
      exact h6 rfl
    · obtain ⟨B', us1, T1, rws1, h1, h2, h3, h4, h5, h6, h7, h8, h9⟩ := h.rows d ls xs false hs
      rw [h1] at hB; cases hB
      exact h9 rfl
  have hrs : rowSize (some b') = rowSize (some b) ∧ rowLen (some b') = rowLen (some b) := by
    rcases hb with ⟨cs, cs', rfl, rfl, _⟩ | ⟨ls, xs, xs', rws, rfl, rfl, hl, _⟩
    · exact ⟨rfl, rfl⟩
    · exact ⟨rfl, hl⟩
  have hle : (ctx s w g).Le (ctx s' w' g) := by
    refine ⟨fun _ _ h => h, fun B' o ho => World.cell?_of_block (w := w) (hold B' (fun q => hnst o (q ▸ ho))), fun _ _ h => h, fun _ _ _ _ h => h, fun e B' he => ?_, fun e B' he => ?_⟩
    · show rowSize (s'.box e) = rowSize (s.box e)
      rw [hbox e]
      split
      · rename_i q; rw [← q, hs]; exact hrs.1
      · rfl
    · show rowLen (s'.box e) = rowLen (s.box e)
      rw [hbox e]
      split
      · rename_i q; rw [← q, hs]; exact hrs.2
      · rfl
  have hne : ∀ e B', d ≠ e → g.bx e = some B' → B' ≠ B := fun e B' q he r => q (h.inj d e B hB (r ▸ he))
  exact
  { ns := h.ns
    nb := by show (s.boxes.set _ _).length = n; rw [List.length_set]; exact h.nb
    nv := h.nv
    slots := Reps.mono hle _ _ h.slots
    defers := h.defers
    base_le := h.base_le
    below := h.below.trans ⟨rfl, rfl, rfl, by simp [World.setRow], fun k hk => hold k (by have := (h.bx_lt hB).2.1; omega)⟩
    nobox := fun e he => by
      rw [hbox e] at he
      by_cases q : d = e
      · rw [if_pos q] at he; cases he
      · rw [if_neg q] at he; exact h.nobox e he
    cells := fun e cs fz he => by
      rw [hbox e] at he
      by_cases q : d = e
      · rw [if_pos q] at he
        rcases hb with ⟨cs0, cs', rfl, rfl, hr⟩ | ⟨ls, xs, xs', rws, rfl, rfl, _⟩
        · cases he
          exact ⟨B, us', T, q ▸ hB, hnew, (h.bx_lt hB).2.1, Reps.mono hle _ _ hr, (fun hf => by cases hf), fun _ => hnst⟩
        · cases he
      · rw [if_neg q] at he
        obtain ⟨B', us1, T', h1, h2, h3, h4, h5, h6⟩ := h.cells e cs fz he
        exact ⟨B', us1, T', h1, by rw [hold B' (hne e B' q h1)]; exact h2, h3, Reps.mono hle _ _ h4, h5, h6⟩
    rows := fun e ls xs fz he => by
      rw [hbox e] at he
      by_cases q : d = e
      · rw [if_pos q] at he
        rcases hb with ⟨cs0, cs', rfl, rfl, hr⟩ | ⟨ls', xs0, xs', rws, rfl, rfl, hl, e1, e2, e3, e4⟩
        · cases he
        · cases he
          exact ⟨B, us', T, rws, q ▸ hB, hnew, (h.bx_lt hB).2.1, e1, RepRows.mono hle _ _ e2, e3, e4, (fun hf => by cases hf), fun _ => hnst⟩
      · rw [if_neg q] at he
        obtain ⟨B', us1, T', rws, h1, h2, h3, h4, h5, h6, h7, h8, h9⟩ := h.rows e ls xs fz he
        exact ⟨B', us1, T', rws, h1, by rw [hold B' (hne e B' q h1)]; exact h2, h3, h4, RepRows.mono hle _ _ h5, h6, h7, h8, h9⟩
    inj := h.inj
    own := fun e => (h.own e).mono (fun B' hB' => hold B' (fun q => (h.own_lt hB').2.2 d (q ▸ hB))) (fun _ _ _ h => h) (fun _ _ _ h => h)
    apart := h.apart
    news := h.news
    stlt := fun B' o ho => by
      obtain ⟨us1, T', fr, e, hl⟩ := h.stlt B' o ho
      exact ⟨us1, T', fr, by rw [hold B' (fun q => hnst o (q ▸ ho))]; exact e, hl⟩ }

/-! ### cells put over others -/
theorem Reps.over {C : Ctx} : ∀ {vs : List PV} {us : List Value} {cs : List PV} {ws : List Value} (off : Nat), Reps C cs ws → Reps C vs us → off + vs.length ≤ cs.length →
    Reps C (Pev.over cs off vs) (ws.take off ++ us ++ ws.drop (off + us.length))
  | [], us, cs, ws, off, hc, hv, hl => by
    rw [Reps] at hv; subst hv
    simpa [Pev.over] using hc
  | v :: vs, us, cs, ws, off, hc, hv, hl => by
    rw [Reps] at hv
    obtain ⟨u, us, rfl, h1, h2⟩ := hv
    have hlen := hc.length
    simp only [List.length_cons] at hl
    have ih := Reps.over (off + 1) (hc.set h1 off) h2 (by rw [List.length_set]; omega)
    show Reps C (Pev.over (cs.set off v) (off + 1) vs) _
    have e : (ws.set off u).take (off + 1) ++ us ++ (ws.set off u).drop (off + 1 + us.length) = ws.take off ++ (u :: us) ++ ws.drop (off + (u :: us).length) := by
      have hoff : off < ws.length := by omega
      rw [List.take_set, List.drop_set]
      rw [if_pos (by omega)]
      have : (ws.take (off + 1)).set off u = ws.take off ++ [u] := by
        rw [List.take_succ_eq_append_getElem hoff, List.set_append, if_neg (by simp; omega)]
        simp [List.length_take, Nat.min_eq_left (Nat.le_of_lt hoff)]
      rw [this]
      simp [Nat.add_assoc, Nat.add_comm 1]
    rw [← e]
    exact ih

theorem over_length : ∀ (vs : List PV) (cs : List PV) (off : Nat), (over cs off vs).length = cs.length
  | [], cs, off => rfl
  | v :: vs, cs, off => by
    show (over (cs.set off v) (off + 1) vs).length = _
    rw [over_length, List.length_set]

end Go.Pev
