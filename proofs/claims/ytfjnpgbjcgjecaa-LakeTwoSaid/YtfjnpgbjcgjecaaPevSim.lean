/- A FRAME OF THE MACHINE AND A PLAIN STATE: what they have in common, and that the effects of operations keep it. -/
import Derived.Test.YtfjnpgbjcgjecaaPevNat
import Derived.Calls
import Derived.Laws.Tables
namespace Go.Pev
open Go.RowKit
set_option linter.unusedVariables false
set_option linter.unusedSimpArgs false

def rowSize : Option Box → Nat
  | some (.row ls _ _) => ls.length
  | _ => 0
def rowLen : Option Box → Nat
  | some (.row _ xs _) => xs.length
  | _ => 0

/-- What nobody computes: where variables lie, which rows are the call's own, which cells stay. -/
structure Gh where
  st : Nat → Nat → Prop
  bx : Nat → Option Nat
  own : Nat → Value
  osz : Nat → Nat

def ctx (s : St) (w : World) (g : Gh) : Ctx :=
  { w := w, st := g.st, bx := g.bx, tg := fun d k z v => k ≤ s.ver d ∧ (k = s.ver d → v = g.own d ∧ z = g.osz d), rs := fun d => rowSize (s.box d), rl := fun d => rowLen (s.box d) }

def ownBlock : Value → Option Nat
  | .slice (some a) _ _ => some a.block
  | _ => none

/-- A row of the call's own: behind its end nothing stays. -/
def OwnOk (g : Gh) (base : Nat) (w : World) (v : Value) (z : Nat) : Prop :=
  v = .slice none 0 0 ∨ ∃ B o len cap us T, v = .slice (some ⟨B, o, none⟩) len cap ∧ base ≤ B ∧ w.heap[B]? = some (.cells us T (0, 0)) ∧ o + cap * z ≤ us.size ∧ len ≤ cap ∧
    (∀ j, o + len * z ≤ j → ¬ g.st B j) ∧ (∀ d, g.bx d ≠ some B)

/-- The world at the call, and what stays in it. -/
structure Start extends World where
  keep : Nat → Nat → Prop

structure SimG (base : Nat) (w0 : Start) (n : Nat) (g : Gh) (s : St) (a : Act) (w : World) : Prop where
  ns : s.slots.length = n
  nb : s.boxes.length = n
  nv : s.vers.length = n
  slots : Reps (ctx s w g) s.slots a.tmps.toList
  defers : a.defers = []
  base_le : base ≤ w0.heap.size
  below : Below base w0.toWorld w
  nobox : ∀ d, s.box d = none → g.bx d = none
  cells : ∀ d cs fz, s.box d = some (.cells cs fz) → ∃ B us T, g.bx d = some B ∧ w.heap[B]? = some (.cells us T (0, 0)) ∧ base ≤ B ∧ Reps (ctx s w g) cs us.toList ∧
    (fz = true → ∀ o, o < us.size → g.st B o) ∧ (fz = false → ∀ o, ¬ g.st B o)
  rows : ∀ d ls xs fz, s.box d = some (.row ls xs fz) → ∃ B us T rws, g.bx d = some B ∧ w.heap[B]? = some (.cells us T (0, 0)) ∧ base ≤ B ∧ us.toList = rws.flatten ∧
    RepRows (ctx s w g) xs rws ∧ (∀ r ∈ rws, r.length = ls.length) ∧ (∀ x ∈ xs, confs ls x = true) ∧ (fz = true → ∀ o, o < us.size → g.st B o) ∧ (fz = false → ∀ o, ¬ g.st B o)
  inj : ∀ d d' B, g.bx d = some B → g.bx d' = some B → d = d'
  own : ∀ d, OwnOk g base w (g.own d) (g.osz d)
  apart : ∀ d d' B, d ≠ d' → ownBlock (g.own d) = some B → ownBlock (g.own d') ≠ some B
  stlt : ∀ B o, g.st B o → ∃ us T fr, w.heap[B]? = some (.cells us T fr) ∧ o < us.size
  news : ∀ B o, g.st B o → w0.keep B o ∨ base ≤ B

def Sim (base : Nat) (w0 : Start) (n : Nat) (s : St) (a : Act) (w : World) : Prop := ∃ g, SimG base w0 n g s a w

/-! ### reading and writing the state -/
theorem get_set (l : List (Option Box)) (d e : Nat) (b : Option Box) : (l.set d b).getD e none = if d = e ∧ d < l.length then b else l.getD e none := by
  simp only [List.getD_eq_getElem?_getD, List.getElem?_set]
  by_cases h : d = e
  · subst h
    by_cases hl : d < l.length
    · simp [hl]
    · simp [hl]
  · simp [h]

theorem ver_set (l : List Nat) (d e : Nat) (b : Nat) : (l.set d b).getD e 0 = if d = e ∧ d < l.length then b else l.getD e 0 := by
  simp only [List.getD_eq_getElem?_getD, List.getElem?_set]
  by_cases h : d = e
  · subst h
    by_cases hl : d < l.length
    · simp [hl]
    · simp [hl]
  · simp [h]

theorem putD_length (l : List PV) (dst : Option Nat) (v : PV) : (putD l dst v).length = l.length := by cases dst <;> simp [putD]

theorem Reps.putD {C : Ctx} {ps : List PV} {a : Act} (h : Reps C ps a.tmps.toList) {p : PV} {u : Value} (hp : Rep C p u) (dst : Option Nat) :
    Reps C (Pev.putD ps dst p) (a.put dst u).tmps.toList := by
  cases dst with
  | none => exact h
  | some d => simpa [Pev.putD, Act.put] using h.set hp d

theorem eval_rep {base n : Nat} {w0 : Start} {g : Gh} {s : St} {a : Act} {w : World} (h : SimG base w0 n g s a w) (t : Nat) (ht : t < n ∨ True) : Rep (ctx s w g) (s.get t) (a.eval (.tmp t)) := by
  by_cases hl : t < a.tmps.size
  · have := h.slots.get t a.tmps[t] (by simp [hl])
    simpa [Act.eval, St.get, nth, hl] using this
  · have hlen : s.slots.length ≤ t := by
      have := h.slots.length
      simp at this
      omega
    have : s.get t = .undef := by simp [St.get, List.getD_eq_getElem?_getD, List.getElem?_eq_none hlen]
    rw [this]
    trivial

/-- Only slots turn. -/
theorem SimG.val {base n : Nat} {w0 : Start} {g : Gh} {s : St} {a : Act} {w : World} (h : SimG base w0 n g s a w) {p : PV} {v : Value} (hp : Rep (ctx s w g) p v) (dst : Option Nat) :
    SimG base w0 n g { s with slots := putD s.slots dst p } (a.put dst v) w where
  ns := by rw [putD_length]; exact h.ns
  nb := h.nb
  nv := h.nv
  slots := Reps.putD (C := ctx s w g) h.slots hp dst
  defers := by cases dst <;> exact h.defers
  base_le := h.base_le
  below := h.below
  nobox := h.nobox
  cells := h.cells
  rows := h.rows
  inj := h.inj
  own := h.own
  apart := h.apart
  stlt := h.stlt
  news := h.news

theorem upd_val (s : St) (dst : Option Nat) (p : PV) : upd s dst (.val p) = { s with slots := putD s.slots dst p } := rfl
theorem upd_load (s : St) (dst : Option Nat) (d : Nat) (p : PV) : upd s dst (.load d p) = { s with slots := putD s.slots dst p } := rfl
theorem upd_skip (s : St) (dst : Option Nat) : upd s dst .skip = { s with slots := putD s.slots dst (.tup []) } := rfl

theorem rep_undef (C : Ctx) : Rep C (.tup []) undef := ⟨#[], rfl, rfl⟩

theorem OwnOk.mono {g g' : Gh} {base : Nat} {w w' : World} {v : Value} {z : Nat} (h : OwnOk g base w v z)
    (hw : ∀ B, ownBlock v = some B → w'.heap[B]? = w.heap[B]?) (hs : ∀ B o, ownBlock v = some B → g'.st B o → g.st B o)
    (hb : ∀ d B, ownBlock v = some B → g'.bx d = some B → g.bx d = some B) : OwnOk g' base w' v z := by
  rcases h with h | ⟨B, o, len, cap, us, T, rfl, h2, h3, h4, h5, h6, h7⟩
  · exact .inl h
  · exact .inr ⟨B, o, len, cap, us, T, rfl, h2, by rw [hw B rfl]; exact h3, h4, h5, fun j hj hq => h6 j hj (hs B j rfl hq), fun d hd => h7 d (hb d B rfl hd)⟩

/-- The world turns, and no box, no row of the call's own and nothing that stays. -/
theorem SimG.world {base n : Nat} {w0 : Start} {g : Gh} {s : St} {a : Act} {w w' : World} (h : SimG base w0 n g s a w) (hb : Below w.heap.size w w') (st' : Nat → Nat → Prop)
    (hst : ∀ B o, g.st B o → st' B o) (hnew : ∀ B o, st' B o → g.st B o ∨ w.heap.size ≤ B) (hlt : ∀ B o, st' B o → ∃ us T fr, w'.heap[B]? = some (.cells us T fr) ∧ o < us.size) :
    SimG base w0 n { g with st := st' } s a w' ∧ (ctx s w g).Le (ctx s w' { g with st := st' }) := by
  have hlt' : ∀ B us T fr, w.heap[B]? = some (Obj.cells us T fr) → B < w.heap.size := fun B us T fr e => by
    rcases Nat.lt_or_ge B w.heap.size with h | h
    · exact h
    · rw [Array.getElem?_eq_none h] at e; cases e
  have hle : (ctx s w g).Le (ctx s w' { g with st := st' }) := by
    refine ⟨hst, fun B o hq => ?_, fun _ _ h => h, fun _ _ _ _ h => h, fun _ _ _ => rfl, fun _ _ _ => rfl⟩
    obtain ⟨us, T, fr, e, _⟩ := h.stlt B o hq
    exact World.cell?_of_block (w := w) (hb.block B (hlt' _ _ _ _ e))
  refine ⟨?_, hle⟩
  exact
  { ns := h.ns, nb := h.nb, nv := h.nv, slots := h.slots.mono hle, defers := h.defers, base_le := h.base_le
    below := h.below.trans (hb.mono (Nat.le_trans h.base_le (Nat.le_trans h.below.size (Nat.le_refl _))))
    nobox := h.nobox
    cells := fun d cs fz e => by
      obtain ⟨B, us, T, h1, h2, h3, h4, h5, h6⟩ := h.cells d cs fz e
      have hB := hlt' _ _ _ _ h2
      refine ⟨B, us, T, h1, by rw [hb.block B hB]; exact h2, h3, h4.mono hle, fun e o ho => hst _ _ (h5 e o ho), fun e o ho => ?_⟩
      rcases hnew B o ho with hq | hq
      · exact h6 e o hq
      · omega
    rows := fun d ls xs fz e => by
      obtain ⟨B, us, T, rws, h1, h2, h3, h4, h5, h6, h7, h8, h9⟩ := h.rows d ls xs fz e
      have hB := hlt' _ _ _ _ h2
      refine ⟨B, us, T, rws, h1, by rw [hb.block B hB]; exact h2, h3, h4, h5.mono hle, h6, h7, fun e o ho => hst _ _ (h8 e o ho), fun e o ho => ?_⟩
      rcases hnew B o ho with hq | hq
      · exact h9 e o hq
      · omega
    inj := h.inj
    own := fun d => by
      rcases h.own d with hq | ⟨B, o, len, cap, us, T, h1, h2, h3, h4, h5, h6, h7⟩
      · exact .inl hq
      · have hB := hlt' _ _ _ _ h3
        refine .inr ⟨B, o, len, cap, us, T, h1, h2, by rw [hb.block B hB]; exact h3, h4, h5, fun j hj hq => ?_, h7⟩
        rcases hnew B j hq with hq | hq
        · exact h6 j hj hq
        · omega
    apart := h.apart
    stlt := hlt
    news := fun B o ho => (hnew B o ho).elim (h.news B o) fun hq => .inr (Nat.le_trans (Nat.le_trans h.base_le h.below.size) hq) }

theorem block_lt {w : World} {B : Nat} {o : Obj} (e : w.heap[B]? = some o) : B < w.heap.size := by
  rcases Nat.lt_or_ge B w.heap.size with h | h
  · exact h
  · rw [Array.getElem?_eq_none h] at e; cases e

theorem SimG.bx_lt {base n : Nat} {w0 : Start} {g : Gh} {s : St} {a : Act} {w : World} (h : SimG base w0 n g s a w) {d B : Nat} (hB : g.bx d = some B) :
    B < w.heap.size ∧ base ≤ B ∧ ∃ us T, w.heap[B]? = some (.cells us T (0, 0)) := by
  cases hb : s.box d with
  | none => rw [h.nobox d hb] at hB; cases hB
  | some b =>
    cases b with
    | cells cs fz =>
      obtain ⟨B', us, T, h1, h2, h3, _⟩ := h.cells d cs fz hb
      rw [h1] at hB; cases hB
      exact ⟨block_lt h2, h3, us, T, h2⟩
    | row ls xs fz =>
      obtain ⟨B', us, T, rws, h1, h2, h3, _⟩ := h.rows d ls xs fz hb
      rw [h1] at hB; cases hB
      exact ⟨block_lt h2, h3, us, T, h2⟩

theorem SimG.own_lt {base n : Nat} {w0 : Start} {g : Gh} {s : St} {a : Act} {w : World} (h : SimG base w0 n g s a w) {d B : Nat} (hB : ownBlock (g.own d) = some B) :
    B < w.heap.size ∧ base ≤ B ∧ (∀ d', g.bx d' ≠ some B) := by
  rcases h.own d with hq | ⟨B', o, len, cap, us, T, h1, h2, h3, h4, h5, h6, h7⟩
  · rw [hq] at hB; simp [ownBlock] at hB
  · rw [h1] at hB
    simp [ownBlock] at hB
    subst hB
    exact ⟨block_lt h3, h2, h7⟩

/-- A new row of the call's own, or one that has grown: what it was before is told no more as the newest. -/
theorem SimG.tag {base n : Nat} {w0 : Start} {g : Gh} {s : St} {a : Act} {w : World} (h : SimG base w0 n g s a w) {d : Nat} (hd : d < n) {w' : World} {st' : Nat → Nat → Prop} {v : Value} {ls : List LK} {xs : List (List PV)}
    (hb0 : Below base w w') (hblk : ∀ k, k < w.heap.size → ownBlock (g.own d) ≠ some k → w'.heap[k]? = w.heap[k]?)
    (hcell : ∀ B o, g.st B o → w'.cell? ⟨B, o, none⟩ = w.cell? ⟨B, o, none⟩) (hst : ∀ B o, g.st B o → st' B o)
    (hnew : ∀ B o, st' B o → g.st B o ∨ ownBlock (g.own d) = some B ∨ w.heap.size ≤ B)
    (hlt : ∀ B o, st' B o → ∃ us T fr, w'.heap[B]? = some (.cells us T fr) ∧ o < us.size)
    (hown : OwnOk { g with st := st' } base w' v ls.length) (hap : ∀ d' B, d' ≠ d → ownBlock v = some B → ownBlock (g.own d') ≠ some B)
    (hrep : Rep (ctx s w' { g with st := st' }) (.sl none ls xs) v) (dst : Option Nat) :
    SimG base w0 n { g with st := st', own := fun e => if e = d then v else g.own e, osz := fun e => if e = d then ls.length else g.osz e }
      { s with slots := putD s.slots dst (.sl (some (d, s.ver d + 1)) ls xs), vers := s.vers.set d (s.ver d + 1) } (a.put dst v) w' := by
  let g' : Gh := { g with st := st', own := fun e => if e = d then v else g.own e, osz := fun e => if e = d then ls.length else g.osz e }
  let s' : St := { s with slots := putD s.slots dst (.sl (some (d, s.ver d + 1)) ls xs), vers := s.vers.set d (s.ver d + 1) }
  have hver : ∀ e, s'.ver e = if d = e ∧ d < s.vers.length then s.ver d + 1 else s.ver e := fun e => ver_set _ _ _ _
  have htg : ∀ e k z u, (ctx s w g).tg e k z u → (ctx s' w' g').tg e k z u := by
    rintro e k z u ⟨h1, h2⟩
    show k ≤ s'.ver e ∧ (k = s'.ver e → u = (if e = d then v else g.own e) ∧ z = (if e = d then ls.length else g.osz e))
    rw [hver e]
    by_cases he : d = e
    · subst he
      rw [if_pos ⟨rfl, by rw [h.nv]; exact hd⟩]
      exact ⟨by omega, fun hk => by omega⟩
    · rw [if_neg (fun x => he x.1), if_neg (fun x => he x.symm), if_neg (fun x => he x.symm)]
      exact ⟨h1, h2⟩
  have hle : (ctx s w g).Le (ctx s' w' g') := ⟨hst, hcell, fun _ _ h => h, htg, fun _ _ _ => rfl, fun _ _ _ => rfl⟩
  have hle' : (ctx s w' { g with st := st' }).Le (ctx s' w' g') := ⟨fun _ _ h => h, fun _ _ _ => rfl, fun _ _ h => h, htg, fun _ _ _ => rfl, fun _ _ _ => rfl⟩
  have hvrep : Rep (ctx s' w' g') (.sl (some (d, s.ver d + 1)) ls xs) v := by
    obtain ⟨A, cap, rows, h1, h2, h3, h4, h5, h6, _⟩ := Rep.mono hle' _ _ hrep
    refine ⟨A, cap, rows, h1, h2, h3, h4, h5, h6, fun d' k e => ?_⟩
    cases e
    show s.ver d + 1 ≤ s'.ver d ∧ (s.ver d + 1 = s'.ver d → v = (if d = d then v else g.own d) ∧ ls.length = (if d = d then ls.length else g.osz d))
    rw [hver d, if_pos ⟨rfl, by rw [h.nv]; exact hd⟩, if_pos rfl, if_pos rfl]
    exact ⟨Nat.le_refl _, fun _ => ⟨rfl, rfl⟩⟩
  have hbxne : ∀ e B, g.bx e = some B → ownBlock (g.own d) ≠ some B := fun e B hB hq => (h.own_lt hq).2.2 e hB
  exact
  { ns := by show (putD _ _ _).length = n; rw [putD_length]; exact h.ns
    nb := h.nb
    nv := by show (s.vers.set _ _).length = n; rw [List.length_set]; exact h.nv
    slots := Reps.putD (Reps.mono hle _ _ h.slots) hvrep dst
    defers := by cases dst <;> exact h.defers
    base_le := h.base_le
    below := h.below.trans hb0
    nobox := h.nobox
    cells := fun e cs fz he => by
      obtain ⟨B, us, T, h1, h2, h3, h4, h5, h6⟩ := h.cells e cs fz he
      have hB := block_lt h2
      refine ⟨B, us, T, h1, by rw [hblk B hB (hbxne e B h1)]; exact h2, h3, Reps.mono hle _ _ h4, fun e o ho => hst _ _ (h5 e o ho), fun hf o ho => ?_⟩
      rcases hnew B o ho with hq | hq | hq
      · exact h6 hf o hq
      · exact hbxne e B h1 hq
      · omega
    rows := fun e ls xs fz he => by
      obtain ⟨B, us, T, rws, h1, h2, h3, h4, h5, h6, h7, h8, h9⟩ := h.rows e ls xs fz he
      have hB := block_lt h2
      refine ⟨B, us, T, rws, h1, by rw [hblk B hB (hbxne e B h1)]; exact h2, h3, h4, RepRows.mono hle _ _ h5, h6, h7, fun e o ho => hst _ _ (h8 e o ho), fun hf o ho => ?_⟩
      rcases hnew B o ho with hq | hq | hq
      · exact h9 hf o hq
      · exact hbxne e B h1 hq
      · omega
    inj := h.inj
    own := fun e => by
      show OwnOk g' base w' (if e = d then v else g.own e) (if e = d then ls.length else g.osz e)
      by_cases he : e = d
      · rw [if_pos he, if_pos he]
        exact hown
      · rw [if_neg he, if_neg he]
        refine (h.own e).mono (fun B hB => hblk B (h.own_lt hB).1 fun hq => h.apart e d B he hB hq) (fun B o hB ho => ?_) (fun _ _ _ h => h)
        rcases hnew B o ho with hq | hq | hq
        · exact hq
        · exact absurd hq (h.apart e d B he hB)
        · have := (h.own_lt hB).1
          omega
    apart := fun e e' B hne hB hq => by
      have hB : ownBlock (if e = d then v else g.own e) = some B := hB
      have hq : ownBlock (if e' = d then v else g.own e') = some B := hq
      by_cases he : e = d
      · by_cases he' : e' = d
        · exact hne (he.trans he'.symm)
        · rw [if_pos he] at hB
          rw [if_neg he'] at hq
          exact hap e' B he' hB hq
      · rw [if_neg he] at hB
        by_cases he' : e' = d
        · rw [if_pos he'] at hq
          exact hap e B he hq hB
        · rw [if_neg he'] at hq
          exact h.apart e e' B hne hB hq
    stlt := hlt
    news := fun B o ho => (hnew B o ho).elim (h.news B o) fun hq => hq.elim (fun hq => .inr (h.own_lt hq).2.1) fun hq => .inr (Nat.le_trans (Nat.le_trans h.base_le h.below.size) hq) }

theorem rowSize_freeze (b : Option Box) : rowSize (freezeBox b) = rowSize b := by
  cases b with
  | none => rfl
  | some b => cases b <;> rfl
theorem rowLen_freeze (b : Option Box) : rowLen (freezeBox b) = rowLen b := by
  cases b with
  | none => rfl
  | some b => cases b <;> rfl

/-- A variable that is written no more: its cells stay. -/
theorem SimG.freeze1 {base n : Nat} {w0 : Start} {g : Gh} {s : St} {a : Act} {w : World} (h : SimG base w0 n g s a w) (d : Nat) :
    ∃ g', SimG base w0 n g' { s with boxes := s.boxes.set d (freezeBox (s.box d)) } a w ∧ (ctx s w g).Le (ctx { s with boxes := s.boxes.set d (freezeBox (s.box d)) } w g') ∧ g'.bx = g.bx ∧
      ∀ B, g.bx d = some B → ∀ us T fr, w.heap[B]? = some (.cells us T fr) → ∀ o, o < us.size → g'.st B o := by
  let s' : St := { s with boxes := s.boxes.set d (freezeBox (s.box d)) }
  let g' : Gh := { g with st := fun B o => g.st B o ∨ (g.bx d = some B ∧ ∃ us T fr, w.heap[B]? = some (.cells us T fr) ∧ o < us.size) }
  have hbox : ∀ e, s'.box e = if d = e ∧ d < s.boxes.length then freezeBox (s.box d) else s.box e := fun e => get_set _ _ _ _
  have hbox' : ∀ e, s'.box e = s.box e ∨ (e = d ∧ s'.box e = freezeBox (s.box e)) := fun e => by
    rw [hbox e]
    split
    · rename_i q
      rw [← q.1]
      exact .inr ⟨rfl, rfl⟩
    · exact .inl rfl
  have hle : (ctx s w g).Le (ctx s' w g') := by
    refine ⟨fun _ _ h => .inl h, fun _ _ _ => rfl, fun _ _ h => h, fun _ _ _ _ h => h, fun e _ _ => ?_, fun e _ _ => ?_⟩
    · show rowSize (s'.box e) = rowSize (s.box e)
      rcases hbox' e with hq | ⟨_, hq⟩
      · rw [hq]
      · rw [hq, rowSize_freeze]
    · show rowLen (s'.box e) = rowLen (s.box e)
      rcases hbox' e with hq | ⟨_, hq⟩
      · rw [hq]
      · rw [hq, rowLen_freeze]
  refine ⟨g', ?_, hle, rfl, fun B hB us T fr hh o ho => .inr ⟨hB, us, T, fr, hh, ho⟩⟩
  exact
  { ns := h.ns
    nb := by show (s.boxes.set _ _).length = n; rw [List.length_set]; exact h.nb
    nv := h.nv
    slots := Reps.mono hle _ _ h.slots
    defers := h.defers
    base_le := h.base_le
    below := h.below
    nobox := fun e he => by
      refine h.nobox e ?_
      rcases hbox' e with hq | ⟨_, hq⟩
      · rw [← hq]; exact he
      · rw [hq] at he
        cases hs : s.box e with
        | none => rfl
        | some b => rw [hs] at he; cases b <;> simp [freezeBox] at he
    cells := fun e cs fz he => by
      have key : ∃ fz0, s.box e = some (.cells cs fz0) ∧ (fz = fz0 ∨ (e = d ∧ fz = true)) := by
        rcases hbox' e with hq | ⟨hed, hq⟩
        · exact ⟨fz, by rw [← hq]; exact he, .inl rfl⟩
        · rw [hq] at he
          cases hs : s.box e with
          | none => rw [hs] at he; cases he
          | some b =>
            rw [hs] at he
            cases b with
            | cells cs' f' =>
              simp only [freezeBox, Option.some.injEq, Box.cells.injEq] at he
              exact ⟨f', by rw [he.1], .inr ⟨hed, he.2.symm⟩⟩
            | row ls xs f => simp [freezeBox] at he
      obtain ⟨fz0, hs, hfz⟩ := key
      obtain ⟨B, us, T, h1, h2, h3, h4, h5, h6⟩ := h.cells e cs fz0 hs
      refine ⟨B, us, T, h1, h2, h3, Reps.mono hle _ _ h4, fun hf o ho => ?_, fun hf o ho => ?_⟩
      · rcases hfz with hfz | ⟨hed, _⟩
        · exact .inl (h5 (hfz ▸ hf) o ho)
        · exact .inr ⟨hed ▸ h1, us, T, _, h2, ho⟩
      · rcases hfz with hfz | ⟨_, hfz⟩
        · rcases ho with ho | ⟨ho, us', T', fr', h2', ho'⟩
          · exact h6 (hfz ▸ hf) o ho
          · have hed : d = e := h.inj d e B ho h1
            -- box d was frozen just now, but this one is not
            rcases hbox' e with hq | ⟨_, hq⟩
            · have := hbox e
              by_cases hl : d < s.boxes.length
              · rw [if_pos ⟨hed, hl⟩, hed, hs] at this
                rw [this] at he
                simp only [freezeBox, Option.some.injEq, Box.cells.injEq] at he
                rw [hf] at he
                cases he.2
              · have hnone : s.box e = none := by
                  unfold St.box
                  rw [List.getD_eq_getElem?_getD, List.getElem?_eq_none (by omega)]
                  rfl
                rw [hnone] at hs; cases hs
            · rw [hq, hs] at he
              simp only [freezeBox, Option.some.injEq, Box.cells.injEq] at he
              rw [hf] at he
              cases he.2
        · rw [hf] at hfz; cases hfz
    rows := fun e ls xs fz he => by
      have key : ∃ fz0, s.box e = some (.row ls xs fz0) ∧ (fz = fz0 ∨ (e = d ∧ fz = true)) := by
        rcases hbox' e with hq | ⟨hed, hq⟩
        · exact ⟨fz, by rw [← hq]; exact he, .inl rfl⟩
        · rw [hq] at he
          cases hs : s.box e with
          | none => rw [hs] at he; cases he
          | some b =>
            rw [hs] at he
            cases b with
            | cells cs' f' => simp [freezeBox] at he
            | row ls' xs' f =>
              simp only [freezeBox, Option.some.injEq, Box.row.injEq] at he
              exact ⟨f, by rw [he.1, he.2.1], .inr ⟨hed, he.2.2.symm⟩⟩
      obtain ⟨fz0, hs, hfz⟩ := key
      obtain ⟨B, us, T, rws, h1, h2, h3, h4, h5, h6, h7, h8, h9⟩ := h.rows e ls xs fz0 hs
      refine ⟨B, us, T, rws, h1, h2, h3, h4, RepRows.mono hle _ _ h5, h6, h7, fun hf o ho => ?_, fun hf o ho => ?_⟩
      · rcases hfz with hfz | ⟨hed, _⟩
        · exact .inl (h8 (hfz ▸ hf) o ho)
        · exact .inr ⟨hed ▸ h1, us, T, _, h2, ho⟩
      · rcases hfz with hfz | ⟨_, hfz⟩
        · rcases ho with ho | ⟨ho, us', T', fr', h2', ho'⟩
          · exact h9 (hfz ▸ hf) o ho
          · have hed : d = e := h.inj d e B ho h1
            have := hbox e
            by_cases hl : d < s.boxes.length
            · rw [if_pos ⟨hed, hl⟩, hed, hs] at this
              rw [this] at he
              simp only [freezeBox, Option.some.injEq, Box.row.injEq] at he
              rw [hf] at he
              cases he.2.2
            · have hnone : s.box e = none := by
                unfold St.box
                rw [List.getD_eq_getElem?_getD, List.getElem?_eq_none (by omega)]
                rfl
              rw [hnone] at hs; cases hs
        · rw [hf] at hfz; cases hfz
    inj := h.inj
    own := fun e => (h.own e).mono (fun _ _ => rfl) (fun B o hB ho => by
      rcases ho with ho | ⟨ho, _⟩
      · exact ho
      · exact absurd ho ((h.own_lt hB).2.2 d)) (fun _ _ _ h => h)
    apart := h.apart
    news := fun B o ho => ho.elim (h.news B o) fun hq => .inr (h.bx_lt hq.1).2.1
    stlt := fun B o ho => by
      rcases ho with ho | ⟨_, us, T, fr, h1, h2⟩
      · exact h.stlt B o ho
      · exact ⟨us, T, fr, h1, h2⟩ }

theorem SimG.freeze {base n : Nat} {w0 : Start} {a : Act} {w : World} : ∀ (ds : List Nat) {g : Gh} {s : St} (h : SimG base w0 n g s a w),
    ∃ g', SimG base w0 n g' { s with boxes := edit s.boxes (ds.map fun d => (d, freezeBox)) } a w ∧ (ctx s w g).Le (ctx { s with boxes := edit s.boxes (ds.map fun d => (d, freezeBox)) } w g') ∧ g'.bx = g.bx ∧
      ∀ d, d ∈ ds → ∀ B, g.bx d = some B → ∀ us T fr, w.heap[B]? = some (.cells us T fr) → ∀ o, o < us.size → g'.st B o
  | [], g, s, h => ⟨g, h, Ctx.Le.refl _, rfl, fun d hd => by cases hd⟩
  | d :: ds, g, s, h => by
    obtain ⟨g1, h1, l1, b1, c1⟩ := h.freeze1 d
    obtain ⟨g2, h2, l2, b2, c2⟩ := SimG.freeze ds h1
    refine ⟨g2, h2, l1.trans l2, b2.trans b1, fun e he B hB us T fr hh o ho => ?_⟩
    rcases List.mem_cons.1 he with rfl | he
    · exact l2.st _ _ (c1 B hB us T fr hh o ho)
    · exact c2 e he B (by rw [b1]; exact hB) us T fr hh o ho

end Go.Pev
