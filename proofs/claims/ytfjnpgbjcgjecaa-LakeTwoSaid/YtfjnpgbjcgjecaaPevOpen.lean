/- THE ARGUMENTS OF A ROW, OPENED: plain values stand for them. -/
import Derived.Test.YtfjnpgbjcgjecaaPevTabKit
import Derived.Deep.Slices
import Derived.OpenShut
namespace Go.Pev
open Go.RowKit
set_option linter.unusedVariables false
set_option linter.unusedSimpArgs false

/-- The types whose values are told by leaf kinds alone. -/
def partsOk (E : Env) (ok : Nat → List LK → Bool) : List (Nat × Nat) → Nat → List LK → Bool
  | [], _, ls => ls.isEmpty
  | p :: ps, off, ls => match E.ty p.1 with
    | some tp => Nat.beq p.2 off && Nat.ble tp.size ls.length && ok p.1 (ls.take tp.size) && partsOk E ok ps (off + tp.size) (ls.drop tp.size)
    | none => false

def lkOk (E : Env) : Nat → Nat → List LK → Bool
  | 0, _, _ => false
  | d + 1, t, ls => match E.ty t with
    | none => false
    | some ti => Nat.beq ti.size ls.length && match ti.desc with
      | .int k => sameLK ls [.int k]
      | .bool => sameLK ls [.bool]
      | .string => sameLK ls [.str]
      | .slice e => match ls, E.ty e with
        | [.sl l], some te => lkOk E d e l && Nat.beq te.size l.length && !l.isEmpty && sameLK l l
        | _, _ => false
      | .struct fs => partsOk E (lkOk E d) (fs.toList.map fun f => (f.type, f.offset)) 0 ls
      | .array n e => match E.ty e with
        | some te => partsOk E (lkOk E d) ((List.range n).map fun i => (e, i * te.size)) 0 ls
        | none => false
      | _ => false

-- What a read value keeps to.
mutual
def fit : PV → Prop
  | .int k n => (Lit.int k n).wf = true
  | .str s => s.size ≤ maxLen
  | .sl _ ls xs => List.length xs ≤ maxLen ∧ (∀ y ∈ xs, confs ls y = true) ∧ fitRows xs
  | .agg cs => fits cs
  | _ => True
termination_by structural x => x
def fits : List PV → Prop
  | [] => True
  | p :: ps => fit p ∧ fits ps
termination_by structural x => x
def fitRows : List (List PV) → Prop
  | [] => True
  | p :: ps => fits p ∧ fitRows ps
termination_by structural x => x
end

theorem fits_append : ∀ {ps qs : List PV}, fits ps → fits qs → fits (ps ++ qs)
  | [], qs, _, h => h
  | p :: ps, qs, ⟨h1, h2⟩, h => ⟨h1, fits_append h2 h⟩
theorem fitRows_append : ∀ {ps qs : List (List PV)}, fitRows ps → fitRows qs → fitRows (ps ++ qs)
  | [], qs, _, h => h
  | p :: ps, qs, ⟨h1, h2⟩, h => ⟨h1, fitRows_append h2 h⟩

theorem confs_append : ∀ {ls ms : List LK} {ps qs : List PV}, confs ls ps = true → confs ms qs = true → confs (ls ++ ms) (ps ++ qs) = true
  | [], ms, ps, qs, h, k => by rw [confs_nil h]; exact k
  | l :: ls, ms, ps, qs, h, k => by
    obtain ⟨c, cs, rfl, h1, h2⟩ := confs_cons h
    show (conf l c && confs (ls ++ ms) (cs ++ qs)) = true
    rw [h1, confs_append h2 k]
    rfl

/-- All that stands. -/
def allSt (w : World) : Nat → Nat → Prop := fun B o => ∃ us T fr, w.heap[B]? = some (.cells us T fr) ∧ o < us.size

section
variable {H : Type} {enc : TypeId × Value → H} {P : Program} {E : Env} {w : World} {base : Nat} {spare : Nat → Bool} {held : Bool}

theorem TyOk.cellsOf {t : Nat} {ti : TI} (h : TyOk P t ti) : P.cellsOf t = ti.size := by
  obtain ⟨i, z, h1, h2, _⟩ := h.info
  simp [Program.cellsOf, h1, h2]

theorem mapM_range {n : Nat} {g : Nat → Option Value} {vs : List Value} (h : (List.range n).mapM g = some vs) : vs.length = n ∧ ∀ i, i < n → g i = vs[i]? := by
  have key : ∀ (l : List Nat) (vs : List Value), l.mapM g = some vs → vs.length = l.length ∧ ∀ i (h : i < l.length), g l[i] = vs[i]? := by
    intro l
    induction l with
    | nil => intro vs h; simp at h; subst h; simp
    | cons a l ih =>
      intro vs h
      simp only [List.mapM_cons, Option.bind_eq_bind, Option.bind_eq_some_iff, Option.pure_def, Option.some.injEq] at h
      obtain ⟨v, hv, vs', hvs, rfl⟩ := h
      obtain ⟨h1, h2⟩ := ih vs' hvs
      refine ⟨by simp [h1], fun i hi => ?_⟩
      cases i with
      | zero => simpa using hv
      | succ i => simpa using h2 i (by simpa using hi)
  obtain ⟨h1, h2⟩ := key _ _ h
  refine ⟨by simpa using h1, fun i hi => ?_⟩
  have := h2 i (by simpa using hi)
  simpa using this

theorem cell_allSt {B o : Nat} {u : Value} (h : w.cell? ⟨B, o, none⟩ = some u) : allSt w B o := by
  unfold World.cell? at h
  split at h
  · rename_i us T fr hh
    simp only [Option.isSome_none, Bool.false_eq_true, if_false] at h
    exact ⟨us, T, fr, hh, (Array.getElem?_eq_some_iff.1 h).1⟩
  · cases h

theorem flatten_at {sz : Nat} : ∀ {rows : List (List Value)}, (∀ r ∈ rows, r.length = sz) → ∀ {j : Nat} {u : Value}, rows.flatten[j]? = some u → ∃ (i r : Nat) (row : List Value), rows[i]? = some row ∧ row[r]? = some u ∧ j = i * sz + r
  | [], _, j, u, h => by simp at h
  | row :: rows, hl, j, u, h => by
    have h0 := hl row (List.mem_cons_self ..)
    rw [List.flatten_cons] at h
    by_cases hj : j < row.length
    · rw [List.getElem?_append_left hj] at h
      exact ⟨0, j, row, rfl, h, by simp⟩
    · rw [List.getElem?_append_right (by omega)] at h
      obtain ⟨i, r, row', h1, h2, h3⟩ := flatten_at (fun r hr => hl r (List.mem_cons_of_mem _ hr)) h
      exact ⟨i + 1, r, row', by simpa using h1, h2, by rw [Nat.succ_mul]; omega⟩

theorem open_parts (O : ∀ t ti, E.ty t = some ti → TyOk P t ti) {ok : Nat → List LK → Bool} {n : Nat} {cs : List Value}
    (ih : ∀ t ls cs x, ok t ls = true → DataW.trod enc P w base spare held n t cs = some x → ∃ ps, confs ls ps = true ∧ Reps (plainCtx w (allSt w)) ps cs ∧ fits ps) :
    ∀ (L : List (Nat × Nat)) (off : Nat) (ls : List LK), partsOk E ok L off ls = true → off + ls.length = cs.length → (∀ p ∈ L, ∃ y, DataW.trod enc P w base spare held n p.1 ((cs.drop p.2).take (P.cellsOf p.1)) = some y) →
      ∃ ps, confs ls ps = true ∧ Reps (plainCtx w (allSt w)) ps (cs.drop off) ∧ fits ps
  | [], off, ls, h, hl, hp => by
    have : ls = [] := by simpa [partsOk] using h
    subst this
    have h0 : off = cs.length := by simpa using hl
    exact ⟨[], rfl, by rw [h0, List.drop_length]; rfl, trivial⟩
  | p :: L, off, ls, h, hl, hp => by
    unfold partsOk at h
    split at h
    · rename_i tp htp
      simp only [Bool.and_eq_true] at h
      obtain ⟨⟨⟨h1, h2⟩, h3⟩, h4⟩ := h
      have h1 := Nat.eq_of_beq_eq_true h1
      have h2 := Nat.le_of_ble_eq_true h2
      obtain ⟨y, hy⟩ := hp p (List.mem_cons_self ..)
      rw [(O _ _ htp).cellsOf, h1] at hy
      obtain ⟨ps, e1, e2, e3⟩ := ih _ _ _ _ h3 hy
      obtain ⟨qs, f1, f2, f3⟩ := open_parts O ih L (off + tp.size) (ls.drop tp.size) h4 (by simp; omega) fun q hq => hp q (List.mem_cons_of_mem _ hq)
      refine ⟨ps ++ qs, ?_, ?_, fits_append e3 f3⟩
      · have := confs_append e1 f1
        rwa [List.take_append_drop] at this
      · have := e2.append f2
        rwa [← List.drop_drop, List.take_append_drop] at this
    · cases h

theorem open_cells (O : ∀ t ti, E.ty t = some ti → TyOk P t ti) : ∀ (d t : Nat) (ls : List LK) (fuel : Nat) (cs : List Value) (x : DataW H × List MemPlace), lkOk E d t ls = true → DataW.trod enc P w base spare held fuel t cs = some x →
    ∃ ps, confs ls ps = true ∧ Reps (plainCtx w (allSt w)) ps cs ∧ fits ps := by
  intro d
  induction d with
  | zero => intro t ls fuel cs x h; cases h
  | succ d ih =>
    intro t ls fuel cs x h hx
    unfold lkOk at h
    split at h
    · cases h
    · rename_i ti hti
      have hT := O _ _ hti
      have hu := hT.und
      rw [Bool.and_eq_true] at h
      obtain ⟨hsz, h⟩ := h
      have hsz := Nat.eq_of_beq_eq_true hsz
      split at h
      · rename_i k hd
        rw [hd] at hu
        obtain ⟨m, rfl, _, hw⟩ := DataW.trod_int hu hx
        rw [sameLK_eq _ _ h]
        exact ⟨[.int k m], by simp [confs, conf], ⟨_, [], rfl, rfl, rfl⟩, hw, trivial⟩
      · rename_i hd
        rw [hd] at hu
        obtain ⟨b, rfl, _⟩ := DataW.trod_bool hu hx
        rw [sameLK_eq _ _ h]
        exact ⟨[.bool b], by simp [confs, conf], ⟨_, [], rfl, rfl, rfl⟩, trivial, trivial⟩
      · rename_i hd
        rw [hd] at hu
        obtain ⟨s, rfl, _, hw⟩ := DataW.trod_string hu hx
        rw [sameLK_eq _ _ h]
        exact ⟨[.str s], by simp [confs, conf], ⟨_, [], rfl, rfl, rfl⟩, hw, trivial⟩
      · rename_i e hd
        rw [hd] at hu
        split at h
        · rename_i l te hte _
          simp only [Bool.and_eq_true] at h
          obtain ⟨⟨⟨h1, h2⟩, h3⟩, sref⟩ := h
          have h2 := Nat.eq_of_beq_eq_true h2
          have hne : l ≠ [] := by simpa using h3
          have hce : P.cellsOf e = l.length := by rw [(O _ _ hte).cellsOf, h2]
          rcases Deep.open_slice hu hx with ⟨rfl, _⟩ | ⟨a, len, cap, m, n, D, Pl, rfl, hb, hlc, hcm, hm, _, hel⟩
          · exact ⟨[.sl none l []], by simp [confs, conf, sref], ⟨_, [], rfl, rep_nil _ _, rfl⟩, ⟨Nat.zero_le _, by simp, trivial⟩, trivial⟩
          · have hlm : len ≤ m := by rw [hm]; split <;> omega
            have key : ∀ k, k ≤ len → ∃ (xs : List (List PV)) (rows : List (List Value)), rows.length = k ∧ RepRows (plainCtx w (allSt w)) xs rows ∧ (∀ i row, rows[i]? = some row → w.cells? base (a.add (i * l.length)) l.length = some row) ∧ (∀ y ∈ xs, confs l y = true) ∧ fitRows xs := by
              intro k
              induction k with
              | zero => intro _; exact ⟨[], [], rfl, rfl, by simp, by simp, trivial⟩
              | succ k ihk =>
                intro hk
                obtain ⟨xs, rows, e1, e2, e3, e4, e5⟩ := ihk (by omega)
                obtain ⟨cs', c1, c2⟩ := hel k (by omega)
                rw [hce] at c1
                obtain ⟨ps, p1, p2, p3⟩ := ih _ _ _ _ _ h1 c2
                refine ⟨xs ++ [ps], rows ++ [cs'], by simp [e1], e2.append ⟨_, [], rfl, p2, rfl⟩, fun i row hi => ?_, fun y hy => ?_, fitRows_append e5 ⟨p3, trivial⟩⟩
                · by_cases hik : i < k
                  · rw [List.getElem?_append_left (by omega)] at hi
                    exact e3 i row hi
                  · rw [List.getElem?_append_right (by omega), e1] at hi
                    have : i = k := by
                      have := (List.getElem?_eq_some_iff.1 hi).1
                      simp at this
                      omega
                    subst this
                    simp at hi
                    subst hi
                    exact c1
                · rcases List.mem_append.1 hy with hy | hy
                  · exact e4 y hy
                  · simp at hy; subst hy; exact p1
            obtain ⟨xs, rows, e1, e2, e3, e4, e5⟩ := key len (Nat.le_refl _)
            have hxl := e2.length
            have hcell : ∀ i row, rows[i]? = some row → row.length = l.length ∧ ∀ r, r < l.length → w.cell? ((a.add (i * l.length)).add r) = row[r]? := fun i row hi => by
              have := e3 i row hi
              unfold World.cells? at this
              split at this
              · obtain ⟨q1, q2⟩ := mapM_range this
                exact ⟨q1, q2⟩
              · cases this
            have hrl : ∀ r ∈ rows, r.length = l.length := fun r hr => by
              obtain ⟨i, hi⟩ := List.getElem?_of_mem hr
              exact (hcell i r hi).1
            refine ⟨[.sl none l xs], by simp [confs, conf, sref], ⟨_, [], rfl, ⟨some a, cap, rows, by rw [e1], by omega, e2, hrl, ?_, e4, fun d k e => by cases e⟩, rfl⟩, ⟨by rw [← hxl, e1]; omega, e4, e5⟩, trivial⟩
            by_cases hr0 : rows = []
            · exact .inl hr0
            · right
              have hl0 : 0 < l.length := List.length_pos_iff.2 hne
              have hspot : a.spot = none := by
                obtain ⟨row, hrow⟩ : ∃ row, rows[0]? = some row := by
                  cases rows with
                  | nil => exact absurd rfl hr0
                  | cons row _ => exact ⟨row, rfl⟩
                obtain ⟨q1, q2⟩ := hcell 0 row hrow
                have := q2 0 hl0
                simp only [Nat.zero_mul, Addr.add, if_true] at this
                rw [List.getElem?_eq_getElem (by omega)] at this
                unfold World.cell? at this
                split at this
                · split at this
                  · cases this
                  · rename_i hs
                    simpa using hs
                · cases this
              obtain ⟨B, o, sp⟩ := a
              simp only at hspot
              subst hspot
              refine ⟨B, o, rfl, fun j u hj => ?_⟩
              obtain ⟨i, r, row, g1, g2, rfl⟩ := flatten_at hrl hj
              have hr : r < l.length := by
                have := (List.getElem?_eq_some_iff.1 g2).1
                rw [(hcell i row g1).1] at this
                exact this
              have := (hcell i row g1).2 r hr
              rw [g2, addr_add, addr_add, Nat.add_assoc] at this
              exact ⟨this, cell_allSt this⟩
        · cases h
      · rename_i fs hd
        rw [hd] at hu
        obtain ⟨xs, n, rfl, _, hlen, hxl, hf⟩ := DataW.trod_struct hu hx
        rw [hT.cellsOf, hsz] at hlen
        have := open_parts (cs := cs) O (ih · · n · ·) _ 0 ls h (by omega) fun p hp => by
          obtain ⟨f, hfm, rfl⟩ := List.mem_map.1 hp
          obtain ⟨i, hi⟩ := List.getElem?_of_mem hfm
          have hi' : fs[i]? = some f := by simpa using hi
          have hlt : i < xs.length := by
            have := (Array.getElem?_eq_some_iff.1 hi').1
            omega
          exact ⟨xs[i], by rw [hf i f hi', List.getElem?_eq_getElem hlt]⟩
        simpa using this
      · rename_i n e hd
        rw [hd] at hu
        split at h
        · rename_i te hte
          obtain ⟨xs, m, rfl, _, hlen, hxl, hf⟩ := DataW.trod_array hu hx
          rw [hT.cellsOf, hsz] at hlen
          have := open_parts (cs := cs) O (ih · · m · ·) _ 0 ls h (by omega) fun p hp => by
            obtain ⟨i, him, rfl⟩ := List.mem_map.1 hp
            have hi := List.mem_range.1 him
            have := hf i hi
            rw [(O _ _ hte).cellsOf] at this
            refine ⟨xs[i], ?_⟩
            dsimp only
            rw [(O _ _ hte).cellsOf, this, List.getElem?_eq_getElem (by omega)]
          simpa using this
        · cases h
      · cases h

end
end Go.Pev
