/- AT A LOOP'S HEAD: what is forgotten. -/
import Derived.Test.YtfjnpgbjcgjecaaPevAny
namespace Go.Pev
open Go.RowKit
set_option linter.unusedVariables false
set_option linter.unusedSimpArgs false

theorem scrubs_length (h : Hd) (vers : List Nat) : ∀ ps : List PV, (scrubs h vers ps).length = ps.length
  | [] => rfl
  | p :: ps => by simp [scrubs, scrubs_length h vers ps]

theorem forget_length : ∀ (ds : List Nat) (l : List PV), (forget l ds).length = l.length
  | [], l => rfl
  | d :: ds, l => by simp only [forget]; rw [forget_length]; simp

theorem scrubBox_length (h : Hd) (vers : List Nat) : ∀ (i : Nat) (bs : List (Option Box)), (scrubBox h vers i bs).length = bs.length
  | _, [] => rfl
  | i, b :: bs => by simp [scrubBox, scrubBox_length h vers (i + 1) bs]

theorem scrubBox_get (h : Hd) (vers : List Nat) : ∀ (i : Nat) (bs : List (Option Box)) (d : Nat), (scrubBox h vers i bs).getD d none = if h.drop.contains (i + d) then none else match bs.getD d none with
      | some (.cells cs f) => some (.cells (scrubs h vers cs) f)
      | b => b
  | i, [], d => by simp [scrubBox]
  | i, b :: bs, 0 => by
    simp only [scrubBox, List.getD_cons_zero, Nat.add_zero]
    cases b with
    | none => rfl
    | some b => cases b <;> rfl
  | i, b :: bs, d + 1 => by
    simp only [scrubBox, List.getD_cons_succ]
    rw [scrubBox_get h vers (i + 1) bs d, Nat.add_right_comm, Nat.add_assoc]

theorem Reps.set_undef {C : Ctx} {ps : List PV} {us : List Value} (h : Reps C ps us) (d : Nat) : Reps C (ps.set d .undef) us := by
  refine Reps.of_get (by rw [List.length_set]; exact h.length) fun i u hu => ?_
  by_cases q : d = i
  · subst q
    simp only [nth, List.getD_eq_getElem?_getD, List.getElem?_set]
    split
    · split <;> trivial
    · rename_i q; exact absurd trivial q
  · have := h.get i u hu
    simpa [nth, List.getD_eq_getElem?_getD, List.getElem?_set_ne q] using this

theorem Reps.forget {C : Ctx} {us : List Value} : ∀ (ds : List Nat) {ps : List PV}, Reps C ps us → Reps C (Pev.forget ps ds) us
  | [], ps, h => h
  | d :: ds, ps, h => Reps.forget ds (h.set_undef d)

/-- How the contexts stand to each other. -/
structure Scr (h : Hd) (vers : List Nat) (C C' : Ctx) : Prop where
  le0 : C.Le0 C'
  bx : ∀ d B, h.drop.contains d = false → C.bx d = some B → C'.bx d = some B
  rs : ∀ d, h.drop.contains d = false → C'.rs d = C.rs d
  rl : ∀ d, h.drop.contains d = false → C'.rl d = C.rl d
  tg : ∀ d z v, C.tg d (vers.getD d 0) z v → C'.tg d 0 z v

mutual
theorem Rep.scrub {h : Hd} {vers : List Nat} {C C' : Ctx} (H : Scr h vers C C') : (p : PV) → (v : Value) → Rep C p v → Rep C' (scrub h vers p) v
  | .undef, v, r => trivial
  | .bool b, v, r => r
  | .int k n, v, r => r
  | .str s, v, r => r
  | .nilp, v, r => r
  | .ptr d off, v, r => by
    obtain ⟨B, h1, h2⟩ := r
    simp only [Pev.scrub]
    split
    · trivial
    · rename_i q
      exact ⟨B, H.bx _ _ (by simpa using q) h1, h2⟩
  | .rp cells off, v, r => by
    simp only [Pev.scrub]
    split
    · rename_i q
      exact Rep.mono0 H.le0 _ _ (by simpa [plain] using q) r
    · trivial
  | .sl tag ls xs, v, r => by
    obtain ⟨A, cap, rows, h1, h2, h3, h4, h5, h6, h7⟩ := r
    simp only [Pev.scrub]
    refine ⟨A, cap, rows, h1, h2, RepRows.mono0 H.le0 xs rows (fun x hx => confs_plains (h6 x hx)) h3, h4, ?_, h6, fun d k e => ?_⟩
    · rcases h5 with h5 | ⟨B, o, h5, h8⟩
      · exact .inl h5
      · exact .inr ⟨B, o, h5, H.le0.reads h8⟩
    · cases tag with
      | none => cases e
      | some dk =>
        obtain ⟨d0, k0⟩ := dk
        dsimp only at e
        split at e
        · rename_i q
          cases e
          have := h7 _ _ rfl
          rw [q.1] at this
          exact H.tg _ _ _ this
        · cases e
  | .row d, v, r => by
    obtain ⟨B, h1, h2⟩ := r
    simp only [Pev.scrub]
    split
    · trivial
    · rename_i q
      have q : h.drop.contains d = false := by simpa using q
      exact ⟨B, H.bx _ _ q h1, by rw [H.rl d q]; exact h2⟩
  | .rowp d i off, v, r => by
    obtain ⟨B, h1, h2, h3⟩ := r
    simp only [Pev.scrub]
    split
    · trivial
    · rename_i q
      have q : h.drop.contains d = false := by simpa using q
      exact ⟨B, H.bx _ _ q h1, by rw [H.rs d q]; exact h2, by rw [H.rl d q]; exact h3⟩
  | .agg cells, v, r => by
    obtain ⟨us, h1, h2⟩ := r
    exact ⟨us, h1, Reps.scrubs H cells _ h2⟩
  | .tup vs, v, r => by
    obtain ⟨us, h1, h2⟩ := r
    exact ⟨us, h1, Reps.scrubs H vs _ h2⟩
  | .fn f caps, v, r => by
    simp only [Pev.scrub]
    split
    · rename_i q
      exact Rep.mono0 H.le0 _ _ (by simpa [plain] using q) r
    · trivial
termination_by structural p => p
theorem Reps.scrubs {h : Hd} {vers : List Nat} {C C' : Ctx} (H : Scr h vers C C') : (ps : List PV) → (us : List Value) → Reps C ps us → Reps C' (scrubs h vers ps) us
  | [], us, r => r
  | p :: ps, us, r => by
    obtain ⟨u, ws, h1, h2, h3⟩ := r
    exact ⟨u, ws, h1, Rep.scrub H p u h2, Reps.scrubs H ps ws h3⟩
termination_by structural ps => ps
end

section
variable {base n : Nat} {w0 : Start} {s : St} {a : Act} {w : World}

theorem Sim.head (h : Sim base w0 n s a w) (hd : Hd) : Sim base w0 n (s.head hd) a w := by
  obtain ⟨g, h⟩ := h
  let g' : Gh := { g with bx := fun d => if hd.drop.contains d then none else g.bx d }
  have hbox : ∀ d, (s.head hd).box d = if hd.drop.contains d then none else match s.box d with
      | some (.cells cs f) => some (.cells (scrubs hd s.vers cs) f)
      | b => b := fun d => by
    have := scrubBox_get hd s.vers 0 s.boxes d
    rw [Nat.zero_add] at this
    exact this
  have hbx : ∀ d B, g'.bx d = some B → g.bx d = some B ∧ hd.drop.contains d = false := fun d B hq => by
    have hq : (if hd.drop.contains d then none else g.bx d) = some B := hq
    split at hq
    · cases hq
    · rename_i q; exact ⟨hq, by simpa using q⟩
  have hbx' : ∀ d B, hd.drop.contains d = false → g.bx d = some B → g'.bx d = some B := fun d B hq hB => by
    show (if hd.drop.contains d then none else g.bx d) = some B
    rw [hq]
    exact hB
  have H : Scr hd s.vers (ctx s w g) (ctx (s.head hd) w g') :=
    { le0 := ⟨fun _ _ h => h, fun _ _ _ => rfl⟩
      bx := hbx'
      rs := fun d hq => by
        show rowSize ((s.head hd).box d) = rowSize (s.box d)
        rw [hbox d, hq]
        simp only [Bool.false_eq_true, if_false]
        cases s.box d with
        | none => rfl
        | some b => cases b <;> rfl
      rl := fun d hq => by
        show rowLen ((s.head hd).box d) = rowLen (s.box d)
        rw [hbox d, hq]
        simp only [Bool.false_eq_true, if_false]
        cases s.box d with
        | none => rfl
        | some b => cases b <;> rfl
      tg := fun d z v ht => by
        obtain ⟨h1, h2⟩ := ht
        have hv : (s.head hd).ver d = 0 := by
          show (s.vers.map fun _ => 0).getD d 0 = 0
          simp only [List.getD_eq_getElem?_getD, List.getElem?_map]
          cases s.vers[d]? <;> rfl
        exact ⟨Nat.zero_le _, fun _ => h2 rfl⟩ }
  refine ⟨g', ?_⟩
  exact
  { ns := by show (scrubs _ _ (forget _ _)).length = n; rw [scrubs_length, forget_length]; exact h.ns
    nb := by show (scrubBox _ _ _ _).length = n; rw [scrubBox_length]; exact h.nb
    nv := by show (s.vers.map _).length = n; rw [List.length_map]; exact h.nv
    slots := Reps.scrubs H _ _ (Reps.forget _ h.slots)
    defers := h.defers
    base_le := h.base_le
    below := h.below
    nobox := fun d hq => by
      show (if hd.drop.contains d then none else g.bx d) = none
      rw [hbox d] at hq
      split at hq
      · rename_i q; rw [if_pos q]
      · rename_i q
        rw [if_neg q]
        refine h.nobox d ?_
        split at hq
        · cases hq
        · exact hq
    cells := fun d cs fz he => by
      rw [hbox d] at he
      split at he
      · cases he
      · rename_i q
        have q : hd.drop.contains d = false := by simpa using q
        split at he
        · rename_i cs0 f0 hb
          cases he
          obtain ⟨B, us, T, h1, h2, h3, h4, h5, h6⟩ := h.cells d cs0 fz hb
          exact ⟨B, us, T, hbx' d B q h1, h2, h3, Reps.scrubs H _ _ h4, h5, h6⟩
        · rename_i hn
          exact absurd he (hn _ _)
    rows := fun d ls xs fz he => by
      rw [hbox d] at he
      split at he
      · cases he
      · rename_i q
        have q : hd.drop.contains d = false := by simpa using q
        split at he
        · cases he
        · obtain ⟨B, us, T, rws, h1, h2, h3, h4, h5, h6, h7, h8, h9⟩ := h.rows d ls xs fz he
          exact ⟨B, us, T, rws, hbx' d B q h1, h2, h3, h4, RepRows.mono0 H.le0 _ _ (fun x hx => confs_plains (h7 x hx)) h5, h6, h7, h8, h9⟩
    inj := fun d d' B h1 h2 => h.inj d d' B (hbx d B h1).1 (hbx d' B h2).1
    own := fun d => (h.own d).mono (fun _ _ => rfl) (fun _ _ _ h => h) fun d' B _ hq => (hbx d' B hq).1
    apart := h.apart
    news := h.news
    stlt := h.stlt }

end
end Go.Pev
