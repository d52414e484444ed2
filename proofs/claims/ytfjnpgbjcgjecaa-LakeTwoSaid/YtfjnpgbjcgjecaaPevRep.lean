/- WHAT A PLAIN VALUE STANDS FOR in a world, and that it stays so while memory that stays is not written. -/
import Derived.Test.YtfjnpgbjcgjecaaPevEv
import Derived.Below
import Derived.Laws.Rows
import Derived.Laws.Cells
namespace Go.Pev
open Go.RowKit
set_option linter.unusedVariables false
set_option linter.unusedSimpArgs false

structure Ctx where
  w : World
  st : Nat → Nat → Prop
  bx : Nat → Option Nat
  tg : Nat → Nat → Nat → Value → Prop
  rs : Nat → Nat
  rl : Nat → Nat

def Ctx.reads (C : Ctx) (B o : Nat) (us : List Value) : Prop :=
  ∀ j u, us[j]? = some u → C.w.cell? ⟨B, o + j, none⟩ = some u ∧ C.st B (o + j)

mutual
def Rep (C : Ctx) : PV → Value → Prop
  | .undef, _ => True
  | .bool b, v => v = .bool b
  | .int k n, v => v = .int k n
  | .str s, v => v = .string s
  | .nilp, v => v = .pointer none
  | .ptr d off, v => ∃ B, C.bx d = some B ∧ v = .pointer (some ⟨B, off, none⟩)
  | .rp cells off, v => ∃ B o us, v = .pointer (some ⟨B, o + off, none⟩) ∧ Reps C cells us ∧ C.reads B o us
  | .sl tag ls xs, v => ∃ A cap rows, v = .slice A (List.length rows) cap ∧ List.length rows ≤ cap ∧ RepRows C xs rows ∧ (∀ r ∈ rows, List.length r = List.length ls) ∧
      (rows = [] ∨ ∃ B o, A = some ⟨B, o, none⟩ ∧ C.reads B o rows.flatten) ∧ (∀ x ∈ xs, confs ls x = true) ∧ (∀ d k, tag = some (d, k) → C.tg d k (List.length ls) v)
  | .row d, v => ∃ B, C.bx d = some B ∧ v = .slice (some ⟨B, 0, none⟩) (C.rl d) (C.rl d)
  | .rowp d i off, v => ∃ B, C.bx d = some B ∧ v = .pointer (some ⟨B, i * C.rs d + off, none⟩) ∧ i < C.rl d
  | .agg cells, v => ∃ us, v = .agg us ∧ Reps C cells us.toList
  | .tup vs, v => ∃ us, v = .tuple us ∧ Reps C vs us.toList
  | .fn f caps, v => ∃ us, v = .func (.func f) #[] us ∧ Reps C caps us.toList
termination_by structural x => x
def Reps (C : Ctx) : List PV → List Value → Prop
  | [], us => us = []
  | p :: ps, us => ∃ u ws, us = u :: ws ∧ Rep C p u ∧ Reps C ps ws
termination_by structural x => x
def RepRows (C : Ctx) : List (List PV) → List (List Value) → Prop
  | [], rs => rs = []
  | p :: ps, rs => ∃ r ws, rs = r :: ws ∧ Reps C p r ∧ RepRows C ps ws
termination_by structural x => x
end

structure Ctx.Le (C C' : Ctx) : Prop where
  st : ∀ B o, C.st B o → C'.st B o
  cell : ∀ B o, C.st B o → C'.w.cell? ⟨B, o, none⟩ = C.w.cell? ⟨B, o, none⟩
  bx : ∀ d B, C.bx d = some B → C'.bx d = some B
  tg : ∀ d k z v, C.tg d k z v → C'.tg d k z v
  rs : ∀ d B, C.bx d = some B → C'.rs d = C.rs d
  rl : ∀ d B, C.bx d = some B → C'.rl d = C.rl d

theorem Ctx.Le.refl (C : Ctx) : C.Le C := ⟨fun _ _ h => h, fun _ _ _ => rfl, fun _ _ h => h, fun _ _ _ _ h => h, fun _ _ _ => rfl, fun _ _ _ => rfl⟩
theorem Ctx.Le.trans {C D F : Ctx} (h : C.Le D) (k : D.Le F) : C.Le F :=
  ⟨fun B o x => k.st _ _ (h.st _ _ x), fun B o x => (k.cell _ _ (h.st _ _ x)).trans (h.cell _ _ x), fun d B x => k.bx _ _ (h.bx _ _ x), fun d n z v x => k.tg _ _ _ _ (h.tg _ _ _ _ x),
    fun d B x => (k.rs _ _ (h.bx _ _ x)).trans (h.rs _ _ x), fun d B x => (k.rl _ _ (h.bx _ _ x)).trans (h.rl _ _ x)⟩

theorem Ctx.Le.reads {C C' : Ctx} (h : C.Le C') {B o : Nat} {us : List Value} (r : C.reads B o us) : C'.reads B o us := fun j u hj => by
  obtain ⟨h1, h2⟩ := r j u hj
  exact ⟨(h.cell _ _ h2).trans h1, h.st _ _ h2⟩

mutual
theorem Rep.mono {C C' : Ctx} (h : C.Le C') : (p : PV) → (v : Value) → Rep C p v → Rep C' p v
  | .undef, v, r => trivial
  | .bool b, v, r => r
  | .int k n, v, r => r
  | .str s, v, r => r
  | .nilp, v, r => r
  | .ptr d off, v, r => by
    obtain ⟨B, h1, h2⟩ := r
    exact ⟨B, h.bx _ _ h1, h2⟩
  | .rp cells off, v, r => by
    obtain ⟨B, o, us, h1, h2, h3⟩ := r
    exact ⟨B, o, us, h1, Reps.mono h cells us h2, h.reads h3⟩
  | .sl tag ls xs, v, r => by
    obtain ⟨A, cap, rows, h1, h2, h3, h4, h5, h6, h7⟩ := r
    refine ⟨A, cap, rows, h1, h2, RepRows.mono h xs rows h3, h4, ?_, h6, fun d k e => h.tg _ _ _ _ (h7 d k e)⟩
    rcases h5 with h5 | ⟨B, o, h5, h8⟩
    · exact .inl h5
    · exact .inr ⟨B, o, h5, h.reads h8⟩
  | .row d, v, r => by
    obtain ⟨B, h1, h2⟩ := r
    exact ⟨B, h.bx _ _ h1, by rw [h.rl _ _ h1]; exact h2⟩
  | .rowp d i off, v, r => by
    obtain ⟨B, h1, h2, h3⟩ := r
    exact ⟨B, h.bx _ _ h1, by rw [h.rs _ _ h1]; exact h2, by rw [h.rl _ _ h1]; exact h3⟩
  | .agg cells, v, r => by
    obtain ⟨us, h1, h2⟩ := r
    exact ⟨us, h1, Reps.mono h cells _ h2⟩
  | .tup vs, v, r => by
    obtain ⟨us, h1, h2⟩ := r
    exact ⟨us, h1, Reps.mono h vs _ h2⟩
  | .fn f caps, v, r => by
    obtain ⟨us, h1, h2⟩ := r
    exact ⟨us, h1, Reps.mono h caps _ h2⟩
termination_by structural p => p
theorem Reps.mono {C C' : Ctx} (h : C.Le C') : (ps : List PV) → (us : List Value) → Reps C ps us → Reps C' ps us
  | [], us, r => r
  | p :: ps, us, r => by
    obtain ⟨u, ws, h1, h2, h3⟩ := r
    exact ⟨u, ws, h1, Rep.mono h p u h2, Reps.mono h ps ws h3⟩
termination_by structural ps => ps
theorem RepRows.mono {C C' : Ctx} (h : C.Le C') : (ps : List (List PV)) → (us : List (List Value)) → RepRows C ps us → RepRows C' ps us
  | [], us, r => r
  | p :: ps, us, r => by
    obtain ⟨u, ws, h1, h2, h3⟩ := r
    exact ⟨u, ws, h1, Reps.mono h p u h2, RepRows.mono h ps ws h3⟩
termination_by structural ps => ps
end

/-! ### lists -/
theorem Reps.length {C : Ctx} : ∀ {ps : List PV} {us : List Value}, Reps C ps us → us.length = ps.length
  | [], us, h => by rw [Reps] at h; subst h; rfl
  | p :: ps, us, h => by
    rw [Reps] at h
    obtain ⟨u, ws, rfl, _, h⟩ := h
    simp [Reps.length h]

theorem Reps.get {C : Ctx} : ∀ {ps : List PV} {us : List Value}, Reps C ps us → ∀ i u, us[i]? = some u → Rep C (nth ps i) u
  | [], us, h, i, u, hu => by rw [Reps] at h; subst h; simp at hu
  | p :: ps, us, h, i, u, hu => by
    rw [Reps] at h
    obtain ⟨v, ws, rfl, h1, h2⟩ := h
    cases i with
    | zero => simp at hu; subst hu; simpa [nth] using h1
    | succ i => simp at hu; have := Reps.get h2 i u hu; simpa [nth] using this

theorem Reps.of_get {C : Ctx} : ∀ {ps : List PV} {us : List Value}, us.length = ps.length → (∀ i u, us[i]? = some u → Rep C (nth ps i) u) → Reps C ps us
  | [], us, h, _ => by simp at h; rw [Reps]; exact h
  | p :: ps, [], h, _ => by simp at h
  | p :: ps, u :: us, h, g => by
    rw [Reps]
    refine ⟨u, us, rfl, by simpa [nth] using g 0 u (by simp), Reps.of_get (by simpa using h) fun i v hv => ?_⟩
    have := g (i + 1) v (by simpa using hv)
    simpa [nth] using this

theorem Reps.append {C : Ctx} : ∀ {ps qs : List PV} {us ws : List Value}, Reps C ps us → Reps C qs ws → Reps C (ps ++ qs) (us ++ ws)
  | [], qs, us, ws, h, k => by rw [Reps] at h; subst h; exact k
  | p :: ps, qs, us, ws, h, k => by
    rw [Reps] at h
    obtain ⟨u, vs, rfl, h1, h2⟩ := h
    show Reps C (p :: (ps ++ qs)) _
    rw [Reps]
    exact ⟨u, vs ++ ws, rfl, h1, Reps.append h2 k⟩

theorem Reps.drop {C : Ctx} {ps : List PV} {us : List Value} (h : Reps C ps us) (n : Nat) : Reps C (ps.drop n) (us.drop n) := by
  refine Reps.of_get (by simp [h.length]) fun i u hu => ?_
  have := h.get (n + i) u (by simpa [List.getElem?_drop] using hu)
  simpa [nth, List.getD_eq_getElem?_getD, List.getElem?_drop] using this

theorem Reps.take {C : Ctx} {ps : List PV} {us : List Value} (h : Reps C ps us) (n : Nat) : Reps C (ps.take n) (us.take n) := by
  refine Reps.of_get (by simp [h.length]) fun i u hu => ?_
  simp only [List.getElem?_take] at hu
  split at hu
  · rename_i hi
    have := h.get i u hu
    simpa [nth, List.getD_eq_getElem?_getD, List.getElem?_take, hi] using this
  · cases hu

theorem Reps.set {C : Ctx} {ps : List PV} {us : List Value} (h : Reps C ps us) {p : PV} {u : Value} (hp : Rep C p u) (i : Nat) : Reps C (ps.set i p) (us.set i u) := by
  refine Reps.of_get (by simp [h.length]) fun j v hv => ?_
  simp only [List.getElem?_set] at hv
  split at hv
  · rename_i e
    subst e
    split at hv
    · rename_i hl
      simp at hv; subst hv
      simpa [nth, List.getD_eq_getElem?_getD, h.length ▸ hl] using hp
    · cases hv
  · rename_i e
    have := h.get j v hv
    simpa [nth, List.getD_eq_getElem?_getD, List.getElem?_set_ne e] using this

theorem RepRows.length {C : Ctx} : ∀ {ps : List (List PV)} {us : List (List Value)}, RepRows C ps us → us.length = ps.length
  | [], us, h => by rw [RepRows] at h; subst h; rfl
  | p :: ps, us, h => by
    rw [RepRows] at h
    obtain ⟨u, ws, rfl, _, h⟩ := h
    simp [RepRows.length h]

theorem RepRows.get {C : Ctx} : ∀ {ps : List (List PV)} {us : List (List Value)}, RepRows C ps us → ∀ i u, us[i]? = some u → Reps C (nths ps i) u
  | [], us, h, i, u, hu => by rw [RepRows] at h; subst h; simp at hu
  | p :: ps, us, h, i, u, hu => by
    rw [RepRows] at h
    obtain ⟨v, ws, rfl, h1, h2⟩ := h
    cases i with
    | zero => simp at hu; subst hu; simpa [nths] using h1
    | succ i => simp at hu; have := RepRows.get h2 i u hu; simpa [nths] using this

theorem RepRows.of_get {C : Ctx} : ∀ {ps : List (List PV)} {us : List (List Value)}, us.length = ps.length → (∀ i u, us[i]? = some u → Reps C (nths ps i) u) → RepRows C ps us
  | [], us, h, _ => by simp at h; rw [RepRows]; exact h
  | p :: ps, [], h, _ => by simp at h
  | p :: ps, u :: us, h, g => by
    rw [RepRows]
    refine ⟨u, us, rfl, by simpa [nths] using g 0 u (by simp), RepRows.of_get (by simpa using h) fun i v hv => ?_⟩
    have := g (i + 1) v (by simpa using hv)
    simpa [nths] using this

theorem RepRows.append {C : Ctx} : ∀ {ps qs : List (List PV)} {us ws : List (List Value)}, RepRows C ps us → RepRows C qs ws → RepRows C (ps ++ qs) (us ++ ws)
  | [], qs, us, ws, h, k => by rw [RepRows] at h; subst h; exact k
  | p :: ps, qs, us, ws, h, k => by
    rw [RepRows] at h
    obtain ⟨u, vs, rfl, h1, h2⟩ := h
    show RepRows C (p :: (ps ++ qs)) _
    rw [RepRows]
    exact ⟨u, vs ++ ws, rfl, h1, RepRows.append h2 k⟩

theorem RepRows.drop {C : Ctx} {ps : List (List PV)} {us : List (List Value)} (h : RepRows C ps us) (n : Nat) : RepRows C (ps.drop n) (us.drop n) := by
  refine RepRows.of_get (by simp [h.length]) fun i u hu => ?_
  have := h.get (n + i) u (by simpa [List.getElem?_drop] using hu)
  simpa [nths, List.getD_eq_getElem?_getD, List.getElem?_drop] using this

theorem RepRows.take {C : Ctx} {ps : List (List PV)} {us : List (List Value)} (h : RepRows C ps us) (n : Nat) : RepRows C (ps.take n) (us.take n) := by
  refine RepRows.of_get (by simp [h.length]) fun i u hu => ?_
  simp only [List.getElem?_take] at hu
  split at hu
  · rename_i hi
    have := h.get i u hu
    simpa [nths, List.getD_eq_getElem?_getD, List.getElem?_take, hi] using this
  · cases hu

/-! ### kinds -/
mutual
theorem sameL_eq : (a b : LK) → sameL a b = true → a = b
  | .int k, b, h => by cases b <;> simp_all [sameL]
  | .bool, b, h => by cases b <;> simp_all [sameL]
  | .str, b, h => by cases b <;> simp_all [sameL]
  | .sl x, .sl y, h => by
    simp only [sameL] at h
    rw [sameLK_eq x y h]
  | .sl x, .int _, h => by simp [sameL] at h
  | .sl x, .bool, h => by simp [sameL] at h
  | .sl x, .str, h => by simp [sameL] at h
  | .sl x, .any, h => by simp [sameL] at h
  | .any, b, h => by cases b <;> simp [sameL] at h
termination_by structural a => a
theorem sameLK_eq : (a b : List LK) → sameLK a b = true → a = b
  | [], [], _ => rfl
  | [], _ :: _, h => by simp [sameLK] at h
  | _ :: _, [], h => by simp [sameLK] at h
  | x :: a, y :: b, h => by
    simp only [sameLK, Bool.and_eq_true] at h
    rw [sameL_eq x y h.1, sameLK_eq a b h.2]
termination_by structural a => a
end

theorem Rep.strip_tag {C : Ctx} {tag : Option (Nat × Nat)} {ls : List LK} {xs : List (List PV)} {v : Value} (h : Rep C (.sl tag ls xs) v) : Rep C (.sl none ls xs) v := by
  obtain ⟨A, cap, rows, h1, h2, h3, h4, h5, h6, h7⟩ := h
  exact ⟨A, cap, rows, h1, h2, h3, h4, h5, h6, fun d k e => by cases e⟩

theorem Rep.eta {C : Ctx} {l : LK} {p : PV} {v : Value} (hc : conf l p = true) (h : Rep C p v) : Rep C (eta l p) v := by
  cases l with
  | int k => cases p <;> simp_all [conf, Pev.eta, Rep, asI]
  | bool => cases p <;> simp_all [conf, Pev.eta, Rep, asB]
  | str => cases p <;> simp_all [conf, Pev.eta, Rep, asS]
  | any => cases p <;> simp_all [conf]
  | sl ls =>
    cases p with
    | sl tag ls' xs =>
      simp only [conf, Bool.and_eq_true] at hc
      have := sameLK_eq _ _ hc.2
      subst this
      exact Rep.strip_tag h
    | _ => simp [conf] at hc

theorem confs_length : ∀ {ls : List LK} {cs : List PV}, confs ls cs = true → cs.length = ls.length
  | [], [], _ => rfl
  | [], _ :: _, h => by simp [confs] at h
  | _ :: _, [], h => by simp [confs] at h
  | l :: ls, c :: cs, h => by simp only [confs, Bool.and_eq_true] at h; simp [confs_length h.2]

theorem etas_length : ∀ (ls : List LK) (i : Nat) (cs : List PV), (etas ls i cs).length = ls.length
  | [], _, _ => rfl
  | l :: ls, i, cs => by simp [etas, etas_length ls (i + 1) cs]

theorem Reps.etas_from {C : Ctx} : ∀ (ls : List LK) (i : Nat) (cs : List PV) (us : List Value), confs ls (cs.drop i) = true → Reps C (cs.drop i) us → Reps C (etas ls i cs) us
  | [], i, cs, us, hc, h => by
    have := confs_length hc
    have h0 : cs.drop i = [] := List.eq_nil_of_length_eq_zero this
    rw [h0] at h
    exact h
  | l :: ls, i, cs, us, hc, h => by
    cases hd : cs.drop i with
    | nil => rw [hd] at hc; simp [confs] at hc
    | cons c rest =>
      have hi : cs[i]? = some c := by
        have := congrArg (·[0]?) hd
        simpa [List.getElem?_drop] using this
      have hrest : cs.drop (i + 1) = rest := by
        have := congrArg (List.drop 1) hd
        simpa [List.drop_drop] using this
      rw [hd] at hc h
      simp only [confs, Bool.and_eq_true] at hc
      rw [Reps] at h
      obtain ⟨u, ws, rfl, h1, h2⟩ := h
      show Reps C (Pev.eta l (nth cs i) :: etas ls (i + 1) cs) _
      rw [Reps]
      have hn : nth cs i = c := by simp [nth, List.getD_eq_getElem?_getD, hi]
      refine ⟨u, ws, rfl, by rw [hn]; exact Rep.eta hc.1 h1, Reps.etas_from ls (i + 1) cs ws (by rw [hrest]; exact hc.2) (by rw [hrest]; exact h2)⟩

theorem Reps.etas {C : Ctx} {ls : List LK} {cs : List PV} {us : List Value} (hc : confs ls cs = true) (h : Reps C cs us) : Reps C (etas ls 0 cs) us :=
  Reps.etas_from ls 0 cs us (by simpa using hc) (by simpa using h)

mutual
theorem Rep.strip {C : Ctx} : (p : PV) → (v : Value) → Rep C p v → Rep C (strip p) v
  | .sl tag ls xs, v, h => Rep.strip_tag h
  | .agg cs, v, h => by
    obtain ⟨us, h1, h2⟩ := h
    exact ⟨us, h1, Reps.strips cs _ h2⟩
  | .tup cs, v, h => by
    obtain ⟨us, h1, h2⟩ := h
    exact ⟨us, h1, Reps.strips cs _ h2⟩
  | .undef, v, h => h
  | .bool _, v, h => h
  | .int _ _, v, h => h
  | .str _, v, h => h
  | .nilp, v, h => h
  | .ptr _ _, v, h => h
  | .rp _ _, v, h => h
  | .row _, v, h => h
  | .rowp _ _ _, v, h => h
  | .fn _ _, v, h => h
termination_by structural p => p
theorem Reps.strips {C : Ctx} : (ps : List PV) → (us : List Value) → Reps C ps us → Reps C (strips ps) us
  | [], us, h => h
  | p :: ps, us, h => by
    obtain ⟨u, ws, h1, h2, h3⟩ := h
    exact ⟨u, ws, h1, Rep.strip p u h2, Reps.strips ps ws h3⟩
termination_by structural ps => ps
end
end Go.Pev
