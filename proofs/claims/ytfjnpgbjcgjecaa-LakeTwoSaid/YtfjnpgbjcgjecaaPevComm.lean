/- OPERATIONS THAT DO NOT TOUCH EACH OTHER COMMUTE; A DRAWN REGION IN ANY ORDER. -/
import Derived.Test.YtfjnpgbjcgjecaaPevLocal
import Derived.Orders
namespace Go.Pev
set_option linter.unusedVariables false
set_option linter.unusedSimpArgs false

/-! ### what an update leaves -/
theorem putD_get (l : List PV) (dst : Option Nat) (v : PV) (t : Nat) (h : dst ≠ some t) : (putD l dst v).getD t .undef = l.getD t .undef := by
  cases dst with
  | none => rfl
  | some d =>
    simp only [putD, List.getD_eq_getElem?_getD]
    rw [List.getElem?_set_ne (fun e => h (by rw [e]))]

theorem edit_length : ∀ (es : List (Nat × (Option Box → Option Box))) (bs : List (Option Box)), (edit bs es).length = bs.length
  | [], bs => rfl
  | (d, f) :: es, bs => by simp only [edit]; rw [edit_length]; simp

theorem edit_getD : ∀ (es : List (Nat × (Option Box → Option Box))) (bs : List (Option Box)) (d : Nat), d ∉ es.map (·.1) → (edit bs es).getD d none = bs.getD d none
  | [], bs, d, h => rfl
  | (k, f) :: es, bs, d, h => by
    simp only [List.map_cons, List.mem_cons, not_or] at h
    simp only [edit]
    rw [edit_getD es _ d h.2]
    simp only [List.getD_eq_getElem?_getD]
    rw [List.getElem?_set_ne (fun e => h.1 e.symm)]

theorem edit_set : ∀ (es : List (Nat × (Option Box → Option Box))) (bs : List (Option Box)) (d : Nat) (b : Option Box), d ∉ es.map (·.1) → edit (bs.set d b) es = (edit bs es).set d b
  | [], bs, d, b, h => rfl
  | (k, f) :: es, bs, d, b, h => by
    simp only [List.map_cons, List.mem_cons, not_or] at h
    simp only [edit]
    have : (bs.set d b).getD k none = bs.getD k none := by
      simp only [List.getD_eq_getElem?_getD]
      rw [List.getElem?_set_ne h.1]
    rw [this, List.set_comm _ _ h.1, edit_set es _ d b h.2]

theorem edit_comm : ∀ (es fs : List (Nat × (Option Box → Option Box))) (bs : List (Option Box)), (∀ d, d ∈ es.map (·.1) → d ∉ fs.map (·.1)) → edit (edit bs es) fs = edit (edit bs fs) es
  | [], fs, bs, h => rfl
  | (k, f) :: es, fs, bs, h => by
    simp only [edit]
    have hk := h k (by simp)
    rw [edit_comm es fs _ (fun d hd => h d (by simp at hd ⊢; exact .inr hd)), edit_set fs bs k _ hk, edit_getD fs bs k hk]

theorem bumped_getD (vs : List Nat) (b : Option Nat) (d : Nat) (h : b ≠ some d) : (bumped vs b).getD d 0 = vs.getD d 0 := by
  cases b with
  | none => rfl
  | some e =>
    simp only [bumped, List.getD_eq_getElem?_getD]
    rw [List.getElem?_set_ne (fun q => h (by rw [q]))]

theorem bumped_comm (vs : List Nat) (b c : Option Nat) (h : ∀ d, b = some d → c ≠ some d) : bumped (bumped vs b) c = bumped (bumped vs c) b := by
  cases b with
  | none => rfl
  | some d =>
    cases c with
    | none => rfl
    | some e =>
      have hne : d ≠ e := fun q => h d rfl (by rw [q])
      have h1 := bumped_getD vs (some d) e (fun q => hne (by cases q; rfl))
      have h2 := bumped_getD vs (some e) d (fun q => hne (by cases q; rfl))
      simp only [bumped] at h1 h2 ⊢
      rw [h1, h2, List.set_comm _ _ hne]

theorem putD_comm (l : List PV) (b c : Option Nat) (u v : PV) (h : ∀ d, b = some d → c ≠ some d) : putD (putD l b u) c v = putD (putD l c v) b u := by
  cases b with
  | none => rfl
  | some d =>
    cases c with
    | none => rfl
    | some e => exact List.set_comm _ _ (fun q => h d rfl (by rw [q]))

section
variable {E : Env} {call : Nat → List PV → Option PV} {ops : Array Oper} {s s' : St}

theorem upd_get {dst : Option Nat} {e : Eff} {t : Nat} (h : dst ≠ some t) : (upd s dst e).get t = s.get t := putD_get _ _ _ _ h
theorem upd_box {dst : Option Nat} {e : Eff} {d : Nat} (h : 2 * d ∉ e.writes dst) : (upd s dst e).box d = s.box d := by
  refine edit_getD _ _ _ fun hd => h ?_
  obtain ⟨x, hx, rfl⟩ := List.mem_map.1 hd
  exact List.mem_append_left _ (List.mem_map.2 ⟨x, hx, rfl⟩)
theorem upd_ver {dst : Option Nat} {e : Eff} {d : Nat} (h : 2 * d + 1 ∉ e.writes dst) : (upd s dst e).ver d = s.ver d := by
  refine bumped_getD _ _ _ fun hd => h ?_
  unfold Eff.writes
  rw [hd]
  simp

theorem meets_false {a b : List Nat} (h : meets a b = false) : ∀ x, x ∈ a → x ∉ b := by
  unfold meets at h
  rw [List.any_eq_false] at h
  intro x hx hb
  exact h x hx (by simpa using hb)

/-- Neither touches what the other writes. -/
structure Disj (y x : Oper × Eff) : Prop where
  wr : meets (y.2.writes y.1.dst) x.2.reads = false
  ww : meets (y.2.writes y.1.dst) (x.2.writes x.1.dst) = false
  rw : meets y.2.reads (x.2.writes x.1.dst) = false

theorem Disj.symm {y x : Oper × Eff} (h : Disj y x) : (∀ k, k ∈ x.2.writes x.1.dst → k ∉ y.2.writes y.1.dst) ∧ (∀ k, k ∈ x.2.writes x.1.dst → k ∉ y.2.reads) :=
  ⟨fun k hk hy => meets_false h.ww k hy hk, fun k hk hy => meets_false h.rw k hy hk⟩

/-- An operation's effect in another state that agrees. -/
theorem eff_local {o : Oper} {e : Eff} (h : eff E call ops s o = some e) (hg : ∀ t, t ∈ o.looksAt ops → s'.get t = s.get t) (hb : ∀ d, (2 * d ∈ e.reads ∨ 2 * d ∈ e.writes o.dst) → s'.box d = s.box d)
    (hv : ∀ d, 2 * d + 1 ∈ e.writes o.dst → s'.ver d = s.ver d) (hl : s'.slots.length = s.slots.length) : eff E call ops s' o = some e := by
  have hw : want ops s' o = want ops s o := by
    unfold want
    cases hgd : o.guard with
    | none => rfl
    | some g =>
      obtain ⟨j, b⟩ := g
      dsimp only
      cases hd : (ops[j]?).bind (·.dst) with
      | none => rfl
      | some t => dsimp only; rw [hg t (by simp only [Oper.looksAt, hgd]; exact List.mem_append_right _ (by simp [hd]))]
  unfold eff at h ⊢
  rw [hw]
  split at h
  · obtain ⟨e', he, h⟩ := Option.bind_eq_some_iff.1 h
    split at h
    · rename_i hok
      cases h
      have := act_local (s' := s') (E := E) (call := call) (o := o) ⟨fun t ht => hg t (by
        refine List.mem_append_left _ (List.mem_filterMap.2 ⟨.tmp t, by simpa using ht, rfl⟩)), hb, hv⟩ he
      rw [this, Option.bind_some]
      have hok' : okEff s' o.dst e = true := by
        rw [← hok]
        unfold okEff
        rw [hl]
        cases e with
        | alloc cs =>
          cases hd : o.dst with
          | none => rfl
          | some d => dsimp only; rw [hb d (.inr (by simp [Eff.writes, edits, hd]))]
        | row ls xs =>
          cases hd : o.dst with
          | none => rfl
          | some d => dsimp only; rw [hb d (.inr (by simp [Eff.writes, edits, hd]))]
        | _ => rfl
      rw [if_pos hok']
    · cases h
  · cases h; rfl
  · cases h

theorem upd_slots_length {dst : Option Nat} {e : Eff} : (upd s dst e).slots.length = s.slots.length := putD_length _ _ _

theorem valOf_local {dst : Option Nat} {e : Eff} (hv : ∀ d, 2 * d + 1 ∈ e.writes dst → s'.ver d = s.ver d) : valOf s' dst e = valOf s dst e := by
  cases e with
  | mk ls xs =>
    cases dst with
    | none => rfl
    | some d => simp only [valOf]; rw [hv d (by simp [Eff.writes, edits, bump])]
  | frozeOwn ds ls xs =>
    cases dst with
    | none => rfl
    | some d => simp only [valOf]; rw [hv d (by simp [Eff.writes, bump])]
  | app tag ls xs => simp only [valOf]; rw [hv tag (by simp [Eff.writes, edits, bump])]
  | _ => rfl

theorem eff_comm {x y : Oper} {ex ey : Eff} (hy : eff E call ops s y = some ey) (hx : eff E call ops (upd s y.dst ey) x = some ex) (hap : y.apart ops x = true) (hd : Disj (y, ey) (x, ex)) :
    eff E call ops s x = some ex ∧ eff E call ops (upd s x.dst ex) y = some ey ∧ upd (upd s y.dst ey) x.dst ex = upd (upd s x.dst ex) y.dst ey := by
  obtain ⟨h1, h2, h3⟩ := Oper.apart_spec hap
  obtain ⟨h4, h5⟩ := hd.symm
  have hver : ∀ d, 2 * d + 1 ∈ ex.writes x.dst → s.ver d = (upd s y.dst ey).ver d := fun d hd' => (upd_ver (h4 _ hd')).symm
  have hver' : ∀ d, 2 * d + 1 ∈ ey.writes y.dst → (upd s x.dst ex).ver d = s.ver d := fun d hd' => upd_ver (meets_false hd.ww _ hd')
  refine ⟨eff_local hx (fun t ht => ?_) (fun d hq => ?_) hver upd_slots_length.symm, eff_local hy (fun t ht => ?_) (fun d hq => ?_) hver' upd_slots_length, ?_⟩
  · exact (upd_get fun q => h1 t q ht).symm
  · refine (upd_box ?_).symm
    rcases hq with hq | hq
    · exact fun hw => meets_false hd.wr _ hw hq
    · exact h4 _ hq
  · exact upd_get fun q => h3 t q ht
  · refine upd_box ?_
    rcases hq with hq | hq
    · exact fun hw => h5 _ hw hq
    · exact meets_false hd.ww _ hq
  · have hv1 : valOf (upd s y.dst ey) x.dst ex = valOf s x.dst ex := valOf_local fun d hd' => (hver d hd').symm
    have hv2 : valOf (upd s x.dst ex) y.dst ey = valOf s y.dst ey := valOf_local hver'
    have e1 : (upd (upd s y.dst ey) x.dst ex) = { slots := putD (putD s.slots y.dst (valOf s y.dst ey)) x.dst (valOf (upd s y.dst ey) x.dst ex), boxes := edit (edit s.boxes (edits y.dst ey)) (edits x.dst ex), vers := bumped (bumped s.vers (bump y.dst ey)) (bump x.dst ex) } := rfl
    have e2 : (upd (upd s x.dst ex) y.dst ey) = { slots := putD (putD s.slots x.dst (valOf s x.dst ex)) y.dst (valOf (upd s x.dst ex) y.dst ey), boxes := edit (edit s.boxes (edits x.dst ex)) (edits y.dst ey), vers := bumped (bumped s.vers (bump x.dst ex)) (bump y.dst ey) } := rfl
    rw [e1, e2, hv1, hv2]
    congr 1
    · exact putD_comm _ _ _ _ _ fun d hq => h2 d hq
    · refine edit_comm _ _ _ fun d hq hp => ?_
      obtain ⟨u, hu, rfl⟩ := List.mem_map.1 hq
      obtain ⟨v, hv, hvu⟩ := List.mem_map.1 hp
      exact meets_false hd.ww (2 * u.1) (List.mem_append_left _ (List.mem_map.2 ⟨u, hu, rfl⟩)) (List.mem_append_left _ (List.mem_map.2 ⟨v, hv, by show 2 * v.1 = _; rw [hvu]⟩))
    · refine bumped_comm _ _ _ fun d hq hp => ?_
      exact meets_false hd.ww (2 * d + 1) (by simp only [Eff.writes, hq]; simp) (by simp only [Eff.writes, hp]; simp)

/-- An operation that nothing before it touches may come first. -/
theorem bubble {i : Nat} {o : Oper} {post : List (Nat × Oper)} {s1 : St} : ∀ (pre : List (Nat × Oper)) (s : St) (tr : List (Nat × Oper × Eff)), Run E call ops (pre ++ (i, o) :: post) s tr s1 →
    ∃ trp e trq, tr = trp ++ (i, o, e) :: trq ∧ trp.map (fun x => (x.1, x.2.1)) = pre ∧
      ((∀ y ∈ trp, y.2.1.apart ops o = true ∧ Disj (y.2.1, y.2.2) (o, e)) → Run E call ops ((i, o) :: (pre ++ post)) s ((i, o, e) :: (trp ++ trq)) s1)
  | [], s, tr, h => by
    cases h with
    | cons he hr => exact ⟨[], _, _, rfl, rfl, fun _ => .cons he hr⟩
  | (j, p) :: pre, s, tr, h => by
    cases h with
    | cons hp hr =>
      obtain ⟨trp, e, trq, rfl, h2, h3⟩ := bubble pre _ _ hr
      refine ⟨(j, p, _) :: trp, e, trq, rfl, by simp [h2], fun hall => ?_⟩
      have := h3 fun y hy => hall y (List.mem_cons_of_mem _ hy)
      obtain ⟨ha, hd⟩ := hall _ (List.mem_cons_self ..)
      cases this with
      | cons he hr' =>
        obtain ⟨c1, c2, c3⟩ := eff_comm hp he ha hd
        refine .cons c1 (.cons c2 ?_)
        rw [← c3]
        exact hr'

/-! ### masks -/
def maskOf (acc : List Nat) (o : Oper) : Nat := o.after.toList.foldl (fun m e => if Region.binds .any e then m ||| 2 ^ e.on ||| acc.getD e.on 0 else m) 0

theorem maskOf_spec {acc : List Nat} {o : Oper} {i : Nat} (h : (maskOf acc o).testBit i = true) : ∃ e ∈ o.after.toList, Region.binds .any e = true ∧ (i = e.on ∨ (acc.getD e.on 0).testBit i = true) := by
  unfold maskOf at h
  generalize o.after.toList = es at h ⊢
  have key : ∀ (es : List Edge) (m : Nat), (es.foldl (fun m e => if Region.binds .any e then m ||| 2 ^ e.on ||| acc.getD e.on 0 else m) m).testBit i = true →
      m.testBit i = true ∨ ∃ e ∈ es, Region.binds .any e = true ∧ (i = e.on ∨ (acc.getD e.on 0).testBit i = true) := by
    intro es
    induction es with
    | nil => intro m h; exact .inl h
    | cons e es ih =>
      intro m h
      simp only [List.foldl_cons] at h
      rcases ih _ h with h | ⟨e', h1, h2, h3⟩
      · by_cases hb : Region.binds .any e = true
        · rw [if_pos hb] at h
          simp only [Nat.testBit_or, Bool.or_eq_true, Nat.testBit_two_pow, decide_eq_true_eq] at h
          rcases h with (h | h) | h
          · exact .inl h
          · exact .inr ⟨e, List.mem_cons_self .., hb, .inl h.symm⟩
          · exact .inr ⟨e, List.mem_cons_self .., hb, .inr h⟩
        · rw [if_neg hb] at h
          exact .inl h
      · exact .inr ⟨e', List.mem_cons_of_mem _ h1, h2, h3⟩
  rcases key es 0 h with h | h
  · simp at h
  · exact h

theorem masks_go (ops : List Oper) : ∀ (acc : List Nat), (ops.foldl (fun acc o => acc ++ [maskOf acc o]) acc).length = acc.length + ops.length ∧ ∀ k, k < acc.length → (ops.foldl (fun acc o => acc ++ [maskOf acc o]) acc)[k]? = acc[k]? := by
  induction ops with
  | nil => intro acc; simp
  | cons o ops ih =>
    intro acc
    obtain ⟨h1, h2⟩ := ih (acc ++ [maskOf acc o])
    simp only [List.foldl_cons]
    refine ⟨by rw [h1]; simp; omega, fun k hk => ?_⟩
    rw [h2 k (by simp; omega), List.getElem?_append_left hk]

theorem masks_spec (ops : List Oper) (j i : Nat) (h : ((masks ops).getD j 0).testBit i = true) : ∃ o, ops[j]? = some o ∧ ∃ e ∈ o.after.toList, Region.binds .any e = true ∧ (i = e.on ∨ ((masks ops).getD e.on 0).testBit i = true) := by
  have key : ∀ (l : List Oper) (acc : List Nat) (j : Nat), acc.length ≤ j → ((l.foldl (fun acc o => acc ++ [maskOf acc o]) acc).getD j 0).testBit i = true →
      ∃ o, l[j - acc.length]? = some o ∧ ∃ e ∈ o.after.toList, Region.binds .any e = true ∧ (i = e.on ∨ ((l.foldl (fun acc o => acc ++ [maskOf acc o]) acc).getD e.on 0).testBit i = true) := by
    intro l
    induction l with
    | nil =>
      intro acc j hj h
      simp [List.getD_eq_getElem?_getD, List.getElem?_eq_none hj] at h
    | cons o l ih =>
      intro acc j hj h
      simp only [List.foldl_cons] at h ⊢
      by_cases hq : j = acc.length
      · subst hq
        refine ⟨o, by simp, ?_⟩
        obtain ⟨_, h2⟩ := masks_go l (acc ++ [maskOf acc o])
        have h3 := h2 acc.length (by simp)
        rw [List.getD_eq_getElem?_getD, h3] at h
        simp at h
        obtain ⟨e, e1, e2, e3⟩ := maskOf_spec h
        refine ⟨e, e1, e2, e3.imp id fun hb => ?_⟩
        have hlt : e.on < acc.length := by
          rcases Nat.lt_or_ge e.on acc.length with q | q
          · exact q
          · rw [List.getD_eq_getElem?_getD, List.getElem?_eq_none q] at hb
            simp at hb
        rw [List.getD_eq_getElem?_getD, h2 e.on (by simp; omega), List.getElem?_append_left hlt, ← List.getD_eq_getElem?_getD]
        exact hb
      · obtain ⟨o', h1, h2⟩ := ih (acc ++ [maskOf acc o]) j (by simp; omega) h
        refine ⟨o', ?_, h2⟩
        simp only [List.length_append, List.length_cons, List.length_nil] at h1
        have : j - acc.length = (j - (acc.length + 1)) + 1 := by omega
        rw [this, List.getElem?_cons_succ]
        exact h1
  have := key ops [] j (Nat.zero_le _) h
  simp only [List.length_nil, Nat.sub_zero] at this
  exact this

end
end Go.Pev
