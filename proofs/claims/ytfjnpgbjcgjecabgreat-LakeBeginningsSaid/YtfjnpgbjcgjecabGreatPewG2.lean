/- WHAT AN OPERATION TELLS DEPENDS ON ITS OPERANDS AND ON THE BOXES THAT IT NAMES. -/
/- OPERATIONS THAT DO NOT TOUCH EACH OTHER COMMUTE; A DRAWN REGION IN ANY ORDER. -/
/- A REGION OF THE MACHINE DOES WHAT THE EVALUATOR TELLS, IN WHATEVER ORDER. -/
/- AT A LOOP'S HEAD: what is forgotten. -/
/- A FRAME AND ITS PLAIN STATE WHERE THE WORLD TURNS BEHIND ITS BACK, OR WHERE WHAT IS REMEMBERED OF THE START TURNS. -/
/- WHAT SLOTS STILL TELL BETWEEN THE ROUNDS OF A LOOP OVER AN ITERATOR; CONTRACTS OF ITERATORS. -/
/- A LOOP OVER AN ITERATOR: between two rounds; one round. -/
/- A LOOP OVER AN ITERATOR: WHAT THE EVALUATOR TELLS, THE MACHINE DOES. -/
/- CODE: WHAT THE EVALUATOR TELLS, THE MACHINE DOES. -/
import Derived.Test.YtfjnpgbjcgjecabGreatPewG1
import Derived.Orders
import Derived.OrdersIn
import Derived.RangeFuncLeaves
import Derived.RangeFuncOwn
import Derived.LoopNIn

namespace Go.Pew
set_option linter.unusedSimpArgs false
set_option linter.unusedVariables false
set_option linter.unusedVariables false
set_option linter.unusedSimpArgs false

structure Agree (s s' : St) (o : Oper) (e : Eff) : Prop where
  get : ∀ t, Operand.tmp t ∈ o.op.operands → s'.get t = s.get t
  box : ∀ d, (2 * d ∈ e.reads ∨ 2 * d ∈ e.writes o.dst) → s'.box d = s.box d
  ver : ∀ d, 2 * d + 1 ∈ e.writes o.dst → s'.ver d = s.ver d

section
variable {E : Env} {call : Nat → List PV → Option PV} {s s' : St} {o : Oper} {e : Eff}

theorem Agree.op (h : Agree s s' o e) {x : Operand} (hx : x ∈ o.op.operands) : operand s' x = operand s x := by
  cases x with
  | tmp t => exact h.get t hx
  | _ => rfl

theorem Agree.load {d : Nat} {v : PV} (h : Agree s s' o (.load d v)) : s'.box d = s.box d := h.box d (.inl (by simp [Eff.reads]))
theorem Agree.froze {ds : List Nat} {v : PV} (h : Agree s s' o (.froze ds v)) {d : Nat} (hd : d ∈ ds) : s'.box d = s.box d :=
  h.box d (.inr (by simp only [Eff.writes, edits, List.map_map]; exact List.mem_append_left _ (List.mem_map.2 ⟨d, hd, rfl⟩)))
theorem Agree.frozeOwn {ds : List Nat} {ls : List LK} {xs : List (List PV)} (h : Agree s s' o (.frozeOwn ds ls xs)) {d : Nat} (hd : d ∈ ds) : s'.box d = s.box d :=
  h.box d (.inr (by simp only [Eff.writes, edits, List.map_map]; exact List.mem_append_left _ (List.mem_map.2 ⟨d, hd, rfl⟩)))
theorem Agree.store {d off : Nat} {vs : List PV} (h : Agree s s' o (.store d off vs)) : s'.box d = s.box d :=
  h.box d (.inr (by simp [Eff.writes, edits]))
theorem Agree.rstore {d i off : Nat} {vs : List PV} (h : Agree s s' o (.rstore d i off vs)) : s'.box d = s.box d :=
  h.box d (.inr (by simp [Eff.writes, edits]))
theorem Agree.app {d : Nat} {ls : List LK} {xs : List (List PV)} (h : Agree s s' o (.app d ls xs)) : s'.ver d = s.ver d :=
  h.ver d (by simp [Eff.writes, edits, bump])

theorem load_local {t : Nat} {x : Operand} (hx : operand s' x = operand s x) (hag : Agree s s' o e) (ha : actLoad E call s t x some = some e) : actLoad E call s' t x some = some e := by
  have ha0 := ha
  unfold actLoad at ha ha0 ⊢
  rw [hx]
  split at ha
  · cases ha
  · rename_i ti hti
    simp only [hti] at ha0 ⊢
    split at ha
    · rename_i d off hv
      simp only [hv] at ha0 ⊢
      split at ha
      · rename_i cs fz hb
        have : ∃ v, e = .load d v := by
          split at ha
          · cases ha; exact ⟨_, rfl⟩
          · cases ha
        obtain ⟨v, rfl⟩ := this
        rw [hag.load]
        exact ha0
      · cases ha
    · rename_i cs off hv
      simp only [hv] at ha0 ⊢
      exact ha0
    · rename_i d i off hv
      simp only [hv] at ha0 ⊢
      split at ha
      · rename_i cs fz hb
        have : ∃ v, e = .load d v := by
          split at ha
          · cases ha; exact ⟨_, rfl⟩
          · cases ha
        obtain ⟨v, rfl⟩ := this
        rw [hag.load]
        exact ha0
      · cases ha
    · cases ha

theorem store_local {t : Nat} {x y : Operand} (hx : operand s' x = operand s x) (hy : operand s' y = operand s y) (hag : Agree s s' o e) (ha : actStore E call s t x y some = some e) : actStore E call s' t x y some = some e := by
  have ha0 := ha
  unfold actStore at ha ha0 ⊢
  rw [hx, hy]
  split at ha
  · cases ha
  · rename_i ti hti
    simp only [hti] at ha0 ⊢
    split at ha
    · rename_i hq
      rw [if_pos hq] at ha0 ⊢
      split at ha
      · rename_i d off hv
        simp only [hv] at ha0 ⊢
        split at ha
        · have : ∃ off vs, e = .store d off vs := by
            split at ha
            · cases ha; exact ⟨_, _, rfl⟩
            · cases ha
          obtain ⟨_, _, rfl⟩ := this
          rw [hag.store]
          exact ha0
        · cases ha
      · rename_i d i off hv
        simp only [hv] at ha0 ⊢
        split at ha
        · have : ∃ i off vs, e = .rstore d i off vs := by
            split at ha
            · cases ha; exact ⟨_, _, _, rfl⟩
            · cases ha
          obtain ⟨_, _, _, rfl⟩ := this
          rw [hag.rstore]
          exact ha0
        · cases ha
      · cases ha
    · cases ha

theorem len_local {t : Nat} {p : PV} (hag : Agree s s' o e) (ha : lenK E s t p some = some e) : lenK E s' t p some = some e := by
  have ha0 := ha
  unfold lenK at ha ha0 ⊢
  split at ha
  · cases ha
  · rename_i ti hti
    simp only [hti] at ha0 ⊢
    split at ha
    · rename_i hd
      simp only [hd] at ha0 ⊢
      exact ha0
    · rename_i d hd
      simp only [hd] at ha0 ⊢
      split at ha
      · have : ∃ v, e = .load d v := by cases ha; exact ⟨_, rfl⟩
        obtain ⟨v, rfl⟩ := this
        rw [hag.load]
        exact ha0
      · cases ha
    · rename_i hd
      simp only [hd] at ha0 ⊢
      exact ha0
    · rename_i hd
      simp only [hd] at ha0 ⊢
      exact ha0
    · cases ha

theorem index_local {t : Nat} {x i : Operand} (hx : operand s' x = operand s x) (hi : operand s' i = operand s i) (hag : Agree s s' o e) (ha : actIndexAddr E call s t x i some = some e) : actIndexAddr E call s' t x i some = some e := by
  have ha0 := ha
  unfold actIndexAddr at ha ha0 ⊢
  rw [hx, hi]
  split at ha
  · cases ha
  · rename_i ti hti
    simp only [hti] at ha0 ⊢
    split at ha
    · rename_i hd hv
      simp only [hd, hv] at ha0 ⊢
      exact ha0
    · rename_i el d hd hv
      simp only [hd, hv] at ha0 ⊢
      split at ha
      · rename_i te ls xs fz hte hb
        have : ∃ v, e = .load d v := by
          split at ha
          · unfold indexK at ha
            split at ha
            · obtain ⟨_, ha⟩ := guardK_some ha
              obtain ⟨_, ha⟩ := guardK_some ha
              cases ha
              exact ⟨_, rfl⟩
            · cases ha
          · cases ha
        obtain ⟨v, rfl⟩ := this
        rw [hag.load]
        exact ha0
      · cases ha
    · rename_i hd hv
      simp only [hd, hv] at ha0 ⊢
      exact ha0
    · rename_i hd hv
      simp only [hd, hv] at ha0 ⊢
      exact ha0
    · cases ha

theorem slice_local {t : Nat} {x : Operand} {lo hi : Option Operand} (hx : operand s' x = operand s x) (hl : ∀ y, lo = some y → operand s' y = operand s y) (hh : ∀ y, hi = some y → operand s' y = operand s y) (hag : Agree s s' o e)
    (ha : actSlice E call s t x lo hi some = some e) : actSlice E call s' t x lo hi some = some e := by
  have ha0 := ha
  have hlow : ∀ (h : Nat) (κ : Nat → Option Eff), lowK s' lo h κ = lowK s lo h κ := fun h κ => by
    unfold lowK
    cases lo with
    | none => rfl
    | some y => simp only [hl y rfl]
  have hhigh : ∀ (h : Nat) (κ : Nat → Option Eff), highK s' hi h κ = highK s hi h κ := fun h κ => by
    unfold highK
    cases hi with
    | none => rfl
    | some y => simp only [hh y rfl]
  unfold actSlice at ha ha0 ⊢
  rw [hx]
  split at ha
  · cases ha
  · rename_i ti hti
    simp only [hti] at ha0 ⊢
    split at ha
    · rename_i hd hv
      simp only [hd, hv, hlow, hhigh] at ha0 ⊢
      exact ha0
    · rename_i n el d off hd hv
      simp only [hd, hv] at ha0 ⊢
      split at ha
      · have : ∃ v, e = .froze [d] v := by
          split at ha
          · cases ha; exact ⟨_, rfl⟩
          · cases ha
        obtain ⟨v, rfl⟩ := this
        rw [hag.froze (List.mem_cons_self ..)]
        exact ha0
      · cases ha
    · cases ha

theorem append_local {t u : Nat} {p q : PV} (hag : Agree s s' o e) (ha : appK E s t u p q some = some e) : appK E s' t u p q some = some e := by
  have ha0 := ha
  unfold appK at ha ha0 ⊢
  split at ha
  · rename_i ti tu hti htu
    simp only [hti, htu] at ha0 ⊢
    split at ha
    · rename_i hd hd2
      simp only [hd, hd2] at ha0 ⊢
      split at ha
      · cases ha
      · rename_i te hte
        simp only [hte] at ha0 ⊢
        split at ha
        · rename_i d v ls xs tag2 ls2 ys
          have : ∃ ls xs, e = .app d ls xs := by
            split at ha
            · obtain ⟨_, ha⟩ := guardK_some ha
              cases ha; exact ⟨_, _, rfl⟩
            · cases ha
          obtain ⟨_, _, rfl⟩ := this
          rw [hag.app]
          exact ha0
        · cases ha
    · cases ha
  · cases ha

theorem makeFunc_local {f : Nat} {first caps : Array Operand} (hc : ∀ x ∈ caps.toList, operand s' x = operand s x) (hag : Agree s s' o e) (ha : actMakeFunc E call s f first caps some = some e) : actMakeFunc E call s' f first caps some = some e := by
  have ha0 := ha
  have hm : caps.toList.map (operand s') = caps.toList.map (operand s) := List.map_congr_left hc
  unfold actMakeFunc at ha ha0 ⊢
  rw [hm]
  have : ∃ v, e = .froze ((caps.toList.map (operand s)).filterMap capBox) v := by
    split at ha
    · cases ha; exact ⟨_, rfl⟩
    · cases ha
  obtain ⟨v, rfl⟩ := this
  have hcap : (caps.toList.map (operand s)).map (capPV s') = (caps.toList.map (operand s)).map (capPV s) := by
    refine List.map_congr_left fun p hp => ?_
    cases p with
    | ptr d off =>
      show (match s'.box d with | some (.cells cs _) => PV.rp (strips cs) off | _ => .undef) = (match s.box d with | some (.cells cs _) => PV.rp (strips cs) off | _ => .undef)
      rw [hag.froze (List.mem_filterMap.2 ⟨_, hp, rfl⟩)]
    | _ => rfl
  rw [hcap]
  exact ha0

theorem args_local {R : Type} {κ : List PV → List Nat → Option R} : ∀ (os : List Operand) (ds : List Nat) (acc : List PV), (∀ x ∈ os, operand s' x = operand s x) → (∀ d x, x ∈ os → operand s x = .row d → s'.box d = s.box d) →
    argsK s' os ds acc κ = argsK s os ds acc κ
  | [], ds, acc, _, _ => rfl
  | x :: os, ds, acc, h, hb => by
    unfold argsK
    rw [h x (List.mem_cons_self ..)]
    have ih := fun ds acc => args_local (κ := κ) os ds acc (fun y hy => h y (List.mem_cons_of_mem _ hy)) (fun d y hy => hb d y (List.mem_cons_of_mem _ hy))
    split
    · rename_i d hd
      rw [hb d x (List.mem_cons_self ..) hd]
      split
      · exact ih ..
      · rfl
    · exact ih ..

theorem call_local {c : Call} (ho : o.op = .call c) (hag : Agree s s' o e) (ha : actCall E call s c some = some e) : actCall E call s' c some = some e := by
  have hops : ∀ x ∈ c.args.toList, operand s' x = operand s x := fun x hx => hag.op (by
    simp only [ho, Op.operands, Call.operands]
    split <;> simp_all)
  have hmap : c.args.toList.map (operand s') = c.args.toList.map (operand s) := List.map_congr_left hops
  have ha0 := ha
  unfold actCall at ha ha0 ⊢
  cases hc : c.callee with
  | invoke r m => simp [hc] at ha
  | value f =>
    have hf : operand s' f = operand s f := hag.op (by simp [ho, Op.operands, Call.operands, hc])
    simp only [hc, hf] at ha ha0 ⊢
    split at ha
    · rename_i k caps hv
      simp only [hv] at ha0 ⊢
      obtain ⟨ds, hds, ha⟩ := argsK_nil ha
      have hbox : ∀ d ∈ ds, s'.box d = s.box d := by
        split at ha
        · unfold callK at ha
          split at ha
          · unfold mkK at ha
            split at ha
            · intro d hd; cases hd
            · intro d hd; cases hd
            · cases ha
          · split at ha
            · cases ha
            obtain ⟨r, _, ha⟩ := Option.bind_eq_some_iff.1 ha
            split at ha
            · cases ha
            · split at ha
              · split at ha
                · cases ha
                  exact fun d hd => hag.frozeOwn hd
                · cases ha
              · cases ha
                exact fun d hd => hag.froze hd
        · cases ha
      rw [args_local _ _ _ hops fun d x hx hd => hbox d (hds x hx d hd)]
      exact ha0
    · cases ha
  | builtin b =>
    simp only [hc] at ha ha0 ⊢
    cases b with
    | len =>
      dsimp only at ha ha0 ⊢
      split at ha
      · rename_i x t rest hx ht
        simp only [hx, ht] at ha0 ⊢
        rw [hops x (by simp [hx])]
        exact len_local hag ha0
      · cases ha
    | max => simp only [hmap]; exact ha0
    | min => simp only [hmap]; exact ha0
    | append =>
      dsimp only at ha ha0 ⊢
      split at ha
      · rename_i x y t u hx ht
        simp only [hx, ht] at ha0 ⊢
        rw [hops x (by simp [hx]), hops y (by simp [hx])]
        exact append_local hag ha0
      · cases ha
    | _ => cases ha

theorem act_local (hag : Agree s s' o e) (ha : act E call s o = some e) : act E call s' o = some e := by
  have hop : ∀ x, x ∈ o.op.operands → operand s' x = operand s x := fun x hx => hag.op hx
  unfold act actK at ha ⊢
  split at ha
  · rename_i x ho; have := hop x (by simp [ho, Op.operands]); unfold actMove at ha ⊢; rw [this]; exact ha
  · rename_i x ho; have := hop x (by simp [ho, Op.operands]); unfold actMove at ha ⊢; rw [this]; exact ha
  · rename_i c x y ho
    unfold actPick at ha ⊢
    rw [hop c (by simp [ho, Op.operands]), hop x (by simp [ho, Op.operands]), hop y (by simp [ho, Op.operands])]
    exact ha
  · rename_i ho; exact ha
  · rename_i t x ho; unfold actBox at ha ⊢; rw [hop x (by simp [ho, Op.operands])]; exact ha
  · rename_i t parts ho
    unfold actBuild at ha ⊢
    have : (parts.toList.map fun p => (p.1, operand s' p.2)) = parts.toList.map fun p => (p.1, operand s p.2) := List.map_congr_left fun p hp => by
      rw [hop p.2 (by simp only [ho, Op.operands, List.mem_toArray]; exact List.mem_map.2 ⟨p, hp, rfl⟩)]
    rw [this]
    exact ha
  · rename_i t len parts ho
    unfold actBuildSlice at ha ⊢
    have : (parts.toList.map fun p => (p.1, operand s' p.2)) = parts.toList.map fun p => (p.1, operand s p.2) := List.map_congr_left fun p hp => by
      rw [hop p.2 (by simp only [ho, Op.operands, List.mem_toArray]; exact List.mem_map.2 ⟨p, hp, rfl⟩)]
    rw [this]
    exact ha
  · rename_i t x ho; exact load_local (hop x (by simp [ho, Op.operands])) hag ha
  · rename_i t x y ho; exact store_local (hop x (by simp [ho, Op.operands])) (hop y (by simp [ho, Op.operands])) hag ha
  · rename_i op t x y yt ho
    unfold actBinOp at ha ⊢
    rw [hop x (by simp [ho, Op.operands]), hop y (by simp [ho, Op.operands])]
    exact ha
  · rename_i op t x ho; unfold actUnOp at ha ⊢; rw [hop x (by simp [ho, Op.operands])]; exact ha
  · rename_i src dst x ho; unfold actConvert at ha ⊢; rw [hop x (by simp [ho, Op.operands])]; exact ha
  · rename_i f first caps ho; exact makeFunc_local (fun x hx => hop x (by simp only [ho, Op.operands, Array.mem_append]; exact .inr (by simpa using hx))) hag ha
  · rename_i t l c ho
    unfold actMakeSlice at ha ⊢
    rw [hop l (by simp [ho, Op.operands]), hop c (by simp [ho, Op.operands])]
    exact ha
  · rename_i t x lo hi ho
    exact slice_local (hop x (by simp [ho, Op.operands])) (fun y hy => hop y (by simp [ho, Op.operands, hy])) (fun y hy => hop y (by simp [ho, Op.operands, hy])) hag ha
  · rename_i t x f ho; unfold actFieldAddr at ha ⊢; rw [hop x (by simp [ho, Op.operands])]; exact ha
  · rename_i t x f ho; unfold actField at ha ⊢; rw [hop x (by simp [ho, Op.operands])]; exact ha
  · rename_i t x i ho; exact index_local (hop x (by simp [ho, Op.operands])) (hop i (by simp [ho, Op.operands])) hag ha
  · rename_i t x i ho
    unfold actIndex at ha ⊢
    rw [hop x (by simp [ho, Op.operands]), hop i (by simp [ho, Op.operands])]
    exact ha
  · rename_i x i ho; unfold actExtract at ha ⊢; rw [hop x (by simp [ho, Op.operands])]; exact ha
  · rename_i x ho; unfold actNilCheck at ha ⊢; rw [hop x (by simp [ho, Op.operands])]; exact ha
  · rename_i c ho; exact call_local ho hag ha
  · cases ha

end
end Go.Pew

namespace Go.Pew
set_option linter.unusedSimpArgs false
set_option linter.unusedVariables false
set_option linter.unusedVariables false
set_option linter.unusedSimpArgs false

/-! ### what an update leaves -/
theorem putD_get (l : List PV) (dst : Option Nat) (v : PV) (t : Nat) (h : dst ≠ some t) : (putD l dst v).getD t .undef = l.getD t .undef := by
  cases dst with
  | none => rfl
  | some d =>
    simp only [putD, List.getD_eq_getElem?_getD]
    rw [List.getElem?_set_ne (fun e => h (by rw [e]))]

theorem edit_length : ∀ (es : List (Nat × (Option Box → Option Box))) (bs : List (Option Box)), (edit bs es).length = bs.length
  | [], bs => rfl
  | (d, f) :: es, bs => by simp only [edit]; rw [edit_length]; simp

theorem edit_getD : ∀ (es : List (Nat × (Option Box → Option Box))) (bs : List (Option Box)) (d : Nat), d ∉ es.map (·.1) → (edit bs es).getD d none = bs.getD d none
  | [], bs, d, h => rfl
  | (k, f) :: es, bs, d, h => by
    simp only [List.map_cons, List.mem_cons, not_or] at h
    simp only [edit]
    rw [edit_getD es _ d h.2]
    simp only [List.getD_eq_getElem?_getD]
    rw [List.getElem?_set_ne (fun e => h.1 e.symm)]

theorem edit_set : ∀ (es : List (Nat × (Option Box → Option Box))) (bs : List (Option Box)) (d : Nat) (b : Option Box), d ∉ es.map (·.1) → edit (bs.set d b) es = (edit bs es).set d b
  | [], bs, d, b, h => rfl
  | (k, f) :: es, bs, d, b, h => by
    simp only [List.map_cons, List.mem_cons, not_or] at h
    simp only [edit]
    have : (bs.set d b).getD k none = bs.getD k none := by
      simp only [List.getD_eq_getElem?_getD]
      rw [List.getElem?_set_ne h.1]
    rw [this, List.set_comm _ _ h.1, edit_set es _ d b h.2]

theorem edit_comm : ∀ (es fs : List (Nat × (Option Box → Option Box))) (bs : List (Option Box)), (∀ d, d ∈ es.map (·.1) → d ∉ fs.map (·.1)) → edit (edit bs es) fs = edit (edit bs fs) es
  | [], fs, bs, h => rfl
  | (k, f) :: es, fs, bs, h => by
    simp only [edit]
    have hk := h k (by simp)
    rw [edit_comm es fs _ (fun d hd => h d (by simp at hd ⊢; exact .inr hd)), edit_set fs bs k _ hk, edit_getD fs bs k hk]

theorem bumped_getD (vs : List Nat) (b : Option Nat) (d : Nat) (h : b ≠ some d) : (bumped vs b).getD d 0 = vs.getD d 0 := by
  cases b with
  | none => rfl
  | some e =>
    simp only [bumped, List.getD_eq_getElem?_getD]
    rw [List.getElem?_set_ne (fun q => h (by rw [q]))]

theorem bumped_comm (vs : List Nat) (b c : Option Nat) (h : ∀ d, b = some d → c ≠ some d) : bumped (bumped vs b) c = bumped (bumped vs c) b := by
  cases b with
  | none => rfl
  | some d =>
    cases c with
    | none => rfl
    | some e =>
      have hne : d ≠ e := fun q => h d rfl (by rw [q])
      have h1 := bumped_getD vs (some d) e (fun q => hne (by cases q; rfl))
      have h2 := bumped_getD vs (some e) d (fun q => hne (by cases q; rfl))
      simp only [bumped] at h1 h2 ⊢
      rw [h1, h2, List.set_comm _ _ hne]

theorem putD_comm (l : List PV) (b c : Option Nat) (u v : PV) (h : ∀ d, b = some d → c ≠ some d) : putD (putD l b u) c v = putD (putD l c v) b u := by
  cases b with
  | none => rfl
  | some d =>
    cases c with
    | none => rfl
    | some e => exact List.set_comm _ _ (fun q => h d rfl (by rw [q]))

section
variable {E : Env} {call : Nat → List PV → Option PV} {ops : Array Oper} {s s' : St}

theorem upd_get {dst : Option Nat} {e : Eff} {t : Nat} (h : dst ≠ some t) : (upd s dst e).get t = s.get t := putD_get _ _ _ _ h
theorem upd_box {dst : Option Nat} {e : Eff} {d : Nat} (h : 2 * d ∉ e.writes dst) : (upd s dst e).box d = s.box d := by
  refine edit_getD _ _ _ fun hd => h ?_
  obtain ⟨x, hx, rfl⟩ := List.mem_map.1 hd
  exact List.mem_append_left _ (List.mem_map.2 ⟨x, hx, rfl⟩)
theorem upd_ver {dst : Option Nat} {e : Eff} {d : Nat} (h : 2 * d + 1 ∉ e.writes dst) : (upd s dst e).ver d = s.ver d := by
  refine bumped_getD _ _ _ fun hd => h ?_
  unfold Eff.writes
  rw [hd]
  simp

theorem meets_false {a b : List Nat} (h : meets a b = false) : ∀ x, x ∈ a → x ∉ b := by
  unfold meets at h
  rw [List.any_eq_false] at h
  intro x hx hb
  exact h x hx (by simpa using hb)

/-- Neither touches what the other writes. -/
structure Disj (y x : Oper × Eff) : Prop where
  wr : meets (y.2.writes y.1.dst) x.2.reads = false
  ww : meets (y.2.writes y.1.dst) (x.2.writes x.1.dst) = false
  rw : meets y.2.reads (x.2.writes x.1.dst) = false

theorem Disj.symm {y x : Oper × Eff} (h : Disj y x) : (∀ k, k ∈ x.2.writes x.1.dst → k ∉ y.2.writes y.1.dst) ∧ (∀ k, k ∈ x.2.writes x.1.dst → k ∉ y.2.reads) :=
  ⟨fun k hk hy => meets_false h.ww k hy hk, fun k hk hy => meets_false h.rw k hy hk⟩

/-- An operation's effect in another state that agrees. -/
theorem eff_local {o : Oper} {e : Eff} (h : eff E call ops s o = some e) (hg : ∀ t, t ∈ o.looksAt ops → s'.get t = s.get t) (hb : ∀ d, (2 * d ∈ e.reads ∨ 2 * d ∈ e.writes o.dst) → s'.box d = s.box d)
    (hv : ∀ d, 2 * d + 1 ∈ e.writes o.dst → s'.ver d = s.ver d) (hl : s'.slots.length = s.slots.length) : eff E call ops s' o = some e := by
  have hw : want ops s' o = want ops s o := by
    unfold want
    cases hgd : o.guard with
    | none => rfl
    | some g =>
      obtain ⟨j, b⟩ := g
      dsimp only
      cases hd : (ops[j]?).bind (·.dst) with
      | none => rfl
      | some t => dsimp only; rw [hg t (by simp only [Oper.looksAt, hgd]; exact List.mem_append_right _ (by simp [hd]))]
  unfold eff at h ⊢
  rw [hw]
  split at h
  · obtain ⟨e', he, h⟩ := Option.bind_eq_some_iff.1 h
    split at h
    · rename_i hok
      cases h
      have := act_local (s' := s') (E := E) (call := call) (o := o) ⟨fun t ht => hg t (by
        refine List.mem_append_left _ (List.mem_filterMap.2 ⟨.tmp t, by simpa using ht, rfl⟩)), hb, hv⟩ he
      rw [this, Option.bind_some]
      have hok' : okEff s' o.dst e = true := by
        rw [← hok]
        unfold okEff
        rw [hl]
        cases e with
        | alloc cs =>
          cases hd : o.dst with
          | none => rfl
          | some d => dsimp only; rw [hb d (.inr (by simp [Eff.writes, edits, hd]))]
        | row ls xs =>
          cases hd : o.dst with
          | none => rfl
          | some d => dsimp only; rw [hb d (.inr (by simp [Eff.writes, edits, hd]))]
        | clo g pre cs post =>
          cases hd : o.dst with
          | none => rfl
          | some d => dsimp only; rw [hb d (.inr (by simp [Eff.writes, edits, hd]))]
        | _ => rfl
      rw [if_pos hok']
    · cases h
  · cases h; rfl
  · cases h

theorem upd_slots_length {dst : Option Nat} {e : Eff} : (upd s dst e).slots.length = s.slots.length := putD_length _ _ _

theorem valOf_local {dst : Option Nat} {e : Eff} (hv : ∀ d, 2 * d + 1 ∈ e.writes dst → s'.ver d = s.ver d) : valOf s' dst e = valOf s dst e := by
  cases e with
  | mk ls xs =>
    cases dst with
    | none => rfl
    | some d => simp only [valOf]; rw [hv d (by simp [Eff.writes, edits, bump])]
  | frozeOwn ds ls xs =>
    cases dst with
    | none => rfl
    | some d => simp only [valOf]; rw [hv d (by simp [Eff.writes, bump])]
  | app tag ls xs => simp only [valOf]; rw [hv tag (by simp [Eff.writes, edits, bump])]
  | _ => rfl

theorem eff_comm {x y : Oper} {ex ey : Eff} (hy : eff E call ops s y = some ey) (hx : eff E call ops (upd s y.dst ey) x = some ex) (hap : y.apart ops x = true) (hd : Disj (y, ey) (x, ex)) :
    eff E call ops s x = some ex ∧ eff E call ops (upd s x.dst ex) y = some ey ∧ upd (upd s y.dst ey) x.dst ex = upd (upd s x.dst ex) y.dst ey := by
  obtain ⟨h1, h2, h3⟩ := Oper.apart_spec hap
  obtain ⟨h4, h5⟩ := hd.symm
  have hver : ∀ d, 2 * d + 1 ∈ ex.writes x.dst → s.ver d = (upd s y.dst ey).ver d := fun d hd' => (upd_ver (h4 _ hd')).symm
  have hver' : ∀ d, 2 * d + 1 ∈ ey.writes y.dst → (upd s x.dst ex).ver d = s.ver d := fun d hd' => upd_ver (meets_false hd.ww _ hd')
  refine ⟨eff_local hx (fun t ht => ?_) (fun d hq => ?_) hver upd_slots_length.symm, eff_local hy (fun t ht => ?_) (fun d hq => ?_) hver' upd_slots_length, ?_⟩
  · exact (upd_get fun q => h1 t q ht).symm
  · refine (upd_box ?_).symm
    rcases hq with hq | hq
    · exact fun hw => meets_false hd.wr _ hw hq
    · exact h4 _ hq
  · exact upd_get fun q => h3 t q ht
  · refine upd_box ?_
    rcases hq with hq | hq
    · exact fun hw => h5 _ hw hq
    · exact meets_false hd.ww _ hq
  · have hv1 : valOf (upd s y.dst ey) x.dst ex = valOf s x.dst ex := valOf_local fun d hd' => (hver d hd').symm
    have hv2 : valOf (upd s x.dst ex) y.dst ey = valOf s y.dst ey := valOf_local hver'
    have e1 : (upd (upd s y.dst ey) x.dst ex) = { slots := putD (putD s.slots y.dst (valOf s y.dst ey)) x.dst (valOf (upd s y.dst ey) x.dst ex), boxes := edit (edit s.boxes (edits y.dst ey)) (edits x.dst ex), vers := bumped (bumped s.vers (bump y.dst ey)) (bump x.dst ex) } := rfl
    have e2 : (upd (upd s x.dst ex) y.dst ey) = { slots := putD (putD s.slots x.dst (valOf s x.dst ex)) y.dst (valOf (upd s x.dst ex) y.dst ey), boxes := edit (edit s.boxes (edits x.dst ex)) (edits y.dst ey), vers := bumped (bumped s.vers (bump x.dst ex)) (bump y.dst ey) } := rfl
    rw [e1, e2, hv1, hv2]
    congr 1
    · exact putD_comm _ _ _ _ _ fun d hq => h2 d hq
    · refine edit_comm _ _ _ fun d hq hp => ?_
      obtain ⟨u, hu, rfl⟩ := List.mem_map.1 hq
      obtain ⟨v, hv, hvu⟩ := List.mem_map.1 hp
      exact meets_false hd.ww (2 * u.1) (List.mem_append_left _ (List.mem_map.2 ⟨u, hu, rfl⟩)) (List.mem_append_left _ (List.mem_map.2 ⟨v, hv, by show 2 * v.1 = _; rw [hvu]⟩))
    · refine bumped_comm _ _ _ fun d hq hp => ?_
      exact meets_false hd.ww (2 * d + 1) (by simp only [Eff.writes, hq]; simp) (by simp only [Eff.writes, hp]; simp)

/-- An operation that nothing before it touches may come first. -/
theorem bubble {i : Nat} {o : Oper} {post : List (Nat × Oper)} {s1 : St} : ∀ (pre : List (Nat × Oper)) (s : St) (tr : List (Nat × Oper × Eff)), Run E call ops (pre ++ (i, o) :: post) s tr s1 →
    ∃ trp e trq, tr = trp ++ (i, o, e) :: trq ∧ trp.map (fun x => (x.1, x.2.1)) = pre ∧
      ((∀ y ∈ trp, y.2.1.apart ops o = true ∧ Disj (y.2.1, y.2.2) (o, e)) → Run E call ops ((i, o) :: (pre ++ post)) s ((i, o, e) :: (trp ++ trq)) s1)
  | [], s, tr, h => by
    cases h with
    | cons he hr => exact ⟨[], _, _, rfl, rfl, fun _ => .cons he hr⟩
  | (j, p) :: pre, s, tr, h => by
    cases h with
    | cons hp hr =>
      obtain ⟨trp, e, trq, rfl, h2, h3⟩ := bubble pre _ _ hr
      refine ⟨(j, p, _) :: trp, e, trq, rfl, by simp [h2], fun hall => ?_⟩
      have := h3 fun y hy => hall y (List.mem_cons_of_mem _ hy)
      obtain ⟨ha, hd⟩ := hall _ (List.mem_cons_self ..)
      cases this with
      | cons he hr' =>
        obtain ⟨c1, c2, c3⟩ := eff_comm hp he ha hd
        refine .cons c1 (.cons c2 ?_)
        rw [← c3]
        exact hr'

/-! ### masks -/
def maskOf (acc : List Nat) (o : Oper) : Nat := o.after.toList.foldl (fun m e => if Region.binds .any e then m ||| 2 ^ e.on ||| acc.getD e.on 0 else m) 0

theorem maskOf_spec {acc : List Nat} {o : Oper} {i : Nat} (h : (maskOf acc o).testBit i = true) : ∃ e ∈ o.after.toList, Region.binds .any e = true ∧ (i = e.on ∨ (acc.getD e.on 0).testBit i = true) := by
  unfold maskOf at h
  generalize o.after.toList = es at h ⊢
  have key : ∀ (es : List Edge) (m : Nat), (es.foldl (fun m e => if Region.binds .any e then m ||| 2 ^ e.on ||| acc.getD e.on 0 else m) m).testBit i = true →
      m.testBit i = true ∨ ∃ e ∈ es, Region.binds .any e = true ∧ (i = e.on ∨ (acc.getD e.on 0).testBit i = true) := by
    intro es
    induction es with
    | nil => intro m h; exact .inl h
    | cons e es ih =>
      intro m h
      simp only [List.foldl_cons] at h
      rcases ih _ h with h | ⟨e', h1, h2, h3⟩
      · by_cases hb : Region.binds .any e = true
        · rw [if_pos hb] at h
          simp only [Nat.testBit_or, Bool.or_eq_true, Nat.testBit_two_pow, decide_eq_true_eq] at h
          rcases h with (h | h) | h
          · exact .inl h
          · exact .inr ⟨e, List.mem_cons_self .., hb, .inl h.symm⟩
          · exact .inr ⟨e, List.mem_cons_self .., hb, .inr h⟩
        · rw [if_neg hb] at h
          exact .inl h
      · exact .inr ⟨e', List.mem_cons_of_mem _ h1, h2, h3⟩
  rcases key es 0 h with h | h
  · simp at h
  · exact h

theorem masks_go (ops : List Oper) : ∀ (acc : List Nat), (ops.foldl (fun acc o => acc ++ [maskOf acc o]) acc).length = acc.length + ops.length ∧ ∀ k, k < acc.length → (ops.foldl (fun acc o => acc ++ [maskOf acc o]) acc)[k]? = acc[k]? := by
  induction ops with
  | nil => intro acc; simp
  | cons o ops ih =>
    intro acc
    obtain ⟨h1, h2⟩ := ih (acc ++ [maskOf acc o])
    simp only [List.foldl_cons]
    refine ⟨by rw [h1]; simp; omega, fun k hk => ?_⟩
    rw [h2 k (by simp; omega), List.getElem?_append_left hk]

theorem masks_spec (ops : List Oper) (j i : Nat) (h : ((masks ops).getD j 0).testBit i = true) : ∃ o, ops[j]? = some o ∧ ∃ e ∈ o.after.toList, Region.binds .any e = true ∧ (i = e.on ∨ ((masks ops).getD e.on 0).testBit i = true) := by
  have key : ∀ (l : List Oper) (acc : List Nat) (j : Nat), acc.length ≤ j → ((l.foldl (fun acc o => acc ++ [maskOf acc o]) acc).getD j 0).testBit i = true →
      ∃ o, l[j - acc.length]? = some o ∧ ∃ e ∈ o.after.toList, Region.binds .any e = true ∧ (i = e.on ∨ ((l.foldl (fun acc o => acc ++ [maskOf acc o]) acc).getD e.on 0).testBit i = true) := by
    intro l
    induction l with
    | nil =>
      intro acc j hj h
      simp [List.getD_eq_getElem?_getD, List.getElem?_eq_none hj] at h
    | cons o l ih =>
      intro acc j hj h
      simp only [List.foldl_cons] at h ⊢
      by_cases hq : j = acc.length
      · subst hq
        refine ⟨o, by simp, ?_⟩
        obtain ⟨_, h2⟩ := masks_go l (acc ++ [maskOf acc o])
        have h3 := h2 acc.length (by simp)
        rw [List.getD_eq_getElem?_getD, h3] at h
        simp at h
        obtain ⟨e, e1, e2, e3⟩ := maskOf_spec h
        refine ⟨e, e1, e2, e3.imp id fun hb => ?_⟩
        have hlt : e.on < acc.length := by
          rcases Nat.lt_or_ge e.on acc.length with q | q
          · exact q
          · rw [List.getD_eq_getElem?_getD, List.getElem?_eq_none q] at hb
            simp at hb
        rw [List.getD_eq_getElem?_getD, h2 e.on (by simp; omega), List.getElem?_append_left hlt, ← List.getD_eq_getElem?_getD]
        exact hb
      · obtain ⟨o', h1, h2⟩ := ih (acc ++ [maskOf acc o]) j (by simp; omega) h
        refine ⟨o', ?_, h2⟩
        simp only [List.length_append, List.length_cons, List.length_nil] at h1
        have : j - acc.length = (j - (acc.length + 1)) + 1 := by omega
        rw [this, List.getElem?_cons_succ]
        exact h1
  have := key ops [] j (Nat.zero_le _) h
  simp only [List.length_nil, Nat.sub_zero] at this
  exact this

end
end Go.Pew

namespace Go.Pew
set_option linter.unusedSimpArgs false
set_option linter.unusedVariables false
open Go.RowKit
set_option linter.unusedVariables false
set_option linter.unusedSimpArgs false

/-- What is checked of a region once: binding edges go back, and what is not ordered is apart. -/
def okRegion (ops : Array Oper) : Bool :=
  (ops.toList.zipIdx.all fun x => x.1.after.toList.all fun e => !Region.binds .any e || Nat.blt e.on x.2) &&
  (ops.toList.zipIdx.all fun x => ops.toList.zipIdx.all fun y => !Nat.blt y.2 x.2 || ((masks ops.toList).getD x.2 0).testBit y.2 || y.1.apart ops x.1)

theorem okRegion_spec {ops : Array Oper} (h : okRegion ops = true) : (∀ j o, ops[j]? = some o → ∀ e ∈ o.after.toList, Region.binds .any e = true → e.on < j) ∧
    ∀ i j x y, ops[j]? = some x → ops[i]? = some y → i < j → ((masks ops.toList).getD j 0).testBit i = true ∨ y.apart ops x = true := by
  unfold okRegion at h
  rw [Bool.and_eq_true, List.all_eq_true, List.all_eq_true] at h
  obtain ⟨h1, h2⟩ := h
  have hm : ∀ j o, ops[j]? = some o → (o, j) ∈ ops.toList.zipIdx := fun j o hj => by
    rw [List.mem_zipIdx_iff_getElem?]
    simpa using hj
  refine ⟨fun j o hj e he hb => ?_, fun i j x y hx hy hij => ?_⟩
  · have := h1 _ (hm j o hj)
    rw [List.all_eq_true] at this
    have := this e he
    simp only [hb, Bool.not_true, Bool.false_or] at this
    exact blt_lt this
  · have := h2 _ (hm j x hx)
    rw [List.all_eq_true] at this
    have := this _ (hm i y hy)
    have hb : Nat.blt i j = true := by
      unfold Nat.blt
      exact Nat.ble_eq_true_of_le hij
    simpa [hb] using this

section
variable {P : Program} {E : Env} {call : Nat → List PV → Option PV} {base n : Nat} {w0 : Start} {g : Gh} {s : St} {a : Act} {w : World} {o : Oper} {e : Eff} {ops : Array Oper} {ro : Option Nat} {m : Nat}

theorem want_wanted (h : SimG base w0 n g s a w) {b : Bool} (hw : want ops s o = some b) : Region.wanted o (yielded ops a.tmps) = b := by
  unfold want at hw
  unfold Region.wanted
  cases hg : o.guard with
  | none => rw [hg] at hw; cases hw; rfl
  | some gd =>
    obtain ⟨j, wt⟩ := gd
    rw [hg] at hw
    dsimp only at hw ⊢
    unfold yielded
    cases hd : (ops[j]?).bind (·.dst) with
    | none => rw [hd] at hw; cases hw
    | some t =>
      rw [hd] at hw
      dsimp only at hw
      rw [Option.bind_some]
      have hr := eval_rep h t (.inr trivial)
      have hlt : s.get t ≠ .undef → t < a.tmps.size := fun hne => by
        apply Classical.byContradiction
        intro q
        have hlen : s.slots.length ≤ t := by
          have := h.slots.length
          rw [Array.length_toList] at this
          rw [← this]
          exact Nat.not_lt.1 q
        exact hne (by simp [St.get, List.getD_eq_getElem?_getD, List.getElem?_eq_none hlen])
      split at hw
      · rename_i hv
        cases hw
        have hl := hlt (by rw [hv]; intro q; cases q)
        rw [hv] at hr
        obtain ⟨us, hu, _⟩ := hr
        simp only [Act.eval, Array.getD_eq_getD_getElem?, Array.getElem?_eq_getElem hl, Option.getD_some] at hu
        rw [Array.getElem?_eq_getElem hl, hu]
        rfl
      · rename_i b' hv
        cases hw
        have hl := hlt (by rw [hv]; intro q; cases q)
        rw [hv] at hr
        have hu : a.eval (.tmp t) = .bool b' := hr
        simp only [Act.eval, Array.getD_eq_getD_getElem?, Array.getElem?_eq_getElem hl, Option.getD_some] at hu
        rw [Array.getElem?_eq_getElem hl, hu]
        rfl
      · cases hw

/-- The wide fence, in a round or not. -/
def rf (ro : Option Nat) : Fence := { Fence.wide with round := ro }

theorem calls_rf {ro : Option Nat} {n : Nat} {f : FuncId} {args : Array Value} {R : Ending → World → Prop} (h : Calls P f args w R) : CallsIn (rf ro) n P f args w R :=
  (callsIn_wide (n := n)).2 h

theorem wpIn_of_wp {ro : Option Nat} {m : Nat} {K : Act → World → Prop} {Q : Exit → Act → World → Prop} (hnd : ∀ c, o.op ≠ .defer c) (h : o.wp P a w K Q) : o.wpIn (rf ro) m P a w K Q := by
  refine ⟨fun _ _ => trivial, ?_⟩
  rw [Oper.semAt_eq _ _ _ hnd]
  unfold Oper.wp at h
  generalize (execOp a.eval o).run P w = r at h
  cases r with
  | ok x w' =>
    cases x with
    | enter f args => exact ⟨fun q => by simp [rf, Fence.wide] at q, calls_rf h⟩
    | row row args =>
      refine ⟨fun q => by simp [rf, Fence.wide] at q, fun c cs _ => ?_⟩
      obtain ⟨v, w'', hr, hs⟩ := h c cs
      exact ⟨v, w'', hr, stepsIn_wide.2 hs⟩
    | value v => exact h
    | skip => exact h
    | defer d => exact h
    | _ => exact False.elim h
  | halt x w' =>
    cases x with
    | panic v => exact h
    | _ => exact False.elim h

theorem act_nodefer {s : St} {e : Eff} (h : act E call s o = some e) : ∀ c, o.op ≠ .defer c := by
  intro c hc
  unfold act actK at h
  rw [hc] at h
  cases h

/-- One operation of a region. -/
theorem op_sound (O : EnvOk P E) (hcall : ∀ f args r, call f args = some r → Contract P E f args r) (h : Sim base w0 n s a w) {i : Nat} (hi : ops[i]? = some o) (he : eff E call ops s o = some e) {Q : Exit → Act → World → Prop} {K : Act → World → Prop}
    (hK : ∀ a' w', Sim base w0 n (upd s o.dst e) a' w' → K a' w') : wpOpIn (rf ro) m P ops Q i K a w := by
  obtain ⟨g, h⟩ := h
  unfold wpOpIn
  rw [hi]
  dsimp only
  unfold eff at he
  split at he
  · rename_i hw
    rw [want_wanted h hw, if_pos rfl]
    obtain ⟨e', he', he⟩ := Option.bind_eq_some_iff.1 he
    split at he
    · rename_i hok
      cases he
      exact wpIn_of_wp (act_nodefer he') (act_sound O hcall h he' hok K Q hK)
    · cases he
  · rename_i hw
    cases he
    rw [want_wanted h hw, if_neg (by simp)]
    refine ⟨fun _ _ => trivial, hK _ _ ⟨g, ?_⟩⟩
    rw [upd_skip]
    exact h.val (rep_undef _) o.dst
  · cases he

theorem ops_sound (O : EnvOk P E) (hcall : ∀ f args r, call f args = some r → Contract P E f args r) {Q : Exit → Act → World → Prop} (rest : List Nat) : ∀ {l : List (Nat × Oper)} {s : St} {tr : List (Nat × Oper × Eff)} {s1 : St} {a : Act} {w : World}, Run E call ops l s tr s1 →
    (∀ x ∈ l, ops[x.1]? = some x.2) → Sim base w0 n s a w → (∀ a' w', Sim base w0 n s1 a' w' → wpOpsIn (rf ro) m P ops Q rest a' w') → wpOpsIn (rf ro) m P ops Q (l.map (·.1) ++ rest) a w
  | [], s, tr, s1, a, w, hr, hl, h, hQ => by
    cases hr
    exact hQ _ _ h
  | (i, o) :: l, s, tr, s1, a, w, hr, hl, h, hQ => by
    cases hr with
    | cons he hr =>
      rw [List.map_cons, List.cons_append, wpOpsIn_cons]
      exact op_sound O hcall h (hl _ (List.mem_cons_self ..)) he fun a' w' h' => ops_sound O hcall rest hr (fun x hx => hl x (List.mem_cons_of_mem _ hx)) h' hQ

theorem run_ops {E : Env} {call : Nat → List PV → Option PV} : ∀ {l : List (Nat × Oper)} {s : St} {tr : List (Nat × Oper × Eff)} {s1 : St}, Run E call ops l s tr s1 → tr.map (fun x => (x.1, x.2.1)) = l
  | [], s, tr, s1, h => by cases h; rfl
  | (i, o) :: l, s, tr, s1, h => by
    cases h with
    | cons he hr => simp [run_ops hr]

theorem any_sound (O : EnvOk P E) (hcall : ∀ f args r, call f args = some r → Contract P E f args r) (hok : okRegion ops = true) {Q : Exit → Act → World → Prop} {s1 : St} (hQ : ∀ a' w', Sim base w0 n s1 a' w' → Q .normal a' w') :
    ∀ (fuel : Nat) (listed : Array Bool) (l : List (Nat × Oper)) (s : St) (tr : List (Nat × Oper × Eff)) (a : Act) (w : World), l.length ≤ fuel → listed.size = ops.size → (∀ x ∈ l, ops[x.1]? = some x.2) → l.Pairwise (fun x y => x.1 < y.1) →
      (∀ i, i < ops.size → (listed.getD i true = false ↔ ∃ o, (i, o) ∈ l)) → (∀ j i, listed.getD j false = true → ((masks ops.toList).getD j 0).testBit i = true → listed.getD i false = true) →
      Run E call ops l s tr s1 → tr.Pairwise (Apart (masks ops.toList)) → Sim base w0 n s a w → wpAnyIn (rf ro) m P .any ops Q fuel listed a w := by
  obtain ⟨hback, hapart⟩ := okRegion_spec hok
  have hsame : ∀ (listed : Array Bool) i, listed.size = ops.size → i < ops.size → listed.getD i false = listed.getD i true := fun listed i hs hi => by
    simp [Array.getD_eq_getD_getElem?, Array.getElem?_eq_getElem (hs ▸ hi)]
  have hempty : ∀ (listed : Array Bool) (l : List (Nat × Oper)), listed.size = ops.size → (∀ x ∈ l, ops[x.1]? = some x.2) → l.Pairwise (fun x y => x.1 < y.1) → (∀ i, i < ops.size → (listed.getD i true = false ↔ ∃ o, (i, o) ∈ l)) →
      (Region.ready .any ops listed = [] ↔ l = []) := by
    intro listed l hs hl hsort hli
    constructor
    · intro hr
      cases l with
      | nil => rfl
      | cons x l =>
        obtain ⟨i, o⟩ := x
        exfalso
        have hi := hl _ (List.mem_cons_self ..)
        dsimp only at hi
        have hlt : i < ops.size := (Array.getElem?_eq_some_iff.1 hi).1
        have : i ∈ Region.ready .any ops listed := by
          unfold Region.ready
          rw [List.mem_filter]
          refine ⟨List.mem_range.2 hlt, ?_⟩
          rw [(hli i hlt).2 ⟨o, List.mem_cons_self ..⟩, hi]
          simp only [Bool.not_false, Bool.true_and, Option.map_some, Option.getD_some]
          rw [Array.all_eq_true_iff_forall_mem]
          intro e he
          by_cases hb : Region.binds .any e = true
          · have hlt2 := hback i o hi e (by simpa using he) hb
            have : listed.getD e.on true ≠ false := fun hq => by
              obtain ⟨o', ho'⟩ := (hli e.on (by omega)).1 hq
              rcases List.mem_cons.1 ho' with ho' | ho'
              · cases ho'; omega
              · have := (List.pairwise_cons.1 hsort).1 _ ho'
                dsimp only at this
                omega
            rw [hsame listed _ hs (by omega)]
            simp [this]
          · simp [hb]
        rw [hr] at this
        cases this
    · intro hq
      subst hq
      unfold Region.ready
      rw [List.filter_eq_nil_iff]
      intro i hi
      have hlt := List.mem_range.1 hi
      have : listed.getD i true ≠ false := fun hq => by
        obtain ⟨o, ho⟩ := (hli i hlt).1 hq
        cases ho
      simp [this]
  intro fuel
  induction fuel with
  | zero =>
    intro listed l s tr a w hfu hs hl hsort hli hcl hr hap h
    have hl0 : l = [] := List.eq_nil_of_length_eq_zero (by omega)
    refine ⟨(hempty listed l hs hl hsort hli).2 hl0, ?_⟩
    subst hl0
    cases hr
    exact hQ _ _ h
  | succ fuel ih =>
    intro listed l s tr a w hfu hs hl hsort hli hcl hr hap h
    refine ⟨fun hre => ?_, fun i hi => ?_⟩
    · have hl0 := (hempty listed l hs hl hsort hli).1 hre
      subst hl0
      cases hr
      exact hQ _ _ h
    · unfold Region.ready at hi
      rw [List.mem_filter] at hi
      obtain ⟨hi1, hi2⟩ := hi
      have hlt := List.mem_range.1 hi1
      rw [Bool.and_eq_true] at hi2
      obtain ⟨hi2, hi3⟩ := hi2
      have hnl : listed.getD i true = false := by simpa using hi2
      obtain ⟨o, ho⟩ := (hli i hlt).1 hnl
      have hio := hl _ ho
      dsimp only at hio
      rw [hio] at hi3
      simp only [Option.map_some, Option.getD_some] at hi3
      rw [Array.all_eq_true_iff_forall_mem] at hi3
      have hbit : ∀ k, ((masks ops.toList).getD i 0).testBit k = true → listed.getD k false = true := fun k hk => by
        obtain ⟨o', ho', e, he, hb, hke⟩ := masks_spec ops.toList i k hk
        have : o' = o := by
          rw [Array.getElem?_toList, hio] at ho'
          cases ho'; rfl
        subst this
        have hon := hi3 e (by simpa using he)
        simp only [hb, Bool.not_true, Bool.false_or] at hon
        rcases hke with rfl | hke
        · exact hon
        · exact hcl _ _ hon hke
      obtain ⟨pre, post, rfl⟩ := List.append_of_mem ho
      obtain ⟨trp, e, trq, rfl, hpre, hbub⟩ := bubble pre _ _ hr
      have hsp := List.pairwise_append.1 hsort
      have hall : ∀ y ∈ trp, y.2.1.apart ops o = true ∧ Disj (y.2.1, y.2.2) (o, e) := fun y hy => by
        have hyp : (y.1, y.2.1) ∈ pre := by rw [← hpre]; exact List.mem_map.2 ⟨y, hy, rfl⟩
        have hylt : y.1 < i := hsp.2.2 _ hyp _ (List.mem_cons_self ..)
        have hyo := hl _ (List.mem_append_left _ hyp)
        dsimp only at hyo
        have hynl : listed.getD y.1 true = false := (hli y.1 (by omega)).2 ⟨y.2.1, List.mem_append_left _ hyp⟩
        have hnb : ((masks ops.toList).getD i 0).testBit y.1 ≠ true := fun hq => by
          have := hbit _ hq
          rw [hsame listed _ hs (by omega), hynl] at this
          cases this
        refine ⟨(hapart y.1 i o y.2.1 hio hyo hylt).resolve_left hnb, ?_⟩
        have := (List.pairwise_append.1 hap).2.2 y hy _ (List.mem_cons_self ..)
        rcases this with hq | ⟨h1, h2, h3⟩
        · exact absurd hq hnb
        · exact ⟨h1, h2, h3⟩
      have hrun := hbub hall
      cases hrun with
      | cons he hrun =>
        refine op_sound O hcall h hio he fun a' w' h' => ?_
        have hpp : (trp ++ trq).Pairwise (Apart (masks ops.toList)) := by
          refine hap.sublist ?_
          exact List.Sublist.append_left (List.sublist_cons_self ..) _
        have hsub : (pre ++ post).Sublist (pre ++ (i, o) :: post) := List.Sublist.append_left (List.sublist_cons_self ..) _
        have hgt : ∀ k b, k < ops.size → (listed.setIfInBounds i true).getD k b = if i = k then true else listed.getD k b := fun k b hk => by
          simp only [Array.getD_eq_getD_getElem?, Array.getElem?_setIfInBounds]
          by_cases q : i = k
          · subst q; simp [hs, hlt]
          · simp [q]
        refine ih (listed.setIfInBounds i true) (pre ++ post) _ _ a' w' (by simp at hfu ⊢; omega) (by simp [hs]) (fun x hx => hl x (hsub.subset hx)) (hsort.sublist hsub) (fun k hk => ?_) (fun j k hj hk => ?_) hrun hpp h'
        · rw [hgt k true hk]
          by_cases q : i = k
          · subst q
            rw [if_pos rfl]
            constructor
            · intro hq; cases hq
            · rintro ⟨o', ho'⟩
              exfalso
              rcases List.mem_append.1 ho' with hm | hm
              · have := hsp.2.2 _ hm _ (List.mem_cons_self ..)
                dsimp only at this
                omega
              · have := (List.pairwise_cons.1 hsp.2.1).1 _ hm
                dsimp only at this
                omega
          · rw [if_neg q, hli k hk]
            constructor
            · rintro ⟨o', ho'⟩
              rcases List.mem_append.1 ho' with hm | hm
              · exact ⟨o', List.mem_append_left _ hm⟩
              · rcases List.mem_cons.1 hm with hm | hm
                · cases hm; exact absurd rfl q
                · exact ⟨o', List.mem_append_right _ hm⟩
            · rintro ⟨o', ho'⟩
              exact ⟨o', hsub.subset ho'⟩
        · have hjk : ∀ k, (listed.getD k false = true ∨ i = k) → k < ops.size → (listed.setIfInBounds i true).getD k false = true := fun k hq hk => by
            rw [hgt k false hk]
            rcases hq with hq | hq
            · rw [hq]; simp
            · rw [if_pos hq]
          have hjs : j < ops.size := by
            apply Classical.byContradiction
            intro hq
            rw [Array.getD_eq_getD_getElem?, Array.getElem?_eq_none (by simp [hs]; omega)] at hj
            cases hj
          rw [hgt j false hjs] at hj
          have hk' : listed.getD k false = true := by
            by_cases q : i = j
            · subst q; exact hbit k hk
            · rw [if_neg q] at hj
              exact hcl j k hj hk
          have hks : k < ops.size := by
            apply Classical.byContradiction
            intro hq
            rw [Array.getD_eq_getD_getElem?, Array.getElem?_eq_none (by simp [hs]; omega)] at hk'
            cases hk'
          exact hjk k (.inl hk') hks

theorem Sim.drew (h : Sim base w0 n s a w) : Sim base w0 n s a { w with drawn := w.drawn + 1 } := by
  obtain ⟨g, h⟩ := h
  exact ⟨_, (h.world (w' := { w with drawn := w.drawn + 1 }) ⟨rfl, rfl, rfl, Nat.le_refl _, fun _ _ => rfl⟩ g.st (fun _ _ h => h) (fun _ _ h => .inl h) h.stlt).1⟩

theorem zip_mem {ops : Array Oper} {x : Nat × Oper} (hx : x ∈ (ops.toList.zipIdx 0 |>.map fun x => (x.2, x.1))) : ops[x.1]? = some x.2 := by
  obtain ⟨y, hy, rfl⟩ := List.mem_map.1 hx
  have := List.mem_zipIdx_iff_getElem?.1 hy
  simpa using this

theorem zip_range (ops : Array Oper) : (ops.toList.zipIdx 0 |>.map fun x => (x.2, x.1)).map (·.1) = List.range ops.size := by
  rw [List.map_map]
  have : ((fun x : Nat × Oper => x.1) ∘ fun x : Oper × Nat => (x.2, x.1)) = Prod.snd := rfl
  rw [this, List.zipIdx_map_snd, List.range_eq_range']
  simp

theorem region_sound (O : EnvOk P E) (hm : P.follows .mixedOrders = true) (hcall : ∀ f args r, call f args = some r → Contract P E f args r) {id : Nat} {draw : Bool} (hok : draw = true → okRegion ops = true) {Q : Exit → Act → World → Prop} {R : Type} {κ : St → Option R} {r : R} (h : Sim base w0 n s a w)
    (hQ : ∀ s1, κ s1 = some r → ∀ a' w', Sim base w0 n s1 a' w' → Q .normal a' w')
    (he : (match draw with
      | true => forceL (masks ops.toList) fun ms => opsD E call ops ms 0 ops.toList [] s κ
      | false => opsK E call ops ops.toList s κ) = some r) : (Code.region id ops draw).wpIn (rf ro) m P Q a w := by
  cases draw with
  | false =>
    obtain ⟨tr, s1, hr, hk⟩ := opsK_run E call ops ops.toList 0 s κ r he
    refine wpIn_region ?_
    have := ops_sound (ro := ro) (m := m) O hcall (Q := Q) [] hr (fun x hx => zip_mem hx) h (hQ s1 hk)
    rw [zip_range, List.append_nil] at this
    exact this
  | true =>
    simp only [forceL_eq] at he
    obtain ⟨tr, s1, hr, hk, _, hp⟩ := opsD_run E call ops _ ops.toList 0 [] [] s κ r (by simp) he
    refine wpIn_region_any hm ?_
    have hrng := zip_range ops
    refine any_sound O hcall (hok rfl) (hQ s1 hk) ops.size _ _ s tr a _ (by simp) (by simp) (fun x hx => zip_mem hx) ?_ (fun i hi => ?_) (fun j i hj => ?_) hr hp h.drew
    · have : ((ops.toList.zipIdx 0 |>.map fun x => (x.2, x.1)).map (·.1)).Pairwise (· < ·) := by rw [hrng]; exact List.pairwise_lt_range
      exact List.pairwise_map.1 this
    · constructor
      · intro _
        have : i ∈ (ops.toList.zipIdx 0 |>.map fun x => (x.2, x.1)).map (·.1) := by rw [hrng]; exact List.mem_range.2 hi
        obtain ⟨x, hx, rfl⟩ := List.mem_map.1 this
        exact ⟨x.2, hx⟩
      · intro _
        simp [Array.getD_eq_getD_getElem?, hi]
    · exfalso
      rw [Array.getD_eq_getD_getElem?, Array.getElem?_replicate] at hj
      split at hj <;> cases hj

end
end Go.Pew

namespace Go.Pew
set_option linter.unusedSimpArgs false
set_option linter.unusedVariables false
open Go.RowKit
set_option linter.unusedVariables false
set_option linter.unusedSimpArgs false

theorem scrubs_length (h : Hd) (vers : List Nat) : ∀ ps : List PV, (scrubs h vers ps).length = ps.length
  | [] => rfl
  | p :: ps => by simp [scrubs, scrubs_length h vers ps]

theorem forget_length : ∀ (ds : List Nat) (l : List PV), (forget l ds).length = l.length
  | [], l => rfl
  | d :: ds, l => by simp only [forget]; rw [forget_length]; simp

theorem scrubBox_length (h : Hd) (vers : List Nat) : ∀ (i : Nat) (bs : List (Option Box)), (scrubBox h vers i bs).length = bs.length
  | _, [] => rfl
  | i, b :: bs => by simp [scrubBox, scrubBox_length h vers (i + 1) bs]

theorem scrubBox_get (h : Hd) (vers : List Nat) : ∀ (i : Nat) (bs : List (Option Box)) (d : Nat), (scrubBox h vers i bs).getD d none = if h.drop.contains (i + d) then none else match bs.getD d none with
      | some (.cells cs f) => some (.cells (scrubs h vers cs) f)
      | b => b
  | i, [], d => by simp [scrubBox]
  | i, b :: bs, 0 => by
    simp only [scrubBox, List.getD_cons_zero, Nat.add_zero]
    cases b with
    | none => rfl
    | some b => cases b <;> rfl
  | i, b :: bs, d + 1 => by
    simp only [scrubBox, List.getD_cons_succ]
    rw [scrubBox_get h vers (i + 1) bs d, Nat.add_right_comm, Nat.add_assoc]

theorem Reps.set_undef {C : Ctx} {ps : List PV} {us : List Value} (h : Reps C ps us) (d : Nat) : Reps C (ps.set d .undef) us := by
  refine Reps.of_get (by rw [List.length_set]; exact h.length) fun i u hu => ?_
  by_cases q : d = i
  · subst q
    simp only [nth, List.getD_eq_getElem?_getD, List.getElem?_set]
    split
    · split <;> trivial
    · rename_i q; exact absurd trivial q
  · have := h.get i u hu
    simpa [nth, List.getD_eq_getElem?_getD, List.getElem?_set_ne q] using this

theorem Reps.forget {C : Ctx} {us : List Value} : ∀ (ds : List Nat) {ps : List PV}, Reps C ps us → Reps C (Pew.forget ps ds) us
  | [], ps, h => h
  | d :: ds, ps, h => Reps.forget ds (h.set_undef d)

/-- How the contexts stand to each other. -/
structure Scr (h : Hd) (vers : List Nat) (C C' : Ctx) : Prop where
  le0 : C.Le0 C'
  bx : ∀ d B, h.drop.contains d = false → C.bx d = some B → C'.bx d = some B
  rs : ∀ d, h.drop.contains d = false → C'.rs d = C.rs d
  rl : ∀ d, h.drop.contains d = false → C'.rl d = C.rl d
  tg : ∀ d z v, C.tg d (vers.getD d 0) z v → C'.tg d 0 z v
  yl : ∀ l, C.yl = some l → C'.yl = some l

mutual
theorem Rep.scrub {h : Hd} {vers : List Nat} {C C' : Ctx} (H : Scr h vers C C') : (p : PV) → (v : Value) → Rep C p v → Rep C' (scrub h vers p) v
  | .undef, v, r => trivial
  | .bool b, v, r => r
  | .int k n, v, r => r
  | .str s, v, r => r
  | .nilp, v, r => r
  | .ptr d off, v, r => by
    obtain ⟨B, h1, h2⟩ := r
    simp only [Pew.scrub]
    split
    · trivial
    · rename_i q
      exact ⟨B, H.bx _ _ (by simpa using q) h1, h2⟩
  | .rp cells off, v, r => by
    simp only [Pew.scrub]
    split
    · rename_i q
      exact Rep.mono0 H.le0 _ _ (by simpa [plain] using q) r
    · trivial
  | .sl tag ls xs, v, r => by
    obtain ⟨A, cap, rows, h1, h2, h3, h4, h5, h6, h7⟩ := r
    simp only [Pew.scrub]
    refine ⟨A, cap, rows, h1, h2, RepRows.mono0 H.le0 xs rows (fun x hx => confs_plains (h6 x hx)) h3, h4, ?_, h6, fun d k e => ?_⟩
    · rcases h5 with h5 | ⟨B, o, h5, h8⟩
      · exact .inl h5
      · exact .inr ⟨B, o, h5, H.le0.reads h8⟩
    · cases tag with
      | none => cases e
      | some dk =>
        obtain ⟨d0, k0⟩ := dk
        dsimp only at e
        split at e
        · rename_i q
          cases e
          have := h7 _ _ rfl
          rw [q.1] at this
          exact H.tg _ _ _ this
        · cases e
  | .row d, v, r => by
    obtain ⟨B, h1, h2⟩ := r
    simp only [Pew.scrub]
    split
    · trivial
    · rename_i q
      have q : h.drop.contains d = false := by simpa using q
      exact ⟨B, H.bx _ _ q h1, by rw [H.rl d q]; exact h2⟩
  | .rowp d i off, v, r => by
    obtain ⟨B, h1, h2, h3⟩ := r
    simp only [Pew.scrub]
    split
    · trivial
    · rename_i q
      have q : h.drop.contains d = false := by simpa using q
      exact ⟨B, H.bx _ _ q h1, by rw [H.rs d q]; exact h2, by rw [H.rl d q]; exact h3⟩
  | .agg cells, v, r => by
    obtain ⟨us, h1, h2⟩ := r
    exact ⟨us, h1, Reps.scrubs H cells _ h2⟩
  | .tup vs, v, r => by
    obtain ⟨us, h1, h2⟩ := r
    exact ⟨us, h1, Reps.scrubs H vs _ h2⟩
  | .yld, v, r => by
    obtain ⟨l, h1, h2⟩ := r
    exact ⟨l, H.yl _ h1, h2⟩
  | .fn f caps, v, r => by
    simp only [Pew.scrub]
    split
    · rename_i q
      exact Rep.mono0 H.le0 _ _ (by simpa [plain] using q) r
    · trivial
termination_by structural p => p
theorem Reps.scrubs {h : Hd} {vers : List Nat} {C C' : Ctx} (H : Scr h vers C C') : (ps : List PV) → (us : List Value) → Reps C ps us → Reps C' (scrubs h vers ps) us
  | [], us, r => r
  | p :: ps, us, r => by
    obtain ⟨u, ws, h1, h2, h3⟩ := r
    exact ⟨u, ws, h1, Rep.scrub H p u h2, Reps.scrubs H ps ws h3⟩
termination_by structural ps => ps
end

section
variable {base n : Nat} {w0 : Start} {s : St} {a : Act} {w : World}

theorem SimG.head {g : Gh} (h : SimG base w0 n g s a w) (hd : Hd) (hpin : ∀ d ∈ hd.drop, w0.pin d = none) : SimG base w0 n { g with bx := fun d => if hd.drop.contains d then none else g.bx d } (s.head hd) a w := by
  let g' : Gh := { g with bx := fun d => if hd.drop.contains d then none else g.bx d }
  have hbox : ∀ d, (s.head hd).box d = if hd.drop.contains d then none else match s.box d with
      | some (.cells cs f) => some (.cells (scrubs hd s.vers cs) f)
      | b => b := fun d => by
    have := scrubBox_get hd s.vers 0 s.boxes d
    rw [Nat.zero_add] at this
    exact this
  have hbx : ∀ d B, g'.bx d = some B → g.bx d = some B ∧ hd.drop.contains d = false := fun d B hq => by
    have hq : (if hd.drop.contains d then none else g.bx d) = some B := hq
    split at hq
    · cases hq
    · rename_i q; exact ⟨hq, by simpa using q⟩
  have hbx' : ∀ d B, hd.drop.contains d = false → g.bx d = some B → g'.bx d = some B := fun d B hq hB => by
    show (if hd.drop.contains d then none else g.bx d) = some B
    rw [hq]
    exact hB
  have H : Scr hd s.vers (ctx s w g) (ctx (s.head hd) w g') :=
    { le0 := ⟨fun _ _ h => h, fun _ _ _ => rfl⟩
      bx := hbx'
      rs := fun d hq => by
        show rowSize ((s.head hd).box d) = rowSize (s.box d)
        rw [hbox d, hq]
        simp only [Bool.false_eq_true, if_false]
        cases s.box d with
        | none => rfl
        | some b => cases b <;> rfl
      rl := fun d hq => by
        show rowLen ((s.head hd).box d) = rowLen (s.box d)
        rw [hbox d, hq]
        simp only [Bool.false_eq_true, if_false]
        cases s.box d with
        | none => rfl
        | some b => cases b <;> rfl
      tg := fun d z v ht => by
        obtain ⟨h1, h2⟩ := ht
        have hv : (s.head hd).ver d = 0 := by
          show (s.vers.map fun _ => 0).getD d 0 = 0
          simp only [List.getD_eq_getElem?_getD, List.getElem?_map]
          cases s.vers[d]? <;> rfl
        exact ⟨Nat.zero_le _, fun _ => h2 rfl⟩
      yl := fun _ h => h }
  exact
  { ns := by show (scrubs _ _ (forget _ _)).length = n; rw [scrubs_length, forget_length]; exact h.ns
    nb := by show (scrubBox _ _ _ _).length = n; rw [scrubBox_length]; exact h.nb
    nv := by show (s.vers.map _).length = n; rw [List.length_map]; exact h.nv
    slots := Reps.scrubs H _ _ (Reps.forget _ h.slots)
    marks := h.marks
    base_le := h.base_le
    below := h.below
    nobox := fun d hq => by
      show (if hd.drop.contains d then none else g.bx d) = none
      rw [hbox d] at hq
      split at hq
      · rename_i q; rw [if_pos q]
      · rename_i q
        rw [if_neg q]
        refine h.nobox d ?_
        split at hq
        · cases hq
        · exact hq
    cells := fun d cs fz he => by
      rw [hbox d] at he
      split at he
      · cases he
      · rename_i q
        have q : hd.drop.contains d = false := by simpa using q
        split at he
        · rename_i cs0 f0 hb
          cases he
          obtain ⟨B, us, T, h1, h2, h3, h4, h5, h6⟩ := h.cells d cs0 fz hb
          exact ⟨B, us, T, hbx' d B q h1, h2, h3, Reps.scrubs H _ _ h4, h5, h6⟩
        · rename_i hn
          exact absurd he (hn _ _)
    rows := fun d ls xs fz he => by
      rw [hbox d] at he
      split at he
      · cases he
      · rename_i q
        have q : hd.drop.contains d = false := by simpa using q
        split at he
        · cases he
        · obtain ⟨B, us, T, rws, h1, h2, h3, h4, h5, h6, h7, h8, h9⟩ := h.rows d ls xs fz he
          exact ⟨B, us, T, rws, hbx' d B q h1, h2, h3, h4, RepRows.mono0 H.le0 _ _ (fun x hx => confs_plains (h7 x hx)) h5, h6, h7, h8, h9⟩
    inj := fun d d' B h1 h2 => h.inj d d' B (hbx d B h1).1 (hbx d' B h2).1
    own := fun d => (h.own d).mono (fun _ _ => rfl) (fun _ _ _ h => h) fun d' B _ hq => (hbx d' B hq).1
    apart := h.apart
    news := h.news
    stlt := h.stlt
    kept := h.kept
    pinned := fun d B hq => by
      show (if hd.drop.contains d then none else g.bx d) = some B
      have : hd.drop.contains d = false := by
        cases hc : hd.drop.contains d with
        | false => rfl
        | true => rw [hpin d (by simpa using hc)] at hq; cases hq
      rw [this]
      exact h.pinned d B hq
    quiet := fun B hB => by
      obtain ⟨h1, h2, h3, h4⟩ := h.quiet B hB
      exact ⟨h1, h2, fun d hq => h3 d (hbx d B hq).1, h4⟩
    yld := h.yld
    newsq := h.newsq }

theorem Sim.head (h : Sim base w0 n s a w) (hd : Hd) (hpin : ∀ d ∈ hd.drop, w0.pin d = none) : Sim base w0 n (s.head hd) a w := by
  obtain ⟨g, h⟩ := h
  exact ⟨_, h.head hd hpin⟩

end
end Go.Pew

namespace Go.Pew
set_option linter.unusedSimpArgs false
set_option linter.unusedVariables false
open Go.RowKit
set_option linter.unusedVariables false
set_option linter.unusedSimpArgs false

structure Later0 (base : Nat) (w0 w0' : Start) : Prop where
  below : Below base w0.toWorld w0'.toWorld
  keep : ∀ B o, w0.keep B o → w0'.keep B o ∧ w0'.toWorld.cell? ⟨B, o, none⟩ = w0.toWorld.cell? ⟨B, o, none⟩
  news : ∀ B o, w0'.keep B o → w0.keep B o ∨ base ≤ B
  far : ∀ k, w0'.far k → w0.far k ∨ w0.heap.size ≤ k

/-- Later, and what is fixed has stayed but for the blocks X. -/
structure Later (base : Nat) (X : Nat → Prop) (w0 w0' : Start) : Prop extends Later0 base w0 w0' where
  fix : ∀ B, ¬ X B → w0.fix B → w0'.fix B ∧ w0'.heap[B]? = w0.heap[B]? ∧ ∀ o, w0'.keep B o → w0.keep B o

theorem Later0.refl (base : Nat) (w0 : Start) : Later0 base w0 w0 := ⟨Below.refl _ _, fun _ _ h => ⟨h, rfl⟩, fun _ _ h => .inl h, fun _ h => .inl h⟩
theorem Later.refl (base : Nat) (X : Nat → Prop) (w0 : Start) : Later base X w0 w0 := ⟨Later0.refl _ _, fun _ _ h => ⟨h, rfl, fun _ h => h⟩⟩
theorem Later0.trans {base : Nat} {a b c : Start} (h : Later0 base a b) (k : Later0 base b c) : Later0 base a c :=
  ⟨h.below.trans k.below, fun B o q => ⟨(k.keep B o (h.keep B o q).1).1, (k.keep B o (h.keep B o q).1).2.trans (h.keep B o q).2⟩,
    fun B o q => (k.news B o q).elim (fun q => h.news B o q) .inr, fun B q => (k.far B q).elim (h.far B) fun q => .inr (Nat.le_trans h.below.size q)⟩
theorem Later.trans {base : Nat} {X : Nat → Prop} {a b c : Start} (h : Later base X a b) (k : Later base X b c) : Later base X a c :=
  ⟨h.toLater0.trans k.toLater0, fun B hX q => by
    obtain ⟨h1, h2, h3⟩ := h.fix B hX q
    obtain ⟨k1, k2, k3⟩ := k.fix B hX h1
    exact ⟨k1, k2.trans h2, fun o ho => h3 o (k3 o ho)⟩⟩
theorem Later.weak {base : Nat} {X X' : Nat → Prop} {a b : Start} (h : Later base X a b) (hX : ∀ B, a.fix B → X B → X' B) : Later base X' a b :=
  ⟨h.toLater0, fun B hB q => h.fix B (fun x => hB (hX B q x)) q⟩

/-- Those to whom we yield see nothing of it. -/
structure Turn (w0 w0' : Start) : Prop where
  far : w0'.far = w0.far
  same : ∀ B, w0.far B → w0'.heap[B]? = w0.heap[B]?
  below : Below 0 w0.toWorld w0'.toWorld
  keep : ∀ B o, w0.keep B o → w0'.keep B o ∧ w0'.toWorld.cell? ⟨B, o, none⟩ = w0.toWorld.cell? ⟨B, o, none⟩
  news : ∀ B o, w0'.keep B o → w0.keep B o ∨ ¬ w0.far B
  stok : StOk w0'.toWorld w0'.keep
  yl : w0'.yl = w0.yl

variable {base n : Nat} {w0 : Start} {g : Gh} {s : St} {a : Act} {w : World}

theorem SimG.turn (h : SimG base w0 n g s a w) {w' : World} {w0n : Start} {st1 : Nat → Nat → Prop} {sl : List PV} {a' : Act}
    (hbx : ∀ d B, g.bx d = some B → w'.heap[B]? = w.heap[B]?) (hown : ∀ d B, ownBlock (g.own d) = some B → w'.heap[B]? = w.heap[B]?)
    (hst : ∀ B o, g.st B o → st1 B o) (hcell : ∀ B o, g.st B o → w'.cell? ⟨B, o, none⟩ = w.cell? ⟨B, o, none⟩)
    (hnew : ∀ B o, st1 B o → g.st B o ∨ ((∀ d, g.bx d ≠ some B) ∧ ∀ d, ownBlock (g.own d) ≠ some B)) (hok : StOk w' st1)
    (hnewsq : ∀ B o, st1 B o → w0n.keep B o ∨ ¬ (w0n.far B ∨ w0n.fix B)) (hbase : base ≤ w0n.heap.size) (hbelow : Below base w0n.toWorld w') (hnews : ∀ B o, st1 B o → w0n.keep B o ∨ base ≤ B)
    (hkept : ∀ B o, w0n.keep B o → st1 B o ∧ w'.cell? ⟨B, o, none⟩ = w0n.toWorld.cell? ⟨B, o, none⟩)
    (hpin : ∀ d B, w0n.pin d = some B → g.bx d = some B)
    (hquiet : ∀ B, (w0n.far B ∨ w0n.fix B) → B < w0n.heap.size ∧ w'.heap[B]? = w0n.heap[B]? ∧ (∀ d, g.bx d ≠ some B) ∧ ∀ d, ownBlock (g.own d) ≠ some B)
    (hyl : w0n.yl = w0.yl) (hsl : sl.length = n) (hreps : (ctx s w g).Le (ctx s w' { g with st := st1 }) → Reps (ctx s w' { g with st := st1 }) sl a'.tmps.toList)
    (hm : ∃ Ds : List Nat, a'.defers = Ds.map mark ∧ Ds.Nodup ∧ ∀ D ∈ Ds, w0n.fix D ∧ base ≤ D ∧ w0n.heap[D]? = some (.deferred (some []))) :
    SimG base w0n n { g with st := st1 } { s with slots := sl } a' w' := by
  have hle : (ctx s w g).Le (ctx s w' { g with st := st1 }) := ⟨hst, hcell, fun _ _ h => h, fun _ _ _ _ h => h, fun _ _ _ => rfl, fun _ _ _ => rfl, fun _ h => h⟩
  exact
  { ns := hsl
    nb := h.nb
    nv := h.nv
    slots := hreps hle
    marks := hm
    base_le := hbase
    below := hbelow
    nobox := h.nobox
    cells := fun d cs fz he => by
      obtain ⟨B, us, T, h1, h2, h3, h4, h5, h6⟩ := h.cells d cs fz he
      refine ⟨B, us, T, h1, by rw [hbx d B h1]; exact h2, h3, Reps.mono hle _ _ h4, fun hf o ho => hst _ _ (h5 hf o ho), fun hf o ho => ?_⟩
      rcases hnew B o ho with q | q
      · exact h6 hf o q
      · exact q.1 d h1
    rows := fun d ls xs fz he => by
      obtain ⟨B, us, T, rws, h1, h2, h3, h4, h5, h6, h7, h8, h9⟩ := h.rows d ls xs fz he
      refine ⟨B, us, T, rws, h1, by rw [hbx d B h1]; exact h2, h3, h4, RepRows.mono hle _ _ h5, h6, h7, fun hf o ho => hst _ _ (h8 hf o ho), fun hf o ho => ?_⟩
      rcases hnew B o ho with q | q
      · exact h9 hf o q
      · exact q.1 d h1
    inj := h.inj
    own := fun d => (h.own d).mono (fun B hB => hown d B hB) (fun B o hB ho => by
      rcases hnew B o ho with q | q
      · exact q
      · exact absurd hB (q.2 d)) (fun _ _ _ h => h)
    apart := h.apart
    stlt := hok
    news := hnews
    kept := hkept
    pinned := hpin
    quiet := hquiet
    yld := h.yld.trans hyl.symm
    newsq := hnewsq }

/-- The start is told anew: here and now. -/
theorem SimG.rebase (h : SimG base w0 n g s a w) {w0n : Start} {sl : List PV} {a' : Act} (e1 : w0n.toWorld = w) (hst : ∀ B o, g.st B o → w0n.keep B o) (hnew : ∀ B o, w0n.keep B o → g.st B o ∨ ((∀ d, g.bx d ≠ some B) ∧ ∀ d, ownBlock (g.own d) ≠ some B))
    (hok : StOk w w0n.keep) (hpin : ∀ d B, w0n.pin d = some B → g.bx d = some B) (hquiet : ∀ B, (w0n.far B ∨ w0n.fix B) → B < w.heap.size ∧ (∀ d, g.bx d ≠ some B) ∧ ∀ d, ownBlock (g.own d) ≠ some B)
    (hyl : w0n.yl = w0.yl) (hsl : sl.length = n) (hreps : (ctx s w g).Le (ctx s w { g with st := w0n.keep }) → Reps (ctx s w { g with st := w0n.keep }) sl a'.tmps.toList)
    (hm : ∃ Ds : List Nat, a'.defers = Ds.map mark ∧ Ds.Nodup ∧ ∀ D ∈ Ds, w0n.fix D ∧ base ≤ D ∧ w.heap[D]? = some (.deferred (some []))) :
    SimG base w0n n { g with st := w0n.keep } { s with slots := sl } a' w := by
  subst e1
  exact h.turn (fun _ _ _ => rfl) (fun _ _ _ => rfl) hst (fun _ _ _ => rfl) hnew hok (fun _ _ h => .inl h) (Nat.le_trans h.base_le h.below.size) (Below.refl _ _) (fun _ _ h => .inl h) (fun _ _ h => ⟨h, rfl⟩) hpin
    (fun B hB => ⟨(hquiet B hB).1, rfl, (hquiet B hB).2⟩) hyl hsl hreps hm

/-- Blocks that are none of the frame's turn. -/
theorem SimG.away (h : SimG base w0 n g s a w) {w' : World} (hb : Below base w w') (hbx : ∀ d B, g.bx d = some B → w'.heap[B]? = w.heap[B]?) (hown : ∀ d B, ownBlock (g.own d) = some B → w'.heap[B]? = w.heap[B]?)
    (hcell : ∀ B o, g.st B o → w'.cell? ⟨B, o, none⟩ = w.cell? ⟨B, o, none⟩) (hok : StOk w' g.st) (hq : ∀ B, (w0.far B ∨ w0.fix B) → w'.heap[B]? = w.heap[B]?) : SimG base w0 n g s a w' :=
  h.turn (st1 := g.st) (sl := s.slots) (a' := a) hbx hown (fun _ _ h => h) hcell (fun _ _ h => .inl h) hok h.newsq h.base_le (h.below.trans hb) h.news
    (fun B o ho => ⟨(h.kept B o ho).1, (hcell B o (h.kept B o ho).1).trans (h.kept B o ho).2⟩) h.pinned
    (fun B hB => ⟨(h.quiet B hB).1, (hq B hB).trans (h.quiet B hB).2.1, (h.quiet B hB).2.2⟩) rfl h.ns (fun hl => Reps.mono hl _ _ h.slots) h.marks

/-- A block that holds no cells is none of the frame's. -/
theorem SimG.noCells (h : SimG base w0 n g s a w) {B : Nat} {o : Obj} (hB : w.heap[B]? = some o) (ho : o.isCells = false) : (∀ d, g.bx d ≠ some B) ∧ (∀ d, ownBlock (g.own d) ≠ some B) ∧ ∀ k, ¬ g.st B k := by
  refine ⟨fun d hq => ?_, fun d hq => ?_, fun k hk => ?_⟩
  · obtain ⟨_, _, us, T, e⟩ := h.bx_lt hq
    rw [hB] at e; cases e; cases ho
  · rcases h.own d with q | ⟨B', o', len, cap, us, T, e1, _, e2, _⟩
    · rw [q] at hq; simp [ownBlock] at hq
    · rw [e1] at hq; simp [ownBlock] at hq; subst hq
      rw [hB] at e2; cases e2; cases ho
  · obtain ⟨us, T, fr, e, _⟩ := h.stlt B k hk
    rw [hB] at e; cases e; cases ho

theorem putObj_cell {l B o : Nat} {x y : Obj} {k : Nat} (hl : w.heap[l]? = some x) (hne : B ≠ l) : (w.putObj l y).cell? ⟨B, o, none⟩ = w.cell? ⟨B, o, none⟩ :=
  World.cell?_of_block (w := w) (World.putObj_heap_other hne)

/-- Such a block turns. -/
theorem SimG.putObj (h : SimG base w0 n g s a w) {l : Nat} {x y : Obj} (hl : w.heap[l]? = some x) (hx : x.isCells = false) (hb : base ≤ l) (hnq : ¬ (w0.far l ∨ w0.fix l)) : SimG base w0 n g s a (w.putObj l y) := by
  obtain ⟨h1, h2, h3⟩ := h.noCells hl hx
  have hne : ∀ {B}, B ≠ l → (w.putObj l y).heap[B]? = w.heap[B]? := fun hq => World.putObj_heap_other hq
  refine h.away ⟨rfl, rfl, rfl, by simp, fun k hk => hne (by omega)⟩ (fun d B hB => hne fun q => h1 d (q ▸ hB)) (fun d B hB => hne fun q => h2 d (q ▸ hB)) (fun B o ho => World.cell?_of_block (w := w) (hne fun q => h3 o (q ▸ ho))) (fun B o ho => ?_)
    (fun B hB => hne fun q => hnq (q ▸ hB))
  obtain ⟨us, T, fr, e, hl'⟩ := h.stlt B o ho
  exact ⟨us, T, fr, by rw [hne fun q => h3 o (q ▸ ho)]; exact e, hl'⟩

end Go.Pew

namespace Go.Pew
set_option linter.unusedSimpArgs false
set_option linter.unusedVariables false
open Go.RowKit
set_option linter.unusedVariables false
set_option linter.unusedSimpArgs false

mutual
/-- What stays told as long as no box of the list is dropped. -/
def PinOk (drop : List Nat) : PV → Prop
  | .sl tag _ xs => tag = none ∧ ∀ x ∈ xs, plains x = true
  | .row _ => False
  | .rowp .. => False
  | .ptr d _ => drop.contains d = false
  | .agg cs => PinOks drop cs
  | .tup vs => PinOks drop vs
  | .rp cs _ => plains cs = true
  | .fn _ cs => plains cs = true
  | _ => True
termination_by structural x => x
def PinOks (drop : List Nat) : List PV → Prop
  | [] => True
  | v :: vs => PinOk drop v ∧ PinOks drop vs
termination_by structural x => x
end

structure Carry (drop : List Nat) (C C' : Ctx) : Prop where
  le0 : C.Le0 C'
  bx : ∀ d B, drop.contains d = false → C.bx d = some B → C'.bx d = some B
  yl : ∀ l, C.yl = some l → C'.yl = some l

mutual
theorem Rep.carry {drop : List Nat} {C C' : Ctx} (H : Carry drop C C') : (p : PV) → (v : Value) → PinOk drop p → Rep C p v → Rep C' p v
  | .undef, v, q, r => trivial
  | .bool b, v, q, r => r
  | .int k n, v, q, r => r
  | .str s, v, q, r => r
  | .nilp, v, q, r => r
  | .ptr d off, v, q, r => by
    obtain ⟨B, h1, h2⟩ := r
    exact ⟨B, H.bx _ _ q h1, h2⟩
  | .rp cells off, v, q, r => Rep.mono0 H.le0 _ _ (by simpa [plain, PinOk] using q) r
  | .sl tag ls xs, v, q, r => by
    obtain ⟨A, cap, rows, h1, h2, h3, h4, h5, h6, h7⟩ := r
    refine ⟨A, cap, rows, h1, h2, RepRows.mono0 H.le0 xs rows q.2 h3, h4, ?_, h6, fun d k e => by rw [q.1] at e; cases e⟩
    rcases h5 with h5 | ⟨B, o, h5, h8⟩
    · exact .inl h5
    · exact .inr ⟨B, o, h5, H.le0.reads h8⟩
  | .row d, v, q, r => q.elim
  | .rowp d i off, v, q, r => q.elim
  | .agg cells, v, q, r => by
    obtain ⟨us, h1, h2⟩ := r
    exact ⟨us, h1, Reps.carry H cells _ q h2⟩
  | .tup vs, v, q, r => by
    obtain ⟨us, h1, h2⟩ := r
    exact ⟨us, h1, Reps.carry H vs _ q h2⟩
  | .fn f caps, v, q, r => Rep.mono0 H.le0 _ _ (by simpa [plain, PinOk] using q) r
  | .yld, v, q, r => by
    obtain ⟨l, h1, h2⟩ := r
    exact ⟨l, H.yl _ h1, h2⟩
termination_by structural p => p
theorem Reps.carry {drop : List Nat} {C C' : Ctx} (H : Carry drop C C') : (ps : List PV) → (us : List Value) → PinOks drop ps → Reps C ps us → Reps C' ps us
  | [], us, q, r => r
  | p :: ps, us, q, r => by
    obtain ⟨u, ws, h1, h2, h3⟩ := r
    exact ⟨u, ws, h1, Rep.carry H p u q.1 h2, Reps.carry H ps ws q.2 h3⟩
termination_by structural ps => ps
end

mutual
theorem pinV_ok (h : Hd) (vers : List Nat) {C : Ctx} : (p : PV) → (v : Value) → Rep C (pinV (scrub h vers p)) v → PinOk h.drop (pinV (scrub h vers p))
  | .undef, v, r => trivial
  | .bool b, v, r => trivial
  | .int k n, v, r => trivial
  | .str s, v, r => trivial
  | .nilp, v, r => trivial
  | .yld, v, r => trivial
  | .ptr d off, v, r => by
    simp only [scrub]
    split
    · trivial
    · rename_i q; simpa [pinV, PinOk] using q
  | .rp cells off, v, r => by
    simp only [scrub]
    split
    · rename_i q; simp only [pinV, q, if_true]; exact q
    · trivial
  | .sl tag ls xs, v, r => by
    simp only [scrub, pinV] at r ⊢
    obtain ⟨A, cap, rows, h1, h2, h3, h4, h5, h6, h7⟩ := r
    exact ⟨rfl, fun x hx => confs_plains (h6 x hx)⟩
  | .row d, v, r => by
    simp only [scrub]
    split <;> trivial
  | .rowp d i off, v, r => by
    simp only [scrub]
    split <;> trivial
  | .agg cells, v, r => by
    obtain ⟨us, _, h2⟩ := r
    exact pinVs_ok h vers cells us.toList h2
  | .tup vs, v, r => by
    obtain ⟨us, _, h2⟩ := r
    exact pinVs_ok h vers vs us.toList h2
  | .fn f caps, v, r => by
    simp only [scrub]
    split
    · rename_i q; simp only [pinV, q, if_true]; exact q
    · trivial
termination_by structural p => p
theorem pinVs_ok (h : Hd) (vers : List Nat) {C : Ctx} : (ps : List PV) → (us : List Value) → Reps C (pinVs (scrubs h vers ps)) us → PinOks h.drop (pinVs (scrubs h vers ps))
  | [], us, r => trivial
  | p :: ps, us, r => by
    obtain ⟨u, ws, h1, h2, h3⟩ := r
    exact ⟨pinV_ok h vers p u h2, pinVs_ok h vers ps ws h3⟩
termination_by structural ps => ps
end

mutual
theorem Rep.pin {C : Ctx} : (p : PV) → (v : Value) → Rep C p v → Rep C (pinV p) v
  | .undef, v, r => r
  | .bool b, v, r => r
  | .int k n, v, r => r
  | .str s, v, r => r
  | .nilp, v, r => r
  | .yld, v, r => r
  | .ptr d off, v, r => r
  | .rp cells off, v, r => by
    simp only [pinV]
    split
    · exact r
    · trivial
  | .sl tag ls xs, v, r => Rep.strip_tag r
  | .row d, v, r => trivial
  | .rowp d i off, v, r => trivial
  | .agg cells, v, r => by
    obtain ⟨us, h1, h2⟩ := r
    exact ⟨us, h1, Reps.pin cells _ h2⟩
  | .tup vs, v, r => by
    obtain ⟨us, h1, h2⟩ := r
    exact ⟨us, h1, Reps.pin vs _ h2⟩
  | .fn f caps, v, r => by
    simp only [pinV]
    split
    · exact r
    · trivial
termination_by structural p => p
theorem Reps.pin {C : Ctx} : (ps : List PV) → (us : List Value) → Reps C ps us → Reps C (pinVs ps) us
  | [], us, r => r
  | p :: ps, us, r => by
    obtain ⟨u, ws, h1, h2, h3⟩ := r
    exact ⟨u, ws, h1, Rep.pin p u h2, Reps.pin ps ws h3⟩
termination_by structural ps => ps
end

theorem pinVs_length : ∀ ps : List PV, (pinVs ps).length = ps.length
  | [] => rfl
  | p :: ps => by simp [pinVs, pinVs_length ps]

theorem setPs_length : ∀ (ps : List Nat) (xs l : List PV), (setPs l ps xs).length = l.length
  | [], xs, l => by cases xs <;> rfl
  | p :: ps, [], l => rfl
  | p :: ps, x :: xs, l => by simp [setPs, setPs_length ps xs]

theorem Reps.setPs {C : Ctx} : ∀ (ps : List Nat) {xs : List PV} {us : List Value} {l : List PV} {t : Array Value}, Reps C l t.toList → Reps C xs us → xs.length = ps.length →
    Reps C (Pew.setPs l ps xs) (((ps.zip us).foldl (fun t (x : Nat × Value) => t.setIfInBounds x.1 x.2) t).toList)
  | [], xs, us, l, t, h, hx, hl => by
    cases xs with
    | nil => simpa [Pew.setPs] using h
    | cons => simp at hl
  | p :: ps, [], us, l, t, h, hx, hl => by simp at hl
  | p :: ps, x :: xs, us, l, t, h, hx, hl => by
    obtain ⟨u, ws, rfl, h1, h2⟩ := hx
    simp only [List.zip_cons_cons, List.foldl_cons, Pew.setPs]
    refine Reps.setPs ps ?_ h2 (by simpa using hl)
    have := h.set h1 p
    simpa using this

/-! ### contracts of iterators -/
/-- What may become of the world between two rounds of an iterator, and within. -/
structure Step (far : Nat → Prop) (st : Nat → Nat → Prop) (w : World) (far' : Nat → Prop) (st' : Nat → Nat → Prop) (w' : World) : Prop where
  below : Below 0 w w'
  same : ∀ k, k < w.heap.size → ¬ far k → w'.heap[k]? = w.heap[k]?
  far : ∀ k, far' k → far k ∨ w.heap.size ≤ k
  lt : ∀ k, far' k → k < w'.heap.size
  keep : ∀ B o, st B o → st' B o ∧ w'.cell? ⟨B, o, none⟩ = w.cell? ⟨B, o, none⟩
  news : ∀ B o, st' B o → st B o ∨ far' B
  ok : StOk w' st'

/-- What speaks of far blocks and of cells that stay alone. -/
def Abide (J : List (List PV) → (Nat → Prop) → (Nat → Nat → Prop) → World → Prop) : Prop :=
  ∀ r far st w st' w', J r far st w → Below 0 w w' → (∀ k, far k → w'.heap[k]? = w.heap[k]?) → (∀ B o, st B o → st' B o ∧ w'.cell? ⟨B, o, none⟩ = w.cell? ⟨B, o, none⟩) →
    (∀ B o, st' B o → st B o ∨ ¬ far B) → StOk w' st' → J r far st' w'

def CapOk (far : Nat → Prop) (st : Nat → Nat → Prop) (w : World) (m : Option (List PV)) (mv : List Value) : Prop := match m with
  | none => mv = []
  | some cs => ∃ B us T, mv = [.pointer (some ⟨B, 0, none⟩)] ∧ w.heap[B]? = some (.cells us T (0, 0)) ∧ Reps (plainCtx w st) cs us.toList ∧ (∀ o, ¬ st B o) ∧ ¬ far B

/-- An iterator yields the trace xs, as long as yield says 'true'; where it has said 'false' it yields no more. -/
def IterC (P : Program) (g : Nat) (pre : List PV) (m : Option (List PV)) (post : List PV) (xs : List (List PV)) : Prop :=
  (∃ fn, P.funcs[g]? = some fn ∧ (fn.name == "runtime.NumGoroutine") = false ∧ fn.body.isNone = false) ∧
  ∀ (l : Nat) (J Jx : List (List PV) → (Nat → Prop) → (Nat → Nat → Prop) → World → Prop) (w : World) (far : Nat → Prop) (st : Nat → Nat → Prop) (pv mv qv : List Value),
    StOk w st → Reps (plainCtx w st) pre pv → Reps (plainCtx w st) post qv → CapOk far st w m mv → (∀ k, far k → k < w.heap.size) → Abide J → Abide Jx →
    (∀ x rest far1 st1 W1 us, J (x :: rest) far1 st1 W1 → StOk W1 st1 → Reps (plainCtx W1 st1) x us → (∀ k, far1 k → k < W1.heap.size) → ∀ k, YieldAt (rf none) k P l us.toArray W1 fun e W' =>
      ∃ far' st', Step far1 st1 W1 far' st' W' ∧ ((e = .returned (.bool true) ∧ J rest far' st' W') ∨ (e = .returned (.bool false) ∧ Jx rest far' st' W'))) →
    J xs far st w → ∀ k, CallsIn (rf none) k P g (.func (.yield l) #[] #[] :: (pv ++ mv ++ qv)).toArray w fun e w' => (∃ v, e = .returned v) ∧ ∃ far' st', J [] far' st' w' ∨ ∃ rest, Jx rest far' st' w'

end Go.Pew

namespace Go.Pew
set_option linter.unusedSimpArgs false
set_option linter.unusedVariables false
open Go.RowKit
set_option linter.unusedVariables false
set_option linter.unusedSimpArgs false

def toExit : Ex → Exit
  | .normal => .normal
  | .ret => .ret
  | .exit id => .exit id

def noX : Nat → Prop := fun _ => False

/-- What is shown of code: as the evaluator tells. -/
def CodeOk {R : Type} (P : Program) (base n : Nat) (Inv : R → Start → Prop) (c : Code) (rd : Bool) (drops : List Nat) (K : St → (Ex → St → Option R) → Option R) : Prop :=
  ∀ (m : Nat) (ro : Option Nat), (rd = false → ro = none) → ∀ (s : St) (κ : Ex → St → Option R) (r : R) (w0 : Start) (a : Act) (w : World) (Q : Exit → Act → World → Prop),
    K s κ = some r → (∀ d ∈ drops, w0.pin d = none) → (rd = false → ∀ d, w0.pin d = none) → Sim base w0 n s a w → Inv r w0 →
    (∀ e s' r' w0' a' w', κ e s' = some r' → w0'.pin = w0.pin → w0'.yl = w0.yl → Later base noX w0 w0' → Inv r' w0' → Sim base w0' n s' a' w' → Q (toExit e) a' w') → c.wpIn (rf ro) m P Q a w

def InvOk {R : Type} (base : Nat) (Inv : R → Start → Prop) : Prop := ∀ r w0 w0', Inv r w0 → Turn w0 w0' → Later0 base w0 w0' → Inv r w0'

/-- Between two rounds. -/
structure Mid {R : Type} (base n : Nat) (Inv : R → Start → Prop) (w0 : Start) (D l : Nat) (sl : List PV) (a1 : Act) (far : Nat → Prop) (st : Nat → Nat → Prop) (W : World) (w0' : Start) (g' : Gh) (s' : St) (r' : R) : Prop where
  slots : s'.slots = sl
  sim : SimG base w0' n g' s' a1 W
  pin : ∀ d, w0'.pin d = none
  yl : w0'.yl = w0.yl
  later : Later base noX w0 w0'
  fixD : w0'.fix D
  fixl : w0'.fix l
  inv : Inv r' w0'
  quiet : ∀ k, (w0'.far k ∨ w0'.fix k) → far k
  bx : ∀ d B, g'.bx d = some B → far B
  own : ∀ d B, ownBlock (g'.own d) = some B → far B
  low : ∀ k, k < base → far k
  keep : ∀ B o, g'.st B o → st B o
  news : ∀ B o, st B o → g'.st B o ∨ ¬ far B

section
variable {R : Type} {P : Program} {base n : Nat} {Inv : R → Start → Prop} {w0 : Start} {D l : Nat} {sl : List PV} {a1 : Act} {far : Nat → Prop} {st : Nat → Nat → Prop} {W : World} {w0' : Start} {g' : Gh} {s' : St} {r' : R}

theorem Mid.abide (M : Mid base n Inv w0 D l sl a1 far st W w0' g' s' r') {W' : World} {st' : Nat → Nat → Prop} (hb : Below 0 W W') (hf : ∀ k, far k → W'.heap[k]? = W.heap[k]?)
    (hs : ∀ B o, st B o → st' B o ∧ W'.cell? ⟨B, o, none⟩ = W.cell? ⟨B, o, none⟩) (hn : ∀ B o, st' B o → st B o ∨ ¬ far B) (hok : StOk W' st') : Mid base n Inv w0 D l sl a1 far st' W' w0' g' s' r' :=
  { M with
    sim := M.sim.away ⟨hb.os, hb.tape, hb.output, hb.size, fun k hk => hf k (M.low k hk)⟩ (fun d B hB => hf B (M.bx d B hB)) (fun d B hB => hf B (M.own d B hB)) (fun B o ho => (hs B o (M.keep B o ho)).2)
      (fun B o ho => hok B o (hs B o (M.keep B o ho)).1) (fun B hB => hf B (M.quiet B hB))
    keep := fun B o ho => (hs B o (M.keep B o ho)).1
    news := fun B o ho => (hn B o ho).elim (M.news B o) .inr }

def exCode : Ex → Code
  | .normal => .skip
  | .ret => .ret
  | .exit id => .exit id

/-- ONE ROUND. -/
theorem range_round (hInv : InvOk base Inv) {asg body : Code} {A B : St → (Ex → St → Option R) → Option R} {dA dB : List Nat} (hA : CodeOk P base n Inv asg true dA A) (hB : CodeOk P base n Inv body true dB B)
    {hd : Hd} (hdA : ∀ d ∈ dA, d ∈ hd.drop) (hdB : ∀ d ∈ dB, d ∈ hd.drop) {ps : Array Tmp} {κ : Ex → St → Option R} {rest : List (List PV)} {x : List PV} {fn : FuncId}
    (hbD : base ≤ D) (hbl : base ≤ l) (hw0D : ¬ w0.fix D) (hw0l : ¬ w0.fix l) (hsl : PinOks hd.drop sl)
    (M : Mid base n Inv w0 D l sl a1 far st W w0' g' s' r') (hrun : rangeJ (roundK A B ps.toList) hd κ (x :: rest) s' = some r')
    {rec : LoopState → Option Code → Loop} (hrec : rec = fun st pe => { state := st, pending := pe, fn, tmps := a1.tmps, params := ps, assign := asg, body, defers := D }) (hl : W.heap[l]? = some (.loop (rec .ready none)))
    {us : List Value} (hus : Reps (plainCtx W st) x us) (hok : StOk W st) (hfl : ∀ k, far k → k < W.heap.size) (m : Nat) :
    YieldAt (rf none) m P l us.toArray W fun e W' => ∃ far' st', Step far st W far' st' W' ∧
      ((e = .returned (.bool true) ∧ ∃ w0' g' s' r', Mid base n Inv w0 D l sl a1 far' st' W' w0' g' s' r' ∧ rangeJ (roundK A B ps.toList) hd κ rest s' = some r' ∧ W'.heap[l]? = some (.loop (rec .ready none))) ∨
       (e = .returned (.bool false) ∧ ∃ w0' g' s' r' ex, Mid base n Inv w0 D l sl a1 far' st' W' w0' g' s' r' ∧ κ ex s' = some r' ∧ ex ≠ .normal ∧ W'.heap[l]? = some (.loop (rec .done (some (exCode ex)))))) := by
  have hrun0 := hrun
  simp only [rangeJ, roundK] at hrun
  obtain ⟨hlen, hrun⟩ := guardK_some hrun
  rw [forceSt_eq] at hrun
  have hlen : x.length = ps.toList.length := Nat.eq_of_beq_eq_true hlen
  have hxl := hus.length
  have hS := M.sim
  -- what is dropped is told no more
  let gH : Gh := { g' with bx := fun d => if hd.drop.contains d then none else g'.bx d }
  have hHbx : ∀ d B, gH.bx d = some B → g'.bx d = some B := fun d B hq => by
    have hq : (if hd.drop.contains d then none else g'.bx d) = some B := hq
    split at hq
    · cases hq
    · exact hq
  have hHin : ∀ d ∈ hd.drop, gH.bx d = none := fun d hm => by
    show (if hd.drop.contains d then none else g'.bx d) = none
    rw [if_pos (by simpa using hm)]
  -- the loop's variables; here and now
  let w0r : Start :=
    { toWorld := W, keep := st, pin := gH.bx, far := w0'.far, fix := fun k => w0'.fix k ∨ (k < W.heap.size ∧ ¬ far k), yl := w0'.yl
      ap := fun B hB hf => hB.elim (fun q => w0'.ap B q hf) fun q => q.2 (M.quiet B (.inl hf)) }
  have hq0 : ∀ B, (w0r.far B ∨ w0r.fix B) → B < W.heap.size ∧ (∀ d, g'.bx d ≠ some B) ∧ ∀ d, ownBlock (g'.own d) ≠ some B := fun B hB => by
    have key : (w0'.far B ∨ w0'.fix B) ∨ (B < W.heap.size ∧ ¬ far B) := by
      rcases hB with hB | hB | hB
      · exact .inl (.inl hB)
      · exact .inl (.inr hB)
      · exact .inr hB
    rcases key with hB | ⟨h1, h2⟩
    · obtain ⟨h1, h2, h3, h4⟩ := hS.quiet B hB
      exact ⟨Nat.lt_of_lt_of_le h1 hS.below.size, h3, h4⟩
    · exact ⟨h1, fun d hq => h2 (M.bx d B hq), fun d hq => h2 (M.own d B hq)⟩
  have S1 := hS.rebase (w0n := w0r) (sl := setPs s'.slots ps.toList x) (a' := { tmps := (ps.zip us.toArray).foldl (fun t (p, v) => t.setIfInBounds p v) a1.tmps, defers := [] }) rfl
    (fun B o ho => M.keep B o ho) (fun B o ho => (M.news B o ho).imp id fun hf => ⟨fun d hq => hf (M.bx d B hq), fun d hq => hf (M.own d B hq)⟩) hok hHbx hq0 rfl
    (by rw [setPs_length]; exact hS.ns) (fun hle => by
      have := Reps.setPs ps.toList (Reps.mono hle _ _ hS.slots) (Reps.mono (plainCtx_le (C := ctx s' W { g' with st := st }) rfl fun _ _ h => h) _ _ hus) hlen
      have e : ((ps.toList.zip us).foldl (fun t (x : Nat × Value) => t.setIfInBounds x.1 x.2) a1.tmps) = (ps.zip us.toArray).foldl (fun t (p, v) => t.setIfInBounds p v) a1.tmps := by
        rw [← Array.foldl_toList]
        simp
      rw [e] at this
      exact this) ⟨[], rfl, List.nodup_nil, fun D hD => by cases hD⟩
  have L1 : Later base noX w0' w0r :=
    { below := hS.below
      keep := fun B o ho => ⟨M.keep B o (hS.kept B o ho).1, (hS.kept B o ho).2⟩
      news := fun B o ho => (M.news B o ho).elim (fun q => hS.news B o q) fun q => .inr (Nat.le_of_not_lt fun hlt => q (M.low B hlt))
      far := fun k hk => .inl hk
      fix := fun B _ hB => ⟨.inl hB, (hS.quiet B (.inr hB)).2.1, fun o ho => by
        rcases M.news B o ho with q | q
        · exact (hS.newsq B o q).resolve_right fun q => q (.inr hB)
        · exact absurd (M.quiet B (.inr hB)) q⟩ }
  have T1 : Turn w0' w0r :=
    { far := rfl
      same := fun B hB => (hS.quiet B (.inl hB)).2.1
      below := hS.below.mono (Nat.zero_le _)
      keep := L1.keep
      news := fun B o ho => (M.news B o ho).elim (fun q => (hS.newsq B o q).imp id fun q hf => q (.inl hf)) fun q => .inr fun hf => q (M.quiet B (.inl hf))
      stok := hok
      yl := rfl }
  have hy := run_yield (P := P) (args := us.toArray) hl (by rw [hrec]; simp at hlen ⊢; omega)
  rw [hrec] at hy
  refine ⟨fn, _, asg, body, hy, roundIn_of_wpIn trivial ?_⟩
  refine hA _ (some l) (fun q => by cases q) _ _ _ w0r _ _ _ hrun (fun d hm => hHin d (hdA d hm)) (fun q => by cases q) ⟨_, S1⟩ (hInv _ _ _ M.inv T1 L1.toLater0) ?_
  intro e s2 r2 w0a aa Wa hκ hpa hya La Ia Sa
  cases e with
  | ret => cases hκ
  | exit id => cases hκ
  | normal =>
    obtain ⟨ga, Sa⟩ := Sa
    dsimp only at hκ
    -- the record has stayed
    have hfl1 : w0r.fix l := .inl M.fixl
    obtain ⟨hla1, hla2, _⟩ := La.fix l (fun h => h) hfl1
    have hla : Wa.heap[l]? = some (.loop (rec .ready none)) := ((Sa.quiet l (.inr hla1)).2.1.trans hla2).trans hl
    refine ⟨_, run_beginRound hla (by rw [hrec]), ?_⟩
    obtain ⟨W2, hW2⟩ : ∃ W2, Wa.putObj l (.loop { rec .ready none with state := .busy }) = W2 := ⟨_, rfl⟩
    rw [hW2]
    obtain ⟨nb1, nb2, nb3⟩ := Sa.noCells hla rfl
    have hlt : l < Wa.heap.size := block_lt hla
    have hne2 : ∀ {B}, B ≠ l → W2.heap[B]? = Wa.heap[B]? := fun hq => by rw [← hW2]; exact World.putObj_heap_other hq
    have hl2 : W2.heap[l]? = some (.loop { rec .ready none with state := .busy }) := by rw [← hW2]; exact World.putObj_heap_same hlt
    have hb2 : ∀ b, b ≤ l → Below b Wa W2 := fun b hb => by
      rw [← hW2]; exact ⟨rfl, rfl, rfl, by simp, fun k hk => World.putObj_heap_other (by omega)⟩
    have hc2 : ∀ B o, ga.st B o → W2.cell? ⟨B, o, none⟩ = Wa.cell? ⟨B, o, none⟩ := fun B o ho => World.cell?_of_block (w := Wa) (hne2 fun q => nb3 o (q ▸ ho))
    have hok2 : StOk W2 ga.st := fun B o ho => by
      obtain ⟨us, T, fr, e, hq⟩ := Sa.stlt B o ho
      exact ⟨us, T, fr, by rw [hne2 fun q => nb3 o (q ▸ ho)]; exact e, hq⟩
    have hsz2 : W2.heap.size = Wa.heap.size := by rw [← hW2]; simp
    let w0b : Start := { toWorld := W2, keep := ga.st, pin := w0a.pin, far := w0a.far, fix := w0a.fix, yl := w0a.yl, ap := w0a.ap }
    have S2 := Sa.turn (w0n := w0b) (st1 := ga.st) (sl := s2.slots) (a' := aa) (fun d B hq => hne2 fun q => nb1 d (q ▸ hq)) (fun d B hq => hne2 fun q => nb2 d (q ▸ hq)) (fun _ _ h => h) hc2 (fun _ _ h => .inl h) hok2 (fun _ _ h => .inl h)
      (by show base ≤ W2.heap.size; omega) (Below.refl _ _) (fun _ _ h => .inl h) (fun _ _ h => ⟨h, rfl⟩) Sa.pinned (fun B hB => ⟨by show B < W2.heap.size; rw [hsz2]; exact Nat.lt_of_lt_of_le (Sa.quiet B hB).1 Sa.below.size, rfl, (Sa.quiet B hB).2.2⟩) rfl Sa.ns
      (fun hle => Reps.mono hle _ _ Sa.slots) (by
        obtain ⟨Ds, h1, h2, h3⟩ := Sa.marks
        refine ⟨Ds, h1, h2, fun D' hD' => ⟨(h3 D' hD').1, (h3 D' hD').2.1, ?_⟩⟩
        have h5 := (Sa.quiet D' (.inr (h3 D' hD').1)).2.1.trans (h3 D' hD').2.2
        show W2.heap[D']? = _
        rw [hne2 fun q => by rw [q, hla] at h5; cases h5]
        exact h5)
    have L2 : Later base (fun k => k = l) w0a w0b :=
      { below := Sa.below.trans (hb2 _ hbl)
        keep := fun B o ho => ⟨(Sa.kept B o ho).1, (hc2 B o (Sa.kept B o ho).1).trans (Sa.kept B o ho).2⟩
        news := fun B o ho => Sa.news B o ho
        far := fun k hk => .inl hk
        fix := fun B hX hB => ⟨hB, (hne2 hX).trans (Sa.quiet B (.inr hB)).2.1, fun o ho => (Sa.newsq B o ho).resolve_right fun q => q (.inr hB)⟩ }
    have T2 : Turn w0a w0b :=
      { far := rfl
        same := fun B hB => (hne2 fun q => w0a.ap l hla1 (q ▸ hB)).trans (Sa.quiet B (.inl hB)).2.1
        below := (Sa.below.mono (Nat.zero_le _)).trans (hb2 0 (Nat.zero_le _))
        keep := L2.keep
        news := fun B o ho => (Sa.newsq B o ho).imp id fun q hf => q (.inl hf)
        stok := hok2
        yl := rfl }
    have L12 : Later base (fun k => k = l) w0r w0b := (La.weak fun _ _ h => h.elim).trans L2
    refine hB _ (some l) (fun q => by cases q) _ _ _ w0b _ _ _ hκ (fun d hm => by show w0a.pin d = none; rw [hpa]; exact hHin d (hdB d hm)) (fun q => by cases q) ⟨_, S2⟩ (hInv _ _ _ Ia T2 L2.toLater0) ?_
    intro e s3 r3 w0c ac Wc hκc hpc hyc Lc Ic Sc
    obtain ⟨gc, Sc⟩ := Sc
    have hlb1 : w0b.fix l := hla1
    obtain ⟨hlc1, hlc2, _⟩ := Lc.fix l (fun h => h) hlb1
    have hlc : Wc.heap[l]? = some (.loop { rec .ready none with state := .busy }) := ((Sc.quiet l (.inr hlc1)).2.1.trans hlc2).trans hl2
    have hltc : l < Wc.heap.size := block_lt hlc
    have Lall : Later base (fun k => k = l) w0r w0c := L12.trans (Lc.weak fun _ _ h => h.elim)
    -- behind the round's end
    have key : ∀ (y : Obj) (gc : Gh) (sX : St), SimG base w0c n gc sX ac Wc → (∀ d B, hd.drop.contains d = false → w0c.pin d = some B → gc.bx d = some B) → ∃ far' st' w0'' , Step far st W far' st' (Wc.putObj l y) ∧ Mid base n Inv w0 D l sl a1 far' st' (Wc.putObj l y) w0'' gc { sX with slots := s'.slots } r3 := by
      intro y gc sX Sc hpins
      obtain ⟨nc1, nc2, nc3⟩ := Sc.noCells hlc rfl
      obtain ⟨W4, hW4⟩ : ∃ W4, Wc.putObj l y = W4 := ⟨_, rfl⟩
      rw [hW4]
      have hne4 : ∀ {B}, B ≠ l → W4.heap[B]? = Wc.heap[B]? := fun hq => by rw [← hW4]; exact World.putObj_heap_other hq
      have hb4 : ∀ b, b ≤ l → Below b Wc W4 := fun b hb => by
        rw [← hW4]; exact ⟨rfl, rfl, rfl, by simp, fun k hk => World.putObj_heap_other (by omega)⟩
      have hc4 : ∀ B o, gc.st B o → W4.cell? ⟨B, o, none⟩ = Wc.cell? ⟨B, o, none⟩ := fun B o ho => World.cell?_of_block (w := Wc) (hne4 fun q => nc3 o (q ▸ ho))
      have hok4 : StOk W4 gc.st := fun B o ho => by
        obtain ⟨us, T, fr, e, hq⟩ := Sc.stlt B o ho
        exact ⟨us, T, fr, by rw [hne4 fun q => nc3 o (q ▸ ho)]; exact e, hq⟩
      have hsz4 : W4.heap.size = Wc.heap.size := by rw [← hW4]; simp
      -- what was fixed
      have hfix : ∀ B, B ≠ l → w0r.fix B → w0c.fix B ∧ W4.heap[B]? = W.heap[B]? ∧ (∀ d, gc.bx d ≠ some B) ∧ (∀ d, ownBlock (gc.own d) ≠ some B) ∧ ∀ o, gc.st B o → st B o := fun B hne hB => by
        obtain ⟨h1, h2, h3⟩ := Lall.fix B hne hB
        obtain ⟨q1, q2, q3, q4⟩ := Sc.quiet B (.inr h1)
        exact ⟨h1, ((hne4 hne).trans q2).trans h2, q3, q4, fun o ho => h3 o ((Sc.newsq B o ho).resolve_right fun q => q (.inr h1))⟩
      have hst : ∀ B o, st B o → gc.st B o ∧ W4.cell? ⟨B, o, none⟩ = W.cell? ⟨B, o, none⟩ := fun B o ho => by
        obtain ⟨h1, h2⟩ := Lall.keep B o ho
        obtain ⟨h3, h4⟩ := Sc.kept B o h1
        exact ⟨h3, ((hc4 B o h3).trans h4).trans h2⟩
      have hbel : ∀ b, b ≤ base → Below b W W4 := fun b hb => ((Lall.below.mono hb).trans (Sc.below.mono hb)).trans (hb4 b (Nat.le_trans hb hbl))
      have hmine : ∀ B, ((∃ d, gc.bx d = some B) ∨ ∃ d, ownBlock (gc.own d) = some B) → far B ∨ (W.heap.size ≤ B ∧ B < W4.heap.size) := fun B hB => by
        have hlt : B < Wc.heap.size := by
          rcases hB with ⟨d, hd⟩ | ⟨d, hd⟩
          · exact (Sc.bx_lt hd).1
          · exact (Sc.own_lt hd).1
        by_cases q : far B
        · exact .inl q
        · by_cases q2 : W.heap.size ≤ B
          · exact .inr ⟨q2, by omega⟩
          · exfalso
            have hne : B ≠ l := fun e => q (M.quiet B (.inr (e ▸ M.fixl)))
            obtain ⟨_, _, h3, h4, _⟩ := hfix B hne (.inr ⟨by omega, q⟩)
            rcases hB with ⟨d, hd⟩ | ⟨d, hd⟩
            · exact h3 d hd
            · exact h4 d hd
      let far' : Nat → Prop := fun k => far k ∨ (W.heap.size ≤ k ∧ k < W4.heap.size)
      have hsz : W.heap.size ≤ W4.heap.size := (hbel base (Nat.le_refl _)).size
      have hw0fix : ∀ B, w0'.fix B → B ≠ l → w0c.fix B := fun B hB hne => (hfix B hne (.inl hB)).1
      let w0e : Start :=
        { toWorld := W4, keep := gc.st, pin := fun _ => none, far := w0c.far, fix := w0'.fix, yl := w0'.yl
          ap := fun B hB hf => by
            by_cases q : B = l
            · exact w0c.ap l hlc1 (q ▸ hf)
            · exact w0c.ap B (hw0fix B hB q) hf }
      have hylc : w0c.yl = w0'.yl := hyc.trans hya
      have hfare : ∀ k, w0c.far k → far' k := fun k hk => by
        rcases Lall.far k hk with q | q
        · exact .inl (M.quiet k (.inl q))
        · exact .inr ⟨q, by have := Nat.lt_of_lt_of_le (Sc.quiet k (.inl hk)).1 Sc.below.size; omega⟩
      have hcarry : Carry hd.drop (ctx s' W g') (ctx sX W4 gc) :=
        { le0 := ⟨fun B o ho => (hst B o (M.keep B o ho)).1, fun B o ho => (hst B o (M.keep B o ho)).2⟩
          bx := fun d B hq hB => by
            have h1 : gH.bx d = some B := by
              show (if hd.drop.contains d then none else g'.bx d) = some B
              rw [hq]; exact hB
            refine hpins d B hq ?_
            rw [hpc]
            show w0a.pin d = some B
            rw [hpa]
            exact h1
          yl := fun k hk => by
            have h1 : g'.yl = some k := hk
            show gc.yl = some k
            rw [Sc.yld, hylc, ← hS.yld]
            exact h1 }
      have Se : SimG base w0e n gc { sX with slots := s'.slots } a1 W4 := Sc.turn (w0n := w0e) (st1 := gc.st) (sl := s'.slots) (a' := a1) (fun d B hq => hne4 fun q => nc1 d (q ▸ hq)) (fun d B hq => hne4 fun q => nc2 d (q ▸ hq)) (fun _ _ h => h) hc4 (fun _ _ h => .inl h) hok4 (fun _ _ h => .inl h)
        (by show base ≤ W4.heap.size; omega) (Below.refl _ _) (fun _ _ h => .inl h) (fun _ _ h => ⟨h, rfl⟩) (fun d B hq => by cases hq)
        (fun B hB => by
          rcases hB with hB | hB
          · obtain ⟨q1, q2, q3, q4⟩ := Sc.quiet B (.inl hB)
            exact ⟨by show B < W4.heap.size; have := Sc.below.size; omega, rfl, q3, q4⟩
          · by_cases q : B = l
            · subst q
              exact ⟨by show B < W4.heap.size; omega, rfl, nc1, nc2⟩
            · obtain ⟨h1, h2, h3, h4, _⟩ := hfix B q (.inl hB)
              have := Nat.lt_of_lt_of_le (hS.quiet B (.inr hB)).1 hS.below.size
              exact ⟨by show B < W4.heap.size; omega, rfl, h3, h4⟩) (by show w0'.yl = w0c.yl; exact hylc.symm) (by rw [M.slots]; have := hS.ns; rw [M.slots] at this; exact this)
        (fun hle => by
          have h1 := hS.slots
          rw [M.slots] at h1 ⊢
          exact Reps.carry hcarry _ _ hsl h1) (by
          obtain ⟨Ds, h1, h2, h3⟩ := hS.marks
          refine ⟨Ds, h1, h2, fun D' hD' => ⟨(h3 D' hD').1, (h3 D' hD').2.1, ?_⟩⟩
          have h5 := (hS.quiet D' (.inr (h3 D' hD').1)).2.1.trans (h3 D' hD').2.2
          show W4.heap[D']? = _
          rw [(hfix D' (fun q => by rw [q, hl] at h5; cases h5) (.inl (h3 D' hD').1)).2.1]
          exact h5)
      have T4 : Turn w0c w0e :=
        { far := rfl
          same := fun B hB => (hne4 fun q => w0c.ap l hlc1 (q ▸ hB)).trans (Sc.quiet B (.inl hB)).2.1
          below := (Sc.below.mono (Nat.zero_le _)).trans (hb4 0 (Nat.zero_le _))
          keep := fun B o ho => ⟨(Sc.kept B o ho).1, (hc4 B o (Sc.kept B o ho).1).trans (Sc.kept B o ho).2⟩
          news := fun B o ho => (Sc.newsq B o ho).imp id fun q hf => q (.inl hf)
          stok := hok4
          yl := hylc.symm }
      have L4 : Later0 base w0c w0e :=
        { below := Sc.below.trans (hb4 _ hbl)
          keep := T4.keep
          news := fun B o ho => Sc.news B o ho
          far := fun k hk => .inl hk }
      refine ⟨far', gc.st, w0e, ?_, ?_⟩
      · exact
        { below := hbel 0 (Nat.zero_le _)
          same := fun k hk hf => (hfix k (fun e => hf (M.quiet k (.inr (e ▸ M.fixl)))) (.inr ⟨hk, hf⟩)).2.1
          far := fun k hk => hk.imp id fun q => q.1
          lt := fun k hk => hk.elim (fun q => Nat.lt_of_lt_of_le (hfl k q) hsz) fun q => q.2
          keep := hst
          news := fun B o ho => by
            by_cases q : far' B
            · exact .inr q
            · left
              have hlt : B < W4.heap.size := by
                obtain ⟨us, T, fr, e, _⟩ := hok4 B o ho
                exact block_lt e
              have q1 : ¬ far B := fun h => q (.inl h)
              have q2 : B < W.heap.size := Nat.lt_of_not_le fun h => q (.inr ⟨h, hlt⟩)
              exact (hfix B (fun e => q1 (M.quiet B (.inr (e ▸ M.fixl)))) (.inr ⟨q2, q1⟩)).2.2.2.2 o ho
          ok := hok4 }
      · have Lz : Later base noX w0 w0e := by
          have h1 : Later0 base w0 w0e := (M.later.toLater0.trans (L1.toLater0.trans Lall.toLater0)).trans L4
          refine ⟨h1, fun B _ hB => ?_⟩
          obtain ⟨q1, q2, q3⟩ := M.later.fix B (fun h => h) hB
          have hne : B ≠ l := fun e => hw0l (e ▸ hB)
          obtain ⟨f1, f2, _, _, f5⟩ := hfix B hne (.inl q1)
          obtain ⟨k1, k2, k3⟩ := L1.fix B (fun h => h) q1
          exact ⟨q1, (f2.trans k2).trans q2, fun o ho => q3 o (k3 o (f5 o ho))⟩
        exact
        { slots := M.slots
          sim := Se
          pin := fun _ => rfl
          yl := M.yl
          later := Lz
          fixD := M.fixD
          fixl := M.fixl
          inv := hInv _ _ _ Ic T4 L4
          quiet := fun k hk => hk.elim (hfare k) fun q => .inl (M.quiet k (.inr q))
          bx := fun d B hq => hmine B (.inl ⟨d, hq⟩)
          own := fun d B hq => hmine B (.inr ⟨d, hq⟩)
          low := fun k hk => .inl (M.low k hk)
          keep := fun _ _ h => h
          news := fun _ _ h => .inl h }
    cases e with
    | normal =>
      obtain ⟨far', st', w0'', hStep, hMid⟩ := key (.loop (rec .ready none)) _ _ (Sc.head hd (fun d hm => by rw [hpc]; show w0a.pin d = none; rw [hpa]; exact hHin d hm)) (fun d B hq hp => by
        show (if hd.drop.contains d then none else gc.bx d) = some B
        rw [hq]
        exact Sc.pinned d B hp)
      simp only [forceSt_eq] at hκc
      have he := run_endRound (P := P) none hlc
      rw [hrec] at he
      refine ⟨_, _, he, far', st', ?_⟩
      rw [hrec] at hStep hMid
      exact ⟨hStep, .inl ⟨rfl, w0'', _, _, r3, hMid, hκc, by rw [hrec]; exact World.putObj_heap_same hltc⟩⟩
    | ret =>
      obtain ⟨far', st', w0'', hStep, hMid⟩ := key (.loop (rec .done (some .ret))) _ _ Sc (fun d B _ hp => Sc.pinned d B hp)
      have he := run_endRound (P := P) (some .ret) hlc
      rw [hrec] at he
      refine ⟨_, _, he, far', st', ?_⟩
      rw [hrec] at hStep hMid
      exact ⟨hStep, .inr ⟨rfl, w0'', gc, _, r3, .ret, hMid, hκc, (fun q => by cases q), by rw [hrec]; exact World.putObj_heap_same hltc⟩⟩
    | exit id =>
      obtain ⟨far', st', w0'', hStep, hMid⟩ := key (.loop (rec .done (some (.exit id)))) _ _ Sc (fun d B _ hp => Sc.pinned d B hp)
      have he := run_endRound (P := P) (some (.exit id)) hlc
      rw [hrec] at he
      refine ⟨_, _, he, far', st', ?_⟩
      rw [hrec] at hStep hMid
      exact ⟨hStep, .inr ⟨rfl, w0'', gc, _, r3, .exit id, hMid, hκc, (fun q => by cases q), by rw [hrec]; exact World.putObj_heap_same hltc⟩⟩

end
end Go.Pew

namespace Go.Pew
set_option linter.unusedSimpArgs false
set_option linter.unusedVariables false
open Go.RowKit
set_option linter.unusedVariables false
set_option linter.unusedSimpArgs false

section
variable {R : Type} {P : Program} {base n : Nat} {Inv : R → Start → Prop} {w0 : Start} {s : St} {a : Act} {w : World} {g : Gh} {r : R} {ro : Option Nat}

theorem range_core (hInv : InvOk base Inv) {asg body : Code} {A B : St → (Ex → St → Option R) → Option R} {dA dB : List Nat} (hA : CodeOk P base n Inv asg true dA A) (hB : CodeOk P base n Inv body true dB B)
    {hd : Hd} (hdA : ∀ d ∈ dA, d ∈ hd.drop) (hdB : ∀ d ∈ dB, d ∈ hd.drop) {ps : Array Tmp} {κ : Ex → St → Option R} {t : Nat} {k : Nat} {pre : List PV} {mm : Option (List PV)} {post : List PV} {xs : List (List PV)}
    (hit : IterC P k pre mm post xs) {pv mv qv : List Value} (hev : a.eval (.tmp t) = .func (.func k) #[] (pv ++ mv ++ qv).toArray) (r1 : Reps (plainCtx w g.st) pre pv) (r2 : Reps (plainCtx w g.st) post qv)
    (hpin : ∀ d, w0.pin d = none) (h : SimG base w0 n g s a w) (hI : Inv r w0) {X : Nat → Prop} (hX : ∀ b, X b → ∃ d ∈ hd.drop, g.bx d = some b)
    (hcap : ∀ (far : Nat → Prop) (W : World), Below w.heap.size w W → (∀ b, X b → ¬ far b) → CapOk far g.st W mm mv)
    (hrun : rangeJ (roundK A B ps.toList) hd κ xs { s.head hd with slots := pinVs (s.head hd).slots } = some r) (hps : ∀ x ∈ xs, True) {Q : Exit → Act → World → Prop} {m : Nat}
    (hQ : ∀ e s' r' w0' a' w', κ e s' = some r' → w0'.pin = w0.pin → w0'.yl = w0.yl → Later base noX w0 w0' → Inv r' w0' → Sim base w0' n s' a' w' → Q (toExit e) a' w') :
    (Code.rangeFunc (.tmp t) ps asg body).wpIn (rf none) m P Q a w := by
  refine wpIn_rangeFunc ?_
  intro fn _
  obtain ⟨⟨fnk, hF1, hF2, hF3⟩, hit⟩ := hit
  obtain ⟨D, hDd⟩ : ∃ D, w.heap.size = D := ⟨_, rfl⟩
  obtain ⟨l, hld⟩ : ∃ l, w.heap.size + 1 = l := ⟨_, rfl⟩
  obtain ⟨rec, hrec⟩ : ∃ rec : LoopState → Option Code → Loop, rec = fun st pe => { state := st, pending := pe, fn, tmps := a.tmps, params := ps, assign := asg, body, defers := D } := ⟨_, rfl⟩
  obtain ⟨W1, hW1⟩ : ∃ W1, (w.alloc (.deferred (some []))).alloc (.loop (rec .ready none)) = W1 := ⟨_, rfl⟩
  have hsz1 : W1.heap.size = w.heap.size + 2 := by rw [← hW1]; simp
  have hb1 : ∀ b, b ≤ w.heap.size → Below b w W1 := fun b hb => by
    rw [← hW1]; exact ((Below.refl b w).alloc hb _).alloc (by simp; omega) _
  have hL1 : W1.heap[l]? = some (.loop (rec .ready none)) := by
    rw [← hW1, ← hld]; have := World.alloc_heap_new (w.alloc (.deferred (some []))) (.loop (rec .ready none)); rwa [World.size_alloc] at this
  have hD1 : W1.heap[D]? = some (.deferred (some [])) := by
    rw [← hW1, ← hDd]; exact (Below.heap_alloc _ _ _ (by simp)).trans (World.alloc_heap_new w _)
  have hbase : base ≤ w.heap.size := Nat.le_trans h.base_le h.below.size
  -- the head
  have hH := h.head hd (fun d _ => hpin d)
  let gH : Gh := { g with bx := fun d => if hd.drop.contains d then none else g.bx d }
  have hHbx : ∀ d b, gH.bx d = some b → g.bx d = some b ∧ hd.drop.contains d = false := fun d b hq => by
    have hq : (if hd.drop.contains d then none else g.bx d) = some b := hq
    split at hq
    · cases hq
    · rename_i q; exact ⟨hq, by simpa using q⟩
  obtain ⟨hS, hle⟩ := hH.world (hb1 _ (Nat.le_refl _)) g.st (fun _ _ h => h) (fun _ _ h => .inl h) fun b o ho => by
    obtain ⟨us, T, fr, e, hq⟩ := h.stlt b o ho
    exact ⟨us, T, fr, by rw [(hb1 _ (Nat.le_refl _)).block b (block_lt e)]; exact e, hq⟩
  let sl := pinVs (s.head hd).slots
  have hslr : Reps (ctx (s.head hd) W1 { gH with st := g.st }) sl a.tmps.toList := Reps.pin _ _ hS.slots
  have hslo : PinOks hd.drop sl := pinVs_ok hd s.vers _ _ hslr
  let a1 : Act := { a with defers := mark D :: a.defers }
  have hfl : ∀ b, w0.far b ∨ w0.fix b → b < w.heap.size := fun b hb => Nat.lt_of_lt_of_le (h.quiet b hb).1 h.below.size
  let w0a : Start :=
    { toWorld := W1, keep := g.st, pin := fun _ => none, far := w0.far, fix := fun b => w0.fix b ∨ b = D ∨ b = l, yl := w0.yl
      ap := fun b hb hf => by
        rcases hb with hb | hb | hb
        · exact w0.ap b hb hf
        · have := hfl b (.inl hf); omega
        · have := hfl b (.inl hf); omega }
  have S0 : SimG base w0a n { gH with st := g.st } { s.head hd with slots := sl } a1 W1 := hS.rebase (w0n := w0a) (sl := sl) (a' := a1) rfl (fun _ _ h => h) (fun _ _ h => .inl h) hS.stlt (fun d b hq => by cases hq)
    (fun b hb => by
      have key : (w0.far b ∨ w0.fix b) ∨ b = D ∨ b = l := by
        rcases hb with hb | hb | hb
        · exact .inl (.inl hb)
        · exact .inl (.inr hb)
        · exact .inr hb
      rcases key with hb | hb
      · obtain ⟨q1, q2, q3, q4⟩ := hS.quiet b hb
        exact ⟨by have := hfl b hb; omega, q3, q4⟩
      · refine ⟨by omega, fun d hq => ?_, fun d hq => ?_⟩
        · have := (h.bx_lt (hHbx d b hq).1).1; omega
        · have := (h.own_lt (d := d) hq).1; omega) rfl (by rw [pinVs_length]; exact hH.ns) (fun hle => hslr) (by
      obtain ⟨Ds, h1, h2, h3⟩ := h.marks
      have hDs : ∀ D' ∈ Ds, D' < w.heap.size := fun D' hD' => hfl D' (.inr (h3 D' hD').1)
      refine ⟨D :: Ds, by show mark D :: a.defers = _; rw [h1]; rfl, List.nodup_cons.2 ⟨fun hm => by have := hDs D hm; omega, h2⟩, fun D' hD' => ?_⟩
      rcases List.mem_cons.1 hD' with rfl | hD'
      · exact ⟨.inr (.inl rfl), by omega, hD1⟩
      · obtain ⟨q1, q2, q3⟩ := h3 D' hD'
        exact ⟨.inl q1, q2, ((hb1 _ (Nat.le_refl _)).block D' (hDs D' hD')).trans ((h.quiet D' (.inr q1)).2.1.trans q3)⟩)
  have hc1 : ∀ b o, g.st b o → W1.cell? ⟨b, o, none⟩ = w.cell? ⟨b, o, none⟩ := fun b o ho => by
    obtain ⟨us, T, fr, e, hq⟩ := h.stlt b o ho
    exact World.cell?_of_block (w := w) ((hb1 _ (Nat.le_refl _)).block b (block_lt e))
  have L0 : Later base noX w0 w0a :=
    { below := h.below.trans (hb1 _ hbase)
      keep := fun b o ho => ⟨(h.kept b o ho).1, (hc1 b o (h.kept b o ho).1).trans (h.kept b o ho).2⟩
      news := fun b o ho => h.news b o ho
      far := fun b hb => .inl hb
      fix := fun b _ hb => ⟨.inl hb, ((hb1 _ (Nat.le_refl _)).block b (hfl b (.inr hb))).trans (h.quiet b (.inr hb)).2.1, fun o ho => (h.newsq b o ho).resolve_right fun q => q (.inr hb)⟩ }
  have T0 : Turn w0 w0a :=
    { far := rfl
      same := fun b hb => ((hb1 _ (Nat.le_refl _)).block b (hfl b (.inl hb))).trans (h.quiet b (.inl hb)).2.1
      below := (h.below.mono (Nat.zero_le _)).trans (hb1 0 (Nat.zero_le _))
      keep := L0.keep
      news := fun b o ho => (h.newsq b o ho).imp id fun q hf => q (.inl hf)
      stok := S0.stlt
      yl := rfl }
  let J : List (List PV) → (Nat → Prop) → (Nat → Nat → Prop) → World → Prop := fun rest far st W => ∃ w0' g' s' r', Mid base n Inv w0 D l sl a1 far st W w0' g' s' r' ∧ rangeJ (roundK A B ps.toList) hd κ rest s' = some r' ∧ W.heap[l]? = some (.loop (rec .ready none))
  let Jx : List (List PV) → (Nat → Prop) → (Nat → Nat → Prop) → World → Prop := fun rest far st W => ∃ w0' g' s' r' ex, Mid base n Inv w0 D l sl a1 far st W w0' g' s' r' ∧ κ ex s' = some r' ∧ ex ≠ .normal ∧ W.heap[l]? = some (.loop (rec .done (some (exCode ex))))
  have hw0D : ¬ w0.fix D := fun hq => by have := hfl D (.inr hq); omega
  have hw0l : ¬ w0.fix l := fun hq => by have := hfl l (.inr hq); omega
  let far0 : Nat → Prop := fun b => b < W1.heap.size ∧ ¬ X b
  have hXn : ∀ b, X b → b < w.heap.size ∧ base ≤ b ∧ (∀ d, gH.bx d ≠ some b) ∧ (∀ d, ownBlock (g.own d) ≠ some b) ∧ ¬ (w0.far b ∨ w0.fix b) := fun b hb => by
    obtain ⟨d, hm, hdb⟩ := hX b hb
    refine ⟨(h.bx_lt hdb).1, (h.bx_lt hdb).2.1, fun d' hq => ?_, fun d' hq => (h.own_lt hq).2.2 d hdb, fun hq => (h.quiet b hq).2.2.1 d hdb⟩
    obtain ⟨q1, q2⟩ := hHbx d' b hq
    have := h.inj d' d b q1 hdb
    subst this
    rw [show hd.drop.contains d' = true by simpa using hm] at q2
    cases q2
  refine ⟨l, [mark D], W1, { target := .fn (.func k) (pv ++ mv ++ qv).toArray, args := #[.func (.yield l) #[] #[]] }, W1, k, (.func (.yield l) #[] #[] :: (pv ++ mv ++ qv)).toArray, W1, ?_, ?_, ?_, ?_, fun q => by simp [rf, Fence.wide] at q, ?_⟩
  · have := run_enterLoop_outer (P := P) (w := w) fn a.tmps ps asg body
    rw [hDd] at this
    show (Instr.enterLoop fn a.tmps ps asg body none).run P w = _
    rw [this, ← hW1, hrec, ← hld, ← hDd]
    rfl
  · simp only [resolve, hev]
    simp [go_sem]
  · exact fun _ _ => trivial
  · simp only [invoke, callFunc, Sem.run_bind, run_program, hF1, hF2, hF3, Result.andThen_ok]
    simp
  · refine (hit l J Jx W1 far0 g.st pv mv qv S0.stlt ?_ ?_ (hcap far0 W1 (hb1 _ (Nat.le_refl _)) fun b hb hq => hq.2 hb) (fun b hb => hb.1) ?_ ?_ ?_ ?_ (m - 1)).mono ?_
    · have hl : (plainCtx w g.st).Le (plainCtx W1 g.st) := ⟨fun _ _ h => h, hc1, fun _ _ h => h, fun _ _ _ _ h => h, fun _ _ _ => rfl, fun _ _ _ => rfl, fun _ h => h⟩
      exact Reps.mono hl _ _ r1
    · have hl : (plainCtx w g.st).Le (plainCtx W1 g.st) := ⟨fun _ _ h => h, hc1, fun _ _ h => h, fun _ _ _ _ h => h, fun _ _ _ => rfl, fun _ _ _ => rfl, fun _ h => h⟩
      exact Reps.mono hl _ _ r2
    · rintro rest far st W st' W' ⟨w0', g', s', r', M, hr, hl⟩ hb hf hs hn hok
      exact ⟨w0', g', s', r', M.abide hb hf hs hn hok, hr, (hf l (M.quiet l (.inr M.fixl))).trans hl⟩
    · rintro rest far st W st' W' ⟨w0', g', s', r', ex, M, hr, hx, hl⟩ hb hf hs hn hok
      exact ⟨w0', g', s', r', ex, M.abide hb hf hs hn hok, hr, hx, (hf l (M.quiet l (.inr M.fixl))).trans hl⟩
    · rintro x rest far1 st1 W us ⟨w0', g', s', r', M, hr, hl⟩ hok hus hfl1 k'
      exact range_round hInv hA hB hdA hdB (by omega) (by omega) hw0D hw0l hslo M hr hrec hl hus hok hfl1 k'
    · refine ⟨w0a, { gH with st := g.st }, { s.head hd with slots := sl }, r, ?_, hrun, hL1⟩
      exact
      { slots := rfl
        sim := S0
        pin := fun _ => rfl
        yl := rfl
        later := L0
        fixD := .inr (.inl rfl)
        fixl := .inr (.inr rfl)
        inv := hInv _ _ _ hI T0 L0.toLater0
        quiet := fun b hb => by
          have key : (w0.far b ∨ w0.fix b) ∨ b = D ∨ b = l := by
            rcases hb with hb | hb | hb
            · exact .inl (.inl hb)
            · exact .inl (.inr hb)
            · exact .inr hb
          rcases key with hb | hb
          · exact ⟨by have := hfl b hb; omega, fun hx => (hXn b hx).2.2.2.2 hb⟩
          · exact ⟨by omega, fun hx => by have := (hXn b hx).1; omega⟩
        bx := fun d b hq => ⟨by have := (h.bx_lt (hHbx d b hq).1).1; omega, fun hx => (hXn b hx).2.2.1 d hq⟩
        own := fun d b hq => ⟨by have := (h.own_lt (d := d) hq).1; omega, fun hx => (hXn b hx).2.2.2.1 d hq⟩
        low := fun b hb => ⟨by omega, fun hx => by have := (hXn b hx).2.1; omega⟩
        keep := fun _ _ h => h
        news := fun _ _ h => .inl h }
    · -- behind the iterator
      have fin : ∀ {far st W2 w0' g' s' r'} (M : Mid base n Inv w0 D l sl a1 far st W2 w0' g' s' r') {x y : Obj}, W2.heap[l]? = some x → x.isCells = false → (∀ D', x ≠ .deferred D') →
          ∃ w0e, w0e.pin = w0.pin ∧ w0e.yl = w0.yl ∧ Later base noX w0 w0e ∧ Inv r' w0e ∧ SimG base w0e n g' s' a1 (W2.putObj l y) := by
        intro far st W2 w0' g' s' r' M x y hx hxc hxd
        have hS := M.sim
        obtain ⟨n1, n2, n3⟩ := hS.noCells hx hxc
        have hlt : l < W2.heap.size := block_lt hx
        have hne : ∀ {b}, b ≠ l → (W2.putObj l y).heap[b]? = W2.heap[b]? := fun hq => World.putObj_heap_other hq
        have hbe : ∀ b, b ≤ l → Below b W2 (W2.putObj l y) := fun b hb => ⟨rfl, rfl, rfl, by simp, fun k hk => hne (by omega)⟩
        have hce : ∀ b o, g'.st b o → (W2.putObj l y).cell? ⟨b, o, none⟩ = W2.cell? ⟨b, o, none⟩ := fun b o ho => World.cell?_of_block (w := W2) (hne fun q => n3 o (q ▸ ho))
        have hoke : StOk (W2.putObj l y) g'.st := fun b o ho => by
          obtain ⟨us, T, fr, e, hq⟩ := hS.stlt b o ho
          exact ⟨us, T, fr, by rw [hne fun q => n3 o (q ▸ ho)]; exact e, hq⟩
        let w0e : Start :=
          { toWorld := W2.putObj l y, keep := g'.st, pin := fun _ => none, far := w0'.far, fix := fun b => w0'.fix b ∧ b ≠ l, yl := w0'.yl
            ap := fun b hb hf => w0'.ap b hb.1 hf }
        have Se : SimG base w0e n g' s' a1 (W2.putObj l y) := hS.turn (w0n := w0e) (st1 := g'.st) (sl := s'.slots) (a' := a1) (fun d b hq => hne fun q => n1 d (q ▸ hq)) (fun d b hq => hne fun q => n2 d (q ▸ hq)) (fun _ _ h => h) hce (fun _ _ h => .inl h) hoke (fun _ _ h => .inl h)
          (by show base ≤ (W2.putObj l y).heap.size; simp; omega) (Below.refl _ _) (fun _ _ h => .inl h) (fun _ _ h => ⟨h, rfl⟩) (fun d b hq => by cases hq)
          (fun b hb => by
            have hb : w0'.far b ∨ w0'.fix b := hb.imp id fun q => q.1
            obtain ⟨q1, q2, q3, q4⟩ := hS.quiet b hb
            exact ⟨by show b < (W2.putObj l y).heap.size; simp; have := hS.below.size; omega, rfl, q3, q4⟩) rfl hS.ns (fun hle => Reps.mono hle _ _ hS.slots) (by
            obtain ⟨Ds, h1, h2, h3⟩ := hS.marks
            refine ⟨Ds, h1, h2, fun D' hD' => ?_⟩
            have h5 := (hS.quiet D' (.inr (h3 D' hD').1)).2.1.trans (h3 D' hD').2.2
            have hne' : D' ≠ l := fun q => by rw [q, hx] at h5; cases h5; exact hxd _ rfl
            exact ⟨⟨(h3 D' hD').1, hne'⟩, (h3 D' hD').2.1, (hne hne').trans h5⟩)
        have T4 : Turn w0' w0e :=
          { far := rfl
            same := fun b hb => (hne fun q => w0'.ap l M.fixl (q ▸ hb)).trans (hS.quiet b (.inl hb)).2.1
            below := (hS.below.mono (Nat.zero_le _)).trans (hbe 0 (Nat.zero_le _))
            keep := fun b o ho => ⟨(hS.kept b o ho).1, (hce b o (hS.kept b o ho).1).trans (hS.kept b o ho).2⟩
            news := fun b o ho => (hS.newsq b o ho).imp id fun q hf => q (.inl hf)
            stok := hoke
            yl := rfl }
        have L4 : Later0 base w0' w0e :=
          { below := hS.below.trans (hbe _ (by omega))
            keep := T4.keep
            news := fun b o ho => hS.news b o ho
            far := fun k hk => .inl hk }
        refine ⟨w0e, ?_, M.yl, ⟨M.later.toLater0.trans L4, fun b _ hb => ?_⟩, hInv _ _ _ M.inv T4 L4, Se⟩
        · funext d; exact (hpin d).symm
        · obtain ⟨q1, q2, q3⟩ := M.later.fix b (fun h => h) hb
          have hne' : b ≠ l := fun e => hw0l (e ▸ hb)
          exact ⟨⟨q1, hne'⟩, ((hne hne').trans (hS.quiet b (.inr q1)).2.1).trans q2, fun o ho => q3 o ((hS.newsq b o ho).resolve_right fun q => q (.inr q1))⟩
      rintro e W2 ⟨⟨v, rfl⟩, far', st', hJ | ⟨rest, hJ⟩⟩
      · obtain ⟨w0', g', s', r', M, hr, hl⟩ := hJ
        have he := run_endLoop (P := P) hl (by rw [hrec]; simp)
        rw [hrec] at he
        refine ⟨none, _, he, ?_⟩
        obtain ⟨w0e, e1, e2, e3, e4, e5⟩ := fin M (y := .loop { state := .exhausted, pending := none, fn, tmps := a.tmps, params := ps, assign := asg, body, defers := D }) hl rfl (fun D' q => by cases q)
        exact hQ .normal s' r' w0e _ _ hr e1 e2 e3 e4 ⟨_, e5⟩
      · obtain ⟨w0', g', s', r', ex, M, hr, hx, hl⟩ := hJ
        have he := run_endLoop (P := P) hl (by rw [hrec]; simp)
        rw [hrec] at he
        refine ⟨some (exCode ex), _, he, ?_⟩
        obtain ⟨w0e, e1, e2, e3, e4, e5⟩ := fin M (y := .loop { state := .exhausted, pending := some (exCode ex), fn, tmps := a.tmps, params := ps, assign := asg, body, defers := D }) hl rfl (fun D' q => by cases q)
        have hq := hQ ex s' r' w0e _ _ hr e1 e2 e3 e4 ⟨_, e5⟩
        cases ex with
        | normal => exact absurd rfl hx
        | ret => exact wpIn_ret hq
        | exit id => exact wpIn_exit hq

end
end Go.Pew

namespace Go.Pew
set_option linter.unusedSimpArgs false
set_option linter.unusedVariables false
open Go.RowKit
set_option linter.unusedVariables false
set_option linter.unusedSimpArgs false

def okCode : Code → Bool
  | .region _ ops draw => !draw || okRegion ops
  | .seq a b => okCode a && okCode b
  | .cond _ a b => okCode a && okCode b
  | .block _ c => okCode c
  | .loop c => okCode c
  | .rangeFunc _ _ a b => okCode a && okCode b
  | _ => true

structure ProgOk (P : Program) (E : Env) : Prop where
  env : EnvOk P E
  mixed : P.follows .mixedOrders = true
  code : ∀ f fn c, E.fn f = some fn → fn.body = some c → okCode c = true

/-- What a call of yield does. -/
def YOk {R : Type} (P : Program) (base n : Nat) (Inv : R → Start → Prop) (emit : List PV → Option R → Option R → Option R) : Prop :=
  ∀ (args : List PV) (x y : Option R) (r : R) (w0 : Start) (g : Gh) (s : St) (a : Act) (w : World) (us : List Value) (l k : Nat), emit args x y = some r → Inv r w0 → SimG base w0 n g s a w → Reps (plainCtx w g.st) args us → w0.yl = some l →
    YieldAt (rf none) k P l us.toArray w fun e W' => ∃ (b : Bool) (r' : R), e = .returned (.bool b) ∧ (cond b x y) = some r' ∧ ∃ w0', w0'.pin = w0.pin ∧ w0'.yl = w0.yl ∧ Later base noX w0 w0' ∧ Inv r' w0' ∧ Sim base w0' n s a W'

theorem cut_spec : ∀ caps : List PV, caps = (cutCaps caps).1 ++ (match (cutCaps caps).2.1 with | none => [] | some d => .ptr d 0 :: (cutCaps caps).2.2) ∧ ((cutCaps caps).2.1 = none → (cutCaps caps).2.2 = [])
  | [] => ⟨rfl, fun _ => rfl⟩
  | p :: post => by
    obtain ⟨ih1, ih2⟩ := cut_spec post
    have key : cutCaps (p :: post) = (p :: (cutCaps post).1, (cutCaps post).2) → p :: post = (cutCaps (p :: post)).1 ++ (match (cutCaps (p :: post)).2.1 with | none => [] | some d => .ptr d 0 :: (cutCaps (p :: post)).2.2) ∧ ((cutCaps (p :: post)).2.1 = none → (cutCaps (p :: post)).2.2 = []) := fun e => by
      rw [e]
      exact ⟨by rw [List.cons_append, ← ih1], ih2⟩
    cases p with
    | ptr d off =>
      cases off with
      | zero => exact ⟨rfl, fun q => by cases q⟩
      | succ off => exact key rfl
    | _ => exact key rfl

theorem Reps.split {C : Ctx} : ∀ (ps qs : List PV) (us : List Value), Reps C (ps ++ qs) us → ∃ us1 us2, us = us1 ++ us2 ∧ Reps C ps us1 ∧ Reps C qs us2
  | [], qs, us, h => ⟨[], us, rfl, rfl, h⟩
  | p :: ps, qs, us, h => by
    obtain ⟨u, ws, rfl, h1, h2⟩ := h
    obtain ⟨us1, us2, rfl, h3, h4⟩ := Reps.split ps qs ws h2
    exact ⟨u :: us1, us2, rfl, ⟨u, us1, rfl, h1, h3⟩, h4⟩

section
variable {P : Program} {E : Env} {call : Nat → List PV → Option PV} {base n : Nat} {R : Type} {io : Io R} {Inv : R → Start → Prop}

/-- A region in which an iterator yields. -/
theorem yield_sound (O : ProgOk P E) (hcall : ∀ f args r, call f args = some r → Contract P E f args r) (hY : YOk P base n Inv io.emit) {ops : Array Oper} {j : Nat} {o : Oper} (hj : ops[j]? = some o) {id : Nat}
    {κ : Ex → St → Option R} {r : R} {w0 : Start} {s : St} {a : Act} {w : World} {Q : Exit → Act → World → Prop} {m : Nat} {ro : Option Nat}
    (hc : (opsK E call ops (ops.toList.take j) s fun s1 => yieldK io s1 o fun s2 => opsK E call ops (ops.toList.drop (j + 1)) s2 fun s' => κ .normal s') = some r) (h : Sim base w0 n s a w) (hI : Inv r w0)
    (hQ : ∀ s' r' w0' a' w', κ .normal s' = some r' → w0'.pin = w0.pin → w0'.yl = w0.yl → Later base noX w0 w0' → Inv r' w0' → Sim base w0' n s' a' w' → Q .normal a' w') : (Code.region id ops false).wpIn (rf ro) m P Q a w := by
  obtain ⟨tr, s1, hr1, hk1⟩ := opsK_run E call ops _ 0 s _ r hc
  have hlt : j < ops.size := (Array.getElem?_eq_some_iff.1 hj).1
  have hpre : ((ops.toList.take j).zipIdx 0 |>.map fun x => (x.2, x.1)).map (·.1) = List.range' 0 j := by
    rw [List.map_map]
    have : ((fun x : Nat × Oper => x.1) ∘ fun x : Oper × Nat => (x.2, x.1)) = Prod.snd := rfl
    rw [this, List.zipIdx_map_snd]
    simp; omega
  have hsuf : ((ops.toList.drop (j + 1)).zipIdx (j + 1) |>.map fun x => (x.2, x.1)).map (·.1) = List.range' (j + 1) (ops.size - (j + 1)) := by
    rw [List.map_map]
    have : ((fun x : Nat × Oper => x.1) ∘ fun x : Oper × Nat => (x.2, x.1)) = Prod.snd := rfl
    rw [this, List.zipIdx_map_snd]
    simp
  have hrange : List.range ops.size = List.range' 0 j ++ (j :: List.range' (j + 1) (ops.size - (j + 1))) := by
    rw [List.range_eq_range']
    have e1 : ops.size = j + (1 + (ops.size - (j + 1))) := by omega
    conv => lhs; rw [e1]
    rw [← List.range'_append_1, ← List.range'_append_1]
    simp
  refine wpIn_region ?_
  rw [hrange, ← hpre]
  refine ops_sound O.env hcall _ hr1 (fun x hx => ?_) h fun a1 w1 h1 => ?_
  · obtain ⟨y, hy, rfl⟩ := List.mem_map.1 hx
    have := List.mem_zipIdx_iff_getElem?.1 hy
    rw [List.getElem?_take] at this
    split at this
    · simpa using this
    · cases this
  rw [wpOpsIn_cons]
  unfold wpOpIn
  rw [hj]
  dsimp only
  unfold yieldK at hk1
  split at hk1
  · rename_i c hgd hop
    split at hk1
    · rename_i f hcal
      split at hk1
      · rename_i hyl
        obtain ⟨hpl, hk1⟩ := guardK_some hk1
        have hw : Region.wanted o (yielded ops a1.tmps) = true := by unfold Region.wanted; rw [hgd]
        rw [if_pos hw]
        obtain ⟨g1, h1⟩ := h1
        have hfr := operand_rep h1 f
        rw [hyl] at hfr
        obtain ⟨l, hl, hfv⟩ := hfr
        have hl : g1.yl = some l := hl
        have hl0 : w0.yl = some l := by rw [← h1.yld]; exact hl
        obtain ⟨g2, h2, l2, b2, c2⟩ := SimG.freeze ((c.args.toList.map (operand s1)).filterMap capBox) h1
        have hcb : ∀ os : List Operand, (os.map fun x => strip (operand s1 x)).filterMap capBox = (os.map (operand s1)).filterMap capBox := fun os => by
          rw [List.filterMap_map, List.filterMap_map]
          congr 1
          funext x
          show capBox (strip (operand s1 x)) = capBox (operand s1 x)
          cases operand s1 x <;> rfl
        have hr0 : Reps (ctx s1 w1 g1) (c.args.toList.map fun x => strip (operand s1 x)) (c.args.toList.map a1.eval) := by
          generalize c.args.toList = os
          induction os with
          | nil => rfl
          | cons x os ih => exact ⟨_, _, rfl, Rep.strip _ _ (operand_rep h1 x), ih⟩
        have hm : ∀ os : List Operand, (os.map fun x => capPV s1 (strip (operand s1 x))) = (os.map fun x => strip (operand s1 x)).map (capPV s1) := fun os => by simp [List.map_map, Function.comp_def]
        rw [hm] at hpl hk1
        have hargs := caps_rep h1 l2 rfl _ _ hr0 (by rw [hcb]; exact c2) hpl
        have hargs' := Reps.mono0 (C := ctx _ w1 g2) (C' := plainCtx w1 g2.st) ⟨fun _ _ h => h, fun _ _ _ => rfl⟩ _ _ hpl hargs
        obtain ⟨fn, tmps, asg, body, hy, hR⟩ := hY _ _ _ r w0 g2 _ a1 w1 _ l (m - 1) hk1 hI h2 hargs' hl0
        refine ⟨fun _ _ => trivial, ?_⟩
        rw [Oper.semAt_eq _ _ _ (fun c' q => by rw [hop] at q; cases q)]
        have hrun : (execOp a1.eval o).run P w1 = .ok (.round l fn tmps asg body) w1 := by
          simp only [execOp, hop, resolve, hcal, Sem.run_bind, hfv, Deferred.ofValue, Sem.run_pure, Result.andThen_ok, invoke]
          have e : (c.args.toList.map a1.eval).toArray = c.args.map a1.eval := Array.ext' (by rw [Array.toList_map])
          rw [e] at hy
          simpa using hy
        rw [hrun, Oper.uponIn_round]
        refine ⟨fun q => by simp [rf, Fence.wide] at q, RoundIn.mono (F := rf ro) hR ?_⟩
        rintro e W' ⟨b, r', rfl, hb, w0', p1, p2, p3, p4, p5⟩
        have hkb : opsK E call ops (ops.toList.drop (j + 1)) (upd (s1.frz ((c.args.toList.map (operand s1)).filterMap capBox)) o.dst (.val (.bool b))) (fun s' => κ .normal s') = some r' := by
          cases b with
          | true => simp only [cond, updK_eq] at hb; exact hb
          | false => simp only [cond, updK_eq] at hb; exact hb
        obtain ⟨tr2, s3, hr3, hk3⟩ := opsK_run E call ops _ (j + 1) _ _ r' hkb
        obtain ⟨g3, p5⟩ := p5
        have h3 : Sim base w0' n (upd (s1.frz ((c.args.toList.map (operand s1)).filterMap capBox)) o.dst (.val (.bool b))) (a1.put o.dst (.bool b)) W' := ⟨_, p5.val (p := .bool b) (v := .bool b) rfl o.dst⟩
        have := ops_sound (ro := ro) (m := m) O.env hcall (Q := Q) [] hr3 (fun x hx => ?_) h3 fun a' w' h' => hQ s3 r' w0' a' w' hk3 p1 p2 p3 p4 h'
        · rw [hsuf, List.append_nil] at this
          exact this
        · obtain ⟨y, hy, rfl⟩ := List.mem_map.1 hx
          have := List.mem_zipIdx_iff_le_and_getElem?_sub.1 hy
          obtain ⟨q1, q2⟩ := this
          rw [List.getElem?_drop] at q2
          have e : j + 1 + (y.2 - (j + 1)) = y.2 := by omega
          rw [e] at q2
          simpa using q2
      · cases hk1
    · cases hk1
  · cases hk1

theorem code_sound (O : ProgOk P E) (hcall : ∀ f args r, call f args = some r → Contract P E f args r) (hit : ∀ g pre m post xs, io.it g pre m post = some xs → IterC P g pre m post xs) (hInv : InvOk base Inv) (hY : YOk P base n Inv io.emit)
    (hs : Nat → Hd) (ys : Nat → Option Nat) : ∀ (c : Code), okCode c = true → ∀ rd : Bool, CodeOk P base n Inv c rd (dropsOf hs c) (codeK E call io rd hs ys c) := by
  intro c
  induction c with
  | skip => intro hok rd m ro hro s κ r w0 a w Q hc hpin hpr h hI hQ; exact wpIn_skip (hQ .normal s r w0 a w hc rfl rfl (Later.refl _ _ _) hI h)
  | region id ops draw =>
    intro hok rd m ro hro s κ r w0 a w Q hc hpin hpr h hI hQ
    unfold codeK at hc
    cases hy : ys id with
    | none =>
      rw [hy] at hc
      cases draw with
      | true => exact region_sound (draw := true) (κ := κ .normal) (r := r) O.env O.mixed hcall (fun _ => by simpa [okCode] using hok) h (fun s1 hk a' w' h' => hQ .normal s1 r w0 a' w' hk rfl rfl (Later.refl _ _ _) hI h') hc
      | false => exact region_sound (draw := false) (κ := κ .normal) (r := r) O.env O.mixed hcall (fun hd => by cases hd) h (fun s1 hk a' w' h' => hQ .normal s1 r w0 a' w' hk rfl rfl (Later.refl _ _ _) hI h') hc
    | some j =>
      rw [hy] at hc
      dsimp only at hc
      split at hc
      · rename_i o ho
        exact yield_sound O hcall hY ho hc h hI fun s' r' w0' a' w' hk p1 p2 p3 p4 p5 => hQ .normal s' r' w0' a' w' hk p1 p2 p3 p4 p5
      · cases hc
  | seq x y ihx ihy =>
    intro hok rd m ro hro s κ r w0 a w Q hc hpin hpr h hI hQ
    simp only [okCode, Bool.and_eq_true] at hok
    refine wpIn_seq (ihx hok.1 rd m ro hro s _ r w0 a w _ hc (fun d hd => hpin d (by simp [dropsOf, hd])) hpr h hI fun e s' r' w0' a' w' hk p1 p2 p3 p4 p5 => ?_)
    cases e with
    | normal => exact ihy hok.2 rd m ro hro s' κ r' w0' a' w' Q hk (fun d hd => by rw [p1]; exact hpin d (by simp [dropsOf, hd])) (fun q d => by rw [p1]; exact hpr q d) p5 p4 fun e2 s2 r2 w2 a2 v2 hk2 q1 q2 q3 q4 q5 => hQ e2 s2 r2 w2 a2 v2 hk2 (q1.trans p1) (q2.trans p2) (p3.trans q3) q4 q5
    | ret => exact hQ .ret s' r' w0' a' w' hk p1 p2 p3 p4 p5
    | exit id => exact hQ (.exit id) s' r' w0' a' w' hk p1 p2 p3 p4 p5
  | cond c x y ihx ihy =>
    intro hok rd m ro hro s κ r w0 a w Q hc hpin hpr h hI hQ
    simp only [okCode, Bool.and_eq_true] at hok
    cases c with
    | tmp t =>
      simp only [codeK, splitK_eq] at hc
      split at hc
      · rename_i b hb
        have hev : a.eval (.tmp t) = .bool b := by
          obtain ⟨g, h0⟩ := h
          have hev := eval_rep h0 t (.inr trivial)
          rw [hb] at hev
          exact hev
        cases b with
        | true => exact wpIn_cond_true hev (ihx hok.1 rd m ro hro s κ r w0 a w Q hc (fun d hd => hpin d (by simp [dropsOf, hd])) hpr h hI hQ)
        | false => exact wpIn_cond_false hev (ihy hok.2 rd m ro hro s κ r w0 a w Q hc (fun d hd => hpin d (by simp [dropsOf, hd])) hpr h hI hQ)
      · cases hc
    | const v => simp [codeK] at hc
    | global v => simp [codeK] at hc
    | func v => simp [codeK] at hc
  | block id c ih =>
    intro hok rd m ro hro s κ r w0 a w Q hc hpin hpr h hI hQ
    refine wpIn_block (ih hok rd m ro hro s _ r w0 a w _ hc hpin hpr h hI fun e s' r' w0' a' w' hk p1 p2 p3 p4 p5 => ?_)
    cases e with
    | normal => exact hQ .normal s' r' w0' a' w' hk p1 p2 p3 p4 p5
    | ret => exact hQ .ret s' r' w0' a' w' hk p1 p2 p3 p4 p5
    | exit j =>
      dsimp only at hk
      show if j = id then _ else _
      split at hk
      · rename_i q; rw [if_pos q]; exact hQ .normal s' r' w0' a' w' hk p1 p2 p3 p4 p5
      · rename_i q; rw [if_neg q]; exact hQ (.exit j) s' r' w0' a' w' hk p1 p2 p3 p4 p5
  | loop c ih =>
    intro hok rd m ro hro s κ r w0 a w Q hc hpin hpr h hI hQ
    simp only [codeK, forceSt_eq] at hc
    have key : ∀ k s r w0 a w, loopJ (codeK E call io rd hs ys c) (hs (firstRegion c)) κ k (s.head (hs (firstRegion c))) = some r → (∀ d ∈ dropsOf hs (.loop c), w0.pin d = none) → (rd = false → ∀ d, w0.pin d = none) → Sim base w0 n s a w → Inv r w0 →
        (∀ e s' r' w0' a' w', κ e s' = some r' → w0'.pin = w0.pin → w0'.yl = w0.yl → Later base noX w0 w0' → Inv r' w0' → Sim base w0' n s' a' w' → Q (toExit e) a' w') → Code.roundsIn (rf ro) m P c Q k a w := by
      intro k
      induction k with
      | zero => intro s r w0 a w hl; cases hl
      | succ k ihk =>
        intro s r w0 a w hl hpin hpr h hI hQ
        simp only [loopJ, forceSt_eq] at hl
        rw [roundsIn_succ]
        refine ih hok rd m ro hro _ _ r w0 a w _ hl (fun d hd => hpin d (by simp [dropsOf, hd])) hpr (h.head _ fun d hd => hpin d (by simp [dropsOf, hd])) hI fun e s' r' w0' a' w' hk p1 p2 p3 p4 p5 => ?_
        cases e with
        | normal => exact ihk s' r' w0' a' w' hk (fun d hd => by rw [p1]; exact hpin d hd) (fun q d => by rw [p1]; exact hpr q d) p5 p4 fun e2 s2 r2 w2 a2 v2 hk2 q1 q2 q3 q4 q5 => hQ e2 s2 r2 w2 a2 v2 hk2 (q1.trans p1) (q2.trans p2) (p3.trans q3) q4 q5
        | ret => exact hQ .ret s' r' w0' a' w' hk p1 p2 p3 p4 p5
        | exit id => exact hQ (.exit id) s' r' w0' a' w' hk p1 p2 p3 p4 p5
    exact wpIn_loop_rounds _ (key _ s r w0 a w hc hpin hpr h hI hQ)
  | exit id => intro hok rd m ro hro s κ r w0 a w Q hc hpin hpr h hI hQ; exact wpIn_exit (hQ (.exit id) s r w0 a w hc rfl rfl (Later.refl _ _ _) hI h)
  | ret => intro hok rd m ro hro s κ r w0 a w Q hc hpin hpr h hI hQ; exact wpIn_ret (hQ .ret s r w0 a w hc rfl rfl (Later.refl _ _ _) hI h)
  | rangeFunc f p x y ihx ihy =>
    intro hok rd m ro hro s κ r w0 a w Q hc hpin hpr h hI hQ
    simp only [okCode, Bool.and_eq_true] at hok
    cases f with
    | tmp t =>
      cases rd with
      | true => simp [codeK] at hc
      | false =>
        have hro := hro rfl
        subst hro
        have hpn := hpr rfl
        simp only [codeK] at hc
        unfold rangeK at hc
        split at hc
        · rename_i k caps hk
          split at hc
          rename_i pre md post hcut
          obtain ⟨hpl, hc⟩ := guardK_some hc
          rw [Bool.and_eq_true] at hpl
          obtain ⟨g, h⟩ := h
          have hev := eval_rep h t (.inr trivial)
          rw [hk] at hev
          obtain ⟨us, hev, hus⟩ := hev
          obtain ⟨hsp1, hsp2⟩ := cut_spec caps
          rw [hcut] at hsp1 hsp2
          dsimp only at hsp1 hsp2
          have hp0 : ∀ {ps : List PV} {vs : List Value}, plains ps = true → Reps (ctx s w g) ps vs → Reps (plainCtx w g.st) ps vs := fun hp hr => Reps.mono0 (C := ctx s w g) (C' := plainCtx w g.st) ⟨fun _ _ h => h, fun _ _ _ => rfl⟩ _ _ hp hr
          cases md with
          | none =>
            have hpost := hsp2 rfl
            subst hpost
            dsimp only at hc hsp1
            obtain ⟨xs, hx, hc⟩ := Option.bind_eq_some_iff.1 hc
            rw [forceSt_eq] at hc
            rw [hsp1] at hus
            simp only [List.append_nil] at hus
            refine range_core (hd := rangeHd hs [] x y) (pv := us.toList) (mv := []) (qv := []) (X := fun _ => False) (g := g) hInv (ihx hok.1 true) (ihy hok.2 true) (fun d hd => by simp [rangeHd, hd]) (fun d hd => by simp [rangeHd, hd]) (hit _ _ _ _ _ hx) (by simpa using hev) (hp0 hpl.1 hus) rfl hpn h hI
              (fun b hb => hb.elim) (fun far W _ _ => rfl) hc (fun _ _ => trivial) hQ
          | some d =>
            dsimp only at hc hsp1
            split at hc
            · rename_i cs hbox
              obtain ⟨hpc, hc⟩ := guardK_some hc
              obtain ⟨xs, hx, hc⟩ := Option.bind_eq_some_iff.1 hc
              rw [forceSt_eq] at hc
              rw [hsp1] at hus
              obtain ⟨pv, us2, hus', hr1, hr2⟩ := Reps.split _ _ _ hus
              obtain ⟨u, qv, rfl, hu, hr3⟩ := hr2
              obtain ⟨B, hB, hu⟩ := hu
              have hB : g.bx d = some B := hB
              obtain ⟨B', vs, T, e1, e2, e3, e4, _, e6⟩ := h.cells d cs false hbox
              have hBB : B' = B := by rw [hB] at e1; cases e1; rfl
              subst hBB
              refine range_core (hd := rangeHd hs [d] x y) (pv := pv) (mv := [u]) (qv := qv) (X := fun b => b = B') (g := g) hInv (ihx hok.1 true) (ihy hok.2 true) (fun d hd => by simp [rangeHd, hd]) (fun d hd => by simp [rangeHd, hd]) (hit _ _ _ _ _ hx) ?_ (hp0 hpl.1 hr1) (hp0 hpl.2 hr3) hpn h hI
                (fun b hb => ⟨d, by simp [rangeHd], by rw [hb]; exact hB⟩) (fun far W hb hf => ?_) hc (fun _ _ => trivial) hQ
              · rw [hev]
                have : us = (pv ++ [u] ++ qv).toArray := by rw [← Array.toArray_toList (xs := us), hus']; simp
                rw [this]
              · have hlt := block_lt e2
                have hcell : ∀ b o, g.st b o → W.cell? ⟨b, o, none⟩ = w.cell? ⟨b, o, none⟩ := fun b o ho => by
                  obtain ⟨us, T, fr, e, _⟩ := h.stlt b o ho
                  exact World.cell?_of_block (w := w) (hb.block b (block_lt e))
                refine ⟨B', vs, T, by rw [hu], by rw [hb.block B' hlt]; exact e2, ?_, e6 rfl, hf B' rfl⟩
                have hl : (plainCtx w g.st).Le (plainCtx W g.st) := ⟨fun _ _ h => h, hcell, fun _ _ h => h, fun _ _ _ _ h => h, fun _ _ _ => rfl, fun _ _ _ => rfl, fun _ h => h⟩
                exact Reps.mono hl _ _ (hp0 hpc (Reps.strips _ _ e4))
            · cases hc
        · cases hc
    | const v => simp [codeK] at hc
    | global v => simp [codeK] at hc
    | func v => simp [codeK] at hc
  | scope x => intro hok rd m ro hro s κ r w0 a w Q hc; simp [codeK] at hc
  | label l => intro hok rd m ro hro s κ r w0 a w Q hc; simp [codeK] at hc
  | goto l => intro hok rd m ro hro s κ r w0 a w Q hc; simp [codeK] at hc
  | refuse why => intro hok rd m ro hro s κ r w0 a w Q hc; simp [codeK] at hc

end
end Go.Pew
