/- WHAT AN OPERATION TELLS DEPENDS ON ITS OPERANDS AND ON THE BOXES THAT IT NAMES. -/
import Derived.Test.YtfjnpgbjcgjecaaPevSound
namespace Go.Pev
set_option linter.unusedVariables false
set_option linter.unusedSimpArgs false

structure Agree (s s' : St) (o : Oper) (e : Eff) : Prop where
  get : ∀ t, Operand.tmp t ∈ o.op.operands → s'.get t = s.get t
  box : ∀ d, (2 * d ∈ e.reads ∨ 2 * d ∈ e.writes o.dst) → s'.box d = s.box d
  ver : ∀ d, 2 * d + 1 ∈ e.writes o.dst → s'.ver d = s.ver d

section
variable {E : Env} {call : Nat → List PV → Option PV} {s s' : St} {o : Oper} {e : Eff}

theorem Agree.op (h : Agree s s' o e) {x : Operand} (hx : x ∈ o.op.operands) : operand s' x = operand s x := by
  cases x with
  | tmp t => exact h.get t hx
  | _ => rfl

theorem Agree.load {d : Nat} {v : PV} (h : Agree s s' o (.load d v)) : s'.box d = s.box d := h.box d (.inl (by simp [Eff.reads]))
theorem Agree.froze {ds : List Nat} {v : PV} (h : Agree s s' o (.froze ds v)) {d : Nat} (hd : d ∈ ds) : s'.box d = s.box d :=
  h.box d (.inr (by simp only [Eff.writes, edits, List.map_map]; exact List.mem_append_left _ (List.mem_map.2 ⟨d, hd, rfl⟩)))
theorem Agree.frozeOwn {ds : List Nat} {ls : List LK} {xs : List (List PV)} (h : Agree s s' o (.frozeOwn ds ls xs)) {d : Nat} (hd : d ∈ ds) : s'.box d = s.box d :=
  h.box d (.inr (by simp only [Eff.writes, edits, List.map_map]; exact List.mem_append_left _ (List.mem_map.2 ⟨d, hd, rfl⟩)))
theorem Agree.store {d off : Nat} {vs : List PV} (h : Agree s s' o (.store d off vs)) : s'.box d = s.box d :=
  h.box d (.inr (by simp [Eff.writes, edits]))
theorem Agree.rstore {d i off : Nat} {vs : List PV} (h : Agree s s' o (.rstore d i off vs)) : s'.box d = s.box d :=
  h.box d (.inr (by simp [Eff.writes, edits]))
theorem Agree.app {d : Nat} {ls : List LK} {xs : List (List PV)} (h : Agree s s' o (.app d ls xs)) : s'.ver d = s.ver d :=
  h.ver d (by simp [Eff.writes, edits, bump])

theorem load_local {t : Nat} {x : Operand} (hx : operand s' x = operand s x) (hag : Agree s s' o e) (ha : actLoad E call s t x some = some e) : actLoad E call s' t x some = some e := by
  have ha0 := ha
  unfold actLoad at ha ha0 ⊢
  rw [hx]
  split at ha
  · cases ha
  · rename_i ti hti
    simp only [hti] at ha0 ⊢
    split at ha
    · rename_i d off hv
      simp only [hv] at ha0 ⊢
      split at ha
      · rename_i cs fz hb
        have : ∃ v, e = .load d v := by
          split at ha
          · cases ha; exact ⟨_, rfl⟩
          · cases ha
        obtain ⟨v, rfl⟩ := this
        rw [hag.load]
        exact ha0
      · cases ha
    · rename_i cs off hv
      simp only [hv] at ha0 ⊢
      exact ha0
    · rename_i d i off hv
      simp only [hv] at ha0 ⊢
      split at ha
      · rename_i cs fz hb
        have : ∃ v, e = .load d v := by
          split at ha
          · cases ha; exact ⟨_, rfl⟩
          · cases ha
        obtain ⟨v, rfl⟩ := this
        rw [hag.load]
        exact ha0
      · cases ha
    · cases ha

theorem store_local {t : Nat} {x y : Operand} (hx : operand s' x = operand s x) (hy : operand s' y = operand s y) (hag : Agree s s' o e) (ha : actStore E call s t x y some = some e) : actStore E call s' t x y some = some e := by
  have ha0 := ha
  unfold actStore at ha ha0 ⊢
  rw [hx, hy]
  split at ha
  · cases ha
  · rename_i ti hti
    simp only [hti] at ha0 ⊢
    split at ha
    · rename_i hq
      rw [if_pos hq] at ha0 ⊢
      split at ha
      · rename_i d off hv
        simp only [hv] at ha0 ⊢
        split at ha
        · have : ∃ off vs, e = .store d off vs := by
            split at ha
            · cases ha; exact ⟨_, _, rfl⟩
            · cases ha
          obtain ⟨_, _, rfl⟩ := this
          rw [hag.store]
          exact ha0
        · cases ha
      · rename_i d i off hv
        simp only [hv] at ha0 ⊢
        split at ha
        · have : ∃ i off vs, e = .rstore d i off vs := by
            split at ha
            · cases ha; exact ⟨_, _, _, rfl⟩
            · cases ha
          obtain ⟨_, _, _, rfl⟩ := this
          rw [hag.rstore]
          exact ha0
        · cases ha
      · cases ha
    · cases ha

theorem len_local {t : Nat} {p : PV} (hag : Agree s s' o e) (ha : lenK E s t p some = some e) : lenK E s' t p some = some e := by
  have ha0 := ha
  unfold lenK at ha ha0 ⊢
  split at ha
  · cases ha
  · rename_i ti hti
    simp only [hti] at ha0 ⊢
    split at ha
    · rename_i hd
      simp only [hd] at ha0 ⊢
      exact ha0
    · rename_i d hd
      simp only [hd] at ha0 ⊢
      split at ha
      · have : ∃ v, e = .load d v := by cases ha; exact ⟨_, rfl⟩
        obtain ⟨v, rfl⟩ := this
        rw [hag.load]
        exact ha0
      · cases ha
    · rename_i hd
      simp only [hd] at ha0 ⊢
      exact ha0
    · rename_i hd
      simp only [hd] at ha0 ⊢
      exact ha0
    · cases ha

theorem index_local {t : Nat} {x i : Operand} (hx : operand s' x = operand s x) (hi : operand s' i = operand s i) (hag : Agree s s' o e) (ha : actIndexAddr E call s t x i some = some e) : actIndexAddr E call s' t x i some = some e := by
  have ha0 := ha
  unfold actIndexAddr at ha ha0 ⊢
  rw [hx, hi]
  split at ha
  · cases ha
  · rename_i ti hti
    simp only [hti] at ha0 ⊢
    split at ha
    · rename_i hd hv
      simp only [hd, hv] at ha0 ⊢
      exact ha0
    · rename_i el d hd hv
      simp only [hd, hv] at ha0 ⊢
      split at ha
      · rename_i te ls xs fz hte hb
        have : ∃ v, e = .load d v := by
          split at ha
          · unfold indexK at ha
            split at ha
            · obtain ⟨_, ha⟩ := guardK_some ha
              obtain ⟨_, ha⟩ := guardK_some ha
              cases ha
              exact ⟨_, rfl⟩
            · cases ha
          · cases ha
        obtain ⟨v, rfl⟩ := this
        rw [hag.load]
        exact ha0
      · cases ha
    · rename_i hd hv
      simp only [hd, hv] at ha0 ⊢
      exact ha0
    · rename_i hd hv
      simp only [hd, hv] at ha0 ⊢
      exact ha0
    · cases ha

theorem slice_local {t : Nat} {x : Operand} {lo hi : Option Operand} (hx : operand s' x = operand s x) (hl : ∀ y, lo = some y → operand s' y = operand s y) (hh : ∀ y, hi = some y → operand s' y = operand s y) (hag : Agree s s' o e)
    (ha : actSlice E call s t x lo hi some = some e) : actSlice E call s' t x lo hi some = some e := by
  have ha0 := ha
  have hlow : ∀ (h : Nat) (κ : Nat → Option Eff), lowK s' lo h κ = lowK s lo h κ := fun h κ => by
    unfold lowK
    cases lo with
    | none => rfl
    | some y => simp only [hl y rfl]
  have hhigh : ∀ (h : Nat) (κ : Nat → Option Eff), highK s' hi h κ = highK s hi h κ := fun h κ => by
    unfold highK
    cases hi with
    | none => rfl
    | some y => simp only [hh y rfl]
  unfold actSlice at ha ha0 ⊢
  rw [hx]
  split at ha
  · cases ha
  · rename_i ti hti
    simp only [hti] at ha0 ⊢
    split at ha
    · rename_i hd hv
      simp only [hd, hv, hlow, hhigh] at ha0 ⊢
      exact ha0
    · rename_i n el d off hd hv
      simp only [hd, hv] at ha0 ⊢
      split at ha
      · have : ∃ v, e = .froze [d] v := by
          split at ha
          · cases ha; exact ⟨_, rfl⟩
          · cases ha
        obtain ⟨v, rfl⟩ := this
        rw [hag.froze (List.mem_cons_self ..)]
        exact ha0
      · cases ha
    · cases ha

theorem append_local {t u : Nat} {p q : PV} (hag : Agree s s' o e) (ha : appK E s t u p q some = some e) : appK E s' t u p q some = some e := by
  have ha0 := ha
  unfold appK at ha ha0 ⊢
  split at ha
  · rename_i ti tu hti htu
    simp only [hti, htu] at ha0 ⊢
    split at ha
    · rename_i hd hd2
      simp only [hd, hd2] at ha0 ⊢
      split at ha
      · cases ha
      · rename_i te hte
        simp only [hte] at ha0 ⊢
        split at ha
        · rename_i d v ls xs tag2 ls2 ys
          have : ∃ ls xs, e = .app d ls xs := by
            split at ha
            · obtain ⟨_, ha⟩ := guardK_some ha
              cases ha; exact ⟨_, _, rfl⟩
            · cases ha
          obtain ⟨_, _, rfl⟩ := this
          rw [hag.app]
          exact ha0
        · cases ha
    · cases ha
  · cases ha

theorem makeFunc_local {f : Nat} {first caps : Array Operand} (hc : ∀ x ∈ caps.toList, operand s' x = operand s x) (hag : Agree s s' o e) (ha : actMakeFunc E call s f first caps some = some e) : actMakeFunc E call s' f first caps some = some e := by
  have ha0 := ha
  have hm : caps.toList.map (operand s') = caps.toList.map (operand s) := List.map_congr_left hc
  unfold actMakeFunc at ha ha0 ⊢
  rw [hm]
  have : ∃ v, e = .froze ((caps.toList.map (operand s)).filterMap capBox) v := by
    split at ha
    · cases ha; exact ⟨_, rfl⟩
    · cases ha
  obtain ⟨v, rfl⟩ := this
  have hcap : (caps.toList.map (operand s)).map (capPV s') = (caps.toList.map (operand s)).map (capPV s) := by
    refine List.map_congr_left fun p hp => ?_
    cases p with
    | ptr d off =>
      show (match s'.box d with | some (.cells cs _) => PV.rp (strips cs) off | _ => .undef) = (match s.box d with | some (.cells cs _) => PV.rp (strips cs) off | _ => .undef)
      rw [hag.froze (List.mem_filterMap.2 ⟨_, hp, rfl⟩)]
    | _ => rfl
  rw [hcap]
  exact ha0

theorem args_local {R : Type} {κ : List PV → List Nat → Option R} : ∀ (os : List Operand) (ds : List Nat) (acc : List PV), (∀ x ∈ os, operand s' x = operand s x) → (∀ d x, x ∈ os → operand s x = .row d → s'.box d = s.box d) →
    argsK s' os ds acc κ = argsK s os ds acc κ
  | [], ds, acc, _, _ => rfl
  | x :: os, ds, acc, h, hb => by
    unfold argsK
    rw [h x (List.mem_cons_self ..)]
    have ih := fun ds acc => args_local (κ := κ) os ds acc (fun y hy => h y (List.mem_cons_of_mem _ hy)) (fun d y hy => hb d y (List.mem_cons_of_mem _ hy))
    split
    · rename_i d hd
      rw [hb d x (List.mem_cons_self ..) hd]
      split
      · exact ih ..
      · rfl
    · exact ih ..

theorem call_local {c : Call} (ho : o.op = .call c) (hag : Agree s s' o e) (ha : actCall E call s c some = some e) : actCall E call s' c some = some e := by
  have hops : ∀ x ∈ c.args.toList, operand s' x = operand s x := fun x hx => hag.op (by
    simp only [ho, Op.operands, Call.operands]
    split <;> simp_all)
  have hmap : c.args.toList.map (operand s') = c.args.toList.map (operand s) := List.map_congr_left hops
  have ha0 := ha
  unfold actCall at ha ha0 ⊢
  cases hc : c.callee with
  | invoke r m => simp [hc] at ha
  | value f =>
    have hf : operand s' f = operand s f := hag.op (by simp [ho, Op.operands, Call.operands, hc])
    simp only [hc, hf] at ha ha0 ⊢
    split at ha
    · rename_i k caps hv
      simp only [hv] at ha0 ⊢
      obtain ⟨ds, hds, ha⟩ := argsK_nil ha
      have hbox : ∀ d ∈ ds, s'.box d = s.box d := by
        split at ha
        · unfold callK at ha
          split at ha
          · cases ha
          · obtain ⟨r, _, ha⟩ := Option.bind_eq_some_iff.1 ha
            split at ha
            · cases ha
            · split at ha
              · split at ha
                · cases ha
                  exact fun d hd => hag.frozeOwn hd
                · cases ha
              · cases ha
                exact fun d hd => hag.froze hd
        · cases ha
      rw [args_local _ _ _ hops fun d x hx hd => hbox d (hds x hx d hd)]
      exact ha0
    · cases ha
  | builtin b =>
    simp only [hc] at ha ha0 ⊢
    cases b with
    | len =>
      dsimp only at ha ha0 ⊢
      split at ha
      · rename_i x t rest hx ht
        simp only [hx, ht] at ha0 ⊢
        rw [hops x (by simp [hx])]
        exact len_local hag ha0
      · cases ha
    | max => simp only [hmap]; exact ha0
    | min => simp only [hmap]; exact ha0
    | append =>
      dsimp only at ha ha0 ⊢
      split at ha
      · rename_i x y t u hx ht
        simp only [hx, ht] at ha0 ⊢
        rw [hops x (by simp [hx]), hops y (by simp [hx])]
        exact append_local hag ha0
      · cases ha
    | _ => cases ha

theorem act_local (hag : Agree s s' o e) (ha : act E call s o = some e) : act E call s' o = some e := by
  have hop : ∀ x, x ∈ o.op.operands → operand s' x = operand s x := fun x hx => hag.op hx
  unfold act actK at ha ⊢
  split at ha
  · rename_i x ho; have := hop x (by simp [ho, Op.operands]); unfold actMove at ha ⊢; rw [this]; exact ha
  · rename_i x ho; have := hop x (by simp [ho, Op.operands]); unfold actMove at ha ⊢; rw [this]; exact ha
  · rename_i c x y ho
    unfold actPick at ha ⊢
    rw [hop c (by simp [ho, Op.operands]), hop x (by simp [ho, Op.operands]), hop y (by simp [ho, Op.operands])]
    exact ha
  · rename_i ho; exact ha
  · rename_i t x ho; unfold actBox at ha ⊢; rw [hop x (by simp [ho, Op.operands])]; exact ha
  · rename_i t parts ho
    unfold actBuild at ha ⊢
    have : (parts.toList.map fun p => (p.1, operand s' p.2)) = parts.toList.map fun p => (p.1, operand s p.2) := List.map_congr_left fun p hp => by
      rw [hop p.2 (by simp only [ho, Op.operands, List.mem_toArray]; exact List.mem_map.2 ⟨p, hp, rfl⟩)]
    rw [this]
    exact ha
  · rename_i t len parts ho
    unfold actBuildSlice at ha ⊢
    have : (parts.toList.map fun p => (p.1, operand s' p.2)) = parts.toList.map fun p => (p.1, operand s p.2) := List.map_congr_left fun p hp => by
      rw [hop p.2 (by simp only [ho, Op.operands, List.mem_toArray]; exact List.mem_map.2 ⟨p, hp, rfl⟩)]
    rw [this]
    exact ha
  · rename_i t x ho; exact load_local (hop x (by simp [ho, Op.operands])) hag ha
  · rename_i t x y ho; exact store_local (hop x (by simp [ho, Op.operands])) (hop y (by simp [ho, Op.operands])) hag ha
  · rename_i op t x y yt ho
    unfold actBinOp at ha ⊢
    rw [hop x (by simp [ho, Op.operands]), hop y (by simp [ho, Op.operands])]
    exact ha
  · rename_i op t x ho; unfold actUnOp at ha ⊢; rw [hop x (by simp [ho, Op.operands])]; exact ha
  · rename_i src dst x ho; unfold actConvert at ha ⊢; rw [hop x (by simp [ho, Op.operands])]; exact ha
  · rename_i f first caps ho; exact makeFunc_local (fun x hx => hop x (by simp only [ho, Op.operands, Array.mem_append]; exact .inr (by simpa using hx))) hag ha
  · rename_i t l c ho
    unfold actMakeSlice at ha ⊢
    rw [hop l (by simp [ho, Op.operands]), hop c (by simp [ho, Op.operands])]
    exact ha
  · rename_i t x lo hi ho
    exact slice_local (hop x (by simp [ho, Op.operands])) (fun y hy => hop y (by simp [ho, Op.operands, hy])) (fun y hy => hop y (by simp [ho, Op.operands, hy])) hag ha
  · rename_i t x f ho; unfold actFieldAddr at ha ⊢; rw [hop x (by simp [ho, Op.operands])]; exact ha
  · rename_i t x f ho; unfold actField at ha ⊢; rw [hop x (by simp [ho, Op.operands])]; exact ha
  · rename_i t x i ho; exact index_local (hop x (by simp [ho, Op.operands])) (hop i (by simp [ho, Op.operands])) hag ha
  · rename_i t x i ho
    unfold actIndex at ha ⊢
    rw [hop x (by simp [ho, Op.operands]), hop i (by simp [ho, Op.operands])]
    exact ha
  · rename_i x i ho; unfold actExtract at ha ⊢; rw [hop x (by simp [ho, Op.operands])]; exact ha
  · rename_i x ho; unfold actNilCheck at ha ⊢; rw [hop x (by simp [ho, Op.operands])]; exact ha
  · rename_i c ho; exact call_local ho hag ha
  · cases ha

end
end Go.Pev
