/- A REGION OF THE MACHINE DOES WHAT THE EVALUATOR TELLS, IN WHATEVER ORDER. -/
import Derived.Test.YtfjnpgbjcgjecaaPevComm
namespace Go.Pev
open Go.RowKit
set_option linter.unusedVariables false
set_option linter.unusedSimpArgs false

/-- What is checked of a region once: binding edges go back, and what is not ordered is apart. -/
def okRegion (ops : Array Oper) : Bool :=
  (ops.toList.zipIdx.all fun x => x.1.after.toList.all fun e => !Region.binds .any e || Nat.blt e.on x.2) &&
  (ops.toList.zipIdx.all fun x => ops.toList.zipIdx.all fun y => !Nat.blt y.2 x.2 || ((masks ops.toList).getD x.2 0).testBit y.2 || y.1.apart ops x.1)

theorem okRegion_spec {ops : Array Oper} (h : okRegion ops = true) : (∀ j o, ops[j]? = some o → ∀ e ∈ o.after.toList, Region.binds .any e = true → e.on < j) ∧
    ∀ i j x y, ops[j]? = some x → ops[i]? = some y → i < j → ((masks ops.toList).getD j 0).testBit i = true ∨ y.apart ops x = true := by
  unfold okRegion at h
  rw [Bool.and_eq_true, List.all_eq_true, List.all_eq_true] at h
  obtain ⟨h1, h2⟩ := h
  have hm : ∀ j o, ops[j]? = some o → (o, j) ∈ ops.toList.zipIdx := fun j o hj => by
    rw [List.mem_zipIdx_iff_getElem?]
    simpa using hj
  refine ⟨fun j o hj e he hb => ?_, fun i j x y hx hy hij => ?_⟩
  · have := h1 _ (hm j o hj)
    rw [List.all_eq_true] at this
    have := this e he
    simp only [hb, Bool.not_true, Bool.false_or] at this
    exact blt_lt this
  · have := h2 _ (hm j x hx)
    rw [List.all_eq_true] at this
    have := this _ (hm i y hy)
    have hb : Nat.blt i j = true := by
      unfold Nat.blt
      exact Nat.ble_eq_true_of_le hij
    simpa [hb] using this

section
variable {P : Program} {E : Env} {call : Nat → List PV → Option PV} {base n : Nat} {w0 : Start} {g : Gh} {s : St} {a : Act} {w : World} {o : Oper} {e : Eff} {ops : Array Oper}

theorem want_wanted (h : SimG base w0 n g s a w) {b : Bool} (hw : want ops s o = some b) : Region.wanted o (yielded ops a.tmps) = b := by
  unfold want at hw
  unfold Region.wanted
  cases hg : o.guard with
  | none => rw [hg] at hw; cases hw; rfl
  | some gd =>
    obtain ⟨j, wt⟩ := gd
    rw [hg] at hw
    dsimp only at hw ⊢
    unfold yielded
    cases hd : (ops[j]?).bind (·.dst) with
    | none => rw [hd] at hw; cases hw
    | some t =>
      rw [hd] at hw
      dsimp only at hw
      rw [Option.bind_some]
      have hr := eval_rep h t (.inr trivial)
      have hlt : s.get t ≠ .undef → t < a.tmps.size := fun hne => by
        apply Classical.byContradiction
        intro q
        have hlen : s.slots.length ≤ t := by
          have := h.slots.length
          rw [Array.length_toList] at this
          rw [← this]
          exact Nat.not_lt.1 q
        exact hne (by simp [St.get, List.getD_eq_getElem?_getD, List.getElem?_eq_none hlen])
      split at hw
      · rename_i hv
        cases hw
        have hl := hlt (by rw [hv]; intro q; cases q)
        rw [hv] at hr
        obtain ⟨us, hu, _⟩ := hr
        simp only [Act.eval, Array.getD_eq_getD_getElem?, Array.getElem?_eq_getElem hl, Option.getD_some] at hu
        rw [Array.getElem?_eq_getElem hl, hu]
        rfl
      · rename_i b' hv
        cases hw
        have hl := hlt (by rw [hv]; intro q; cases q)
        rw [hv] at hr
        have hu : a.eval (.tmp t) = .bool b' := hr
        simp only [Act.eval, Array.getD_eq_getD_getElem?, Array.getElem?_eq_getElem hl, Option.getD_some] at hu
        rw [Array.getElem?_eq_getElem hl, hu]
        rfl
      · cases hw

/-- One operation of a region. -/
theorem op_sound (O : EnvOk P E) (hcall : ∀ f args r, call f args = some r → Contract P E f args r) (h : Sim base w0 n s a w) {i : Nat} (hi : ops[i]? = some o) (he : eff E call ops s o = some e) {Q : Exit → Act → World → Prop} {K : Act → World → Prop}
    (hK : ∀ a' w', Sim base w0 n (upd s o.dst e) a' w' → K a' w') : wpOp P ops Q i K a w := by
  obtain ⟨g, h⟩ := h
  unfold wpOp
  rw [hi]
  dsimp only
  unfold eff at he
  split at he
  · rename_i hw
    rw [want_wanted h hw, if_pos rfl]
    obtain ⟨e', he', he⟩ := Option.bind_eq_some_iff.1 he
    split at he
    · rename_i hok
      cases he
      exact .inl (act_sound O hcall h he' hok K Q hK)
    · cases he
  · rename_i hw
    cases he
    rw [want_wanted h hw, if_neg (by simp)]
    refine hK _ _ ⟨g, ?_⟩
    rw [upd_skip]
    exact h.val (rep_undef _) o.dst
  · cases he

theorem ops_sound (O : EnvOk P E) (hcall : ∀ f args r, call f args = some r → Contract P E f args r) {Q : Exit → Act → World → Prop} : ∀ {l : List (Nat × Oper)} {s : St} {tr : List (Nat × Oper × Eff)} {s1 : St} {a : Act} {w : World}, Run E call ops l s tr s1 →
    (∀ x ∈ l, ops[x.1]? = some x.2) → Sim base w0 n s a w → (∀ a' w', Sim base w0 n s1 a' w' → Q .normal a' w') → wpOps P ops Q (l.map (·.1)) a w
  | [], s, tr, s1, a, w, hr, hl, h, hQ => by
    cases hr
    exact hQ _ _ h
  | (i, o) :: l, s, tr, s1, a, w, hr, hl, h, hQ => by
    cases hr with
    | cons he hr =>
      rw [List.map_cons, wpOps_cons]
      exact op_sound O hcall h (hl _ (List.mem_cons_self ..)) he fun a' w' h' => ops_sound O hcall hr (fun x hx => hl x (List.mem_cons_of_mem _ hx)) h' hQ

theorem run_ops {E : Env} {call : Nat → List PV → Option PV} : ∀ {l : List (Nat × Oper)} {s : St} {tr : List (Nat × Oper × Eff)} {s1 : St}, Run E call ops l s tr s1 → tr.map (fun x => (x.1, x.2.1)) = l
  | [], s, tr, s1, h => by cases h; rfl
  | (i, o) :: l, s, tr, s1, h => by
    cases h with
    | cons he hr => simp [run_ops hr]

theorem any_sound (O : EnvOk P E) (hcall : ∀ f args r, call f args = some r → Contract P E f args r) (hok : okRegion ops = true) {Q : Exit → Act → World → Prop} {s1 : St} (hQ : ∀ a' w', Sim base w0 n s1 a' w' → Q .normal a' w') :
    ∀ (fuel : Nat) (listed : Array Bool) (l : List (Nat × Oper)) (s : St) (tr : List (Nat × Oper × Eff)) (a : Act) (w : World), l.length ≤ fuel → listed.size = ops.size → (∀ x ∈ l, ops[x.1]? = some x.2) → l.Pairwise (fun x y => x.1 < y.1) →
      (∀ i, i < ops.size → (listed.getD i true = false ↔ ∃ o, (i, o) ∈ l)) → (∀ j i, listed.getD j false = true → ((masks ops.toList).getD j 0).testBit i = true → listed.getD i false = true) →
      Run E call ops l s tr s1 → tr.Pairwise (Apart (masks ops.toList)) → Sim base w0 n s a w → wpAny P .any ops Q fuel listed a w := by
  obtain ⟨hback, hapart⟩ := okRegion_spec hok
  have hsame : ∀ (listed : Array Bool) i, listed.size = ops.size → i < ops.size → listed.getD i false = listed.getD i true := fun listed i hs hi => by
    simp [Array.getD_eq_getD_getElem?, Array.getElem?_eq_getElem (hs ▸ hi)]
  have hempty : ∀ (listed : Array Bool) (l : List (Nat × Oper)), listed.size = ops.size → (∀ x ∈ l, ops[x.1]? = some x.2) → l.Pairwise (fun x y => x.1 < y.1) → (∀ i, i < ops.size → (listed.getD i true = false ↔ ∃ o, (i, o) ∈ l)) →
      (Region.ready .any ops listed = [] ↔ l = []) := by
    intro listed l hs hl hsort hli
    constructor
    · intro hr
      cases l with
      | nil => rfl
      | cons x l =>
        obtain ⟨i, o⟩ := x
        exfalso
        have hi := hl _ (List.mem_cons_self ..)
        dsimp only at hi
        have hlt : i < ops.size := (Array.getElem?_eq_some_iff.1 hi).1
        have : i ∈ Region.ready .any ops listed := by
          unfold Region.ready
          rw [List.mem_filter]
          refine ⟨List.mem_range.2 hlt, ?_⟩
          rw [(hli i hlt).2 ⟨o, List.mem_cons_self ..⟩, hi]
          simp only [Bool.not_false, Bool.true_and, Option.map_some, Option.getD_some]
          rw [Array.all_eq_true_iff_forall_mem]
          intro e he
          by_cases hb : Region.binds .any e = true
          · have hlt2 := hback i o hi e (by simpa using he) hb
            have : listed.getD e.on true ≠ false := fun hq => by
              obtain ⟨o', ho'⟩ := (hli e.on (by omega)).1 hq
              rcases List.mem_cons.1 ho' with ho' | ho'
              · cases ho'; omega
              · have := (List.pairwise_cons.1 hsort).1 _ ho'
                dsimp only at this
                omega
            rw [hsame listed _ hs (by omega)]
            simp [this]
          · simp [hb]
        rw [hr] at this
        cases this
    · intro hq
      subst hq
      unfold Region.ready
      rw [List.filter_eq_nil_iff]
      intro i hi
      have hlt := List.mem_range.1 hi
      have : listed.getD i true ≠ false := fun hq => by
        obtain ⟨o, ho⟩ := (hli i hlt).1 hq
        cases ho
      simp [this]
  intro fuel
  induction fuel with
  | zero =>
    intro listed l s tr a w hfu hs hl hsort hli hcl hr hap h
    have hl0 : l = [] := List.eq_nil_of_length_eq_zero (by omega)
    refine ⟨(hempty listed l hs hl hsort hli).2 hl0, ?_⟩
    subst hl0
    cases hr
    exact hQ _ _ h
  | succ fuel ih =>
    intro listed l s tr a w hfu hs hl hsort hli hcl hr hap h
    refine ⟨fun hre => ?_, fun i hi => ?_⟩
    · have hl0 := (hempty listed l hs hl hsort hli).1 hre
      subst hl0
      cases hr
      exact hQ _ _ h
    · unfold Region.ready at hi
      rw [List.mem_filter] at hi
      obtain ⟨hi1, hi2⟩ := hi
      have hlt := List.mem_range.1 hi1
      rw [Bool.and_eq_true] at hi2
      obtain ⟨hi2, hi3⟩ := hi2
      have hnl : listed.getD i true = false := by simpa using hi2
      obtain ⟨o, ho⟩ := (hli i hlt).1 hnl
      have hio := hl _ ho
      dsimp only at hio
      rw [hio] at hi3
      simp only [Option.map_some, Option.getD_some] at hi3
      rw [Array.all_eq_true_iff_forall_mem] at hi3
      have hbit : ∀ k, ((masks ops.toList).getD i 0).testBit k = true → listed.getD k false = true := fun k hk => by
        obtain ⟨o', ho', e, he, hb, hke⟩ := masks_spec ops.toList i k hk
        have : o' = o := by
          rw [Array.getElem?_toList, hio] at ho'
          cases ho'; rfl
        subst this
        have hon := hi3 e (by simpa using he)
        simp only [hb, Bool.not_true, Bool.false_or] at hon
        rcases hke with rfl | hke
        · exact hon
        · exact hcl _ _ hon hke
      obtain ⟨pre, post, rfl⟩ := List.append_of_mem ho
      obtain ⟨trp, e, trq, rfl, hpre, hbub⟩ := bubble pre _ _ hr
      have hsp := List.pairwise_append.1 hsort
      have hall : ∀ y ∈ trp, y.2.1.apart ops o = true ∧ Disj (y.2.1, y.2.2) (o, e) := fun y hy => by
        have hyp : (y.1, y.2.1) ∈ pre := by rw [← hpre]; exact List.mem_map.2 ⟨y, hy, rfl⟩
        have hylt : y.1 < i := hsp.2.2 _ hyp _ (List.mem_cons_self ..)
        have hyo := hl _ (List.mem_append_left _ hyp)
        dsimp only at hyo
        have hynl : listed.getD y.1 true = false := (hli y.1 (by omega)).2 ⟨y.2.1, List.mem_append_left _ hyp⟩
        have hnb : ((masks ops.toList).getD i 0).testBit y.1 ≠ true := fun hq => by
          have := hbit _ hq
          rw [hsame listed _ hs (by omega), hynl] at this
          cases this
        refine ⟨(hapart y.1 i o y.2.1 hio hyo hylt).resolve_left hnb, ?_⟩
        have := (List.pairwise_append.1 hap).2.2 y hy _ (List.mem_cons_self ..)
        rcases this with hq | ⟨h1, h2, h3⟩
        · exact absurd hq hnb
        · exact ⟨h1, h2, h3⟩
      have hrun := hbub hall
      cases hrun with
      | cons he hrun =>
        refine op_sound O hcall h hio he fun a' w' h' => ?_
        have hpp : (trp ++ trq).Pairwise (Apart (masks ops.toList)) := by
          refine hap.sublist ?_
          exact List.Sublist.append_left (List.sublist_cons_self ..) _
        have hsub : (pre ++ post).Sublist (pre ++ (i, o) :: post) := List.Sublist.append_left (List.sublist_cons_self ..) _
        have hgt : ∀ k b, k < ops.size → (listed.setIfInBounds i true).getD k b = if i = k then true else listed.getD k b := fun k b hk => by
          simp only [Array.getD_eq_getD_getElem?, Array.getElem?_setIfInBounds]
          by_cases q : i = k
          · subst q; simp [hs, hlt]
          · simp [q]
        refine ih (listed.setIfInBounds i true) (pre ++ post) _ _ a' w' (by simp at hfu ⊢; omega) (by simp [hs]) (fun x hx => hl x (hsub.subset hx)) (hsort.sublist hsub) (fun k hk => ?_) (fun j k hj hk => ?_) hrun hpp h'
        · rw [hgt k true hk]
          by_cases q : i = k
          · subst q
            rw [if_pos rfl]
            constructor
            · intro hq; cases hq
            · rintro ⟨o', ho'⟩
              exfalso
              rcases List.mem_append.1 ho' with hm | hm
              · have := hsp.2.2 _ hm _ (List.mem_cons_self ..)
                dsimp only at this
                omega
              · have := (List.pairwise_cons.1 hsp.2.1).1 _ hm
                dsimp only at this
                omega
          · rw [if_neg q, hli k hk]
            constructor
            · rintro ⟨o', ho'⟩
              rcases List.mem_append.1 ho' with hm | hm
              · exact ⟨o', List.mem_append_left _ hm⟩
              · rcases List.mem_cons.1 hm with hm | hm
                · cases hm; exact absurd rfl q
                · exact ⟨o', List.mem_append_right _ hm⟩
            · rintro ⟨o', ho'⟩
              exact ⟨o', hsub.subset ho'⟩
        · have hjk : ∀ k, (listed.getD k false = true ∨ i = k) → k < ops.size → (listed.setIfInBounds i true).getD k false = true := fun k hq hk => by
            rw [hgt k false hk]
            rcases hq with hq | hq
            · rw [hq]; simp
            · rw [if_pos hq]
          have hjs : j < ops.size := by
            apply Classical.byContradiction
            intro hq
            rw [Array.getD_eq_getD_getElem?, Array.getElem?_eq_none (by simp [hs]; omega)] at hj
            cases hj
          rw [hgt j false hjs] at hj
          have hk' : listed.getD k false = true := by
            by_cases q : i = j
            · subst q; exact hbit k hk
            · rw [if_neg q] at hj
              exact hcl j k hj hk
          have hks : k < ops.size := by
            apply Classical.byContradiction
            intro hq
            rw [Array.getD_eq_getD_getElem?, Array.getElem?_eq_none (by simp [hs]; omega)] at hk'
            cases hk'
          exact hjk k (.inl hk') hks

theorem Sim.drew (h : Sim base w0 n s a w) : Sim base w0 n s a { w with drawn := w.drawn + 1 } := by
  obtain ⟨g, h⟩ := h
  exact ⟨_, (h.world (w' := { w with drawn := w.drawn + 1 }) ⟨rfl, rfl, rfl, Nat.le_refl _, fun _ _ => rfl⟩ g.st (fun _ _ h => h) (fun _ _ h => .inl h) h.stlt).1⟩

theorem zip_mem {ops : Array Oper} {x : Nat × Oper} (hx : x ∈ (ops.toList.zipIdx 0 |>.map fun x => (x.2, x.1))) : ops[x.1]? = some x.2 := by
  obtain ⟨y, hy, rfl⟩ := List.mem_map.1 hx
  have := List.mem_zipIdx_iff_getElem?.1 hy
  simpa using this

theorem zip_range (ops : Array Oper) : (ops.toList.zipIdx 0 |>.map fun x => (x.2, x.1)).map (·.1) = List.range ops.size := by
  rw [List.map_map]
  have : ((fun x : Nat × Oper => x.1) ∘ fun x : Oper × Nat => (x.2, x.1)) = Prod.snd := rfl
  rw [this, List.zipIdx_map_snd, List.range_eq_range']
  simp

theorem region_sound (O : EnvOk P E) (hm : P.follows .mixedOrders = true) (hcall : ∀ f args r, call f args = some r → Contract P E f args r) {id : Nat} {draw : Bool} (hok : draw = true → okRegion ops = true) {Q : Exit → Act → World → Prop} {R : Type} {κ : St → Option R} {r : R} (h : Sim base w0 n s a w)
    (hQ : ∀ s1, κ s1 = some r → ∀ a' w', Sim base w0 n s1 a' w' → Q .normal a' w')
    (he : (match draw with
      | true => forceL (masks ops.toList) fun ms => opsD E call ops ms 0 ops.toList [] s κ
      | false => opsK E call ops ops.toList s κ) = some r) : (Code.region id ops draw).wp P Q a w := by
  cases draw with
  | false =>
    obtain ⟨tr, s1, hr, hk⟩ := opsK_run E call ops ops.toList 0 s κ r he
    refine wp_region ?_
    have := ops_sound O hcall (Q := Q) hr (fun x hx => zip_mem hx) h (hQ s1 hk)
    rw [zip_range] at this
    exact this
  | true =>
    simp only [forceL_eq] at he
    obtain ⟨tr, s1, hr, hk, _, hp⟩ := opsD_run E call ops _ ops.toList 0 [] [] s κ r (by simp) he
    refine wp_region_any hm ?_
    have hrng := zip_range ops
    refine any_sound O hcall (hok rfl) (hQ s1 hk) ops.size _ _ s tr a _ (by simp) (by simp) (fun x hx => zip_mem hx) ?_ (fun i hi => ?_) (fun j i hj => ?_) hr hp h.drew
    · have : ((ops.toList.zipIdx 0 |>.map fun x => (x.2, x.1)).map (·.1)).Pairwise (· < ·) := by rw [hrng]; exact List.pairwise_lt_range
      exact List.pairwise_map.1 this
    · constructor
      · intro _
        have : i ∈ (ops.toList.zipIdx 0 |>.map fun x => (x.2, x.1)).map (·.1) := by rw [hrng]; exact List.mem_range.2 hi
        obtain ⟨x, hx, rfl⟩ := List.mem_map.1 this
        exact ⟨x.2, hx⟩
      · intro _
        simp [Array.getD_eq_getD_getElem?, hi]
    · exfalso
      rw [Array.getD_eq_getD_getElem?, Array.getElem?_replicate] at hj
      split at hj <;> cases hj

end
end Go.Pev
