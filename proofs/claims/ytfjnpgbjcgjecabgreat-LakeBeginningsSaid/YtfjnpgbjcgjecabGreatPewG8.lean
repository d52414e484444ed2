/- WHAT MAKES FUNCTION VALUES: slices.Values, lake.watch. -/
/- slices.Repeat OF FLOWS: its contract. -/
/- THE LAW LakeBeginnings: its contract. -/
import Derived.Test.YtfjnpgbjcgjecabGreatPewG3
import Derived.Tactics
import Derived.WalkKit
import Derived.Test.YtfjnpgbjcgjecabGreatPewG7

namespace Go.PewTab
set_option linter.unusedSimpArgs false
set_option linter.unusedVariables false
open Go.Pew Go Go.Proofs Go.RowKit
set_option maxRecDepth 100000
set_option linter.unusedVariables false

theorem Values_made (v : Value) (w : World) : Calls Tryz.prog 32 #[v] w fun e w' => e = .returned (.func (.func 59) #[] #[.pointer (some ⟨w.heap.size, 0, none⟩)]) ∧ w' = w.alloc (.cells v.cells 35) := by
  refine calls_of_wp Tryz.func32 rfl ?_
  simp only [Tryz.ntmps32, List.size_toArray, List.length_cons, List.length_nil, Nat.reduceAdd, Nat.reduceSub, Array.replicate_succ, Array.replicate_zero, List.push_toArray, List.append_toArray, List.nil_append, List.cons_append]
  go_wp
  go_ret
  exact ⟨rfl, rfl⟩

theorem watch_made (p s l f : Value) (w : World) : Calls Tryz.prog 31 #[p, s, l, f] w fun e w' =>
    e = .returned (.func (.func 57) #[] #[.pointer (some ⟨w.heap.size, 0, none⟩), .pointer (some ⟨w.heap.size + 1, 0, none⟩), .pointer (some ⟨w.heap.size + 3, 0, none⟩), .pointer (some ⟨w.heap.size + 2, 0, none⟩)]) ∧
    w' = (((w.alloc (.cells p.cells 84)).alloc (.cells s.cells 28)).alloc (.cells l.cells 34)).alloc (.cells f.cells 89) := by
  refine calls_of_wp Tryz.func31 rfl ?_
  simp only [Tryz.ntmps31, List.size_toArray, List.length_cons, List.length_nil, Nat.reduceAdd, Nat.reduceSub, Array.replicate_succ, Array.replicate_zero, List.push_toArray, List.append_toArray, List.nil_append, List.cons_append]
  go_wp
  go_ret
  exact ⟨rfl, rfl⟩

def stA (w : World) (us : Array Value) (st : Nat → Nat → Prop) : Nat → Nat → Prop := fun B o => st B o ∨ (B = w.heap.size ∧ o < us.size)

theorem alloc_same {w : World} {o : Obj} {k : Nat} (hk : k < w.heap.size) : (w.alloc o).heap[k]? = w.heap[k]? := Below.heap_alloc w o k hk

theorem alloc_keep {w : World} {st : Nat → Nat → Prop} (h : StOk w st) (us : Array Value) (T : Nat) : StOk (w.alloc (.cells us T)) st ∧ (plainCtx w st).Le (plainCtx (w.alloc (.cells us T)) st) := by
  have hb : ∀ B o, st B o → (w.alloc (.cells us T)).heap[B]? = w.heap[B]? := fun B o ho => by
    obtain ⟨us, T, fr, e, _⟩ := h B o ho
    exact alloc_same (block_lt e)
  refine ⟨fun B o ho => ?_, ⟨fun _ _ h => h, fun B o ho => World.cell?_of_block (w := w) (hb B o ho), fun _ _ h => h, fun _ _ _ _ h => h, fun _ _ _ => rfl, fun _ _ _ => rfl, fun _ h => h⟩⟩
  obtain ⟨us', T', fr, e, hl⟩ := h B o ho
  exact ⟨us', T', fr, by rw [hb B o ho]; exact e, hl⟩

theorem st_more {w : World} {st st' : Nat → Nat → Prop} (h : ∀ B o, st B o → st' B o) : (plainCtx w st).Le (plainCtx w st') :=
  ⟨h, fun _ _ _ => rfl, fun _ _ h => h, fun _ _ _ _ h => h, fun _ _ _ => rfl, fun _ _ _ => rfl, fun _ h => h⟩

/-- A new block that stays. -/
theorem alloc_new {w : World} {st : Nat → Nat → Prop} (h : StOk w st) (us : Array Value) (T : Nat) : StOk (w.alloc (.cells us T)) (stA w us st) ∧ (plainCtx w st).Le (plainCtx (w.alloc (.cells us T)) (stA w us st)) ∧
    ∀ cs, Reps (plainCtx w st) cs us.toList → Rep (plainCtx (w.alloc (.cells us T)) (stA w us st)) (.rp cs 0) (.pointer (some ⟨w.heap.size, 0, none⟩)) := by
  obtain ⟨h1, h2⟩ := alloc_keep h us T
  have h3 := h2.trans (st_more (w := w.alloc (.cells us T)) (st' := stA w us st) fun _ _ h => .inl h)
  have hn : (w.alloc (.cells us T)).heap[w.heap.size]? = some (.cells us T (0, 0)) := heap_alloc_new w _
  refine ⟨fun B o ho => ?_, h3, fun cs hr => ?_⟩
  · rcases ho with ho | ⟨rfl, ho⟩
    · exact h1 B o ho
    · exact ⟨us, T, _, hn, ho⟩
  · exact ⟨w.heap.size, 0, us.toList, rfl, Reps.mono h3 _ _ hr, reads_block (C := plainCtx _ _) hn rfl fun o ho => .inr ⟨rfl, ho⟩⟩

theorem Values_maker (tag : Option (Nat × Nat)) (ls : List LK) (xs : List (List PV)) : MakerC Tryz.prog 32 [.sl tag ls xs] 59 [.rp [.sl none ls xs] 0] none [] := by
  intro w st vals hst hr
  obtain ⟨u, _, rfl, hu, rfl⟩ := hr
  have hu1 := Rep.strip_tag hu
  obtain ⟨A, cap, rows, rfl, _⟩ := hu
  refine (Values_made _ w).mono ?_
  rintro e w' ⟨rfl, rfl⟩
  obtain ⟨n1, n2, n3⟩ := alloc_new hst #[.slice A rows.length cap] 35
  refine ⟨[_], [], [], rfl, (Below.refl _ _).alloc (Nat.le_refl _) _, stA w #[.slice A rows.length cap] st, fun _ _ h => .inl h, fun B o h => h.imp id fun q => Nat.le_of_eq q.1.symm, n1, ⟨_, _, rfl, n3 _ ⟨_, _, rfl, hu1, rfl⟩, rfl⟩, rfl, rfl⟩

theorem watch_maker (p s l : List PV) (f : PV) (hf : ∀ cs, f ≠ .agg cs) (hu : f ≠ .undef) : MakerC Tryz.prog 31 [.agg p, .agg s, .agg l, f] 57 [.rp p 0] (some s) [.rp [f] 0, .rp l 0] := by
  intro w st vals hst hr
  obtain ⟨vp, _, rfl, ⟨pu, rfl, hp⟩, vs, _, rfl, ⟨su, rfl, hs⟩, vl, _, rfl, ⟨lu, rfl, hl⟩, vf, _, rfl, hf1, rfl⟩ := hr
  refine (watch_made _ _ _ _ w).mono ?_
  rintro e w' ⟨rfl, rfl⟩
  have hfc : Reps (plainCtx w st) [f] vf.cells.toList := by
    have := Rep.cells hf1 hu
    cases f with
    | agg cs => exact absurd rfl (hf cs)
    | undef => exact absurd rfl hu
    | _ => exact this
  obtain ⟨a1, a2, a3⟩ := alloc_new hst pu 84
  obtain ⟨b1, b2⟩ := alloc_keep a1 su 28
  obtain ⟨c1, c2, c3⟩ := alloc_new b1 lu 34
  obtain ⟨d1, d2, d3⟩ := alloc_new c1 vf.cells 89
  have e1 := a2.trans b2
  have e2 := e1.trans c2
  have e3 := e2.trans d2
  refine ⟨[.pointer (some ⟨w.heap.size, 0, none⟩)], [.pointer (some ⟨w.heap.size + 1, 0, none⟩)], [.pointer (some ⟨w.heap.size + 3, 0, none⟩), .pointer (some ⟨w.heap.size + 2, 0, none⟩)], rfl, ?_, _, fun B o ho => e3.st B o ho, ?_, d1, ⟨_, _, rfl, Rep.mono (b2.trans (c2.trans d2)) _ _ (a3 _ hp), rfl⟩, ⟨_, _, rfl, ?_, _, _, rfl, ?_, rfl⟩, w.heap.size + 1, su, 28, rfl, by omega, ?_, Reps.mono e3 _ _ hs, ?_⟩
  · exact ((((Below.refl _ w).alloc (Nat.le_refl _) _).alloc (by simp) _).alloc (by simp; omega) _).alloc (by simp; omega) _
  · rintro B o (((ho | ⟨rfl, _⟩) | ⟨rfl, _⟩) | ⟨rfl, _⟩)
    · exact .inl ho
    · exact .inr (Nat.le_refl _)
    · exact .inr (by simp; omega)
    · exact .inr (by simp; omega)
  · have := d3 _ (Reps.mono e2 _ _ hfc)
    simp only [World.size_alloc] at this
    exact this
  · have := Rep.mono d2 _ _ (c3 _ (Reps.mono e1 _ _ hl))
    simp only [World.size_alloc] at this
    exact this
  · rw [alloc_same (by simp), alloc_same (by simp)]
    have := heap_alloc_new (w.alloc (.cells pu 84)) (.cells su 28)
    rw [World.size_alloc] at this
    exact this
  · rintro o (((ho | ⟨q, _⟩) | ⟨q, _⟩) | ⟨q, _⟩)
    · obtain ⟨us, T, fr, e, _⟩ := hst _ _ ho
      have := block_lt e
      omega
    · omega
    · simp at q
    · simp at q

theorem makersOk (N : Nat) : MakersOk Tryz.prog (envF N) := by
  intro f m hm
  have hm : makerOf f = some m := hm
  unfold makerOf at hm
  cases h2 : Nat.beq f 31 with
  | true =>
    have := Nat.eq_of_beq_eq_true h2
    subst this
    rw [h2] at hm
    cases hm
    refine ⟨⟨_, Tryz.func31, by kernel_rfl, by kernel_rfl⟩, fun args g pre c post hq => ?_⟩
    dsimp only at hq
    split at hq
    · cases hq
      exact watch_maker _ _ _ _ (fun _ q => by cases q) (fun q => by cases q)
    · cases hq
  | false =>
    rw [h2] at hm
    cases h3 : Nat.beq f 32 with
    | true =>
      have := Nat.eq_of_beq_eq_true h3
      subst this
      rw [h3] at hm
      cases hm
      refine ⟨⟨_, Tryz.func32, by kernel_rfl, by kernel_rfl⟩, fun args g pre c post hq => ?_⟩
      dsimp only at hq
      split at hq
      · cases hq
        exact Values_maker _ _ _
      · cases hq
    | false => rw [h3] at hm; cases hm

theorem progOk (N : Nat) : ProgOk Tryz.prog (envF N) := progOk0 N (makersOk N)

end Go.PewTab

namespace Go.PewTab
set_option linter.unusedSimpArgs false
set_option linter.unusedVariables false
open Go.Pew Go Go.Proofs Go.RowKit
set_option maxRecDepth 100000
set_option linter.unusedVariables false

theorem reps_replicate {C : Ctx} {x : List PV} {r : List Value} (h : Reps C x r) : ∀ n : Nat, RepRows C (List.replicate n x) (List.replicate n r)
  | 0 => rfl
  | n + 1 => ⟨r, List.replicate n r, rfl, h, reps_replicate h n⟩

theorem repeat_contract (N : Nat) (args : List PV) (r : PV) (hr : repeatG args = some r) : Contract Tryz.prog (envF N) 44 args r := by
  unfold repeatG at hr
  split at hr
  · rename_i tag ls x c
    cases hcc : (decide (c = 200) && confs [.int .i64, .int .i64, .int .i64] x) with
    | false => rw [hcc] at hr; cases hr
    | true =>
      rw [hcc] at hr
      cases hr
      rw [Bool.and_eq_true, decide_eq_true_eq] at hcc
      obtain ⟨rfl, hx⟩ := hcc
      obtain ⟨a, b, d, rfl⟩ := int3 hx
      refine ⟨fun fn hfn => ?_, fun w st vals hst hre => ?_⟩
      · have e : (envF N).fn 44 = some Tryz.f44 := by kernel_rfl
        rw [e] at hfn
        cases hfn
        show confT (envF N) 35 (.sl none [.int .i64, .int .i64, .int .i64] (List.replicate 200 [.int .i64 a, .int .i64 b, .int .i64 d])) = true
        kernel_rfl
      · obtain ⟨u, _, rfl, hu, v2, _, rfl, hv2, rfl⟩ := hre
        have hv2 : v2 = .int .i64 200 := hv2
        subst hv2
        obtain ⟨A, cap, rows, rfl, h1, h2, h3, h4, h5, h6⟩ := hu
        obtain ⟨r0, ws, rfl, hr0, hws⟩ := h2
        have hws : ws = [] := hws
        subst hws
        obtain ⟨q1, _, rfl, e1, q2, _, rfl, e2, q3, _, rfl, e3, e4⟩ := hr0
        have e1 : q1 = .int .i64 a := e1
        have e2 : q2 = .int .i64 b := e2
        have e3 : q3 = .int .i64 d := e3
        have e4 := e4
        subst e1 e2 e3 e4
        rcases h4 with h4 | ⟨B, o, rfl, hrd⟩
        · cases h4
        · have hrd : (plainCtx w st).reads B o [.int .i64 a, .int .i64 b, .int .i64 d] := by simpa using hrd
          have hlow : B < w.heap.size := by
            obtain ⟨us, T, fr, e, _⟩ := hst _ _ (hrd 0 _ rfl).2
            exact block_lt e
          refine (repeat_made B o cap [.int .i64 a, .int .i64 b, .int .i64 d] w rfl (by simp [Value.oneCell']) (fun j v hj => (hrd j v hj).1) hlow).mono ?_
          rintro e w' ⟨rfl, hb, hn⟩
          refine ⟨_, rfl, hb, fun B' o' => st B' o' ∨ (B' = w.heap.size ∧ o' < 600), fun _ _ h => .inl h, fun B' o' h => h.imp id fun q => Nat.le_of_eq q.1.symm, fun B' o' h => ?_, ⟨_, rfl, ?_⟩, fun h => ?_⟩
          · rcases h with h | ⟨rfl, h⟩
            · obtain ⟨us, T, fr, e, hl⟩ := hst _ _ h
              exact ⟨us, T, fr, by rw [hb.block _ (block_lt e)]; exact e, hl⟩
            · exact ⟨_, _, _, hn, by simpa using h⟩
          · have hR : Reps (plainCtx w' fun B' o' => st B' o' ∨ (B' = w.heap.size ∧ o' < 600)) [.int .i64 a, .int .i64 b, .int .i64 d] [.int .i64 a, .int .i64 b, .int .i64 d] := ⟨_, _, rfl, rfl, _, _, rfl, rfl, _, _, rfl, rfl, rfl⟩
            refine ⟨some ⟨w.heap.size, 0, none⟩, 200, List.replicate 200 [.int .i64 a, .int .i64 b, .int .i64 d], by simp, by simp, reps_replicate hR 200, fun r hr => by rw [List.eq_of_mem_replicate hr]; rfl, .inr ⟨w.heap.size, 0, rfl, ?_⟩, fun y hy => by rw [List.eq_of_mem_replicate hy]; exact hx, fun _ _ h => by cases h⟩
            have := reads_block (C := plainCtx w' fun B' o' => st B' o' ∨ (B' = w.heap.size ∧ o' < 600)) hn rfl fun o ho => .inr ⟨rfl, by simpa using ho⟩
            simpa using this
          · cases h
  · cases hr

theorem ext_ok (N : Nat) : ∀ f g, (envF N).ext f = some g → ∀ args r, g args = some r → Contract Tryz.prog (envF N) f args r := by
  intro f g hg args r hr
  have hg : extOf f = some g := hg
  unfold extOf at hg
  cases h2 : Nat.beq f 44 with
  | true =>
    have := Nat.eq_of_beq_eq_true h2
    subst this
    rw [h2] at hg
    cases hg
    exact repeat_contract N args r hr
  | false => rw [h2] at hg; cases hg

end Go.PewTab

namespace Go.PewTab
set_option linter.unusedSimpArgs false
set_option linter.unusedVariables false
open Go.Pew Go.Num Go.RowKit

theorem LakeBeginnings_contract (xs : List PV) (h : confTs (envF 1000000) [26, 28, 37] xs = true) (hf : fits xs) : Contract Go.Proofs.Tryz.prog (envF 1000000) 5 xs (.bool true) := by
  obtain ⟨p, ps, rfl, h1, h⟩ := confTs_cons h
  obtain ⟨q, qs, rfl, h2, h⟩ := confTs_cons h
  obtain ⟨r, rs, rfl, h3, h⟩ := confTs_cons h
  rw [confTs_nil h] at *
  obtain ⟨f1, f2, f3, _⟩ := hf
  obtain ⟨p, rfl⟩ := arg_pair h1 f1
  obtain ⟨s, rfl⟩ := arg_vols h2
  obtain ⟨L, l, rfl⟩ := arg_task h3 f3
  exact ev_sound (progOk 1000000) (ext_ok 1000000) 41 5 _ _ (LakeBeginnings_ev (N := 1000000) (k := 25) (Nat.le_refl _) awake_ok p s L l)

end Go.PewTab
