/- FROM A CONTRACT TO A ROW 'returns true; the arguments read as before'. -/
import Derived.Test.YtfjnpgbjcgjecaaPevOpen
import Derived.WalkKit
import Derived.ProofKit
import Derived.ShutString
import Derived.ChangeOld
import Derived.SizedLaws
import Derived.Carry
namespace Go.Pev
open Go.RowKit Go.ChangeShapes Go.WideShapes Go.ChangeAt
set_option linter.unusedVariables false
set_option linter.unusedSimpArgs false

def argOk (E : Env) (t : Nat) : Bool := match E.ty t with
  | some ti => lkOk E 8 t ti.lk
  | none => false

section
variable {H : Type} {enc : TypeId × Value → H} {P : Program} {E : Env} {w : World} {base : Nat} {spare : Nat → Bool} {held : Bool}

theorem lkOk_desc {d t : Nat} {ls : List LK} {ti : TI} (hti : E.ty t = some ti) (h : lkOk E d t ls = true) : (∃ k, ti.desc = .int k) ∨ ti.desc = .bool ∨ ti.desc = .string ∨ (∃ e, ti.desc = .slice e) ∨ (∃ fs, ti.desc = .struct fs) ∨ ∃ n e, ti.desc = .array n e := by
  cases d with
  | zero => cases h
  | succ d =>
    unfold lkOk at h
    rw [hti] at h
    dsimp only at h
    rw [Bool.and_eq_true] at h
    obtain ⟨_, h⟩ := h
    split at h <;> simp_all

theorem arg_open (O : ∀ t ti, E.ty t = some ti → TyOk P t ti) {b0 : Nat} {r : Reach} {t : Nat} {v : Value} {d : DataW H} {ps : List MemPlace} (hok : argOk E t = true) (hv : Value.okWide P w r b0 t v) (hd : DataW.Trod enc P w base spare held t v d ps) :
    ∃ p, confT E t p = true ∧ fit p ∧ Rep (plainCtx w (allSt w)) p v := by
  unfold argOk at hok
  split at hok
  · rename_i ti hti
    obtain ⟨fuel, hf⟩ := hd
    obtain ⟨qs, h1, h2, h3⟩ := open_cells O 8 t ti.lk fuel _ _ hok hf
    have hT := O _ _ hti
    have hu := hT.und
    have hagg := hT.agg
    have one : ti.agg = false → v.cells = #[v] → ∃ p, confT E t p = true ∧ fit p ∧ Rep (plainCtx w (allSt w)) p v := fun ha hc => by
      rw [hc] at h2
      have hl1 := h2.length
      cases qs with
      | nil => simp at hl1
      | cons q qs =>
        cases qs with
        | cons _ _ => simp at hl1
        | nil =>
          rw [Reps] at h2
          obtain ⟨u, ws, e, h4, _⟩ := h2
          cases e
          refine ⟨q, ?_, h3.1, h4⟩
          unfold confT
          rw [hti]
          dsimp only
          rw [if_neg (by rw [ha]; simp)]
          obtain ⟨l, ls, hl⟩ : ∃ l ls, ti.lk = l :: ls := by
            cases hlk : ti.lk with
            | nil => rw [hlk] at h1; simp [confs] at h1
            | cons l ls => exact ⟨l, ls, rfl⟩
          rw [hl] at h1 ⊢
          simp only [confs, Bool.and_eq_true] at h1
          have : ls = [] := by
            cases ls with
            | nil => rfl
            | cons _ _ => simp [confs] at h1
          subst this
          exact h1.1
    have all : ti.agg = true → (∃ cs, v = .agg cs) → ∃ p, confT E t p = true ∧ fit p ∧ Rep (plainCtx w (allSt w)) p v := fun ha hc => by
      obtain ⟨cs, rfl⟩ := hc
      refine ⟨.agg qs, ?_, h3, cs, rfl, h2⟩
      unfold confT
      rw [hti]
      dsimp only
      rw [if_pos ha]
      exact h1
    rcases lkOk_desc hti hok with ⟨k, hd⟩ | hd | hd | ⟨e, hd⟩ | ⟨fs, hd⟩ | ⟨n, e, hd⟩
    · rw [hd] at hu hagg
      obtain ⟨n, rfl⟩ := okWide_int hu hv
      exact one hagg rfl
    · rw [hd] at hu hagg
      obtain ⟨n, rfl⟩ := okWide_bool hu hv
      exact one hagg rfl
    · rw [hd] at hu hagg
      obtain ⟨n, rfl⟩ := okWide_string hu hv
      exact one hagg rfl
    · rw [hd] at hu hagg
      obtain ⟨a, len, cap, rfl⟩ := okWide_slice hu hv
      exact one hagg rfl
    · rw [hd] at hu hagg
      obtain ⟨cs, rfl, _⟩ := okWide_struct hu hv
      exact all hagg ⟨cs, rfl⟩
    · rw [hd] at hu hagg
      simp only [Value.okWide, hu] at hv
      obtain ⟨cs, rfl, _⟩ := hv
      exact all hagg ⟨cs, rfl⟩
  · cases hok

theorem args_open (O : ∀ t ti, E.ty t = some ti → TyOk P t ti) {b0 : Nat} {r : Reach} : ∀ (ts : List Nat) (vs : List Value) (ds : List (DataW H)) (ps : List MemPlace), (∀ t ∈ ts, argOk E t = true) → (∀ (j : Nat) t v, ts[j]? = some t → vs[j]? = some v → Value.okWide P w r b0 t v) →
    DataW.TrodAll enc P w base spare held ts vs ds ps → ∃ qs, confTs E ts qs = true ∧ fits qs ∧ Reps (plainCtx w (allSt w)) qs vs ∧ ds.length = ts.length
  | [], [], [], ps, _, _, _ => ⟨[], rfl, trivial, rfl, rfl⟩
  | t :: ts, v :: vs, d :: ds, ps, hok, hv, ⟨p, q, h1, h2, _⟩ => by
    obtain ⟨a, e1, e2, e3⟩ := arg_open O (hok t (List.mem_cons_self ..)) (hv 0 t v rfl rfl) h1
    obtain ⟨as, f1, f2, f3, f4⟩ := args_open O ts vs ds q (fun t ht => hok t (List.mem_cons_of_mem _ ht)) (fun j t v ht hv' => hv (j + 1) t v (by simpa using ht) (by simpa using hv')) h2
    exact ⟨a :: as, by simp [confTs, e1, f1], ⟨e2, f2⟩, ⟨v, vs, rfl, e3, f3⟩, by simp [f4]⟩
  | [], _ :: _, _, _, _, _, h => h.elim
  | [], [], _ :: _, _, _, _, h => h.elim
  | _ :: _, [], _, _, _, _, h => h.elim
  | _ :: _, _ :: _, [], _, _, _, h => h.elim

theorem trodAll_back {W W' : World} (hl : laidOutB P = true) (hb : Below W.heap.size W W') : ∀ (ts : List Nat) (vs : List Value) (ds : List (DataW H)) (ps : List MemPlace), (∀ t ∈ ts, P.readableRec t = true ∧ t < P.types.size) →
    DataW.TrodAll enc P W 0 (fun _ => true) true ts vs ds ps → DataW.TrodAll enc P W' 0 (fun b => decide (b < W.heap.size)) true ts vs ds ps
  | [], [], [], ps, _, h => h
  | t :: ts, v :: vs, d :: ds, ps, hr, ⟨p, q, h1, h2, h3⟩ => by
    obtain ⟨r1, r2⟩ := hr t (List.mem_cons_self ..)
    have hlt : ∀ x ∈ p, x.block < W.heap.size := by
      obtain ⟨m, hm⟩ := h1
      exact DataW.trod_lt m _ _ _ hm
    exact ⟨p, q, Below.trod hl r1 r2 h1 hb hlt, trodAll_back hl hb ts vs ds q (fun t ht => hr t (List.mem_cons_of_mem _ ht)) h2, h3⟩
  | [], _ :: _, _, _, _, h => h.elim
  | [], [], _ :: _, _, _, h => h.elim
  | _ :: _, [], _, _, _, h => h.elim
  | _ :: _, _ :: _, [], _, _, h => h.elim

/-- The row's contract. -/
theorem row_calls (O : ProgOk P E) (hl : laidOutB P = true) {f : Nat} {fn : Func} {s : ChangeSpec} {rt : Nat} (hvars : s.vars = []) (hres : fn.resultTypes = #[rt]) (hrt : P.underlying rt = some .bool)
    (hspec : ∀ ds : List (DataW H), ds.length = fn.params.toList.length → s.fn H ds = { results := [.lit (.bool true)], args := ds })
    (hok : ∀ t ∈ fn.params.toList, argOk E t = true) (hread : ∀ t ∈ fn.params.toList, P.readableRec t = true ∧ t < P.types.size)
    (law : ∀ args, confTs E fn.params.toList args = true → fits args → Contract P E f args (.bool true))
    (W : World) (b0 : Nat) (args : Array Value) (ds gs : List (DataW H)) (before : List MemPlace) (hval : ∀ (j : Nat) t v, fn.params[j]? = some t → args[j]? = some v → Value.okWide P W .any b0 t v)
    (hW : DataW.Whole enc P fn.params.toList s.vars false W args.toList ds gs before) :
    Calls P f args W fun e W' => ∃ v, e = .returned v ∧ s.post enc P fn false true false false W args v W' := by
  have hW' := hW
  obtain ⟨p, q, hA, hV, rfl, hfz, hnd⟩ := hW
  rw [hvars] at hV
  obtain ⟨rfl, rfl⟩ := trodVars_none hV
  obtain ⟨as, h1, h2, h3, h4⟩ := args_open O.env.ty _ _ _ _ hok (fun j t v ht hv => hval j t v (by simpa using ht) (by simpa using hv)) hA
  obtain ⟨_, hc⟩ := law as h1 h2
  have := hc W (allSt W) args.toList (fun B o h => h) h3
  rw [Array.toArray_toList] at this
  refine this.mono ?_
  rintro e W' ⟨v, rfl, bel, st', _, _, _, ⟨u, hu, hr⟩, _⟩
  subst hu
  have hr : v = .bool true := hr
  subst hr
  refine ⟨_, rfl, ds, [], _, [], p, [], hW', ?_, ?_, ?_, bel.frame _, fun h => by cases h⟩
  · rw [List.append_nil, hspec ds h4, hres]
    exact trodAll_mk1 (shut_bool hrt _)
  · rw [List.append_nil, hspec ds h4]
    exact trodAll_back hl bel _ _ _ _ hread hA
  · rw [List.append_nil, hspec ds h4, hvars]
    rfl

end
end Go.Pev
