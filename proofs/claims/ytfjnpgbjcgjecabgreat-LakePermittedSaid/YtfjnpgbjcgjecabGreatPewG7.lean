/- FROM A CONTRACT TO A ROW 'returns true; the arguments read as before'. -/
/- THE LAWS' ARGUMENTS as plain data. -/
/- THE LAWS' ARGUMENTS as plain data: this seat's types. -/
/- THE EXAMPLES that every law asks for first: they hold, by the kernel's own reckoning. -/
/- slices.Repeat OF FLOWS: one element, 200 times. -/
/- WHAT MAKES FUNCTION VALUES: slices.Values, lake.watch. -/
/- slices.Repeat OF FLOWS: its contract. -/
/- THE LAW LakePermitted: its contract. -/
import Derived.Test.YtfjnpgbjcgjecabGreatPewG6
import Derived.WalkKit
import Derived.ProofKit
import Derived.ShutString
import Derived.ChangeOld
import Derived.SizedLaws
import Derived.Carry
import Derived.Test.YtfjnpgbjcgjecabGreatPewG3
import Derived.Tactics
import Derived.OwnWalk
import Derived.Laws.CopyOwn
import Derived.Deep.RegionLaw

namespace Go.Pew
set_option linter.unusedSimpArgs false
set_option linter.unusedVariables false
open Go.RowKit Go.ChangeShapes Go.WideShapes Go.ChangeAt
set_option linter.unusedVariables false
set_option linter.unusedSimpArgs false

def argOk (E : Env) (t : Nat) : Bool := match E.ty t with
  | some ti => lkOk E 8 t ti.lk
  | none => false

section
variable {H : Type} {enc : TypeId × Value → H} {P : Program} {E : Env} {w : World} {base : Nat} {spare : Nat → Bool} {held : Bool}

theorem lkOk_desc {d t : Nat} {ls : List LK} {ti : TI} (hti : E.ty t = some ti) (h : lkOk E d t ls = true) : (∃ k, ti.desc = .int k) ∨ ti.desc = .bool ∨ ti.desc = .string ∨ (∃ e, ti.desc = .slice e) ∨ (∃ fs, ti.desc = .struct fs) ∨ ∃ n e, ti.desc = .array n e := by
  cases d with
  | zero => cases h
  | succ d =>
    unfold lkOk at h
    rw [hti] at h
    dsimp only at h
    rw [Bool.and_eq_true] at h
    obtain ⟨_, h⟩ := h
    split at h <;> simp_all

theorem arg_open (O : ∀ t ti, E.ty t = some ti → TyOk P t ti) {b0 : Nat} {r : Reach} {t : Nat} {v : Value} {d : DataW H} {ps : List MemPlace} (hok : argOk E t = true) (hv : Value.okWide P w r b0 t v) (hd : DataW.Trod enc P w base spare held t v d ps) :
    ∃ p, confT E t p = true ∧ fit p ∧ Rep (plainCtx w (allSt w)) p v := by
  unfold argOk at hok
  split at hok
  · rename_i ti hti
    obtain ⟨fuel, hf⟩ := hd
    obtain ⟨qs, h1, h2, h3⟩ := open_cells O 8 t ti.lk fuel _ _ hok hf
    have hT := O _ _ hti
    have hu := hT.und
    have hagg := hT.agg
    have one : ti.agg = false → v.cells = #[v] → ∃ p, confT E t p = true ∧ fit p ∧ Rep (plainCtx w (allSt w)) p v := fun ha hc => by
      rw [hc] at h2
      have hl1 := h2.length
      cases qs with
      | nil => simp at hl1
      | cons q qs =>
        cases qs with
        | cons _ _ => simp at hl1
        | nil =>
          rw [Reps] at h2
          obtain ⟨u, ws, e, h4, _⟩ := h2
          cases e
          refine ⟨q, ?_, h3.1, h4⟩
          unfold confT
          rw [hti]
          dsimp only
          rw [if_neg (by rw [ha]; simp)]
          obtain ⟨l, ls, hl⟩ : ∃ l ls, ti.lk = l :: ls := by
            cases hlk : ti.lk with
            | nil => rw [hlk] at h1; simp [confs] at h1
            | cons l ls => exact ⟨l, ls, rfl⟩
          rw [hl] at h1 ⊢
          simp only [confs, Bool.and_eq_true] at h1
          have : ls = [] := by
            cases ls with
            | nil => rfl
            | cons _ _ => simp [confs] at h1
          subst this
          exact h1.1
    have all : ti.agg = true → (∃ cs, v = .agg cs) → ∃ p, confT E t p = true ∧ fit p ∧ Rep (plainCtx w (allSt w)) p v := fun ha hc => by
      obtain ⟨cs, rfl⟩ := hc
      refine ⟨.agg qs, ?_, h3, cs, rfl, h2⟩
      unfold confT
      rw [hti]
      dsimp only
      rw [if_pos ha]
      exact h1
    rcases lkOk_desc hti hok with ⟨k, hd⟩ | hd | hd | ⟨e, hd⟩ | ⟨fs, hd⟩ | ⟨n, e, hd⟩
    · rw [hd] at hu hagg
      obtain ⟨n, rfl⟩ := okWide_int hu hv
      exact one hagg rfl
    · rw [hd] at hu hagg
      obtain ⟨n, rfl⟩ := okWide_bool hu hv
      exact one hagg rfl
    · rw [hd] at hu hagg
      obtain ⟨n, rfl⟩ := okWide_string hu hv
      exact one hagg rfl
    · rw [hd] at hu hagg
      obtain ⟨a, len, cap, rfl⟩ := okWide_slice hu hv
      exact one hagg rfl
    · rw [hd] at hu hagg
      obtain ⟨cs, rfl, _⟩ := okWide_struct hu hv
      exact all hagg ⟨cs, rfl⟩
    · rw [hd] at hu hagg
      simp only [Value.okWide, hu] at hv
      obtain ⟨cs, rfl, _⟩ := hv
      exact all hagg ⟨cs, rfl⟩
  · cases hok

theorem args_open (O : ∀ t ti, E.ty t = some ti → TyOk P t ti) {b0 : Nat} {r : Reach} : ∀ (ts : List Nat) (vs : List Value) (ds : List (DataW H)) (ps : List MemPlace), (∀ t ∈ ts, argOk E t = true) → (∀ (j : Nat) t v, ts[j]? = some t → vs[j]? = some v → Value.okWide P w r b0 t v) →
    DataW.TrodAll enc P w base spare held ts vs ds ps → ∃ qs, confTs E ts qs = true ∧ fits qs ∧ Reps (plainCtx w (allSt w)) qs vs ∧ ds.length = ts.length
  | [], [], [], ps, _, _, _ => ⟨[], rfl, trivial, rfl, rfl⟩
  | t :: ts, v :: vs, d :: ds, ps, hok, hv, ⟨p, q, h1, h2, _⟩ => by
    obtain ⟨a, e1, e2, e3⟩ := arg_open O (hok t (List.mem_cons_self ..)) (hv 0 t v rfl rfl) h1
    obtain ⟨as_, f1, f2, f3, f4⟩ := args_open O ts vs ds q (fun t ht => hok t (List.mem_cons_of_mem _ ht)) (fun j t v ht hv' => hv (j + 1) t v (by simpa using ht) (by simpa using hv')) h2
    exact ⟨a :: as_, by simp [confTs, e1, f1], ⟨e2, f2⟩, ⟨v, vs, rfl, e3, f3⟩, by simp [f4]⟩
  | [], _ :: _, _, _, _, _, h => h.elim
  | [], [], _ :: _, _, _, _, h => h.elim
  | _ :: _, [], _, _, _, _, h => h.elim
  | _ :: _, _ :: _, [], _, _, _, h => h.elim

theorem trodAll_back {W W' : World} (hl : laidOutB P = true) (hb : Below W.heap.size W W') : ∀ (ts : List Nat) (vs : List Value) (ds : List (DataW H)) (ps : List MemPlace), (∀ t ∈ ts, P.readableRec t = true ∧ t < P.types.size) →
    DataW.TrodAll enc P W 0 (fun _ => true) true ts vs ds ps → DataW.TrodAll enc P W' 0 (fun b => decide (b < W.heap.size)) true ts vs ds ps
  | [], [], [], ps, _, h => h
  | t :: ts, v :: vs, d :: ds, ps, hr, ⟨p, q, h1, h2, h3⟩ => by
    obtain ⟨r1, r2⟩ := hr t (List.mem_cons_self ..)
    have hlt : ∀ x ∈ p, x.block < W.heap.size := by
      obtain ⟨m, hm⟩ := h1
      exact DataW.trod_lt m _ _ _ hm
    exact ⟨p, q, Below.trod hl r1 r2 h1 hb hlt, trodAll_back hl hb ts vs ds q (fun t ht => hr t (List.mem_cons_of_mem _ ht)) h2, h3⟩
  | [], _ :: _, _, _, _, h => h.elim
  | [], [], _ :: _, _, _, h => h.elim
  | _ :: _, [], _, _, _, h => h.elim
  | _ :: _, _ :: _, [], _, _, h => h.elim

/-- The row's contract. -/
theorem row_calls (O : ProgOk P E) (hl : laidOutB P = true) {f : Nat} {fn : Func} {s : ChangeSpec} {rt : Nat} (hvars : s.vars = []) (hres : fn.resultTypes = #[rt]) (hrt : P.underlying rt = some .bool)
    (hspec : ∀ ds : List (DataW H), ds.length = fn.params.toList.length → s.fn H ds = { results := [.lit (.bool true)], args := ds })
    (hok : ∀ t ∈ fn.params.toList, argOk E t = true) (hread : ∀ t ∈ fn.params.toList, P.readableRec t = true ∧ t < P.types.size)
    (law : ∀ args, confTs E fn.params.toList args = true → fits args → Contract P E f args (.bool true))
    (W : World) (b0 : Nat) (args : Array Value) (ds gs : List (DataW H)) (before : List MemPlace) (hval : ∀ (j : Nat) t v, fn.params[j]? = some t → args[j]? = some v → Value.okWide P W .any b0 t v)
    (hW : DataW.Whole enc P fn.params.toList s.vars false W args.toList ds gs before) :
    Calls P f args W fun e W' => ∃ v, e = .returned v ∧ s.post enc P fn false true false false W args v W' := by
  have hW' := hW
  obtain ⟨p, q, hA, hV, rfl, hfz, hnd⟩ := hW
  rw [hvars] at hV
  obtain ⟨rfl, rfl⟩ := trodVars_none hV
  obtain ⟨as_, h1, h2, h3, h4⟩ := args_open O.env.ty _ _ _ _ hok (fun j t v ht hv => hval j t v (by simpa using ht) (by simpa using hv)) hA
  obtain ⟨_, hc⟩ := law as_ h1 h2
  have := hc W (allSt W) args.toList (fun B o h => h) h3
  rw [Array.toArray_toList] at this
  refine this.mono ?_
  rintro e W' ⟨v, rfl, bel, st', _, _, _, ⟨u, hu, hr⟩, _⟩
  subst hu
  have hr : v = .bool true := hr
  subst hr
  refine ⟨_, rfl, ds, [], _, [], p, [], hW', ?_, ?_, ?_, bel.frame _, fun h => by cases h⟩
  · rw [List.append_nil, hspec ds h4, hres]
    exact trodAll_mk1 (shut_bool hrt _)
  · rw [List.append_nil, hspec ds h4]
    exact trodAll_back hl bel _ _ _ _ hread hA
  · rw [List.append_nil, hspec ds h4, hvars]
    rfl

end
end Go.Pew

namespace Go.PewTab
set_option linter.unusedSimpArgs false
set_option linter.unusedVariables false
open Go.Pew Go.Num Go.RowKit

theorem confTs_cons {E : Env} {t : Nat} {ts : List Nat} {vs : List PV} (h : confTs E (t :: ts) vs = true) : ∃ v ws, vs = v :: ws ∧ confT E t v = true ∧ confTs E ts ws = true := by
  cases vs with
  | nil => simp [confTs] at h
  | cons v ws => rw [confTs, Bool.and_eq_true] at h; exact ⟨v, ws, rfl, h.1, h.2⟩
theorem confTs_nil {E : Env} {vs : List PV} (h : confTs E [] vs = true) : vs = [] := by
  cases vs with
  | nil => rfl
  | cons v ws => simp [confTs] at h

theorem confT_agg {E : Env} {t : Nat} {ti : TI} (ht : E.ty t = some ti) (ha : ti.agg = true) {v : PV} (h : confT E t v = true) : ∃ cs, v = .agg cs ∧ confs ti.lk cs = true := by
  unfold confT at h
  rw [ht] at h
  simp only [ha, if_true] at h
  split at h
  · exact ⟨_, rfl, h⟩
  · cases h
theorem confT_leaf {E : Env} {t : Nat} {ti : TI} {l : LK} (ht : E.ty t = some ti) (ha : ti.agg = false) (hl : ti.lk = [l]) {v : PV} (h : confT E t v = true) : conf l v = true := by
  unfold confT at h
  rw [ht] at h
  simpa [ha, hl] using h

theorem conf_int {k : IntKind} {v : PV} (h : conf (.int k) v = true) : ∃ n, v = .int k n := by
  cases v <;> simp [conf] at h
  subst h
  exact ⟨_, rfl⟩
theorem conf_sl {ls : List LK} {v : PV} (h : conf (.sl ls) v = true) : ∃ xs, v = .sl none ls xs := by
  cases v <;> simp [conf] at h
  rename_i tag ls' xs
  obtain ⟨h1, h2⟩ := h
  cases tag with
  | none => exact ⟨xs, by rw [sameLK_eq _ _ h2]⟩
  | some _ => simp at h1

theorem i64_of {n : Int} (h : fit (.int .i64 n)) : I64 n := by
  simp only [fit, Lit.wf, IntKind.min, IntKind.max, IntKind.signed, IntKind.bits, Bool.and_eq_true, decide_eq_true_eq, if_true] at h
  simp at h
  exact ⟨by omega, by omega⟩

/-- Rows of cells that conform are rows of plain data. -/
theorem rows_of {α : Type} {ls : List LK} {c : α → List PV} (hc : ∀ y, confs ls y = true → ∃ a, y = c a) : ∀ {xs : List (List PV)}, (∀ y ∈ xs, confs ls y = true) → ∃ l : List α, xs = l.map c
  | [], _ => ⟨[], rfl⟩
  | x :: xs, h => by
    obtain ⟨a, rfl⟩ := hc x (h x (List.mem_cons_self ..))
    obtain ⟨l, rfl⟩ := rows_of hc fun y hy => h y (List.mem_cons_of_mem _ hy)
    exact ⟨a :: l, rfl⟩

theorem int1 {y : List PV} (h : confs [.int .i64] y = true) : ∃ a, y = [.int .i64 a] := by
  obtain ⟨p, ps, rfl, h1, h2⟩ := confs_cons h
  obtain ⟨a, rfl⟩ := conf_int h1
  rw [confs_nil h2]
  exact ⟨a, rfl⟩
theorem int2 {y : List PV} (h : confs [.int .i64, .int .i64] y = true) : ∃ a b, y = [.int .i64 a, .int .i64 b] := by
  obtain ⟨p, ps, rfl, h1, h2⟩ := confs_cons h
  obtain ⟨a, rfl⟩ := conf_int h1
  obtain ⟨b, rfl⟩ := int1 h2
  exact ⟨a, b, rfl⟩
theorem int3 {y : List PV} (h : confs [.int .i64, .int .i64, .int .i64] y = true) : ∃ a b c, y = [.int .i64 a, .int .i64 b, .int .i64 c] := by
  obtain ⟨p, ps, rfl, h1, h2⟩ := confs_cons h
  obtain ⟨a, rfl⟩ := conf_int h1
  obtain ⟨b, c, rfl⟩ := int2 h2
  exact ⟨a, b, c, rfl⟩

end Go.PewTab

namespace Go.PewTab
set_option linter.unusedSimpArgs false
set_option linter.unusedVariables false
open Go.Pew Go.Num Go.RowKit

section
variable {p : PV}

theorem rows_K {xs : List (List PV)} (h : ∀ y ∈ xs, confs [.int .i64, .int .i64] y = true) : ∃ t : Tab, xs = t.map cK :=
  rows_of (c := cK) (fun y hy => by
    obtain ⟨a, b, rfl⟩ := int2 hy
    exact ⟨⟨a, b⟩, rfl⟩) h

theorem rows_F {xs : List (List PV)} (h : ∀ y ∈ xs, confs [.int .i64, .int .i64, .int .i64] y = true) : ∃ t : List Flow, xs = t.map cF :=
  rows_of (c := cF) (fun y hy => by
    obtain ⟨a, b, c, rfl⟩ := int3 hy
    exact ⟨⟨a, b, c⟩, rfl⟩) h

theorem arg_pair (h : confT (envF 1000000) 26 p = true) (hf : fit p) : ∃ q, p = vPair q := by
  obtain ⟨cs, rfl, h⟩ := confT_agg (t := 26) (ti := ty26) (by kernel_rfl) (by kernel_rfl) h
  obtain ⟨q, qs, rfl, h1, h⟩ := confs_cons (show confs [.sl [.int .i64, .int .i64], .sl [.int .i64, .int .i64], .int .i64] cs = true from h)
  obtain ⟨q2, qs2, rfl, h2, h⟩ := confs_cons h
  obtain ⟨q3, qs3, rfl, h3, h⟩ := confs_cons h
  obtain ⟨x, rfl⟩ := conf_sl h1
  obtain ⟨y, rfl⟩ := conf_sl h2
  obtain ⟨r, rfl⟩ := conf_int h3
  rw [confs_nil h] at *
  obtain ⟨t, rfl⟩ := rows_K hf.1.2.1
  obtain ⟨u, rfl⟩ := rows_K hf.2.1.2.1
  exact ⟨⟨t, u, r⟩, rfl⟩

theorem arg_vols (h : confT (envF 1000000) 28 p = true) : ∃ s, p = vVols s := by
  obtain ⟨cs, rfl, h⟩ := confT_agg (t := 28) (ti := ty28) (by kernel_rfl) (by kernel_rfl) h
  obtain ⟨a, b, rfl⟩ := int2 (show confs [.int .i64, .int .i64] cs = true from h)
  exact ⟨⟨a, b⟩, rfl⟩

end

theorem arg_task {p : PV} (h : confT (envF 1000000) 37 p = true) (hf : fit p) : ∃ (L : Lims) (l : List Flow), p = vTask L l := by
  obtain ⟨cs, rfl, h⟩ := confT_agg (t := 37) (ti := ty37) (by kernel_rfl) (by kernel_rfl) h
  obtain ⟨q1, qs1, rfl, h1, h⟩ := confs_cons (show confs [.int .i64, .int .i64, .int .i64, .int .i64, .int .i64, .int .i64, .int .i64, .int .i64, .int .i64, .int .i64, .sl [.int .i64, .int .i64, .int .i64]] cs = true from h)
  obtain ⟨q2, qs2, rfl, h2, h⟩ := confs_cons h
  obtain ⟨q3, qs3, rfl, h3, h⟩ := confs_cons h
  obtain ⟨q4, qs4, rfl, h4, h⟩ := confs_cons h
  obtain ⟨q5, qs5, rfl, h5, h⟩ := confs_cons h
  obtain ⟨q6, qs6, rfl, h6, h⟩ := confs_cons h
  obtain ⟨q7, qs7, rfl, h7, h⟩ := confs_cons h
  obtain ⟨q8, qs8, rfl, h8, h⟩ := confs_cons h
  obtain ⟨q9, qs9, rfl, h9, h⟩ := confs_cons h
  obtain ⟨q10, qs10, rfl, h10, h⟩ := confs_cons h
  obtain ⟨q11, qs11, rfl, h11, h⟩ := confs_cons h
  obtain ⟨a1, rfl⟩ := conf_int h1
  obtain ⟨a2, rfl⟩ := conf_int h2
  obtain ⟨a3, rfl⟩ := conf_int h3
  obtain ⟨a4, rfl⟩ := conf_int h4
  obtain ⟨a5, rfl⟩ := conf_int h5
  obtain ⟨a6, rfl⟩ := conf_int h6
  obtain ⟨a7, rfl⟩ := conf_int h7
  obtain ⟨a8, rfl⟩ := conf_int h8
  obtain ⟨a9, rfl⟩ := conf_int h9
  obtain ⟨a10, rfl⟩ := conf_int h10
  obtain ⟨x, rfl⟩ := conf_sl h11
  rw [confs_nil h] at *
  obtain ⟨_, _, _, _, _, _, _, _, _, _, f11, _⟩ := hf
  obtain ⟨t, rfl⟩ := rows_F f11.2.1
  exact ⟨⟨⟨a1, a2, a3, a4, a5⟩, ⟨a6, a7, a8, a9, a10⟩⟩, t, rfl⟩


end Go.PewTab

namespace Go.PewTab
set_option linter.unusedSimpArgs false
set_option linter.unusedVariables false
open Go.Pew
set_option maxRecDepth 100000
theorem awake_ok : ev (envF 1000000) 40 F_law01_awake [] = some (.bool true) := by kernel_rfl
end Go.PewTab

namespace Go.PewTab
set_option linter.unusedSimpArgs false
set_option linter.unusedVariables false
open Go.Pew Go Go.Proofs Go.RowKit
set_option maxRecDepth 100000
set_option linter.unusedVariables false
set_option linter.unusedSimpArgs false

theorem mul_made (w : World) : Calls Tryz.prog 74 #[.int .u64 1, .int .u64 200] w fun e w' => e = .returned (.tuple #[.int .u64 0, .int .u64 200]) ∧ w' = w := by
  go_enter Tryz.func74, Tryz.ntmps74
  go_wp2
  go_ret2
  exact ⟨by kernel_rfl, rfl⟩

/-- 'copy' of elements of z cells each. -/
theorem run_copy_z {P : Program} (w : World) (dT sT ty elem : TypeId) (z g o dLen dCap : Nat) (ad : Addr) (sLen sCap : Nat) (cur cs : List Value) (t : TypeId)
    (hu : P.underlying dT = some (.slice elem)) (hs : (P.info? elem).map (·.size) = some z) (hn : cs.length = Nat.min sLen dLen * z) (hg : w.heap[g]? = some (.cells cur.toArray t (0, 0)))
    (hsrc : ∀ j v, cs[j]? = some v → w.cell? (ad.add j) = some v) (hfit : o + cs.length ≤ cur.length) (h1 : ∀ v ∈ cs, v.oneCell' = true) :
    (Builtin.copy_ #[dT, sT] ty #[.slice (some ⟨g, o, none⟩) dLen dCap, .slice (some ad) sLen sCap]).run P w = .ok (goInt (Nat.min sLen dLen)) (w.setRow g (splice cur o cs).toArray) := by
  have hl := run_loadCells_list (P := P) w ad cs hsrc
  have hst := run_storeCells_at P g o t cs 0 cur.toArray w hg (by simpa using hfit) h1
  cases hq : P.info? elem with
  | none => simp [hq] at hs
  | some i =>
    have hi : i.size = z := by simpa [hq] using hs
    have hm : min sLen dLen * z = cs.length := hn.symm
    have hm' : sLen.min dLen * z = cs.length := hn.symm
    simp [Builtin.copy_, run_underlying hu, Builtin.lenOf, Builtin.firstCells, sizeOf, typeInfo, hq, hi, hm, hm', hl, hst, splice]

theorem wpList_copy_z {P : Program} {w : World} {ops : Array Oper} {rest : List Oper} {o : Oper} {a : Act} {Q : Exit → Act → World → Prop} (hgd : o.guard = none) (d s : Operand) (dT sT : TypeId)
    (ho : o.op = .call { callee := .builtin .copy, args := #[d, s], argTypes := #[dT, sT] }) (elem : TypeId) (z : Nat) (hu : P.underlying dT = some (.slice elem)) (hsz : (P.info? elem).map (·.size) = some z)
    (g off dLen dCap : Nat) (ad : Addr) (sLen sCap : Nat) (hd : a.eval d = .slice (some ⟨g, off, none⟩) dLen dCap) (hs : a.eval s = .slice (some ad) sLen sCap)
    (cur : List Value) (t : TypeId) (hg : w.heap[g]? = some (.cells cur.toArray t (0, 0))) (cs : List Value) (hn : cs.length = Nat.min sLen dLen * z)
    (hsrc : ∀ j v, cs[j]? = some v → w.cell? (ad.add j) = some v) (hfit : off + cs.length ≤ cur.length) (h1 : ∀ v ∈ cs, v.oneCell' = true)
    (h : ∀ w', Hid (w' = w.setRow g (splice cur off cs).toArray) → wpList P ops Q rest (a.put o.dst (goInt (Nat.min sLen dLen))) w') : wpList P ops Q (o :: rest) a w := by
  refine wpList_plain hgd fun K hK => ?_
  have hrun := run_copy_z (P := P) w dT sT o.type elem z g off dLen dCap ad sLen sCap cur cs t hu hsz hn hg hsrc hfit h1
  unfold Oper.wp
  simp [execOp, ho, resolve, invoke, builtin, hd, hs, hrun, Result.andThen]
  exact hK _ _ (h _ rfl)

theorem step_copy_z {P : Program} {w : World} {ops : Array Oper} {o : Oper} {a : Act} {K : Act → World → Prop} {Q : Exit → Act → World → Prop} {E : Prop} (hgd : o.guard = none) (d s : Operand) (dT sT : TypeId)
    (ho : o.op = .call { callee := .builtin .copy, args := #[d, s], argTypes := #[dT, sT] }) (elem : TypeId) (z : Nat) (hu : P.underlying dT = some (.slice elem)) (hsz : (P.info? elem).map (·.size) = some z)
    (g off dLen dCap : Nat) (ad : Addr) (sLen sCap : Nat) (hd : a.eval d = .slice (some ⟨g, off, none⟩) dLen dCap) (hs : a.eval s = .slice (some ad) sLen sCap)
    (cur : List Value) (t : TypeId) (hg : w.heap[g]? = some (.cells cur.toArray t (0, 0))) (cs : List Value) (hn : cs.length = Nat.min sLen dLen * z)
    (hsrc : ∀ j v, cs[j]? = some v → w.cell? (ad.add j) = some v) (hfit : off + cs.length ≤ cur.length) (h1 : ∀ v ∈ cs, v.oneCell' = true)
    (h : ∀ w', Hid (w' = w.setRow g (splice cur off cs).toArray) → K (a.put o.dst (goInt (Nat.min sLen dLen))) w') :
    if Region.wanted o (yielded ops a.tmps) = true then Oper.wp P o a w K Q else E := by
  have hw : Region.wanted o (yielded ops a.tmps) = true := by simp [Region.wanted, hgd]
  rw [if_pos hw]
  have hrun := run_copy_z (P := P) w dT sT o.type elem z g off dLen dCap ad sLen sCap cur cs t hu hsz hn hg hsrc hfit h1
  unfold Oper.wp
  simp [execOp, ho, resolve, invoke, builtin, hd, hs, hrun, Result.andThen]
  exact h _ rfl

/-- 'make([]T, n)': a new row. -/
theorem wpList_make_row {P : Program} (w : World) {ops : Array Oper} {rest : List Oper} {o : Oper} {a : Act} {Q : Exit → Act → World → Prop}
    (hg : o.guard = none) (l c : Operand) (t : TypeId) (hop : o.op = Op.makeSlice t l c) (e : TypeId) (i : TypeInfo) (z : Value) (size : Nat) (h1 : P.underlying t = some (.slice e)) (h2 : P.info? e = some i) (h3 : i.zero = some z) (h4 : i.size = size)
    (n : Nat) (hl : a.eval l = .int .i64 (n : Int)) (hc : a.eval c = .int .i64 (n : Int)) (hn : 0 < n * size) (b2 : i.bytes * n ≤ 281474976710656) (b3 : n ≤ 1000000)
    (hK : ∀ us : List Value, us.length = n * size → wpList P ops Q rest (a.put o.dst (.slice (some ⟨w.heap.size, 0, none⟩) n n)) (w.alloc (.cells us.toArray e))) :
    wpList P ops Q (o :: rest) a w := by
  refine wpList_plain hg fun K hK' => ?_
  subst h4
  have hw : IntKind.i64.wrap (n : Int) = (n : Int) := wrap_small _ (by omega) (by omega)
  have hbz : ¬ ((i.bytes : Int) * (n : Int) > 2 ^ 48) := by
    have : ((i.bytes * n : Nat) : Int) ≤ 281474976710656 := by omega
    rw [Int.natCast_mul] at this
    omega
  have hrun : (Instr.makeSlice t (.int .i64 (n : Int)) (.int .i64 (n : Int))).run P w = .ok (.slice (some ⟨w.heap.size, 0, none⟩) n n) (w.alloc (.cells ((Array.range (n * i.size)).map (z.cells[· % z.cells.size]!)) e)) := by
    unfold Instr.makeSlice
    simp only [Sem.run_bind, run_underlying h1, Result.andThen_ok, asInt, asIntOf, Sem.run_pure, typeInfo, run_program, h2, hw, Sem.run_ite]
    rw [if_neg (by
      simp only [Bool.or_eq_true, decide_eq_true_eq, not_or]
      exact ⟨⟨⟨by omega, hbz⟩, by omega⟩, by omega⟩)]
    have hsz : (sizeOf e).run P w = .ok i.size w := by simp [sizeOf, typeInfo, h2]
    simp only [run_askRoom, Result.andThen_ok, hsz, Int.toNat_natCast]
    rw [if_neg (by omega)]
    simp only [zeroValue, typeInfo, Sem.run_bind, run_program, Result.andThen_ok, h2, Sem.run_pure, h3]
    rfl
  unfold Oper.wp
  simp [execOp, hop, hl, hc, hrun, Result.andThen]
  have := hK ((Array.range (n * i.size)).map (z.cells[· % z.cells.size]!)).toList (by simp)
  simp only [Array.toArray_toList] at this
  exact hK' _ _ this

theorem take_flat {xs : List Value} {z : Nat} (hx : xs.length = z) {k m : Nat} (h : k ≤ m) : ((List.replicate m xs).flatten).take (k * z) = (List.replicate k xs).flatten := by
  obtain ⟨d, rfl⟩ : ∃ d, m = k + d := ⟨m - k, by omega⟩
  rw [← List.replicate_append_replicate, List.flatten_append]
  have hl : ((List.replicate k xs).flatten).length = k * z := by simp [hx]
  rw [← hl, List.take_left]
theorem flat_len {xs : List Value} {z : Nat} (hx : xs.length = z) (k : Nat) : ((List.replicate k xs).flatten).length = k * z := by simp [hx]

/-- One more copy. -/
theorem splice_more {xs cur : List Value} {z m k : Nat} (hx : xs.length = z) (hc : cur.take (m * z) = (List.replicate m xs).flatten) (hk : k ≤ m) (hfit : m * z + k * z ≤ cur.length) :
    (splice cur (m * z) (cur.take (k * z))).take ((m + k) * z) = (List.replicate (m + k) xs).flatten ∧ (splice cur (m * z) (cur.take (k * z))).length = cur.length := by
  have hl : (cur.take (k * z)).length = k * z := by rw [List.length_take]; omega
  have hm : (cur.take (m * z)).length = m * z := by rw [List.length_take]; omega
  have hkz : k * z ≤ m * z := Nat.mul_le_mul_right _ hk
  have e : cur.take (k * z) = (List.replicate k xs).flatten := by
    rw [← take_flat hx hk, ← hc, List.take_take, Nat.min_eq_left hkz]
  refine ⟨?_, length_splice _ _ _ (by omega)⟩
  unfold splice
  rw [← List.append_assoc, Nat.add_mul]
  have hlen : (cur.take (m * z) ++ cur.take (k * z)).length = m * z + k * z := by rw [List.length_append, hm, hl]
  rw [← hlen, List.take_left, hc, e, ← List.flatten_append, List.replicate_append_replicate]

theorem cell_alloc {w : World} {x : Obj} {b o : Nat} (hb : b < w.heap.size) : (w.alloc x).cell? ⟨b, o, none⟩ = w.cell? ⟨b, o, none⟩ := World.cell?_of_block (w := w) (Below.heap_alloc w x b hb)

theorem repeat_made (b o : Nat) (cap : Nat) (xs : List Value) (w : World) (hx : xs.length = 3) (hone : ∀ v ∈ xs, v.oneCell' = true) (hc : ∀ j v, xs[j]? = some v → w.cell? ⟨b, o + j, none⟩ = some v) (hlow : b < w.heap.size) :
    Calls Tryz.prog 44 #[.slice (some ⟨b, o, none⟩) 1 cap, .int .i64 200] w fun e w' => e = .returned (.slice (some ⟨w.heap.size, 0, none⟩) 200 200) ∧ Below w.heap.size w w' ∧ w'.heap[w.heap.size]? = some (.cells ((List.replicate 200 xs).flatten).toArray 63 (0, 0)) := by
  have hinfo : (Tryz.prog.info? 63).map (fun i => (i.zero, i.size, i.bytes)) = some (some (.agg #[.int .i64 0, .int .i64 0, .int .i64 0]), 3, 24) := by kernel_rfl
  obtain ⟨i0, hi, hz0, hz1, hz2⟩ := info_parts hinfo
  have hsz : (Tryz.prog.info? 63).map (·.size) = some 3 := by rw [hi]; simp [hz1]
  obtain ⟨B, hB⟩ : ∃ B, B = w.heap.size := ⟨_, rfl⟩
  have hB' : Hid (B = w.heap.size) := hB
  go_enter Tryz.func44, Tryz.ntmps44
  go_wp2_with (first
    | (go_at_call 74; refine (mul_made _).mono ?_; rintro e w2 ⟨rfl, hw2⟩; have hw3 := hw2.symm; clear hw2; subst hw3)
    | (at_make; refine wpList_make_row _ rfl _ _ 35 rfl 63 i0 _ 3 Tryz.underlying35 hi hz0 hz1 200 (by simp [Act.eval, Act.put]) (by simp [Act.eval, Act.put]) (by decide) (by omega) (by decide) ?_))
  intro us hus
  have hn1 : (w.alloc (.cells us.toArray 63)).heap[w.heap.size]? = some (.cells us.toArray 63 (0, 0)) := heap_alloc_new w _
  have hs1 : ∀ j v, xs[j]? = some v → (w.alloc (.cells us.toArray 63)).cell? ((⟨b, o, none⟩ : Addr).add j) = some v := fun j v hj => by rw [Addr.add_lit, cell_alloc hlow]; exact hc j v hj
  have hb1 : Below w.heap.size w (w.alloc (.cells us.toArray 63)) := (Below.refl _ w).alloc (Nat.le_refl _) _
  generalize w.alloc (.cells us.toArray 63) = w1 at *
  obtain ⟨w2, hw2⟩ : ∃ w2, w2 = w1.setRow w.heap.size (splice us 0 xs).toArray := ⟨_, rfl⟩
  have hrun : ∀ ty, (Builtin.copy_ #[35, 35] ty #[.slice (some ⟨w.heap.size, 0, none⟩) 200 200, .slice (some ⟨b, o, none⟩) 1 cap]).run Tryz.prog w1 = .ok (goInt 1) w2 := fun ty => by
    rw [hw2]
    exact run_copy_z w1 35 35 ty 63 3 w.heap.size 0 200 200 ⟨b, o, none⟩ 1 cap us xs 63 Tryz.underlying35 hsz (by simp [hx]) hn1 hs1 (by omega) hone
  have hn2 : ∃ cur : List Value, w2.heap[w.heap.size]? = some (.cells cur.toArray 63 (0, 0)) ∧ cur.length = 600 ∧ cur.take (1 * 3) = (List.replicate 1 xs).flatten := by
    refine ⟨splice us 0 xs, by rw [hw2]; exact setRow_heap w1 _ _ _ 63 _ hn1, by rw [length_splice _ _ _ (by omega)]; exact hus, ?_⟩
    unfold splice
    rw [List.take_zero, List.nil_append, Nat.one_mul, ← hx, List.take_left]
    simp
  have hb2 : Below w.heap.size w w2 := by rw [hw2]; exact below_setRow hb1 (Nat.le_refl _) _
  clear hn1 hs1 hb1 hw2 hus
  go_wp2
  clear hrun
  go_loopw [8] (fun n wr => ∃ m : Nat, 1 ≤ m ∧ m ≤ 200 ∧ n = .int .i64 (m : Int) ∧ (∃ cur : List Value, wr.heap[w.heap.size]? = some (.cells cur.toArray 63 (0, 0)) ∧ cur.length = 600 ∧ cur.take (m * 3) = (List.replicate m xs).flatten) ∧ Below w.heap.size w wr)
    (fun n _ => 200 - (intOf n).toNat)
  case atStart => exact ⟨1, by omega, by omega, rfl, hn2, hb2⟩
  case round =>
    obtain ⟨m, hm1, hm2, rfl, ⟨cur, hcur, hlen, htake⟩, hbr⟩ := hrel
    clear hn2 hb2
    go_wp2_with fail
    · have hlt : (m : Int) < 200 := by assumption
      obtain ⟨k, hk⟩ : ∃ k, k = Nat.min m (200 - m) := ⟨_, rfl⟩
      have hk1 : k ≤ m := by rw [hk]; exact Nat.min_le_left _ _
      have hk2 : k ≤ 200 - m := by rw [hk]; exact Nat.min_le_right _ _
      have hk3 : 1 ≤ k := by rw [hk]; exact Nat.le_min.2 ⟨hm1, by omega⟩
      have hcl : (cur.take (k * 3)).length = Nat.min m (200 - m) * 3 := by rw [← hk, List.length_take]; omega
      have hmi : (m : Int) ≤ 200 := by omega
      have hne : ¬ (200 = m) := by omega
      have ek : cur.take (k * 3) = (List.replicate k xs).flatten := by rw [← take_flat hx hk1, ← htake, List.take_take, Nat.min_eq_left (by omega)]
      have hsrc : Hid (∀ j v, (cur.take (k * 3))[j]? = some v → wr.drew.cell? ((⟨w.heap.size, 0, none⟩ : Addr).add j) = some v) := fun j v hj => by
        rw [Addr.add_lit, Nat.zero_add]
        have hj' : cur[j]? = some v := by
          rw [List.getElem?_take] at hj
          split at hj
          · exact hj
          · cases hj
        show wr.cell? _ = _
        simp [World.cell?, hcur, hj']
      have hfit : m * 3 + (cur.take (k * 3)).length ≤ cur.length := by rw [List.length_take]; omega
      have hone' : Hid (∀ v ∈ cur.take (k * 3), v.oneCell' = true) := by
        intro v hv
        rw [ek] at hv
        obtain ⟨l, hl, hvl⟩ := List.mem_flatten.1 hv
        rw [List.eq_of_mem_replicate hl] at hvl
        exact hone v hvl
      obtain ⟨q1, q2⟩ := splice_more hx htake hk1 (by omega)
      have Q1 : Hid ((splice cur (m * 3) (cur.take (k * 3))).take ((m + k) * 3) = (List.replicate (m + k) xs).flatten) := q1
      have Q2 : Hid ((splice cur (m * 3) (cur.take (k * 3))).length = cur.length) := q2
      have HC : Hid (wr.drew.heap[w.heap.size]? = some (.cells cur.toArray 63 (0, 0))) := hcur
      have HB : Below w.heap.size w wr.drew := hbr.trans ⟨rfl, rfl, rfl, Nat.le_refl _, fun _ _ => rfl⟩
      clear ek q1 q2 hcur
      go_region_law (refine step_copy_z rfl (.tmp 41) (.tmp 44) 35 35 rfl 63 3 Tryz.underlying35 hsz w.heap.size (m * 3) (200 - m) (200 - m) ⟨w.heap.size, 0, none⟩ m 200 (by simp [Act.eval, Act.put]) (by simp [Act.eval, Act.put]) cur 63 HC.out (cur.take (k * 3)) hcl hsrc.out hfit hone'.out ?_; rw [← hk]; intro w3 hw3)
      have hwk : IntKind.i64.wrap ((m : Int) + ((m.min (200 - m) : Nat) : Int)) = ((m + k : Nat) : Int) := by
        rw [← hk, wrap_small _ (by omega) (by omega)]
        omega
      rw [hwk]
      simp [Act.put]
      go_wp2
      go_roundw
      case rel =>
        refine ⟨m + k, by omega, by omega, rfl, ⟨splice cur (m * 3) (cur.take (k * 3)), ?_, Q2.out.trans hlen, Q1.out⟩, ?_⟩
        · rw [hw3.out]; exact setRow_heap _ _ _ _ 63 _ HC.out
        · rw [hw3.out]; exact below_setRow HB (Nat.le_refl _) _
      case measure => simp [intOf]; omega
    · have hm : m = 200 := by omega
      subst hm
      go_ret
      refine ⟨rfl, hbr, ?_⟩
      rw [hcur]
      rw [List.take_of_length_le (by omega)] at htake
      rw [htake]

end Go.PewTab

namespace Go.PewTab
set_option linter.unusedSimpArgs false
set_option linter.unusedVariables false
open Go.Pew Go Go.Proofs Go.RowKit
set_option maxRecDepth 100000
set_option linter.unusedVariables false

theorem Values_made (v : Value) (w : World) : Calls Tryz.prog 32 #[v] w fun e w' => e = .returned (.func (.func 59) #[] #[.pointer (some ⟨w.heap.size, 0, none⟩)]) ∧ w' = w.alloc (.cells v.cells 35) := by
  refine calls_of_wp Tryz.func32 rfl ?_
  simp only [Tryz.ntmps32, List.size_toArray, List.length_cons, List.length_nil, Nat.reduceAdd, Nat.reduceSub, Array.replicate_succ, Array.replicate_zero, List.push_toArray, List.append_toArray, List.nil_append, List.cons_append]
  go_wp
  go_ret
  exact ⟨rfl, rfl⟩

theorem watch_made (p s l f : Value) (w : World) : Calls Tryz.prog 31 #[p, s, l, f] w fun e w' =>
    e = .returned (.func (.func 57) #[] #[.pointer (some ⟨w.heap.size, 0, none⟩), .pointer (some ⟨w.heap.size + 1, 0, none⟩), .pointer (some ⟨w.heap.size + 3, 0, none⟩), .pointer (some ⟨w.heap.size + 2, 0, none⟩)]) ∧
    w' = (((w.alloc (.cells p.cells 84)).alloc (.cells s.cells 28)).alloc (.cells l.cells 34)).alloc (.cells f.cells 89) := by
  refine calls_of_wp Tryz.func31 rfl ?_
  simp only [Tryz.ntmps31, List.size_toArray, List.length_cons, List.length_nil, Nat.reduceAdd, Nat.reduceSub, Array.replicate_succ, Array.replicate_zero, List.push_toArray, List.append_toArray, List.nil_append, List.cons_append]
  go_wp
  go_ret
  exact ⟨rfl, rfl⟩

def stA (w : World) (us : Array Value) (st : Nat → Nat → Prop) : Nat → Nat → Prop := fun B o => st B o ∨ (B = w.heap.size ∧ o < us.size)

theorem alloc_same {w : World} {o : Obj} {k : Nat} (hk : k < w.heap.size) : (w.alloc o).heap[k]? = w.heap[k]? := Below.heap_alloc w o k hk

theorem alloc_keep {w : World} {st : Nat → Nat → Prop} (h : StOk w st) (us : Array Value) (T : Nat) : StOk (w.alloc (.cells us T)) st ∧ (plainCtx w st).Le (plainCtx (w.alloc (.cells us T)) st) := by
  have hb : ∀ B o, st B o → (w.alloc (.cells us T)).heap[B]? = w.heap[B]? := fun B o ho => by
    obtain ⟨us, T, fr, e, _⟩ := h B o ho
    exact alloc_same (block_lt e)
  refine ⟨fun B o ho => ?_, ⟨fun _ _ h => h, fun B o ho => World.cell?_of_block (w := w) (hb B o ho), fun _ _ h => h, fun _ _ _ _ h => h, fun _ _ _ => rfl, fun _ _ _ => rfl, fun _ h => h⟩⟩
  obtain ⟨us', T', fr, e, hl⟩ := h B o ho
  exact ⟨us', T', fr, by rw [hb B o ho]; exact e, hl⟩

theorem st_more {w : World} {st st' : Nat → Nat → Prop} (h : ∀ B o, st B o → st' B o) : (plainCtx w st).Le (plainCtx w st') :=
  ⟨h, fun _ _ _ => rfl, fun _ _ h => h, fun _ _ _ _ h => h, fun _ _ _ => rfl, fun _ _ _ => rfl, fun _ h => h⟩

/-- A new block that stays. -/
theorem alloc_new {w : World} {st : Nat → Nat → Prop} (h : StOk w st) (us : Array Value) (T : Nat) : StOk (w.alloc (.cells us T)) (stA w us st) ∧ (plainCtx w st).Le (plainCtx (w.alloc (.cells us T)) (stA w us st)) ∧
    ∀ cs, Reps (plainCtx w st) cs us.toList → Rep (plainCtx (w.alloc (.cells us T)) (stA w us st)) (.rp cs 0) (.pointer (some ⟨w.heap.size, 0, none⟩)) := by
  obtain ⟨h1, h2⟩ := alloc_keep h us T
  have h3 := h2.trans (st_more (w := w.alloc (.cells us T)) (st' := stA w us st) fun _ _ h => .inl h)
  have hn : (w.alloc (.cells us T)).heap[w.heap.size]? = some (.cells us T (0, 0)) := heap_alloc_new w _
  refine ⟨fun B o ho => ?_, h3, fun cs hr => ?_⟩
  · rcases ho with ho | ⟨rfl, ho⟩
    · exact h1 B o ho
    · exact ⟨us, T, _, hn, ho⟩
  · exact ⟨w.heap.size, 0, us.toList, rfl, Reps.mono h3 _ _ hr, reads_block (C := plainCtx _ _) hn rfl fun o ho => .inr ⟨rfl, ho⟩⟩

theorem Values_maker (tag : Option (Nat × Nat)) (ls : List LK) (xs : List (List PV)) : MakerC Tryz.prog 32 [.sl tag ls xs] 59 [.rp [.sl none ls xs] 0] none [] := by
  intro w st vals hst hr
  obtain ⟨u, _, rfl, hu, rfl⟩ := hr
  have hu1 := Rep.strip_tag hu
  obtain ⟨A, cap, rows, rfl, _⟩ := hu
  refine (Values_made _ w).mono ?_
  rintro e w' ⟨rfl, rfl⟩
  obtain ⟨n1, n2, n3⟩ := alloc_new hst #[.slice A rows.length cap] 35
  refine ⟨[_], [], [], rfl, (Below.refl _ _).alloc (Nat.le_refl _) _, stA w #[.slice A rows.length cap] st, fun _ _ h => .inl h, fun B o h => h.imp id fun q => Nat.le_of_eq q.1.symm, n1, ⟨_, _, rfl, n3 _ ⟨_, _, rfl, hu1, rfl⟩, rfl⟩, rfl, rfl⟩

theorem watch_maker (p s l : List PV) (f : PV) (hf : ∀ cs, f ≠ .agg cs) (hu : f ≠ .undef) : MakerC Tryz.prog 31 [.agg p, .agg s, .agg l, f] 57 [.rp p 0] (some s) [.rp [f] 0, .rp l 0] := by
  intro w st vals hst hr
  obtain ⟨vp, _, rfl, ⟨pu, rfl, hp⟩, vs, _, rfl, ⟨su, rfl, hs⟩, vl, _, rfl, ⟨lu, rfl, hl⟩, vf, _, rfl, hf1, rfl⟩ := hr
  refine (watch_made _ _ _ _ w).mono ?_
  rintro e w' ⟨rfl, rfl⟩
  have hfc : Reps (plainCtx w st) [f] vf.cells.toList := by
    have := Rep.cells hf1 hu
    cases f with
    | agg cs => exact absurd rfl (hf cs)
    | undef => exact absurd rfl hu
    | _ => exact this
  obtain ⟨a1, a2, a3⟩ := alloc_new hst pu 84
  obtain ⟨b1, b2⟩ := alloc_keep a1 su 28
  obtain ⟨c1, c2, c3⟩ := alloc_new b1 lu 34
  obtain ⟨d1, d2, d3⟩ := alloc_new c1 vf.cells 89
  have e1 := a2.trans b2
  have e2 := e1.trans c2
  have e3 := e2.trans d2
  refine ⟨[.pointer (some ⟨w.heap.size, 0, none⟩)], [.pointer (some ⟨w.heap.size + 1, 0, none⟩)], [.pointer (some ⟨w.heap.size + 3, 0, none⟩), .pointer (some ⟨w.heap.size + 2, 0, none⟩)], rfl, ?_, _, fun B o ho => e3.st B o ho, ?_, d1, ⟨_, _, rfl, Rep.mono (b2.trans (c2.trans d2)) _ _ (a3 _ hp), rfl⟩, ⟨_, _, rfl, ?_, _, _, rfl, ?_, rfl⟩, w.heap.size + 1, su, 28, rfl, by omega, ?_, Reps.mono e3 _ _ hs, ?_⟩
  · exact ((((Below.refl _ w).alloc (Nat.le_refl _) _).alloc (by simp) _).alloc (by simp; omega) _).alloc (by simp; omega) _
  · rintro B o (((ho | ⟨rfl, _⟩) | ⟨rfl, _⟩) | ⟨rfl, _⟩)
    · exact .inl ho
    · exact .inr (Nat.le_refl _)
    · exact .inr (by simp; omega)
    · exact .inr (by simp; omega)
  · have := d3 _ (Reps.mono e2 _ _ hfc)
    simp only [World.size_alloc] at this
    exact this
  · have := Rep.mono d2 _ _ (c3 _ (Reps.mono e1 _ _ hl))
    simp only [World.size_alloc] at this
    exact this
  · rw [alloc_same (by simp), alloc_same (by simp)]
    have := heap_alloc_new (w.alloc (.cells pu 84)) (.cells su 28)
    rw [World.size_alloc] at this
    exact this
  · rintro o (((ho | ⟨q, _⟩) | ⟨q, _⟩) | ⟨q, _⟩)
    · obtain ⟨us, T, fr, e, _⟩ := hst _ _ ho
      have := block_lt e
      omega
    · omega
    · simp at q
    · simp at q

theorem makersOk (N : Nat) : MakersOk Tryz.prog (envF N) := by
  intro f m hm
  have hm : makerOf f = some m := hm
  unfold makerOf at hm
  cases h2 : Nat.beq f 31 with
  | true =>
    have := Nat.eq_of_beq_eq_true h2
    subst this
    rw [h2] at hm
    cases hm
    refine ⟨⟨_, Tryz.func31, by kernel_rfl, by kernel_rfl⟩, fun args g pre c post hq => ?_⟩
    dsimp only at hq
    split at hq
    · cases hq
      exact watch_maker _ _ _ _ (fun _ q => by cases q) (fun q => by cases q)
    · cases hq
  | false =>
    rw [h2] at hm
    cases h3 : Nat.beq f 32 with
    | true =>
      have := Nat.eq_of_beq_eq_true h3
      subst this
      rw [h3] at hm
      cases hm
      refine ⟨⟨_, Tryz.func32, by kernel_rfl, by kernel_rfl⟩, fun args g pre c post hq => ?_⟩
      dsimp only at hq
      split at hq
      · cases hq
        exact Values_maker _ _ _
      · cases hq
    | false => rw [h3] at hm; cases hm

theorem progOk (N : Nat) : ProgOk Tryz.prog (envF N) := progOk0 N (makersOk N)

end Go.PewTab

namespace Go.PewTab
set_option linter.unusedSimpArgs false
set_option linter.unusedVariables false
open Go.Pew Go Go.Proofs Go.RowKit
set_option maxRecDepth 100000
set_option linter.unusedVariables false

theorem reps_replicate {C : Ctx} {x : List PV} {r : List Value} (h : Reps C x r) : ∀ n : Nat, RepRows C (List.replicate n x) (List.replicate n r)
  | 0 => rfl
  | n + 1 => ⟨r, List.replicate n r, rfl, h, reps_replicate h n⟩

theorem repeat_contract (N : Nat) (args : List PV) (r : PV) (hr : repeatG args = some r) : Contract Tryz.prog (envF N) 44 args r := by
  unfold repeatG at hr
  split at hr
  · rename_i tag ls x c
    cases hcc : (decide (c = 200) && confs [.int .i64, .int .i64, .int .i64] x) with
    | false => rw [hcc] at hr; cases hr
    | true =>
      rw [hcc] at hr
      cases hr
      rw [Bool.and_eq_true, decide_eq_true_eq] at hcc
      obtain ⟨rfl, hx⟩ := hcc
      obtain ⟨a, b, d, rfl⟩ := int3 hx
      refine ⟨fun fn hfn => ?_, fun w st vals hst hre => ?_⟩
      · have e : (envF N).fn 44 = some Tryz.f44 := by kernel_rfl
        rw [e] at hfn
        cases hfn
        show confT (envF N) 35 (.sl none [.int .i64, .int .i64, .int .i64] (List.replicate 200 [.int .i64 a, .int .i64 b, .int .i64 d])) = true
        kernel_rfl
      · obtain ⟨u, _, rfl, hu, v2, _, rfl, hv2, rfl⟩ := hre
        have hv2 : v2 = .int .i64 200 := hv2
        subst hv2
        obtain ⟨A, cap, rows, rfl, h1, h2, h3, h4, h5, h6⟩ := hu
        obtain ⟨r0, ws, rfl, hr0, hws⟩ := h2
        have hws : ws = [] := hws
        subst hws
        obtain ⟨q1, _, rfl, e1, q2, _, rfl, e2, q3, _, rfl, e3, e4⟩ := hr0
        have e1 : q1 = .int .i64 a := e1
        have e2 : q2 = .int .i64 b := e2
        have e3 : q3 = .int .i64 d := e3
        have e4 := e4
        subst e1 e2 e3 e4
        rcases h4 with h4 | ⟨B, o, rfl, hrd⟩
        · cases h4
        · have hrd : (plainCtx w st).reads B o [.int .i64 a, .int .i64 b, .int .i64 d] := by simpa using hrd
          have hlow : B < w.heap.size := by
            obtain ⟨us, T, fr, e, _⟩ := hst _ _ (hrd 0 _ rfl).2
            exact block_lt e
          refine (repeat_made B o cap [.int .i64 a, .int .i64 b, .int .i64 d] w rfl (by simp [Value.oneCell']) (fun j v hj => (hrd j v hj).1) hlow).mono ?_
          rintro e w' ⟨rfl, hb, hn⟩
          refine ⟨_, rfl, hb, fun B' o' => st B' o' ∨ (B' = w.heap.size ∧ o' < 600), fun _ _ h => .inl h, fun B' o' h => h.imp id fun q => Nat.le_of_eq q.1.symm, fun B' o' h => ?_, ⟨_, rfl, ?_⟩, fun h => ?_⟩
          · rcases h with h | ⟨rfl, h⟩
            · obtain ⟨us, T, fr, e, hl⟩ := hst _ _ h
              exact ⟨us, T, fr, by rw [hb.block _ (block_lt e)]; exact e, hl⟩
            · exact ⟨_, _, _, hn, by simpa using h⟩
          · have hR : Reps (plainCtx w' fun B' o' => st B' o' ∨ (B' = w.heap.size ∧ o' < 600)) [.int .i64 a, .int .i64 b, .int .i64 d] [.int .i64 a, .int .i64 b, .int .i64 d] := ⟨_, _, rfl, rfl, _, _, rfl, rfl, _, _, rfl, rfl, rfl⟩
            refine ⟨some ⟨w.heap.size, 0, none⟩, 200, List.replicate 200 [.int .i64 a, .int .i64 b, .int .i64 d], by simp, by simp, reps_replicate hR 200, fun r hr => by rw [List.eq_of_mem_replicate hr]; rfl, .inr ⟨w.heap.size, 0, rfl, ?_⟩, fun y hy => by rw [List.eq_of_mem_replicate hy]; exact hx, fun _ _ h => by cases h⟩
            have := reads_block (C := plainCtx w' fun B' o' => st B' o' ∨ (B' = w.heap.size ∧ o' < 600)) hn rfl fun o ho => .inr ⟨rfl, by simpa using ho⟩
            simpa using this
          · cases h
  · cases hr

theorem ext_ok (N : Nat) : ∀ f g, (envF N).ext f = some g → ∀ args r, g args = some r → Contract Tryz.prog (envF N) f args r := by
  intro f g hg args r hr
  have hg : extOf f = some g := hg
  unfold extOf at hg
  cases h2 : Nat.beq f 44 with
  | true =>
    have := Nat.eq_of_beq_eq_true h2
    subst this
    rw [h2] at hg
    cases hg
    exact repeat_contract N args r hr
  | false => rw [h2] at hg; cases hg

end Go.PewTab

namespace Go.PewTab
set_option linter.unusedSimpArgs false
set_option linter.unusedVariables false
open Go.Pew Go.Num Go.RowKit

theorem LakePermitted_contract (xs : List PV) (h : confTs (envF 1000000) [26, 28, 37] xs = true) (hf : fits xs) : Contract Go.Proofs.Tryz.prog (envF 1000000) 4 xs (.bool true) := by
  obtain ⟨p, ps, rfl, h1, h⟩ := confTs_cons h
  obtain ⟨q, qs, rfl, h2, h⟩ := confTs_cons h
  obtain ⟨r, rs, rfl, h3, h⟩ := confTs_cons h
  rw [confTs_nil h] at *
  obtain ⟨f1, f2, f3, _⟩ := hf
  obtain ⟨p, rfl⟩ := arg_pair h1 f1
  obtain ⟨s, rfl⟩ := arg_vols h2
  obtain ⟨L, l, rfl⟩ := arg_task h3 f3
  exact ev_sound (progOk 1000000) (ext_ok 1000000) 41 4 _ _ (LakePermitted_ev (N := 1000000) (k := 25) (Nat.le_refl _) awake_ok p s L l)

end Go.PewTab
