/- WHAT FOLLOWS AN OPERATION IS ONLY HANDED ITS EFFECT: the evaluator's steps as plain functions, and forced steps as the plain ones. -/
import Derived.Test.YtfjnpgbjcgjecaaPevRep
namespace Go.Pev
set_option linter.unusedVariables false
set_option linter.unusedSimpArgs false
variable {R : Type}

theorem forceL_eq {α : Type} : ∀ (l : List α) (κ : List α → R), forceL l κ = κ l
  | [], κ => rfl
  | x :: xs, κ => forceL_eq xs fun ys => κ (x :: ys)

theorem forceV_eq (v : PV) (κ : PV → R) : forceV v κ = κ v := by
  cases v <;> simp [forceV, forceL_eq]

theorem forceVs_eq : ∀ (l : List PV) (κ : List PV → R), forceVs l κ = κ l
  | [], κ => rfl
  | x :: xs, κ => by simp [forceVs, forceV_eq, forceVs_eq xs]

theorem forceSt_eq (s : St) (κ : St → R) : forceSt s κ = κ s := by simp [forceSt, forceVs_eq, forceL_eq]

theorem updK_eq (s : St) (dst : Option Nat) (e : Eff) (κ : St → R) : updK s dst e κ = κ (upd s dst e) := by
  cases e <;> simp [updK, forceV_eq, forceL_eq] <;> simp [upd, valOf, edits, edit, bumped, bump]

theorem guardK_bind {R' : Type} (b : Bool) (x : Option R) (f : R → Option R') : (guardK b x).bind f = guardK b (x.bind f) := by cases b <;> rfl

theorem indexK_nat {R' : Type} (i : PV) (n : Nat) (κ : Nat → Option R) (f : R → Option R') : (indexK i n κ).bind f = indexK i n fun j => (κ j).bind f := by
  cases i <;> simp [indexK, guardK_bind]

theorem intOp_nat {R' : Type} (op : BinOp) (k : IntKind) (a b : Int) (κ : PV → Option R) (f : R → Option R') : (intOp op k a b κ).bind f = intOp op k a b fun v => (κ v).bind f := by
  cases op <;> simp [intOp, guardK_bind]

theorem binK_nat {R' : Type} (E : Env) (op : BinOp) (t : Nat) (x y : PV) (κ : PV → Option R) (f : R → Option R') : (binK E op t x y κ).bind f = binK E op t x y fun v => (κ v).bind f := by
  unfold binK
  split
  · split
    · exact intOp_nat ..
    · exact intOp_nat ..
    · split
      · exact intOp_nat ..
      · rfl
  · split
    · split <;> rfl
    · rfl
  · split <;> rfl
  · split
    · rw [guardK_bind, guardK_bind, guardK_bind]
      congr 3
      split <;> rfl
    · rfl
  · rfl

theorem unK_nat {R' : Type} (op : UnOp) (x : PV) (κ : PV → Option R) (f : R → Option R') : (unK op x κ).bind f = unK op x fun v => (κ v).bind f := by
  unfold unK; split <;> rfl

theorem lenK_nat {R' : Type} (E : Env) (s : St) (t : Nat) (x : PV) (κ : Eff → Option R) (f : R → Option R') : (lenK E s t x κ).bind f = lenK E s t x fun v => (κ v).bind f := by
  unfold lenK
  split
  · rfl
  · split
    · rfl
    · split <;> rfl
    · rfl
    · rfl
    · rfl

theorem highK_nat {R' : Type} (s : St) (hi : Option Operand) (n : Nat) (κ : Nat → Option R) (f : R → Option R') : (highK s hi n κ).bind f = highK s hi n fun v => (κ v).bind f := by
  unfold highK
  split
  · rfl
  · split
    · simp only [guardK_bind]
    · rfl
theorem lowK_nat {R' : Type} (s : St) (hi : Option Operand) (n : Nat) (κ : Nat → Option R) (f : R → Option R') : (lowK s hi n κ).bind f = lowK s hi n fun v => (κ v).bind f := by
  unfold lowK
  split
  · rfl
  · split
    · simp only [guardK_bind]
    · rfl

theorem argsK_nat {R' : Type} (s : St) (f : R → Option R') : ∀ (os : List Operand) (ds : List Nat) (acc : List PV) (κ : List PV → List Nat → Option R),
    (argsK s os ds acc κ).bind f = argsK s os ds acc fun x y => (κ x y).bind f
  | [], ds, acc, κ => rfl
  | o :: os, ds, acc, κ => by
    unfold argsK
    split
    · split
      · exact argsK_nat s f os _ _ κ
      · rfl
    · exact argsK_nat s f os _ _ κ

theorem callK_nat {R' : Type} (E : Env) (call : Nat → List PV → Option PV) (g : Nat) (args : List PV) (ds : List Nat) (κ : Eff → Option R) (f : R → Option R') :
    (callK E call g args ds κ).bind f = callK E call g args ds fun e => (κ e).bind f := by
  unfold callK
  split
  · rfl
  · rename_i fn _
    cases call g args with
    | none => rfl
    | some r =>
      simp only [Option.bind_some]
      split
      · rfl
      · split
        · split <;> rfl
        · rfl

theorem appK_nat {R' : Type} (E : Env) (s : St) (t u : Nat) (x y : PV) (κ : Eff → Option R) (f : R → Option R') :
    (appK E s t u x y κ).bind f = appK E s t u x y fun e => (κ e).bind f := by
  unfold appK
  split
  · split
    · split
      · rfl
      · split
        · split
          · exact guardK_bind _ _ _
          · rfl
        · rfl
    · rfl
  · rfl

theorem condK_bind {R' : Type} (c : PV) (x y : Option R) (f : R → Option R') : (condK c x y).bind f = condK c (x.bind f) (y.bind f) := by
  unfold condK; split
  · rename_i b; cases b <;> rfl
  · rfl

theorem actK_nat {R' : Type} (E : Env) (call : Nat → List PV → Option PV) (s : St) (o : Oper) (κ : Eff → Option R) (f : R → Option R') :
    (actK E call s o κ).bind f = actK E call s o fun e => (κ e).bind f := by
  unfold actK
  split
  · unfold actMove; repeat' (first | rfl | split)
  · unfold actMove; repeat' (first | rfl | split)
  · unfold actPick; exact condK_bind ..
  · unfold actAlloc; repeat' (first | rfl | split)
  · unfold actBox; repeat' (first | rfl | split)
  · unfold actBuild; repeat' (first | rfl | split)
  · unfold actBuildSlice; repeat' (first | rfl | split)
  · unfold actLoad; repeat' (first | rfl | split)
  · unfold actStore; repeat' (first | rfl | split)
  · unfold actBinOp; exact binK_nat ..
  · unfold actUnOp; exact unK_nat ..
  · unfold actConvert; repeat' (first | rfl | split)
  · unfold actMakeFunc; repeat' (first | rfl | split)
  · unfold actMakeSlice; repeat' (first | rfl | (simp only [guardK_bind]; done) | split)
  · unfold actSlice
    split
    · rfl
    · split
      · split
        · rfl
        · split
          · rw [highK_nat]; congr 1; funext h; exact lowK_nat ..
          · rfl
      · split
        · split <;> rfl
        · rfl
      · rfl
  · unfold actFieldAddr; repeat' (first | rfl | split)
  · unfold actField; repeat' (first | rfl | split)
  · unfold actIndexAddr
    split
    · rfl
    · split
      · split
        · split
          · exact indexK_nat ..
          · rfl
        · rfl
      · split
        · split
          · exact indexK_nat ..
          · rfl
        · rfl
      · split
        · exact indexK_nat ..
        · rfl
      · split
        · exact indexK_nat ..
        · rfl
      · rfl
  · unfold actIndex
    split
    · rfl
    · split
      · split
        · rw [indexK_nat]; congr 1; funext j; split <;> rfl
        · rfl
      · exact indexK_nat ..
      · rfl
  · unfold actExtract; repeat' (first | rfl | split)
  · unfold actNilCheck; repeat' (first | rfl | split)
  · unfold actCall
    split
    · split
      · rw [argsK_nat]; congr 1; funext x y; split
        · exact callK_nat ..
        · rfl
      · rfl
    · split
      · exact lenK_nat ..
      · rfl
    · split <;> rfl
    · split <;> rfl
    · split
      · exact appK_nat ..
      · rfl
    · rfl
  · rfl

/-- The effect of an operation. -/
def act (E : Env) (call : Nat → List PV → Option PV) (s : St) (o : Oper) : Option Eff := actK E call s o some

theorem actK_eq (E : Env) (call : Nat → List PV → Option PV) (s : St) (o : Oper) (κ : Eff → Option R) : actK E call s o κ = (act E call s o).bind κ := by
  unfold act; rw [actK_nat]; rfl

/-! ### a region, as steps -/

/-- Is the operation carried out? -/
def want (ops : Array Oper) (s : St) (o : Oper) : Option Bool :=
  match o.guard with
  | none => some true
  | some (j, want) => match (ops[j]?).bind (·.dst) with
    | none => none
    | some t => match s.get t with
      | .tup [] => some false
      | .bool b => some (b == want)
      | _ => none

theorem refine_self {s : St} {t : Nat} {b : Bool} (h : s.get t = .bool b) : refine s t b = s := by
  have : s.slots.set t (.bool b) = s.slots := by
    apply List.ext_getElem?
    intro i
    rw [List.getElem?_set]
    split
    · rename_i e
      subst e
      unfold St.get at h
      rw [List.getD_eq_getElem?_getD] at h
      split
      · rename_i hl
        rw [List.getElem?_eq_getElem hl] at h ⊢
        simp at h
        rw [h]
      · rename_i hl
        rw [List.getElem?_eq_none (by omega)]
    · rfl
  unfold refine
  rw [this]

theorem splitK_eq (s : St) (t : Nat) (κ : Bool → St → Option R) : splitK s t κ = match s.get t with | .bool b => κ b s | _ => none := by
  unfold splitK
  cases h : s.get t with
  | bool b =>
    simp only [forceL_eq]
    cases b
    · show κ false (refine s t false) = _
      rw [refine_self h]
    · show κ true (refine s t true) = _
      rw [refine_self h]
  | _ => rfl

theorem wantK_eq (ops : Array Oper) (s : St) (o : Oper) (κ : Bool → St → Option R) : wantK ops s o κ = (want ops s o).bind fun b => κ b s := by
  unfold wantK want
  cases hg : o.guard with
  | none => rfl
  | some g =>
    obtain ⟨j, want⟩ := g
    dsimp only
    cases hd : (ops[j]?).bind (·.dst) with
    | none => rfl
    | some t =>
      dsimp only
      cases h : s.get t with
      | tup vs =>
        cases vs with
        | nil => rfl
        | cons v vs => simp [splitK_eq, h]
      | bool b => simp [splitK_eq, h]
      | _ => simp [splitK_eq, h]

/-- The effect of an operation in its region. -/
def eff (E : Env) (call : Nat → List PV → Option PV) (ops : Array Oper) (s : St) (o : Oper) : Option Eff :=
  match want ops s o with
  | some true => (act E call s o).bind fun e => if okEff s o.dst e = true then some e else none
  | some false => some .skip
  | none => none

inductive Run (E : Env) (call : Nat → List PV → Option PV) (ops : Array Oper) : List (Nat × Oper) → St → List (Nat × Oper × Eff) → St → Prop
  | nil (s : St) : Run E call ops [] s [] s
  | cons {i : Nat} {o : Oper} {rest : List (Nat × Oper)} {s s' : St} {e : Eff} {tr : List (Nat × Oper × Eff)} :
    eff E call ops s o = some e → Run E call ops rest (upd s o.dst e) tr s' → Run E call ops ((i, o) :: rest) s ((i, o, e) :: tr) s'

theorem opsK_run (E : Env) (call : Nat → List PV → Option PV) (ops : Array Oper) : ∀ (l : List Oper) (n : Nat) (s : St) (κ : St → Option R) (r : R),
    opsK E call ops l s κ = some r → ∃ tr s', Run E call ops (l.zipIdx n |>.map fun x => (x.2, x.1)) s tr s' ∧ κ s' = some r
  | [], n, s, κ, r, h => ⟨[], s, .nil s, h⟩
  | o :: rest, n, s, κ, r, h => by
    unfold opsK at h
    rw [wantK_eq] at h
    obtain ⟨b, hb, h⟩ := Option.bind_eq_some_iff.1 h
    cases b with
    | true =>
      simp only [actK_eq] at h
      obtain ⟨e, he, h⟩ := Option.bind_eq_some_iff.1 h
      split at h
      · rename_i hok
        rw [updK_eq] at h
        obtain ⟨tr, s', h1, h2⟩ := opsK_run E call ops rest (n + 1) _ κ r h
        refine ⟨(n, o, e) :: tr, s', ?_, h2⟩
        simp only [List.zipIdx_cons, List.map_cons]
        exact .cons (by simp [eff, hb, he, hok]) h1
      · cases h
    | false =>
      simp only [updK_eq] at h
      obtain ⟨tr, s', h1, h2⟩ := opsK_run E call ops rest (n + 1) _ κ r h
      refine ⟨(n, o, .skip) :: tr, s', ?_, h2⟩
      simp only [List.zipIdx_cons, List.map_cons]
      exact .cons (by simp [eff, hb]) h1

theorem writes_skip (dst : Option Nat) : Eff.writes dst .skip = [] := rfl

/-- What a drawn region's check has found of its trace. -/
def Apart (ms : List Nat) (x y : Nat × Oper × Eff) : Prop :=
  (ms.getD y.1 0).testBit x.1 = true ∨ (meets (x.2.2.writes x.2.1.dst) y.2.2.reads = false ∧ meets (x.2.2.writes x.2.1.dst) (y.2.2.writes y.2.1.dst) = false ∧ meets x.2.2.reads (y.2.2.writes y.2.1.dst) = false)

theorem meets_nil_left (l : List Nat) : meets [] l = false := rfl
theorem meets_nil_right (l : List Nat) : meets l [] = false := by simp [meets]

theorem opsD_run (E : Env) (call : Nat → List PV → Option PV) (ops : Array Oper) (ms : List Nat) : ∀ (l : List Oper) (n : Nat) (tr0 : List (Nat × Oper × Eff)) (tr1 : List (Nat × List Nat × List Nat)) (s : St) (κ : St → Option R) (r : R),
    (∀ x ∈ tr0, x.2.2 matches .skip ∨ (x.1, x.2.2.reads, x.2.2.writes x.2.1.dst) ∈ tr1) →
    opsD E call ops ms n l tr1 s κ = some r → ∃ tr s', Run E call ops (l.zipIdx n |>.map fun x => (x.2, x.1)) s tr s' ∧ κ s' = some r ∧
      (∀ x ∈ tr0, ∀ y ∈ tr, Apart ms x y) ∧ tr.Pairwise (Apart ms)
  | [], n, tr0, tr1, s, κ, r, h0, h => ⟨[], s, .nil s, h, by simp, .nil⟩
  | o :: rest, n, tr0, tr1, s, κ, r, h0, h => by
    unfold opsD at h
    rw [wantK_eq] at h
    obtain ⟨b, hb, h⟩ := Option.bind_eq_some_iff.1 h
    cases b with
    | true =>
      simp only [actK_eq] at h
      obtain ⟨e, he, h⟩ := Option.bind_eq_some_iff.1 h
      split at h
      · rename_i hok
        simp only [Bool.and_eq_true, Bool.not_eq_true'] at hok
        rw [updK_eq] at h
        have hnew : ∀ x ∈ tr0, Apart ms x (n, o, e) := by
          intro x hx
          rcases h0 x hx with hs | hm
          · right
            have : x.2.2 = .skip := by
              cases hq : x.2.2 <;> simp_all
            simp [this, writes_skip, Eff.reads, meets]
          · have hc := hok.2
            unfold clash at hc
            rw [List.any_eq_false] at hc
            have := hc _ hm
            unfold Apart
            revert this
            cases (ms.getD n 0).testBit x.1 <;> cases meets (x.2.2.writes x.2.1.dst) e.reads <;> cases meets (x.2.2.writes x.2.1.dst) (e.writes o.dst) <;> cases meets x.2.2.reads (e.writes o.dst) <;> simp
        obtain ⟨tr, s', h1, h2, h3, h4⟩ := opsD_run E call ops ms rest (n + 1) ((n, o, e) :: tr0) ((n, e.reads, e.writes o.dst) :: tr1) _ κ r (by
          intro x hx
          rcases List.mem_cons.1 hx with rfl | hx
          · exact .inr (List.mem_cons_self ..)
          · exact (h0 x hx).imp id (List.mem_cons_of_mem _)) h
        refine ⟨(n, o, e) :: tr, s', ?_, h2, ?_, ?_⟩
        · simp only [List.zipIdx_cons, List.map_cons]
          exact .cons (by simp [eff, hb, he, hok.1]) h1
        · intro x hx y hy
          rcases List.mem_cons.1 hy with rfl | hy
          · exact hnew x hx
          · exact h3 x (List.mem_cons_of_mem _ hx) y hy
        · exact .cons (fun y hy => h3 _ (List.mem_cons_self ..) y hy) h4
      · cases h
    | false =>
      simp only [updK_eq] at h
      obtain ⟨tr, s', h1, h2, h3, h4⟩ := opsD_run E call ops ms rest (n + 1) ((n, o, .skip) :: tr0) tr1 _ κ r (by
        intro x hx
        rcases List.mem_cons.1 hx with rfl | hx
        · exact .inl rfl
        · exact h0 x hx) h
      refine ⟨(n, o, .skip) :: tr, s', ?_, h2, ?_, ?_⟩
      · simp only [List.zipIdx_cons, List.map_cons]
        exact .cons (by simp [eff, hb]) h1
      · intro x hx y hy
        rcases List.mem_cons.1 hy with rfl | hy
        · right; simp [writes_skip, Eff.reads, meets_nil_right]
        · exact h3 x (List.mem_cons_of_mem _ hx) y hy
      · exact .cons (fun y hy => h3 _ (List.mem_cons_self ..) y hy) h4

end Go.Pev
