/- TABLES THAT ARE CHECKED: what the evaluator is told of types and functions, against the program. -/
import Derived.Test.YtfjnpgbjcgjecaaPevCode
namespace Go.Pev
open Go.RowKit
set_option linter.unusedVariables false
set_option linter.unusedSimpArgs false

def Tab.All {α : Type} (p : Nat → α → Prop) : Tab α → Prop
  | .nil => True
  | .node k v l r => p k v ∧ l.All p ∧ r.All p

theorem Tab.find_all {α : Type} {p : Nat → α → Prop} {n : Nat} {v : α} : ∀ {t : Tab α}, t.All p → t.find n = some v → p n v
  | .nil, _, h => by cases h
  | .node k u l r, ha, h => by
    obtain ⟨h1, h2, h3⟩ := ha
    unfold Tab.find at h
    split at h
    · rename_i q
      cases h
      rw [Nat.eq_of_beq_eq_true q]
      exact h1
    · split at h
      · exact Tab.find_all h2 h
      · exact Tab.find_all h3 h

def cellOk : PV → Value → Bool
  | .undef, _ => true
  | .bool b, .bool b' => b == b'
  | .int k n, .int k' m => k == k' && decide (n = m)
  | .str s, .string s' => s.data.toList.isEmpty && s'.data.toList.isEmpty
  | .nilp, .pointer none => true
  | .sl none _ [], .slice none 0 0 => true
  | _, _ => false

def cellsOk : List PV → List Value → Bool
  | [], [] => true
  | p :: ps, v :: vs => cellOk p v && cellsOk ps vs
  | _, _ => false

theorem cellOk_rep {C : Ctx} {p : PV} {v : Value} (h : cellOk p v = true) : Rep C p v := by
  unfold cellOk at h
  split at h
  · trivial
  · rename_i b b'
    have : b = b' := by simpa using h
    subst this; rfl
  · rename_i k n k' m
    simp only [Bool.and_eq_true, decide_eq_true_eq, beq_iff_eq] at h
    obtain ⟨rfl, rfl⟩ := h
    rfl
  · rename_i s s'
    simp only [Bool.and_eq_true, List.isEmpty_iff] at h
    have h1 : s.data = #[] := by apply Array.ext'; simpa using h.1
    have h2 : s'.data = #[] := by apply Array.ext'; simpa using h.2
    cases s; cases s'
    simp only at h1 h2
    subst h1; subst h2; rfl
  · rfl
  · exact rep_nil _ _
  · cases h

theorem cellsOk_rep {C : Ctx} : ∀ {ps : List PV} {vs : List Value}, cellsOk ps vs = true → Reps C ps vs
  | [], [], _ => rfl
  | [], _ :: _, h => by simp [cellsOk] at h
  | _ :: _, [], h => by simp [cellsOk] at h
  | p :: ps, v :: vs, h => by
    simp only [cellsOk, Bool.and_eq_true] at h
    exact ⟨v, vs, rfl, cellOk_rep h.1, cellsOk_rep h.2⟩

def tyCheck (ti : TI) (i : TypeInfo) : Bool :=
  Nat.beq i.size ti.size && Nat.beq i.bytes ti.bytes && (match i.zero with | some z => cellsOk ti.zero z.cells.toList | none => false) &&
    (ti.agg == aggDesc ti.desc) && Nat.beq ti.lk.length ti.size && Nat.beq ti.zero.length ti.size

theorem info_some {P : Program} {t : Nat} {i : TypeInfo} (h : P.types[t]? = some i) : P.info? t = some i := by
  have hlt : t < P.types.size := (Array.getElem?_eq_some_iff.1 h).1
  unfold Tables.info?
  rw [if_pos hlt]
  exact h

theorem tyOk_of {P : Program} {t : Nat} {ti : TI} {i : TypeInfo} (hi : P.types[t]? = some i) (hu : P.underlying t = some ti.desc) (hc : tyCheck ti i = true) : TyOk P t ti := by
  unfold tyCheck at hc
  simp only [Bool.and_eq_true] at hc
  obtain ⟨⟨⟨⟨⟨h1, h2⟩, h3⟩, h4⟩, h5⟩, h6⟩ := hc
  split at h3
  · rename_i z hz
    exact { info := ⟨i, z, info_some hi, Nat.eq_of_beq_eq_true h1, Nat.eq_of_beq_eq_true h2, hz, fun C => cellsOk_rep h3⟩, und := hu, agg := by simpa using h4, lk := Nat.eq_of_beq_eq_true h5, zl := Nat.eq_of_beq_eq_true h6 }
  · cases h3

def fnCheck (fn : Func) : Bool := !(fn.name == "runtime.NumGoroutine") && !fn.body.isNone && (match fn.body with | some c => okCode c | none => true)

theorem fnCheck_spec {fn : Func} (h : fnCheck fn = true) : (fn.name == "runtime.NumGoroutine") = false ∧ fn.body.isNone = false ∧ ∀ c, fn.body = some c → okCode c = true := by
  unfold fnCheck at h
  simp only [Bool.and_eq_true, Bool.not_eq_true'] at h
  refine ⟨h.1.1, h.1.2, fun c hc => ?_⟩
  have := h.2
  rw [hc] at this
  exact this

theorem progOk_of {P : Program} {E : Env} {tys : Tab TI} {fns : Tab Func} (hm : P.follows .mixedOrders = true) (ht : E.ty = fun t => tys.find t) (hf : E.fn = fun f => fns.find f)
    (h1 : tys.All fun t ti => TyOk P t ti) (h2 : fns.All fun f fn => P.funcs[f]? = some fn ∧ fnCheck fn = true) (h3 : ∀ t ti, E.eq t = true → E.ty t = some ti → EqOk P t ti.lk) : ProgOk P E :=
  { env := { ty := (fun t ti h => Tab.find_all h1 (by rw [ht] at h; exact h)), eq := h3, fn := fun f fn h => (by
      obtain ⟨e1, e2⟩ := Tab.find_all h2 (by rw [hf] at h; exact h)
      obtain ⟨e3, e4, _⟩ := fnCheck_spec e2
      exact ⟨e1, e3, e4⟩) }
    mixed := hm
    code := fun f fn c h hc => by
      obtain ⟨e1, e2⟩ := Tab.find_all h2 (by rw [hf] at h; exact h)
      exact (fnCheck_spec e2).2.2 c hc }

theorem conf_int {k : IntKind} {v : PV} (h : conf (.int k) v = true) : ∃ n, v = .int k n := by
  cases v with
  | int k' n =>
    have : k = k' := by simpa [conf] using h
    subst this
    exact ⟨n, rfl⟩
  | _ => simp [conf] at h

theorem confs_cons {l : LK} {ls : List LK} {cs : List PV} (h : confs (l :: ls) cs = true) : ∃ c cs', cs = c :: cs' ∧ conf l c = true ∧ confs ls cs' = true := by
  cases cs with
  | nil => simp [confs] at h
  | cons c cs => simp only [confs, Bool.and_eq_true] at h; exact ⟨c, cs, rfl, h.1, h.2⟩

theorem confs_nil {cs : List PV} (h : confs [] cs = true) : cs = [] := by
  cases cs with
  | nil => rfl
  | cons c cs => simp [confs] at h

theorem reps_ints {C : Ctx} {ls : List LK} {cs : List PV} {us : List Value} : (∀ l ∈ ls, l = .int .i64) → confs ls cs = true → Reps C cs us → ∃ ns : List Int, ns.length = ls.length ∧ cs = ns.map (PV.int .i64) ∧ us = ns.map (Value.int .i64) := by
  intro hl hc hr
  induction ls generalizing cs us with
  | nil =>
    have := confs_nil hc
    subst this
    rw [Reps] at hr
    exact ⟨[], rfl, rfl, hr⟩
  | cons l ls ih =>
    obtain ⟨c, cs', rfl, h1, h2⟩ := confs_cons hc
    rw [Reps] at hr
    obtain ⟨u, ws, rfl, h3, h4⟩ := hr
    rw [hl l (List.mem_cons_self ..)] at h1
    obtain ⟨n, rfl⟩ := conf_int h1
    obtain ⟨ns, e1, rfl, rfl⟩ := ih (fun x hx => hl x (List.mem_cons_of_mem _ hx)) h2 h4
    have h3 : u = .int .i64 n := h3
    subst h3
    exact ⟨n :: ns, by simp [e1], rfl, rfl⟩

theorem run_part_int {P : Program} {t : Nat} {k : IntKind} (h : P.underlying t = some (.int k)) {us : Array Value} {off : Nat} {v : Value} (hv : us[off]? = some v) (w : World) : (part t us off).run P w = .ok v w := by
  have : (isAgg t).run P w = .ok false w := by
    unfold isAgg
    rw [Sem.run_bind, run_underlying h]
    rfl
  unfold part
  rw [Sem.run_bind, this]
  simp [hv]

theorem run_equalIn_int {P : Program} {t : Nat} {k : IntKind} (h : P.underlying t = some (.int k)) (d : Nat) (a b : Int) (w : World) : (Op.equalIn (d + 1) t (.int k a) (.int k b)).run P w = .ok (a == b) w := by
  unfold Op.equalIn
  rw [Sem.run_bind, run_underlying h]
  simp

theorem eqOk_two {P : Program} {t : Nat} {f1 f2 : Field} (hg : P.eqGuardType P.depth t = false) (hs : P.stoodInHeld t = false) (hu : P.underlying t = some (.struct #[f1, f2])) (n1 : f1.name ≠ "_") (n2 : f2.name ≠ "_") (o1 : f1.offset = 0) (o2 : f2.offset = 1)
    (k1 : P.underlying f1.type = some (.int .i64)) (k2 : P.underlying f2.type = some (.int .i64)) : EqOk P t [.int .i64, .int .i64] := by
  intro C xs ys us vs b x y w h1 h2 h3 h4 he
  obtain ⟨ns, e1, rfl, hu1⟩ := reps_ints (by simp) h1 h3
  obtain ⟨ms, e2, rfl, hv1⟩ := reps_ints (by simp) h2 h4
  have hu' : us = (ns.map (Value.int .i64)).toArray := by rw [← hu1]
  have hv' : vs = (ms.map (Value.int .i64)).toArray := by rw [← hv1]
  subst hu'; subst hv'
  match ns, ms, e1, e2 with
  | [a1, a2], [b1, b2], _, _ =>
    simp [eqCells, eqLeaf] at he
    subst he
    have hgd : ∀ op, (eqGuard op t x y (.agg #[.int .i64 a1, .int .i64 a2]) (.agg #[.int .i64 b1, .int .i64 b2])).run P w = .ok () w := fun op => by
      cases op <;> simp [eqGuard, hg]
    have heq : (Op.equal t (.agg #[.int .i64 a1, .int .i64 a2]) (.agg #[.int .i64 b1, .int .i64 b2])).run P w = .ok (decide (a1 = b1) && decide (a2 = b2)) w := by
      have e1 := fun d => run_equalIn_int k1 d a1 b1 w
      have e2 := fun d => run_equalIn_int k2 d a2 b2 w
      unfold Op.equal
      rw [show Op.maxDepth = (Op.maxDepth - 2) + 1 + 1 from rfl]
      rw [Op.equalIn]
      simp only [Sem.run_bind, run_underlying hu, Result.andThen_ok, run_program, hs, Bool.false_eq_true, if_false]
      have p1 := fun v1 v2 => run_part_int k1 (us := #[Value.int .i64 v1, .int .i64 v2]) (off := 0) (v := .int .i64 v1) rfl w
      have p2 := fun v1 v2 => run_part_int k2 (us := #[Value.int .i64 v1, .int .i64 v2]) (off := 1) (v := .int .i64 v2) rfl w
      simp only [← Array.forIn_toList, List.forIn_cons, List.forIn_nil, n1, n2, o1, o2, ne_eq, not_false_eq_true, if_true, Sem.run_bind, p1, p2, e1, Result.andThen_ok]
      by_cases q1 : a1 = b1
      · have q1' : (a1 == b1) = true := by simp [q1]
        by_cases q2 : a2 = b2
        · have q2' : (a2 == b2) = true := by simp [q2]
          simp [q1', q2', e2, p1, p2]
          simp [q1, q2]
        · have q2' : (a2 == b2) = false := by simp [q2]
          simp [q1', q2', e2, p1, p2]
          simp [q1, q2]
      · have q1' : (a1 == b1) = false := by simp [q1]
        simp [q1']
        simp [q1]
    constructor
    · simp [hgd, binOp, heq]
    · simp [hgd, binOp, heq]

end Go.Pev
