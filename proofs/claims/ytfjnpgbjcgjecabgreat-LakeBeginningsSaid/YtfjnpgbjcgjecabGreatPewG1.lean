/- EACH OPERATION OF THE MACHINE DOES WHAT THE EVALUATOR TELLS: numbers, fields, elements, stores. -/
/- EACH OPERATION OF THE MACHINE DOES WHAT THE EVALUATOR TELLS: stores, literals, closures, slices. -/
/- EACH OPERATION OF THE MACHINE DOES WHAT THE EVALUATOR TELLS: literals, closures, slices, lengths. -/
/- EACH OPERATION OF THE MACHINE DOES WHAT THE EVALUATOR TELLS: structs and rows that are made, closures, parts of rows. -/
/- EACH OPERATION OF THE MACHINE DOES WHAT THE EVALUATOR TELLS: closures, rows that are made, parts of rows. -/
/- EACH OPERATION OF THE MACHINE DOES WHAT THE EVALUATOR TELLS: append. -/
/- EACH OPERATION OF THE MACHINE DOES WHAT THE EVALUATOR TELLS: calls. -/
/- EVERY OPERATION OF THE MACHINE DOES WHAT THE EVALUATOR TELLS. -/
import Derived.Test.YtfjnpgbjcgjecabGreatPewG0
import Derived.Laws.Strings

namespace Go.Pew
set_option linter.unusedSimpArgs false
set_option linter.unusedVariables false
open Go.RowKit
set_option linter.unusedVariables false
set_option linter.unusedSimpArgs false

section
variable {P : Program} {E : Env} {call : Nat → List PV → Option PV} {base n : Nat} {w0 : Start} {g : Gh} {s : St} {a : Act} {w : World} {o : Oper} {e : Eff}

/-- '==' on a struct type, cell by cell. -/
def EqOk (P : Program) (t : Nat) (ls : List LK) : Prop :=
  ∀ (C : Ctx) (xs ys : List PV) (us vs : Array Value) (b : Bool) (x y : Operand) (w : World), confs ls xs = true → confs ls ys = true → Reps C xs us.toList → Reps C ys vs.toList → eqCells xs ys = some b →
    (do eqGuard .eql t x y (.agg us) (.agg vs); binOp .eql t (.agg us) (.agg vs) : Sem Value).run P w = .ok (.bool b) w ∧
    (do eqGuard .neq t x y (.agg us) (.agg vs); binOp .neq t (.agg us) (.agg vs) : Sem Value).run P w = .ok (.bool (!b)) w

theorem guardK_some {R : Type} {b : Bool} {x : Option R} {r : R} (h : guardK b x = some r) : b = true ∧ x = some r := by
  cases b
  · cases h
  · exact ⟨rfl, h⟩

theorem run_intOp {op : BinOp} {k : IntKind} {x y : Int} {p : PV} (h : intOp op k x y (fun v => some v) = some p) (t : Nat) (w : World) :
    ∃ v, (binOp op t (.int k x) (.int k y)).run P w = .ok v w ∧ ∀ C, Rep C p v := by
  cases op <;> simp only [intOp] at h
  case add => cases h; exact ⟨_, by simp [binOp, Op.intArith], fun _ => rfl⟩
  case sub => cases h; exact ⟨_, by simp [binOp, Op.intArith], fun _ => rfl⟩
  case mul => cases h; exact ⟨_, by simp [binOp, Op.intArith], fun _ => rfl⟩
  case quo => obtain ⟨h1, h2⟩ := guardK_some h; cases h2; simp at h1; exact ⟨_, by simp [binOp, Op.intDiv, h1], fun _ => rfl⟩
  case rem => obtain ⟨h1, h2⟩ := guardK_some h; cases h2; simp at h1; exact ⟨_, by simp [binOp, Op.intDiv, h1], fun _ => rfl⟩
  case eql => cases h; exact ⟨.bool (x == y), by simp [binOp, Op.intCmp], fun _ => rfl⟩
  case neq => cases h; exact ⟨.bool (x != y), by simp [binOp, Op.intCmp], fun _ => rfl⟩
  case lss => cases h; exact ⟨_, by simp [binOp, Op.intCmp], fun _ => rfl⟩
  case leq => cases h; exact ⟨_, by simp [binOp, Op.intCmp], fun _ => rfl⟩
  case gtr => cases h; exact ⟨_, by simp [binOp, Op.intCmp], fun _ => rfl⟩
  case geq => cases h; exact ⟨_, by simp [binOp, Op.intCmp], fun _ => rfl⟩
  case and => cases h; exact ⟨_, by simp [binOp, Op.intBits], fun _ => rfl⟩
  case or => cases h; exact ⟨_, by simp [binOp, Op.intBits], fun _ => rfl⟩
  case shl => obtain ⟨h1, h2⟩ := guardK_some h; cases h2; simp at h1; exact ⟨_, by simp [binOp, Op.shift, show ¬ y < 0 by omega], fun _ => rfl⟩
  case shr => obtain ⟨h1, h2⟩ := guardK_some h; cases h2; simp at h1; exact ⟨_, by simp [binOp, Op.shift, show ¬ y < 0 by omega], fun _ => rfl⟩
  all_goals cases h

theorem run_shift {op : BinOp} {k k' : IntKind} {x y : Int} {p : PV} (hop : op = .shl ∨ op = .shr) (h : intOp op k x y (fun v => some v) = some p) (t : Nat) (w : World) :
    ∃ v, (binOp op t (.int k x) (.int k' y)).run P w = .ok v w ∧ ∀ C, Rep C p v := by
  rcases hop with rfl | rfl
  · simp only [intOp] at h
    obtain ⟨h1, h2⟩ := guardK_some h; cases h2; simp at h1; exact ⟨_, by simp [binOp, Op.shift, show ¬ y < 0 by omega], fun _ => rfl⟩
  · simp only [intOp] at h
    obtain ⟨h1, h2⟩ := guardK_some h; cases h2; simp at h1; exact ⟨_, by simp [binOp, Op.shift, show ¬ y < 0 by omega], fun _ => rfl⟩

theorem run_eqGuard_plain (op : BinOp) (t : Nat) (x y : Operand) (u v : Value) (w : World) (hu : ∀ cs, u ≠ .agg cs) (hn : u ≠ .nilIface) : (eqGuard op t x y u v).run P w = .ok () w := by
  unfold eqGuard
  cases op <;> cases u <;> simp_all

theorem run_equalIn_bool (d : Nat) {t : Nat} (i j : Bool) (ht : P.underlying t = some .bool) (w : World) : (Op.equalIn (d + 1) t (.bool i) (.bool j)).run P w = .ok (i == j) w := by
  simp only [Op.equalIn, Sem.run_bind, Go.run_underlying ht w, Result.andThen_ok]
  rfl

theorem run_eql_bool {t : Nat} (i j : Bool) (ht : P.underlying t = some .bool) (w : World) : (binOp .eql t (.bool i) (.bool j)).run P w = .ok (.bool (i == j)) w := by
  have := run_equalIn_bool (P := P) 9999 i j ht w
  simp only [binOp, Op.equal, Op.maxDepth, Sem.run_bind]
  rw [this]; rfl
theorem run_neq_bool {t : Nat} (i j : Bool) (ht : P.underlying t = some .bool) (w : World) : (binOp .neq t (.bool i) (.bool j)).run P w = .ok (.bool (!(i == j))) w := by
  have := run_equalIn_bool (P := P) 9999 i j ht w
  simp only [binOp, Op.equal, Op.maxDepth, Sem.run_bind]
  rw [this]; rfl

theorem run_eql_str {t : Nat} (i j : ByteArray) (w : World) : (binOp .eql t (.string i) (.string j)).run P w = .ok (.bool (i.data.toList == j.data.toList)) w := by
  simp [binOp, Op.stringOp, ByteArray.toList_eq]
theorem run_neq_str {t : Nat} (i j : ByteArray) (w : World) : (binOp .neq t (.string i) (.string j)).run P w = .ok (.bool (!(i.data.toList == j.data.toList))) w := by
  simp [binOp, Op.stringOp, ByteArray.toList_eq]

theorem run_equalIn_nil (d : Nat) {t e : Nat} (q : Option Addr) (ht : P.underlying t = some (.pointer e)) (w : World) : (Op.equalIn (d + 1) t (.pointer q) (.pointer none)).run P w = .ok q.isNone w := by
  simp only [Op.equalIn, Sem.run_bind, Go.run_underlying ht w, Result.andThen_ok]
  cases q <;> rfl
theorem run_eql_nil {t e : Nat} (q : Option Addr) (ht : P.underlying t = some (.pointer e)) (w : World) : (binOp .eql t (.pointer q) (.pointer none)).run P w = .ok (.bool q.isNone) w := by
  have := run_equalIn_nil (P := P) 9999 q ht w
  simp only [binOp, Op.equal, Op.maxDepth, Sem.run_bind]
  rw [this]; rfl
theorem run_neq_nil {t e : Nat} (q : Option Addr) (ht : P.underlying t = some (.pointer e)) (w : World) : (binOp .neq t (.pointer q) (.pointer none)).run P w = .ok (.bool (!q.isNone)) w := by
  have := run_equalIn_nil (P := P) 9999 q ht w
  simp only [binOp, Op.equal, Op.maxDepth, Sem.run_bind]
  rw [this]; rfl

theorem isNil_rep {C : Ctx} {p : PV} {v : Value} {b : Bool} (h : isNil p = some b) (hr : Rep C p v) : ∃ q, v = .pointer q ∧ q.isNone = b := by
  cases p with
  | nilp => cases h; exact ⟨none, hr, rfl⟩
  | ptr d off => cases h; obtain ⟨B, _, rfl⟩ := hr; exact ⟨_, rfl, rfl⟩
  | rp cs off => cases h; obtain ⟨B, o, us, rfl, _⟩ := hr; exact ⟨_, rfl, rfl⟩
  | _ => cases h

theorem act_binOp (T : ∀ t ti, E.ty t = some ti → TyOk P t ti) (TE : ∀ t ti, E.eq t = true → E.ty t = some ti → EqOk P t ti.lk) (h : SimG base w0 n g s a w) {op : BinOp} {t yt : Nat} {x y : Operand} (ho : o.op = .binOp op t x y yt) (ha : actBinOp E call s op t x y some = some e) :
    Good P o a w (Sim base w0 n (upd s o.dst e)) := by
  have hx := operand_rep h x
  have hy := operand_rep h y
  have key : ∃ p v, e = .val p ∧ (execOp a.eval o).run P w = .ok (.value v) w ∧ Rep (ctx s w g) p v := by
    unfold actBinOp binK at ha
    have run_of : ∀ {v : Value}, (eqGuard op t x y (a.eval x) (a.eval y)).run P w = .ok () w → (binOp op t (a.eval x) (a.eval y)).run P w = .ok v w → (execOp a.eval o).run P w = .ok (.value v) w := fun h1 h2 => by
      simp [execOp, ho, h1, h2]
    split at ha
    · rename_i k i k' j h1 h2
      rw [h1] at hx; rw [h2] at hy
      have hx : a.eval x = .int k i := hx
      have hy : a.eval y = .int k' j := hy
      have hg : (eqGuard op t x y (a.eval x) (a.eval y)).run P w = .ok () w := run_eqGuard_plain _ _ _ _ _ _ _ (by rw [hx]; simp) (by rw [hx]; simp)
      have fin : ∀ {op' : BinOp} {q : IntKind}, op' = op → (∃ p, intOp op' k i j (fun v => some v) = some p ∧ e = .val p ∧ ∃ v, (binOp op t (a.eval x) (a.eval y)).run P w = .ok v w ∧ ∀ C, Rep C p v) →
          ∃ p v, e = .val p ∧ (execOp a.eval o).run P w = .ok (.value v) w ∧ Rep (ctx s w g) p v := by
        rintro _ _ _ ⟨p, _, he, v, hv, hr⟩
        exact ⟨p, v, he, run_of hg hv, hr _⟩
      have nat : ∀ {op' : BinOp}, intOp op' k i j (fun v => some (Eff.val v)) = some e → ∃ p, intOp op' k i j (fun v => some v) = some p ∧ e = .val p := by
        intro op' hh
        have : intOp op' k i j (fun v => some (Eff.val v)) = (intOp op' k i j (fun v => some v)).bind fun v => some (Eff.val v) := by rw [intOp_nat]; rfl
        rw [this] at hh
        obtain ⟨p, hp, he⟩ := Option.bind_eq_some_iff.1 hh
        cases he
        exact ⟨p, hp, rfl⟩
      split at ha
      · obtain ⟨p, hp, he⟩ := nat ha
        obtain ⟨v, hv, hr⟩ := run_shift (P := P) (k' := k') (.inl rfl) hp t w
        exact ⟨p, v, he, run_of hg (by rw [hx, hy]; exact hv), hr _⟩
      · obtain ⟨p, hp, he⟩ := nat ha
        obtain ⟨v, hv, hr⟩ := run_shift (P := P) (k' := k') (.inr rfl) hp t w
        exact ⟨p, v, he, run_of hg (by rw [hx, hy]; exact hv), hr _⟩
      · split at ha
        · rename_i hk
          subst hk
          obtain ⟨p, hp, he⟩ := nat ha
          obtain ⟨v, hv, hr⟩ := run_intOp (P := P) hp t w
          exact ⟨p, v, he, run_of hg (by rw [hx, hy]; exact hv), hr _⟩
        · cases ha
    · rename_i i j h1 h2
      rw [h1] at hx; rw [h2] at hy
      have hx : a.eval x = .bool i := hx
      have hy : a.eval y = .bool j := hy
      have hg : (eqGuard op t x y (a.eval x) (a.eval y)).run P w = .ok () w := run_eqGuard_plain _ _ _ _ _ _ _ (by rw [hx]; simp) (by rw [hx]; simp)
      split at ha
      · rename_i ti hti
        have ht := (T t ti hti).und
        split at ha
        · rename_i hd
          cases ha
          rw [hd] at ht
          exact ⟨_, .bool (i == j), rfl, run_of hg (by rw [hx, hy]; exact run_eql_bool i j ht w), rfl⟩
        · rename_i hd
          cases ha
          rw [hd] at ht
          exact ⟨_, .bool (!(i == j)), rfl, run_of hg (by rw [hx, hy]; exact run_neq_bool i j ht w), rfl⟩
        · cases ha
      · cases ha
    · rename_i i j h1 h2
      rw [h1] at hx; rw [h2] at hy
      have hx : a.eval x = .string i := hx
      have hy : a.eval y = .string j := hy
      have hg : (eqGuard op t x y (a.eval x) (a.eval y)).run P w = .ok () w := run_eqGuard_plain _ _ _ _ _ _ _ (by rw [hx]; simp) (by rw [hx]; simp)
      split at ha
      · cases ha
        exact ⟨_, .bool (i.data.toList == j.data.toList), rfl, run_of hg (by rw [hx, hy]; exact run_eql_str i j w), rfl⟩
      · cases ha
        exact ⟨_, .bool (!(i.data.toList == j.data.toList)), rfl, run_of hg (by rw [hx, hy]; exact run_neq_str i j w), rfl⟩
      · cases ha
    · rename_i xs ys h1 h2
      rw [h1] at hx; rw [h2] at hy
      obtain ⟨us, hx, hxr⟩ := hx
      obtain ⟨vs, hy, hyr⟩ := hy
      split at ha
      · rename_i ti hti
        obtain ⟨heq, ha1⟩ := guardK_some ha
        obtain ⟨hc1, ha2⟩ := guardK_some ha1
        obtain ⟨hc2, ha3⟩ := guardK_some ha2
        clear ha ha1 ha2
        have ha := ha3
        clear ha3
        split at ha
        · rename_i b hb
          cases ha
          have := (TE t ti heq hti _ xs ys us vs b x y w hc1 hc2 hxr hyr hb).1
          exact ⟨_, .bool b, rfl, by simp only [execOp, ho, hx, hy]; rw [Sem.run_bind, this]; rfl, rfl⟩
        · rename_i b hb
          cases ha
          have := (TE t ti heq hti _ xs ys us vs b x y w hc1 hc2 hxr hyr hb).2
          exact ⟨_, .bool (!b), rfl, by simp only [execOp, ho, hx, hy]; rw [Sem.run_bind, this]; rfl, rfl⟩
        · cases ha
      · cases ha
    · rename_i h2
      rw [h2] at hy
      have hy : a.eval y = .pointer none := hy
      split at ha
      · rename_i ti hti
        have ht := (T t ti hti).und
        split at ha
        · rename_i el b hd hn
          cases ha
          rw [hd] at ht
          obtain ⟨q, hq, rfl⟩ := isNil_rep hn hx
          have hg : (eqGuard .eql t x y (a.eval x) (a.eval y)).run P w = .ok () w := run_eqGuard_plain _ _ _ _ _ _ _ (by rw [hq]; simp) (by rw [hq]; simp)
          exact ⟨_, .bool q.isNone, rfl, run_of hg (by rw [hq, hy]; exact run_eql_nil q ht w), rfl⟩
        · rename_i el b hd hn
          cases ha
          rw [hd] at ht
          obtain ⟨q, hq, rfl⟩ := isNil_rep hn hx
          have hg : (eqGuard .neq t x y (a.eval x) (a.eval y)).run P w = .ok () w := run_eqGuard_plain _ _ _ _ _ _ _ (by rw [hq]; simp) (by rw [hq]; simp)
          exact ⟨_, .bool (!q.isNone), rfl, run_of hg (by rw [hq, hy]; exact run_neq_nil q ht w), rfl⟩
        · cases ha
      · cases ha
    · cases ha
  obtain ⟨p, v, rfl, h1, h2⟩ := key
  exact good_val h h1 h2

theorem act_unOp (h : SimG base w0 n g s a w) {op : UnOp} {t : Nat} {x : Operand} (ho : o.op = .unOp op t x) (ha : actUnOp E call s op x some = some e) : Good P o a w (Sim base w0 n (upd s o.dst e)) := by
  have hx := operand_rep h x
  unfold actUnOp unK at ha
  split at ha
  · rename_i k i hi
    rw [hi] at hx
    have hx : a.eval x = .int k i := hx
    cases ha
    exact good_val h (v := .int k (k.wrap (0 - i))) (by simp [execOp, ho, hx, Op.unary, Op.intArith]) rfl
  · rename_i b hb
    rw [hb] at hx
    have hx : a.eval x = .bool b := hx
    cases ha
    exact good_val h (v := .bool (!b)) (by simp [execOp, ho, hx, Op.unary]) rfl
  · cases ha

theorem act_extract (h : SimG base w0 n g s a w) {x : Operand} {i : Nat} (ho : o.op = .extract x i) (ha : actExtract E call s x i some = some e) : Good P o a w (Sim base w0 n (upd s o.dst e)) := by
  have hx := operand_rep h x
  unfold actExtract at ha
  split at ha
  · rename_i vs hv
    rw [hv] at hx
    obtain ⟨us, hx, hr⟩ := hx
    split at ha
    · rename_i hi
      cases ha
      have hl := hr.length
      have hlt : i < us.size := by simp at hl; omega
      have hget : us.toList[i]? = some us[i] := by simp [hlt]
      exact good_val h (v := us[i]) (by simp [execOp, ho, hx, Instr.extract, hlt]) (hr.get i _ hget)
    · cases ha
  · cases ha

theorem act_nilCheck (h : SimG base w0 n g s a w) {x : Operand} (ho : o.op = .nilCheck x) (ha : actNilCheck E call s x some = some e) : Good P o a w (Sim base w0 n (upd s o.dst e)) := by
  have hx := operand_rep h x
  unfold actNilCheck at ha
  split at ha
  · rename_i d off hv
    rw [hv] at hx
    have hx0 := hx
    obtain ⟨B, _, hx⟩ := hx
    cases ha
    exact good_val h (v := a.eval x) (by simp [execOp, ho, hx]) hx0
  · rename_i cs off hv
    rw [hv] at hx
    have hx0 := hx
    obtain ⟨B, q, us, hx, _⟩ := hx
    cases ha
    exact good_val h (v := a.eval x) (by simp [execOp, ho, hx]) hx0
  · cases ha

theorem act_fieldAddr (T : ∀ t ti, E.ty t = some ti → TyOk P t ti) (h : SimG base w0 n g s a w) {t f : Nat} {x : Operand} (ho : o.op = .fieldAddr t x f) (ha : actFieldAddr E call s t x f some = some e) : Good P o a w (Sim base w0 n (upd s o.dst e)) := by
  have hx := operand_rep h x
  unfold actFieldAddr at ha
  split at ha
  · cases ha
  · rename_i ti hti
    have ht := T t ti hti
    split at ha
    · cases ha
    · rename_i off tf hf
      unfold fieldOff at hf
      split at hf
      · rename_i fs hfs
        obtain ⟨fd, hfd, hq⟩ := Option.map_eq_some_iff.1 hf
        simp only [Prod.mk.injEq] at hq
        obtain ⟨rfl, rfl⟩ := hq
        split at ha
        · cases ha
        · rename_i tif htif
          have htf := T _ tif htif
          split at ha
          · cases ha
          · rename_i hnz
            have hrun : ∀ {B q : Nat}, a.eval x = .pointer (some ⟨B, q, none⟩) → (execOp a.eval o).run P w = .ok (.value (.pointer (some ⟨B, q + fd.offset, none⟩))) w := by
              intro B q hq
              have hu := ht.run_und w
              rw [hfs] at hu
              simp [execOp, ho, hq, Instr.fieldAt, hu, hfd, Instr.sureAddr, fieldPlace, htf.run_sizeOf w, hnz, addr_add]
            split at ha
            · rename_i d q hd
              rw [hd] at hx
              obtain ⟨B, hB, hv⟩ := hx
              cases ha
              exact good_val h (hrun hv) ⟨B, hB, rfl⟩
            · rename_i cs q hd
              rw [hd] at hx
              obtain ⟨B, m, us, hv, hr, hc⟩ := hx
              cases ha
              exact good_val h (hrun hv) ⟨B, m, us, by rw [Nat.add_assoc], hr, hc⟩
            · rename_i d i q hd
              rw [hd] at hx
              obtain ⟨B, hB, hv, hi⟩ := hx
              cases ha
              exact good_val h (hrun hv) ⟨B, hB, by rw [Nat.add_assoc], hi⟩
            · cases ha
      · cases hf

theorem act_field (T : ∀ t ti, E.ty t = some ti → TyOk P t ti) (h : SimG base w0 n g s a w) {t f : Nat} {x : Operand} (ho : o.op = .field t x f) (ha : actField E call s t x f some = some e) : Good P o a w (Sim base w0 n (upd s o.dst e)) := by
  have hx := operand_rep h x
  unfold actField at ha
  split at ha
  · cases ha
  · rename_i ti hti
    have ht := T t ti hti
    split at ha
    · cases ha
    · rename_i off tf hf
      unfold fieldOff at hf
      split at hf
      · rename_i fs hfs
        obtain ⟨fd, hfd, hq⟩ := Option.map_eq_some_iff.1 hf
        simp only [Prod.mk.injEq] at hq
        obtain ⟨rfl, rfl⟩ := hq
        split at ha
        · rename_i tif cs htif hd
          have htf := T _ tif htif
          rw [hd] at hx
          obtain ⟨us, hv, hr⟩ := hx
          split at ha
          · rename_i hft
            cases ha
            have hu := ht.run_und w
            rw [hfs] at hu
            exact good_val h (v := partVal tif us.toList fd.offset) (by simp [execOp, ho, hv, Instr.field, hu, hfd, asAgg, htf.run_part (partFits_us hr hft)]) (Rep.part hr hft)
          · cases ha
        · cases ha
      · cases hf

theorem indexK_some {R : Type} {p : PV} {m : Nat} {κ : Nat → Option R} {r : R} (h : indexK p m κ = some r) : ∃ k i, p = .int k i ∧ 0 ≤ i ∧ i < m ∧ κ i.toNat = some r := by
  unfold indexK at h
  split at h
  · rename_i k i
    obtain ⟨h1, h⟩ := guardK_some h
    obtain ⟨h2, h⟩ := guardK_some h
    exact ⟨k, i, rfl, of_decide_eq_true h1, of_decide_eq_true h2, h⟩
  · cases h

theorem act_indexAddr (T : ∀ t ti, E.ty t = some ti → TyOk P t ti) (h : SimG base w0 n g s a w) {t : Nat} {x i : Operand} (ho : o.op = .indexAddr t x i) (ha : actIndexAddr E call s t x i some = some e) : Good P o a w (Sim base w0 n (upd s o.dst e)) := by
  have hx := operand_rep h x
  have hi := operand_rep h i
  unfold actIndexAddr at ha
  split at ha
  · cases ha
  · rename_i ti hti
    have ht := T t ti hti
    have hu := ht.run_und w
    split at ha
    · rename_i el tag ls xs hd hxd
      rw [hxd] at hx
      obtain ⟨A, cap, rows, hv, hcap, hrr, hrl, hmem, hcf, _⟩ := hx
      split at ha
      · rename_i te hte
        have hTe := T el te hte
        split at ha
        · rename_i hsz
          obtain ⟨k, j, hj, h0, hlt, ha⟩ := indexK_some ha
          cases ha
          rw [hj] at hi
          have hi : a.eval i = .int k j := hi
          rw [hd] at hu
          have hjr : j.toNat < rows.length := by rw [hrr.length]; omega
          rcases hmem with rfl | ⟨B, q, rfl, hrd⟩
          · simp at hjr
          · have hjr' : j < (rows.length : Int) := by omega
            refine good_val h (v := .pointer (some ⟨B, q + j.toNat * te.size, none⟩)) (by simp [execOp, ho, hv, hi, Instr.indexAt, asIntOf, hu, h0, hjr', hTe.run_sizeOf w, addr_add]) ?_
            have hget : rows[j.toNat]? = some rows[j.toNat] := by simp [hjr]
            have hcj : confs ls (nths xs j.toNat) = true := by
              have hix : j.toNat < xs.length := by rw [← hrr.length]; exact hjr
              have : nths xs j.toNat = xs[j.toNat] := by simp [nths, hix]
              rw [this]
              exact hcf _ (List.getElem_mem _)
            refine ⟨B, q + j.toNat * te.size, rows[j.toNat], rfl, Reps.etas hcj (hrr.get _ _ hget), fun m u hm => ?_⟩
            have hml : m < ls.length := by
              have := (List.getElem?_eq_some_iff.1 hm).1
              rw [hrl _ (List.getElem_mem _)] at this
              exact this
            have := hrd _ _ (flatten_get hrl hjr hml hm)
            rw [hsz, Nat.add_assoc]
            exact this
        · cases ha
      · cases ha
    · rename_i el d hd hxd
      rw [hxd] at hx
      obtain ⟨B, hB, hv⟩ := hx
      split at ha
      · rename_i te ls xs fz hte hb
        have hTe := T el te hte
        split at ha
        · rename_i hsz
          obtain ⟨k, j, hj, h0, hlt, ha⟩ := indexK_some ha
          cases ha
          rw [hj] at hi
          have hi : a.eval i = .int k j := hi
          rw [hd] at hu
          have hrl : (ctx s w g).rl d = xs.length := by show rowLen (s.box d) = _; rw [hb]; rfl
          have hrs : (ctx s w g).rs d = ls.length := by show rowSize (s.box d) = _; rw [hb]; rfl
          rw [hrl] at hv
          refine good_load h (v := .pointer (some ⟨B, 0 + j.toNat * te.size, none⟩)) (by simp [execOp, ho, hv, hi, Instr.indexAt, asIntOf, hu, h0, hlt, hTe.run_sizeOf w, addr_add]) ?_
          exact ⟨B, hB, by rw [hrs, hsz, Nat.zero_add, Nat.add_zero], by rw [hrl]; omega⟩
        · cases ha
      · cases ha
    · rename_i m el d off hd hxd
      rw [hxd] at hx
      obtain ⟨B, hB, hv⟩ := hx
      split at ha
      · rename_i te hte
        have hTe := T el te hte
        obtain ⟨k, j, hj, h0, hlt, ha⟩ := indexK_some ha
        cases ha
        rw [hj] at hi
        have hi : a.eval i = .int k j := hi
        rw [hd] at hu
        exact good_val h (v := .pointer (some ⟨B, off + j.toNat * te.size, none⟩)) (by simp [execOp, ho, hv, hi, Instr.indexAt, asIntOf, hu, h0, hlt, Instr.sureAddr, hTe.run_sizeOf w, addr_add]) ⟨B, hB, rfl⟩
      · cases ha
    · rename_i m el cs off hd hxd
      rw [hxd] at hx
      obtain ⟨B, q, us, hv, hr, hc⟩ := hx
      split at ha
      · rename_i te hte
        have hTe := T el te hte
        obtain ⟨k, j, hj, h0, hlt, ha⟩ := indexK_some ha
        cases ha
        rw [hj] at hi
        have hi : a.eval i = .int k j := hi
        rw [hd] at hu
        exact good_val h (v := .pointer (some ⟨B, q + off + j.toNat * te.size, none⟩)) (by simp [execOp, ho, hv, hi, Instr.indexAt, asIntOf, hu, h0, hlt, Instr.sureAddr, hTe.run_sizeOf w, addr_add]) ⟨B, q, us, by rw [Nat.add_assoc], hr, hc⟩
      · cases ha
    · cases ha

theorem act_index (T : ∀ t ti, E.ty t = some ti → TyOk P t ti) (h : SimG base w0 n g s a w) {t : Nat} {x i : Operand} (ho : o.op = .index t x i) (ha : actIndex E call s t x i some = some e) : Good P o a w (Sim base w0 n (upd s o.dst e)) := by
  have hx := operand_rep h x
  have hi := operand_rep h i
  unfold actIndex at ha
  split at ha
  · cases ha
  · rename_i ti hti
    have ht := T t ti hti
    have hu := ht.run_und w
    split at ha
    · rename_i m el cs hd hxd
      rw [hxd] at hx
      obtain ⟨us, hv, hr⟩ := hx
      split at ha
      · rename_i te hte
        have hTe := T el te hte
        obtain ⟨k, j, hj, h0, hlt, ha⟩ := indexK_some ha
        split at ha
        · rename_i hft
          cases ha
          rw [hj] at hi
          have hi : a.eval i = .int k j := hi
          rw [hd] at hu
          exact good_val h (v := partVal te us.toList (j.toNat * te.size)) (by simp [execOp, ho, hv, hi, Instr.index, asIntOf, hu, h0, hlt, hTe.run_sizeOf w, hTe.run_part (partFits_us hr hft)]) (Rep.part hr hft)
        · cases ha
      · cases ha
    · rename_i b hd hxd
      rw [hxd] at hx
      have hx : a.eval x = .string b := hx
      obtain ⟨k, j, hj, h0, hlt, ha⟩ := indexK_some ha
      cases ha
      rw [hj] at hi
      have hi : a.eval i = .int k j := hi
      rw [hd] at hu
      have hjb : j.toNat < b.size := by omega
      have hb : b[j.toNat]? = some (b.data.toList.getD j.toNat 0) := by
        rw [getElem?_pos b j.toNat hjb]
        congr 1
        have hjd : j.toNat < b.data.size := hjb
        have hq : b[j.toNat] = b.data[j.toNat]'hjd := rfl
        have hl : b.data.toList[j.toNat]? = some b.data[j.toNat] := by rw [Array.getElem?_toList, Array.getElem?_eq_getElem hjd]
        rw [hq, List.getD_eq_getElem?_getD, hl]
        rfl
      exact good_val h (v := .int .u8 ((b.data.toList.getD j.toNat 0).toNat : Int)) (by simp [execOp, ho, hx, hi, Instr.index, asIntOf, hu, h0, hb]) rfl
    · cases ha

end
end Go.Pew

namespace Go.Pew
set_option linter.unusedSimpArgs false
set_option linter.unusedVariables false
open Go.RowKit
set_option linter.unusedVariables false
set_option linter.unusedSimpArgs false

section
variable {P : Program} {E : Env} {call : Nat → List PV → Option PV} {base n : Nat} {w0 : Start} {g : Gh} {s : St} {a : Act} {w : World} {o : Oper} {e : Eff}

theorem setRow_same (w : World) (B : Nat) (us : Array Value) (T : TypeId) (hh : w.heap[B]? = some (.cells us T (0, 0))) : w.setRow B us = w := setRow_self' w B us T hh
where
  setRow_self' (w : World) (B : Nat) (us : Array Value) (T : TypeId) (hh : w.heap[B]? = some (.cells us T (0, 0))) : w.setRow B us = w := by
    have : (w.setRow B us).heap = w.heap := by
      apply Array.ext_getElem?
      intro k
      by_cases hk : k = B
      · subst hk; rw [setRow_heap w k us us T (0, 0) hh, hh]
      · rw [setRow_other w B k us hk]
    cases w
    simp only [World.setRow] at this ⊢
    rw [this]

theorem run_storeCells (B off : Nat) (T : TypeId) : ∀ (vs : List Value) (i : Nat) (cur : Array Value) (w : World), w.heap[B]? = some (.cells cur T (0, 0)) → off + i + vs.length ≤ cur.size → (∀ v ∈ vs, v.oneCell' = true) →
    (storeCells ⟨B, off, none⟩ vs i).run P w = .ok () (w.setRow B (cur.toList.take (off + i) ++ vs ++ cur.toList.drop (off + i + vs.length)).toArray)
  | [], i, cur, w, hh, hl, h1 => by
    have : (cur.toList.take (off + i) ++ [] ++ cur.toList.drop (off + i + 0)).toArray = cur := by simp
    simp only [List.length_nil]
    rw [this, setRow_same w B cur T hh]
    rfl
  | v :: rest, i, cur, w, hh, hl, h1 => by
    simp only [List.length_cons] at hl
    have hi : off + i < cur.size := by omega
    have hcell : w.cell? ⟨B, off + i, none⟩ = some cur[off + i] := by simp [World.cell?, hh, hi]
    have hfro : w.frozen? ⟨B, off + i, none⟩ = false := by simp [World.frozen?, hh]
    have hst : (store ((⟨B, off, none⟩ : Addr).add i) v).run P w = .ok () (w.setRow B (cur.setIfInBounds (off + i) v)) := by
      rw [addr_add, run_store P w _ v _ (h1 v (by simp)), hcell]
      simp [hfro, setCell_eq_setRow w B (off + i) cur T (0, 0) v hh]
    have ih := run_storeCells B off T rest (i + 1) (cur.setIfInBounds (off + i) v) (w.setRow B (cur.setIfInBounds (off + i) v)) (setRow_heap w B cur _ T _ hh) (by simp; omega) (fun x hx => h1 x (by simp [hx]))
    simp only [storeCells, Sem.run_bind, hst, Result.andThen_ok, ih, setRow_setRow]
    congr 2
    have e1 : (cur.setIfInBounds (off + i) v).toList = cur.toList.set (off + i) v := by simp
    rw [e1]
    have hl' : off + i < cur.toList.length := by simpa using hi
    rw [← Nat.add_assoc, List.take_set, List.drop_set, if_pos (by omega)]
    have : (cur.toList.take (off + i + 1)).set (off + i) v = cur.toList.take (off + i) ++ [v] := by
      rw [List.take_succ_eq_append_getElem hl', List.set_append, if_neg (by simp; omega)]
      simp [List.length_take, Nat.min_eq_left (Nat.le_of_lt hi)]
    rw [this]
    simp [Nat.add_assoc, Nat.add_comm 1]

theorem TyOk.run_storeVar {t : Nat} {ti : TI} (ht : TyOk P t ti) {w : World} {B off : Nat} {T : TypeId} {cur : Array Value} {v : Value} (hh : w.heap[B]? = some (.cells cur T (0, 0))) (hsz : v.cells.size = ti.size)
    (hl : off + ti.size ≤ cur.size) (h1 : ∀ u ∈ v.cells.toList, u.oneCell' = true) :
    (storeVar t ⟨B, off, none⟩ v).run P w = .ok () (w.setRow B (cur.toList.take off ++ v.cells.toList ++ cur.toList.drop (off + v.cells.toList.length)).toArray) := by
  have := run_storeCells (P := P) B off T v.cells.toList 0 cur w hh (by simp; omega) h1
  simp only [Nat.add_zero] at this
  simp [storeVar, ht.run_sizeOf w, hsz]
  simpa [hsz] using this

theorem leaf_oneCell {C : Ctx} {p : PV} {v : Value} (hl : leaf p = true) (hp : Rep C p v) : v.oneCell' = true := by
  cases p with
  | undef => simp [leaf] at hl
  | agg cs => simp [leaf] at hl
  | tup cs => simp [leaf] at hl
  | bool b => have hp : v = .bool b := hp; subst hp; rfl
  | int k m => have hp : v = .int k m := hp; subst hp; rfl
  | str b => have hp : v = .string b := hp; subst hp; rfl
  | nilp => have hp : v = .pointer none := hp; subst hp; rfl
  | ptr d off => obtain ⟨B, _, rfl⟩ := hp; rfl
  | rp cs off => obtain ⟨B, m, us, rfl, _⟩ := hp; rfl
  | sl tag ls xs => obtain ⟨A, cap, rows, rfl, _⟩ := hp; rfl
  | row d => obtain ⟨B, _, rfl⟩ := hp; rfl
  | rowp d i off => obtain ⟨B, _, rfl, _⟩ := hp; rfl
  | fn f caps => obtain ⟨us, rfl, _⟩ := hp; rfl
  | yld => obtain ⟨l, _, rfl⟩ := hp; rfl

theorem leafs_oneCell {C : Ctx} : ∀ {ps : List PV} {us : List Value}, ps.all leaf = true → Reps C ps us → ∀ u ∈ us, u.oneCell' = true
  | [], us, h, hr, u, hu => by rw [Reps] at hr; subst hr; cases hu
  | p :: ps, us, h, hr, u, hu => by
    simp only [List.all_cons, Bool.and_eq_true] at h
    rw [Reps] at hr
    obtain ⟨v, ws, rfl, h1, h2⟩ := hr
    rcases List.mem_cons.1 hu with rfl | hu
    · exact leaf_oneCell h.1 h1
    · exact leafs_oneCell h.2 h2 u hu

theorem leaf_ne {p : PV} (h : (asA p).all leaf = true) : p ≠ .undef := by
  rintro rfl
  simp [asA, leaf] at h

theorem SimG.skip {g : Gh} (h : SimG base w0 n g s a w) (dst : Option Nat) : SimG base w0 n g { s with slots := putD s.slots dst (.tup []) } (a.put dst undef) w := h.val (rep_undef _) dst

theorem conf_strip {l : LK} {p : PV} (h : conf l p = true) : strip p = p := by
  cases l <;> cases p <;> simp_all [conf, Pew.strip]

theorem RepRows.set {C : Ctx} {ps : List (List PV)} {us : List (List Value)} (h : RepRows C ps us) {p : List PV} {u : List Value} (hp : Reps C p u) (i : Nat) : RepRows C (ps.set i p) (us.set i u) := by
  refine RepRows.of_get (by simp [h.length]) fun j v hv => ?_
  simp only [List.getElem?_set] at hv
  split at hv
  · rename_i e
    subst e
    split at hv
    · rename_i hl
      simp at hv; subst hv
      simpa [nths, List.getD_eq_getElem?_getD, h.length ▸ hl] using hp
    · cases hv
  · rename_i e
    have := h.get j v hv
    simpa [nths, List.getD_eq_getElem?_getD, List.getElem?_set_ne e] using this

theorem flatten_set {rws : List (List Value)} {m i : Nat} {r : List Value} (h : ∀ r ∈ rws, r.length = m) (hi : i < rws.length) (hr : r.length = m) :
    (rws.set i r).flatten = rws.flatten.take (i * m) ++ r ++ rws.flatten.drop (i * m + m) := by
  induction rws generalizing i with
  | nil => simp at hi
  | cons q rs ih =>
    have hq := h q (List.mem_cons_self ..)
    cases i with
    | zero => simp [hq]
    | succ i =>
      have := ih (fun r hr => h r (List.mem_cons_of_mem _ hr)) (i := i) (by simpa using hi)
      simp only [List.set_cons_succ, List.flatten_cons, this]
      have e1 : (i + 1) * m = q.length + i * m := by rw [Nat.succ_mul, hq, Nat.add_comm]
      rw [e1, List.take_length_add_append, Nat.add_assoc, List.drop_length_add_append]
      simp

theorem confs_get : ∀ {ls : List LK} {cs : List PV}, cs.length = ls.length → (∀ i, i < ls.length → conf (ls.getD i .any) (nth cs i) = true) → confs ls cs = true
  | [], [], _, _ => rfl
  | [], _ :: _, h, _ => by simp at h
  | _ :: _, [], h, _ => by simp at h
  | l :: ls, c :: cs, h, g => by
    simp only [confs, Bool.and_eq_true]
    refine ⟨by simpa [nth] using g 0 (by simp), confs_get (by simpa using h) fun i hi => ?_⟩
    simpa [nth] using g (i + 1) (by simp; omega)

theorem confs_at : ∀ {ls : List LK} {cs : List PV}, confs ls cs = true → ∀ i, i < ls.length → conf (ls.getD i .any) (nth cs i) = true
  | [], [], _, i, h => by simp at h
  | [], _ :: _, h, _, _ => by simp [confs] at h
  | _ :: _, [], h, _, _ => by simp [confs] at h
  | l :: ls, c :: cs, h, i, hi => by
    simp only [confs, Bool.and_eq_true] at h
    cases i with
    | zero => simpa [nth] using h.1
    | succ i => simpa [nth] using confs_at h.2 i (by simpa using hi)

theorem nth_over : ∀ (vs cs : List PV) (off i : Nat), off + vs.length ≤ cs.length → nth (over cs off vs) i = if off ≤ i ∧ i < off + vs.length then nth vs (i - off) else nth cs i
  | [], cs, off, i, h => by
    rw [if_neg (by simp only [List.length_nil]; omega)]
    rfl
  | v :: vs, cs, off, i, h => by
    simp only [List.length_cons] at h
    show nth (over (cs.set off v) (off + 1) vs) i = _
    rw [nth_over vs (cs.set off v) (off + 1) i (by rw [List.length_set]; omega)]
    simp only [List.length_cons]
    by_cases h1 : off + 1 ≤ i ∧ i < off + 1 + vs.length
    · rw [if_pos h1, if_pos (by omega)]
      have : i - off = (i - (off + 1)) + 1 := by omega
      rw [this]
      simp [nth]
    · rw [if_neg h1]
      by_cases h2 : i = off
      · subst h2
        rw [if_pos (by omega)]
        have hlt : i < cs.length := by omega
        simp [nth, List.getD_eq_getElem?_getD, hlt]
      · rw [if_neg (by omega)]
        simp [nth, List.getD_eq_getElem?_getD, List.getElem?_set_ne (Ne.symm h2)]

theorem confs_over {ls : List LK} {cs vs : List PV} {off m : Nat} (hc : confs ls cs = true) (hv : confs ((ls.drop off).take m) vs = true) (hl : off + m ≤ ls.length) : confs ls (over cs off vs) = true := by
  have h1 := confs_length hc
  have h2 := confs_length hv
  simp only [List.length_take, List.length_drop] at h2
  have h2 : vs.length = m := by omega
  refine confs_get (by rw [over_length]; exact h1) fun i hi => ?_
  rw [nth_over vs cs off i (by omega)]
  split
  · rename_i hq
    have := confs_at hv (i - off) (by simp; omega)
    have e : ((ls.drop off).take m).getD (i - off) LK.any = ls.getD i LK.any := by
      simp only [List.getD_eq_getElem?_getD, List.getElem?_take, List.getElem?_drop]
      rw [if_pos (by omega), show off + (i - off) = i by omega]
    rw [e] at this
    exact this
  · exact confs_at hc i hi

theorem take_drop_mid {α : Type} (L v : List α) {p m off : Nat} (h1 : off + v.length ≤ m) (h2 : p + m ≤ L.length) :
    L.take (p + off) ++ v ++ L.drop (p + off + v.length) = L.take p ++ (((L.drop p).take m).take off ++ v ++ ((L.drop p).take m).drop (off + v.length)) ++ L.drop (p + m) := by
  have e1 : L.take (p + off) = L.take p ++ (L.drop p).take off := by rw [List.take_add]
  have e2 : ((L.drop p).take m).take off = (L.drop p).take off := by rw [List.take_take]; congr 1; omega
  have e3 : ((L.drop p).take m).drop (off + v.length) ++ L.drop (p + m) = L.drop (p + off + v.length) := by
    have hx : L.drop (p + m) = (L.drop p).drop m := by rw [List.drop_drop]
    have hy : L.drop (p + off + v.length) = (L.drop p).drop (off + v.length) := by rw [List.drop_drop, Nat.add_assoc]
    rw [hx, hy]
    generalize L.drop p = X
    have : X.drop (off + v.length) = (X.take m ++ X.drop m).drop (off + v.length) := by rw [List.take_append_drop]
    rw [this, List.drop_append]
    by_cases hm : off + v.length ≤ (X.take m).length
    · rw [Nat.sub_eq_zero_of_le hm, List.drop_zero]
    · have hlen : X.length < m ∨ m ≤ X.length := by omega
      rcases hlen with hlen | hlen
      · have : X.drop m = [] := List.drop_eq_nil_of_le (Nat.le_of_lt hlen)
        rw [this]; simp
      · simp [List.length_take] at hm; omega
  rw [e1, e2, ← e3]
  simp

theorem act_store (T : ∀ t ti, E.ty t = some ti → TyOk P t ti) (h : SimG base w0 n g s a w) {t : Nat} {x y : Operand} (ho : o.op = .store t x y) (ha : actStore E call s t x y some = some e) :
    Good P o a w (Sim base w0 n (upd s o.dst e)) := by
  have hx := operand_rep h x
  have hy := operand_rep h y
  unfold actStore at ha
  split at ha
  · cases ha
  · rename_i ti hti
    have ht := T t ti hti
    split at ha
    · rename_i hsz
      obtain ⟨hsz, hleaf⟩ := hsz
      have hyc := hy.cells (leaf_ne hleaf)
      have hone := leafs_oneCell hleaf hyc
      have hvs : (a.eval y).cells.size = ti.size := by have := hyc.length; simp at this; omega
      split at ha
      · rename_i d off hd
        rw [hd] at hx
        obtain ⟨B, hB, hv⟩ := hx
        have hB : g.bx d = some B := hB
        split at ha
        · rename_i cs hb
          split at ha
          · rename_i hfit
            cases ha
            obtain ⟨B', us, T', h1, h2, h3, h4, _⟩ := h.cells d cs false hb
            have hBB : B' = B := by rw [h1] at hB; cases hB; rfl
            subst hBB
            have hlen := h4.length
            simp at hlen
            have hov := Reps.over off h4 hyc (by rw [hsz]; exact hfit)
            refine good_skip (w' := w.setRow B' (us.toList.take off ++ (a.eval y).cells.toList ++ us.toList.drop (off + (a.eval y).cells.toList.length)).toArray) ?_ ?_
            · simp [execOp, ho, hv, Instr.storeAt, Instr.sureAddr, ht.run_storeVar (off := off) h2 hvs (by omega) hone]
            · have hS := h.store hB h2 (us' := (us.toList.take off ++ (a.eval y).cells.toList ++ us.toList.drop (off + (a.eval y).cells.toList.length)).toArray) hb (by simp; omega)
                (b' := .cells (over cs off (asA (operand s y))) false) (.inl ⟨cs, _, rfl, rfl, by simpa using hov⟩)
              refine ⟨g, ?_⟩
              have := hS.skip o.dst
              have hbg : s.boxes.getD d none = some (.cells cs false) := hb
              rw [show upd s o.dst (Eff.store d off (asA (operand s y))) = { s with slots := putD s.slots o.dst (.tup []), boxes := s.boxes.set d (some (.cells (over cs off (asA (operand s y))) false)) } from by
                simp only [upd, valOf, edits, edit, bump, bumped, hbg, storeBox]]
              exact this
          · cases ha
        · cases ha
      · rename_i d i off hd
        rw [hd] at hx
        obtain ⟨B, hB, hv, hil⟩ := hx
        have hB : g.bx d = some B := hB
        split at ha
        · rename_i ls xs hb
          split at ha
          · rename_i hfit
            cases ha
            obtain ⟨B', us, T', rws, h1, h2, h3, h4, h5, h6, h7, _⟩ := h.rows d ls xs false hb
            have hBB : B' = B := by rw [h1] at hB; cases hB; rfl
            subst hBB
            obtain ⟨hfit, hcv⟩ := hfit
            have hrs : (ctx s w g).rs d = ls.length := by show rowSize (s.box d) = _; rw [hb]; rfl
            have hrl : (ctx s w g).rl d = xs.length := by show rowLen (s.box d) = _; rw [hb]; rfl
            rw [hrs] at hv
            rw [hrl] at hil
            have hir : i < rws.length := by rw [h5.length]; exact hil
            have hflen : ∀ {R : List (List Value)}, (∀ r ∈ R, r.length = ls.length) → R.flatten.length = R.length * ls.length := by
              intro R hR
              induction R with
              | nil => simp
              | cons r R ih => rw [List.flatten_cons, List.length_append, hR r (List.mem_cons_self ..), ih fun q hq => hR q (List.mem_cons_of_mem _ hq), List.length_cons, Nat.succ_mul]; omega
            have hul : us.size = rws.length * ls.length := by
              have := congrArg List.length h4
              rw [hflen h6] at this
              simpa using this
            have him : i * ls.length + ls.length ≤ us.size := by
              rw [hul, ← Nat.succ_mul]
              exact Nat.mul_le_mul_right _ hir
            have hvl : (a.eval y).cells.toList.length = ti.size := by simpa using hvs
            have hget : rws[i]? = some rws[i] := by simp [hir]
            have hrow : (us.toList.drop (i * ls.length)).take ls.length = rws[i] := by
              rw [h4]
              apply List.ext_getElem?
              intro j
              rw [List.getElem?_take]
              split
              · rename_i hj
                rw [List.getElem?_drop]
                have hjl : j < rws[i].length := by rw [h6 _ (List.getElem_mem _)]; exact hj
                rw [flatten_get h6 hir hj (u := rws[i][j]) (by simp [hjl])]
                simp [hjl]
              · rename_i hj
                rw [List.getElem?_eq_none]
                rw [h6 _ (List.getElem_mem _)]
                omega
            have hmid := take_drop_mid us.toList (a.eval y).cells.toList (p := i * ls.length) (m := ls.length) (off := off) (by rw [hvl]; exact hfit) (by simpa using him)
            rw [hrow] at hmid
            have hxi : nths xs i = xs[i] := by simp [nths, hil]
            have hci : confs ls (nths xs i) = true := by rw [hxi]; exact h7 _ (List.getElem_mem _)
            have hri : Reps (ctx s w g) (nths xs i) rws[i] := h5.get i _ hget
            have hlci := confs_length hci
            have hov := Reps.over off hri hyc (by rw [hsz, hlci]; exact hfit)
            have hrlen : rws[i].length = ls.length := h6 _ (List.getElem_mem _)
            have hnewlen : (rws[i].take off ++ (a.eval y).cells.toList ++ rws[i].drop (off + (a.eval y).cells.toList.length)).length = ls.length := by
              simp only [List.length_append, List.length_take, List.length_drop, hrlen, hvl]; omega
            have hflat := flatten_set h6 hir hnewlen
            refine good_skip (w' := w.setRow B' (us.toList.take (i * ls.length + off) ++ (a.eval y).cells.toList ++ us.toList.drop (i * ls.length + off + (a.eval y).cells.toList.length)).toArray) ?_ ?_
            · simp [execOp, ho, hv, Instr.storeAt, Instr.sureAddr, ht.run_storeVar (off := i * ls.length + off) h2 hvs (by omega) hone]
            · have hS := h.store hB h2 (us' := (us.toList.take (i * ls.length + off) ++ (a.eval y).cells.toList ++ us.toList.drop (i * ls.length + off + (a.eval y).cells.toList.length)).toArray) hb (by simp; omega)
                (b' := .row ls (xs.set i (over (nths xs i) off (asA (operand s y)))) false)
                (.inr ⟨ls, xs, _, rws.set i (rws[i].take off ++ (a.eval y).cells.toList ++ rws[i].drop (off + (a.eval y).cells.toList.length)), rfl, rfl, List.length_set, by rw [hflat, List.toList_toArray, hmid, h4],
                  h5.set hov i, fun r hr => by
                    rcases List.mem_or_eq_of_mem_set hr with hr | rfl
                    · exact h6 r hr
                    · exact hnewlen, fun x hx => by
                    rcases List.mem_or_eq_of_mem_set hx with hx | rfl
                    · exact h7 x hx
                    · exact confs_over hci hcv hfit⟩)
              refine ⟨g, ?_⟩
              have := hS.skip o.dst
              have hbg : s.boxes.getD d none = some (.row ls xs false) := hb
              rw [show upd s o.dst (Eff.rstore d i off (asA (operand s y))) = { s with slots := putD s.slots o.dst (.tup []), boxes := s.boxes.set d (some (.row ls (xs.set i (over (nths xs i) off (asA (operand s y)))) false)) } from by
                simp only [upd, valOf, edits, edit, bump, bumped, hbg, rstoreBox]]
              exact this
          · cases ha
        · cases ha
      · cases ha
    · cases ha

end
end Go.Pew

namespace Go.Pew
set_option linter.unusedSimpArgs false
set_option linter.unusedVariables false
open Go.RowKit
set_option linter.unusedVariables false
set_option linter.unusedSimpArgs false

section
variable {P : Program} {E : Env} {call : Nat → List PV → Option PV} {base n : Nat} {w0 : Start} {g : Gh} {s : St} {a : Act} {w : World} {o : Oper} {e : Eff}

theorem act_convert (T : ∀ t ti, E.ty t = some ti → TyOk P t ti) (h : SimG base w0 n g s a w) {src dst : Nat} {x : Operand} (ho : o.op = .convert src dst x) (ha : actConvert E call s src dst x some = some e) : Good P o a w (Sim base w0 n (upd s o.dst e)) := by
  have hx := operand_rep h x
  unfold actConvert at ha
  split at ha
  · rename_i ta tb hta htb
    have h1 := (T _ _ hta).run_und w
    have h2 := (T _ _ htb).run_und w
    split at ha
    · rename_i k1 k k2 m hd1 hd2 hv
      rw [hv] at hx
      have hx : a.eval x = .int k2 m := hx
      cases ha
      rw [hd1] at h1
      rw [hd2] at h2
      refine good_val h (v := .int k (k.wrap m)) ?_ rfl
      simp only [execOp, ho, hx, convert, Sem.run_bind, h1, h2, Result.andThen_ok, Conv.intToInt, Sem.run_pure]
    · cases ha
  · cases ha

theorem minmaxFrom_run (op : Bool) (k : IntKind) (ts : Array TypeId) (t : TypeId) {C : Ctx} (w : World) : ∀ (ps : List PV) (us : List Value) (i : Int) (p : PV), Reps C ps us → minmaxFrom op k i ps = some p →
    (us.foldlM (if op then Builtin.max2 else Builtin.min2) (.int k i)).run P w = .ok (.int k (asI p)) w ∧ p = .int k (asI p)
  | [], us, i, p, hr, h => by
    rw [Reps] at hr; subst hr
    cases h
    exact ⟨rfl, rfl⟩
  | q :: ps, us, i, p, hr, h => by
    rw [Reps] at hr
    obtain ⟨u, ws, rfl, h1, h2⟩ := hr
    cases q with
    | int k' j =>
      have h1 : u = .int k' j := h1
      subst h1
      simp only [minmaxFrom] at h
      obtain ⟨h3, h4⟩ := minmaxFrom_run op k ts t w ps ws _ p h2 h
      refine ⟨?_, h4⟩
      simp only [List.foldlM_cons, Sem.run_bind]
      cases op
      · simp only [Bool.false_eq_true, if_false, cond_false] at h3 ⊢
        simp only [Builtin.min2, Sem.run_pure, Result.andThen_ok]
        exact h3
      · simp only [if_true, cond_true] at h3 ⊢
        simp only [Builtin.max2, Sem.run_pure, Result.andThen_ok]
        exact h3
    | _ => simp [minmaxFrom] at h

theorem map_eval_rep (h : SimG base w0 n g s a w) : ∀ (xs : List Operand), Reps (ctx s w g) (xs.map (operand s)) (xs.map a.eval)
  | [] => rfl
  | x :: xs => ⟨_, _, rfl, operand_rep h x, map_eval_rep h xs⟩

theorem minmax_run (h : SimG base w0 n g s a w) {op : Bool} {xs : List Operand} {p : PV} (hm : minmax op (xs.map (operand s)) = some p) : ∃ v, Rep (ctx s w g) p v ∧
    ∀ (ts : Array TypeId) (t : TypeId) (us : Array Value), us.toList = xs.map a.eval → (if op then Builtin.max_ ts t us else Builtin.min_ ts t us).run P w = .ok v w := by
  have hr := map_eval_rep h xs
  generalize xs.map (operand s) = ps at hm hr
  generalize xs.map a.eval = us at hr
  cases ps with
  | nil => simp [minmax] at hm
  | cons q ps =>
    rw [Reps] at hr
    obtain ⟨u, ws, rfl, h1, h2⟩ := hr
    cases q with
    | int k i =>
      have h1 : u = .int k i := h1
      subst h1
      simp only [minmax] at hm
      refine ⟨.int k (asI p), ?_, fun ts t us hus => ?_⟩
      · have := (minmaxFrom_run (P := P) op k #[] 0 w ps ws i p h2 hm).2
        rw [this]; rfl
      · have := (minmaxFrom_run (P := P) op k ts t w ps ws i p h2 hm).1
        cases op
        · simp only [Bool.false_eq_true, if_false] at this ⊢
          unfold Builtin.min_
          rw [hus]
          exact this
        · simp only [if_true] at this ⊢
          unfold Builtin.max_
          rw [hus]
          exact this
    | _ => simp [minmax] at hm

theorem run_builtin (b : Builtin) (args : Array Operand) (ts : Array TypeId) (ho : o.op = .call { callee := .builtin b, args := args, argTypes := ts }) (w : World) :
    (execOp a.eval o).run P w = (builtin b ts o.type (args.map fun | .const _ => true | _ => false) (args.map a.eval)).run P w := by
  simp only [execOp, ho, resolve, pure_bind]
  rfl

theorem act_len (T : ∀ t ti, E.ty t = some ti → TyOk P t ti) (h : SimG base w0 n g s a w) {args : Array Operand} {ts : Array TypeId} {t : Nat} {x : Operand} (ho : o.op = .call { callee := .builtin .len, args := args, argTypes := ts })
    (hargs : args.toList = [x]) {rest : List TypeId} (hts : ts.toList = t :: rest) (ha : lenK E s t (operand s x) some = some e) : Good P o a w (Sim base w0 n (upd s o.dst e)) := by
  have hx := operand_rep h x
  have h0 : args = #[x] := by apply Array.ext'; simpa using hargs
  have h1 : ts[0]? = some t := by rw [← Array.getElem?_toList, hts]; rfl
  unfold lenK at ha
  split at ha
  · cases ha
  · rename_i ti hti
    have hu := (T _ _ hti).run_und w
    have hrun : ∀ {v : Value} {m : Int}, a.eval x = v → (Builtin.len_ ts o.type #[v]).run P w = .ok (.int .i64 m) w → (execOp a.eval o).run P w = .ok (.value (.int .i64 m)) w := by
      intro v m hv hl
      rw [run_builtin _ _ _ ho w, h0]
      simp only [builtin, Sem.run_bind, List.map_toArray, List.map_cons, List.map_nil, hv, hl]
      rfl
    split at ha
    · rename_i el tag ls xs hd hv
      rw [hv] at hx
      obtain ⟨A, cap, rows, hx, _, hr, _⟩ := hx
      cases ha
      rw [hd] at hu
      exact good_val h (hrun hx (m := xs.length) (by simp [Builtin.len_, h1, hu, goInt, hr.length])) rfl
    · rename_i el d hd hv
      rw [hv] at hx
      obtain ⟨B, hB, hx⟩ := hx
      split at ha
      · rename_i ls xs fz hb
        cases ha
        rw [hd] at hu
        have hrl : (ctx s w g).rl d = xs.length := by show rowLen (s.box d) = _; rw [hb]; rfl
        rw [hrl] at hx
        exact good_load h (hrun hx (m := xs.length) (by simp [Builtin.len_, h1, hu, goInt])) rfl
      · cases ha
    · rename_i b hd hv
      rw [hv] at hx
      have hx : a.eval x = .string b := hx
      cases ha
      rw [hd] at hu
      exact good_val h (hrun hx (m := b.size) (by simp [Builtin.len_, h1, hu, goInt])) rfl
    · rename_i m el hd
      cases ha
      rw [hd] at hu
      exact good_val h (hrun rfl (m := m) (by simp [Builtin.len_, h1, hu, goInt])) rfl
    · cases ha

theorem act_minmax (h : SimG base w0 n g s a w) {b : Bool} {args : Array Operand} {ts : Array TypeId} (ho : o.op = .call { callee := .builtin (if b then .max else .min), args := args, argTypes := ts }) {p : PV}
    (hm : minmax b (args.toList.map (operand s)) = some p) : Good P o a w (Sim base w0 n (upd s o.dst (.val p))) := by
  obtain ⟨v, hr, hrun⟩ := minmax_run (P := P) h hm
  refine good_val h ?_ hr
  rw [run_builtin _ _ _ ho w]
  have := hrun ts o.type (args.map a.eval) (by simp)
  cases b
  · simp only [Bool.false_eq_true, if_false] at this ⊢
    simp only [builtin, Sem.run_bind, this]; rfl
  · simp only [if_true] at this ⊢
    simp only [builtin, Sem.run_bind, this]; rfl

/-! ### literals -/
theorem fold_set (off : Nat) : ∀ (vs : List Value) (cs : Array Value) (k : Nat), off + k + vs.length ≤ cs.size →
    ((vs.zipIdx k).foldl (fun (cs : Array Value) (x : Value × Nat) => cs.setIfInBounds (off + x.2) x.1) cs).toList = cs.toList.take (off + k) ++ vs ++ cs.toList.drop (off + k + vs.length)
  | [], cs, k, h => by simp
  | v :: vs, cs, k, h => by
    simp only [List.length_cons] at h
    have hk : off + k < cs.toList.length := by simp; omega
    rw [List.zipIdx_cons, List.foldl_cons, fold_set off vs _ (k + 1) (by simp; omega)]
    simp only [Array.toList_setIfInBounds]
    rw [← Nat.add_assoc, List.take_set, List.drop_set, if_pos (by omega)]
    have : (cs.toList.take (off + k + 1)).set (off + k) v = cs.toList.take (off + k) ++ [v] := by
      rw [List.take_succ_eq_append_getElem hk, List.set_append, if_neg (by simp; omega)]
      have hm : min (off + k) cs.size = off + k := Nat.min_eq_left (by simp at hk; omega)
      simp [List.length_take, hm]
    rw [this]
    simp [Nat.add_assoc, Nat.add_comm 1]

theorem fill_rep {C : Ctx} {place place' : Nat → Option (Nat × Nat)} (hpl : ∀ i q, place i = some q → place' i = some q) : ∀ (ps : List (Nat × PV)) (vs : List (Nat × Value)) (cs : List PV) (us : Array Value) (cs' : List PV),
    ps.length = vs.length → (∀ (j : Nat) (p : Nat × PV) (v : Nat × Value), ps[j]? = some p → vs[j]? = some v → p.1 = v.1 ∧ Rep C p.2 v.2) → Reps C cs us.toList → fillParts place cs ps = some cs' →
    ∃ us', Instr.fill place' us vs = some us' ∧ Reps C cs' us'.toList
  | [], vs, cs, us, cs', hl, hp, hr, h => by
    have : vs = [] := by simpa using hl.symm
    subst this
    cases h
    exact ⟨us, rfl, hr⟩
  | (i, p) :: ps, [], cs, us, cs', hl, hp, hr, h => by simp at hl
  | (i, p) :: ps, (j, v) :: vs, cs, us, cs', hl, hp, hr, h => by
    obtain ⟨h1, h2⟩ := hp 0 (i, p) (j, v) rfl rfl
    have h1 : i = j := h1
    subst h1
    have h2 : Rep C p v := h2
    have h2 : Rep C p v := h2
    unfold fillParts at h
    split at h
    · cases h
    · cases h
    · rename_i off size hun hpi
      have hne : p ≠ .undef := by rintro rfl; cases hun
      split at h
      · rename_i hq
        have hc := h2.cells hne
        have hlc := hc.length
        have hlr := hr.length
        simp at hlc hlr
        have hov := Reps.over off hr hc (by omega)
        have hfs := fold_set off v.cells.toList us 0 (by simp; omega)
        simp only [Nat.add_zero] at hfs
        obtain ⟨us', h3, h4⟩ := fill_rep hpl ps vs _ ((v.cells.toList.zipIdx 0).foldl (fun (cs : Array Value) (x : Value × Nat) => cs.setIfInBounds (off + x.2) x.1) us) cs' (by simpa using hl)
          (fun k p' v' hk hk' => hp (k + 1) p' v' (by simpa using hk) (by simpa using hk')) (by rw [hfs]; exact hov) h
        refine ⟨us', ?_, h4⟩
        unfold Instr.fill
        rw [hpl i _ hpi]
        dsimp only
        rw [if_neg (by simp; omega)]
        have e : Array.foldl (fun cs (x : Value × Nat) => cs.setIfInBounds (off + x.2) x.1) us v.cells.zipIdx = (v.cells.toList.zipIdx 0).foldl (fun (cs : Array Value) (x : Value × Nat) => cs.setIfInBounds (off + x.2) x.1) us := by
          rw [← Array.foldl_toList]
          simp
        have e2 : (v.cells.zipIdx.foldl (fun cs (x : Value × Nat) => match x with | (c, j) => cs.setIfInBounds (off + j) c) us) = (v.cells.toList.zipIdx 0).foldl (fun (cs : Array Value) (x : Value × Nat) => cs.setIfInBounds (off + x.2) x.1) us := by
          rw [← e]
        rw [← h3]
        exact congrArg (fun z => Instr.fill place' z vs) e2
      · cases h

end
end Go.Pew

namespace Go.Pew
set_option linter.unusedSimpArgs false
set_option linter.unusedVariables false
open Go.RowKit
set_option linter.unusedVariables false
set_option linter.unusedSimpArgs false

section
variable {P : Program} {E : Env} {call : Nat → List PV → Option PV} {base n : Nat} {w0 : Start} {g : Gh} {s : St} {a : Act} {w : World} {o : Oper} {e : Eff}

theorem run_mapM_list {α β : Type} {f : α → Sem β} {q : α → β} {w : World} : ∀ (l : List α), (∀ x ∈ l, (f x).run P w = .ok (q x) w) → (l.mapM f).run P w = .ok (l.map q) w
  | [], _ => rfl
  | x :: l, h => by
    rw [List.mapM_cons]
    simp only [Sem.run_bind, h x (List.mem_cons_self ..), Result.andThen_ok, run_mapM_list l fun y hy => h y (List.mem_cons_of_mem _ hy), Sem.run_pure, List.map_cons]

theorem run_mapM {α β : Type} {f : α → Sem β} {q : α → β} {w : World} (l : Array α) (h : ∀ x ∈ l.toList, (f x).run P w = .ok (q x) w) : (l.mapM f).run P w = .ok (l.map q) w := by
  rw [Array.mapM_eq_mapM_toList]
  simp only [Sem.run_map, run_mapM_list l.toList h, Result.andThen_ok]
  congr 1
  apply Array.ext'
  simp

theorem parts_rep (h : SimG base w0 n g s a w) (ps : List (Nat × Operand)) : ∀ (j : Nat) (p : Nat × PV) (v : Nat × Value), (ps.map fun p => (p.1, operand s p.2))[j]? = some p → (ps.map fun p => (p.1, a.eval p.2))[j]? = some v →
    p.1 = v.1 ∧ Rep (ctx s w g) p.2 v.2 := by
  intro j p v hp hv
  rw [List.getElem?_map] at hp hv
  cases hq : ps[j]? with
  | none => rw [hq] at hp; cases hp
  | some q =>
    rw [hq] at hp hv
    cases hp; cases hv
    exact ⟨rfl, operand_rep h q.2⟩

theorem act_build (T : ∀ t ti, E.ty t = some ti → TyOk P t ti) (h : SimG base w0 n g s a w) {t : Nat} {parts : Array (Nat × Operand)} (ho : o.op = .build t parts) (ha : actBuild E call s t parts some = some e) :
    Good P o a w (Sim base w0 n (upd s o.dst e)) := by
  unfold actBuild at ha
  have hpm : (parts.map fun (i, x) => (i, a.eval x)).toList = parts.toList.map fun p => (p.1, a.eval p.2) := by simp
  split at ha
  · cases ha
  · rename_i ti hti
    have ht := T t ti hti
    have hu := ht.run_und w
    obtain ⟨i0, z, hi1, hi2, hi3, hi4, hz⟩ := ht.info
    split at ha
    · rename_i fs hfs
      split at ha
      · cases ha
      · rename_i hall
        have hall : ∀ f ∈ fs.toList, (E.ty f.type).isSome = true := List.all_eq_true.1 (eq_true_of_ne_false hall)
        split at ha
        · rename_i cs hcs
          cases ha
          rw [hfs] at hu
          let pl : Array (Nat × Nat) := fs.map fun f => (f.offset, ((E.ty f.type).map (·.size)).getD 0)
          have hmap : (fs.mapM fun f => (do pure (f.offset, ← sizeOf f.type) : Sem (Nat × Nat))).run P w = .ok pl w := by
            refine run_mapM fs fun f hf => ?_
            have := hall f hf
            cases hq : E.ty f.type with
            | none => rw [hq] at this; cases this
            | some tf => simp [(T _ _ hq).run_sizeOf w]
          obtain ⟨us', h1, h2⟩ := fill_rep (C := ctx s w g) (place' := (pl[·]?)) (fun i q hq => by
            obtain ⟨f, hf, hq⟩ := Option.bind_eq_some_iff.1 hq
            obtain ⟨tf, htf, hq⟩ := Option.map_eq_some_iff.1 hq
            simp only [pl, Array.getElem?_map, hf, Option.map_some, htf, Option.getD_some]
            rw [hq]) _ (parts.toList.map fun p => (p.1, a.eval p.2)) _ z.cells cs (by simp) (parts_rep h parts.toList) (hz _) hcs
          refine good_val h (v := .agg us') ?_ ⟨us', rfl, h2⟩
          simp only [execOp, ho, Instr.build, Sem.run_bind, zeroValue, typeInfo, run_program, Result.andThen_ok, hi1, Sem.run_pure, hi4, hu, hmap, hpm, h1]
        · cases ha
    · rename_i m el hd
      split at ha
      · cases ha
      · rename_i te hte
        have hTe := T _ _ hte
        split at ha
        · rename_i cs hcs
          cases ha
          rw [hd] at hu
          obtain ⟨us', h1, h2⟩ := fill_rep (C := ctx s w g) (place' := fun i => some (i * te.size, te.size)) (fun i q hq => hq) _ (parts.toList.map fun p => (p.1, a.eval p.2)) _ z.cells cs (by simp) (parts_rep h parts.toList) (hz _) hcs
          refine good_val h (v := .agg us') ?_ ⟨us', rfl, h2⟩
          simp only [execOp, ho, Instr.build, Sem.run_bind, zeroValue, typeInfo, run_program, Result.andThen_ok, hi1, Sem.run_pure, hi4, hu, hTe.run_sizeOf w, hpm, h1]
        · cases ha
    · cases ha

/-! ### rows of equal elements -/
theorem nth_flatten_replicate (z : List PV) : ∀ (m j : Nat), j < m * z.length → nth (List.replicate m z).flatten j = nth z (j % z.length)
  | 0, j, h => by simp at h
  | m + 1, j, h => by
    rw [List.replicate_succ, List.flatten_cons]
    by_cases hj : j < z.length
    · rw [Nat.mod_eq_of_lt hj]
      simp [nth, List.getD_eq_getElem?_getD, List.getElem?_append_left hj]
    · have h' : j - z.length < m * z.length := by rw [Nat.succ_mul] at h; omega
      have := nth_flatten_replicate z m (j - z.length) h'
      rw [Nat.mod_eq_sub_mod (by omega), ← this]
      simp [nth, List.getD_eq_getElem?_getD, List.getElem?_append_right (Nat.le_of_not_lt hj)]

theorem flatten_replicate_length (z : List PV) (m : Nat) : (List.replicate m z).flatten.length = m * z.length := by
  induction m with
  | zero => simp
  | succ m ih => rw [List.replicate_succ, List.flatten_cons, List.length_append, ih, Nat.succ_mul, Nat.add_comm]

theorem zeros_rep {C : Ctx} {z : List PV} {us : Array Value} (hz : Reps C z us.toList) (m : Nat) (zero : Array Value) (h0 : m * us.size ≠ 0 → zero = us) :
    Reps C (List.replicate m z).flatten ((Array.range (m * us.size)).map (zero[· % zero.size]!)).toList := by
  have hl := hz.length
  simp at hl
  refine Reps.of_get (by simp [flatten_replicate_length, hl]) fun j u hu => ?_
  have hj : j < m * us.size := by
    have := (List.getElem?_eq_some_iff.1 hu).1
    simpa using this
  have hne : m * us.size ≠ 0 := by omega
  have := h0 hne
  subst this
  have hzp : 0 < zero.size := Nat.pos_of_ne_zero fun q => hne (by rw [q, Nat.mul_zero])
  rw [nth_flatten_replicate z m j (by rw [← hl]; exact hj), ← hl]
  have hm := Nat.mod_lt j hzp
  have : u = zero[j % zero.size] := by
    simp [hj] at hu
    rw [← hu, getElem!_pos zero _ hm]
  subst this
  exact hz.get _ _ (by simp [hm])

theorem chunk_rep {C : Ctx} {cs : List PV} {us : List Value} (hr : Reps C cs us) (size len : Nat) : RepRows C (chunks size cs len) ((List.range len).map fun i => (us.drop (i * size)).take size) := by
  refine RepRows.of_get (by simp [chunks]) fun i u hu => ?_
  rw [List.getElem?_map] at hu
  cases hi : (List.range len)[i]? with
  | none => rw [hi] at hu; cases hu
  | some q =>
    rw [hi] at hu
    cases hu
    have hq : q = i := by
      have := List.getElem?_eq_some_iff.1 hi
      obtain ⟨h1, h2⟩ := this
      simpa using h2.symm
    subst hq
    have : nths (chunks size cs len) q = (cs.drop (q * size)).take size := by
      simp [nths, chunks, List.getD_eq_getElem?_getD, hi]
    rw [this]
    exact (hr.drop _).take _

theorem chunk_flatten {α : Type} (us : List α) (size : Nat) : ∀ (len : Nat), us.length = len * size → ((List.range len).map fun i => (us.drop (i * size)).take size).flatten = us
  | 0, h => by
    have : us = [] := List.eq_nil_of_length_eq_zero (by simpa using h)
    subst this; rfl
  | len + 1, h => by
    rw [List.range_succ_eq_map, List.map_cons, List.flatten_cons, List.map_map]
    have h' : (us.drop size).length = len * size := by rw [List.length_drop, h, Nat.succ_mul]; omega
    have ih := chunk_flatten (us.drop size) size len h'
    have e : ((fun i => (us.drop (i * size)).take size) ∘ Nat.succ) = fun i => ((us.drop size).drop (i * size)).take size := by
      funext i
      simp [List.drop_drop, Nat.succ_mul, Nat.add_comm]
    rw [e, ih]
    simp

theorem chunk_len {α : Type} {us : List α} {size len : Nat} (h : us.length = len * size) : ∀ r ∈ (List.range len).map fun i => (us.drop (i * size)).take size, r.length = size := by
  intro r hr
  obtain ⟨i, hi, rfl⟩ := List.mem_map.1 hr
  have hi : i < len := List.mem_range.1 hi
  have : i * size + size ≤ len * size := by rw [← Nat.succ_mul]; exact Nat.mul_le_mul_right _ hi
  simp only [List.length_take, List.length_drop]
  omega

theorem fillParts_length {place : Nat → Option (Nat × Nat)} : ∀ (ps : List (Nat × PV)) (cs cs' : List PV), fillParts place cs ps = some cs' → cs'.length = cs.length
  | [], cs, cs', h => by cases h; rfl
  | (i, p) :: ps, cs, cs', h => by
    unfold fillParts at h
    split at h
    · cases h
    · cases h
    · split at h
      · rw [fillParts_length ps _ _ h, over_length]
      · cases h

theorem reads_block {C : Ctx} {B : Nat} {us : List Value} {cells : Array Value} {T : TypeId} {fr : Nat × Nat} (hh : C.w.heap[B]? = some (.cells cells T fr)) (hu : us = cells.toList) (hst : ∀ o, o < cells.size → C.st B o) : C.reads B 0 us := by
  intro j u hj
  subst hu
  have hlt : j < cells.size := by
    have := (List.getElem?_eq_some_iff.1 hj).1
    simpa using this
  rw [Nat.zero_add]
  refine ⟨?_, hst j hlt⟩
  simp only [World.cell?, hh]
  simpa using hj

/-- A row of the call's own in a new block. -/
theorem SimG.mkNew (h : SimG base w0 n g s a w) {d : Nat} (hd : d < n) {ls : List LK} {xs : List (List PV)} {rws : List (List Value)} {us : Array Value} {T : TypeId} (hr : RepRows (ctx s w g) xs rws) (hl : ∀ r ∈ rws, r.length = ls.length)
    (hc : ∀ x ∈ xs, confs ls x = true) (hu : us.toList = rws.flatten) (hus : us.size = rws.length * ls.length) :
    Sim base w0 n (upd s (some d) (.mk ls xs)) (a.put (some d) (.slice (some ⟨w.heap.size, 0, none⟩) rws.length rws.length)) (w.alloc (.cells us T)) := by
  let w' := w.alloc (.cells us T)
  let st' : Nat → Nat → Prop := fun B o => g.st B o ∨ (B = w.heap.size ∧ o < us.size)
  have hold : ∀ k, k < w.heap.size → w'.heap[k]? = w.heap[k]? := fun k hk => Below.heap_alloc w _ k hk
  have hnewb : w'.heap[w.heap.size]? = some (.cells us T (0, 0)) := heap_alloc_new w _
  have hstlt : ∀ B o, g.st B o → B < w.heap.size := fun B o ho => by
    obtain ⟨us, T, fr, e, _⟩ := h.stlt B o ho
    exact block_lt e
  have hle : (ctx s w g).Le (ctx s w' { g with st := st' }) := ⟨fun _ _ h => .inl h, fun B o ho => World.cell?_of_block (w := w) (hold B (hstlt B o ho)), fun _ _ h => h, fun _ _ _ _ h => h, fun _ _ _ => rfl, fun _ _ _ => rfl, fun _ h => h⟩
  refine ⟨_, h.tag hd (w' := w') (st' := st') (ls := ls) (xs := xs) ((Below.refl base w).alloc (Nat.le_trans h.base_le h.below.size) _) (fun k hk _ => hold k hk) (fun B o ho => World.cell?_of_block (w := w) (hold B (hstlt B o ho)))
    (fun _ _ h => .inl h) (fun B o ho => ?_) (fun B o ho => ?_) (.inr ⟨w.heap.size, 0, rws.length, rws.length, us, T, rfl, Nat.le_trans h.base_le h.below.size, hnewb, by rw [Nat.zero_add, hus]; exact Nat.le_refl _, Nat.le_refl _, fun j hj hq => ?_, fun d' hq => ?_⟩)
    (fun d' B hne hB hq => ?_) (fun B hq => h.old (by simp [ownBlock] at hq; exact Nat.le_of_eq hq)) ?_ (some d)⟩
  · rcases ho with ho | ⟨ho, _⟩
    · exact .inl ho
    · exact .inr (.inr (by omega))
  · rcases ho with ho | ⟨rfl, ho⟩
    · obtain ⟨us', T', fr, e, hl⟩ := h.stlt B o ho
      exact ⟨us', T', fr, by rw [hold B (block_lt e)]; exact e, hl⟩
    · exact ⟨us, T, _, hnewb, ho⟩
  · rcases hq with hq | ⟨_, hq⟩
    · exact absurd (hstlt _ _ hq) (Nat.lt_irrefl _)
    · omega
  · exact absurd (h.bx_lt hq).1 (Nat.lt_irrefl _)
  · simp [ownBlock] at hB
    subst hB
    exact absurd (h.own_lt hq).1 (Nat.lt_irrefl _)
  · exact ⟨some ⟨w.heap.size, 0, none⟩, rws.length, rws, rfl, Nat.le_refl _, RepRows.mono hle _ _ hr, hl, .inr ⟨w.heap.size, 0, rfl, reads_block (C := ctx s w' { g with st := st' }) hnewb hu.symm (fun o ho => .inr ⟨rfl, ho⟩)⟩, hc, fun d k e => by cases e⟩

theorem mk_ok {ls : List LK} {xs : List (List PV)} (hok : okEff s o.dst (.mk ls xs) = true) (h : SimG base w0 n g s a w) : ∃ d, o.dst = some d ∧ d < n := by
  unfold okEff at hok
  cases hd : o.dst with
  | none => rw [hd] at hok; cases hok
  | some d =>
    rw [hd] at hok
    exact ⟨d, rfl, by rw [← h.ns]; exact blt_lt hok⟩

theorem act_buildSlice (T : ∀ t ti, E.ty t = some ti → TyOk P t ti) (h : SimG base w0 n g s a w) {t len : Nat} {parts : Array (Nat × Operand)} (ho : o.op = .buildSlice t len parts) (ha : actBuildSlice E call s t len parts some = some e)
    (hok : okEff s o.dst e = true) : Good P o a w (Sim base w0 n (upd s o.dst e)) := by
  unfold actBuildSlice at ha
  have hpm : (parts.map fun (i, x) => (i, a.eval x)).toList = parts.toList.map fun p => (p.1, a.eval p.2) := by simp
  split at ha
  · cases ha
  · rename_i ti hti
    have hu := (T t ti hti).run_und w
    split at ha
    · cases ha
    · rename_i el hel
      unfold elemOf at hel
      split at hel
      · rename_i el' hd
        cases hel
        rw [hd] at hu
        split at ha
        · cases ha
        · rename_i te hte
          have hTe := T _ _ hte
          obtain ⟨i0, z, hi1, hi2, hi3, hi4, hz⟩ := hTe.info
          have hzl := (hz (ctx s w g)).length
          simp at hzl
          rw [hTe.zl] at hzl
          split at ha
          · cases ha
          · rename_i cs hcs
            split at ha
            · rename_i hq
              obtain ⟨hq1, hq2⟩ := hq
              cases ha
              obtain ⟨d, hd', hdn⟩ := mk_ok hok h
              have hle := Nat.le_of_ble_eq_true hq2
              have hzr := zeros_rep (hz (ctx s w g)) len (if len * te.size = 0 then #[] else z.cells) (fun hne => if_neg (by rw [hzl] at hne; exact hne))
              obtain ⟨us', h1, h2⟩ := fill_rep (C := ctx s w g) (place' := fun i => some (i * te.size, te.size)) (fun i q hq => hq) _ (parts.toList.map fun p => (p.1, a.eval p.2)) _ _ cs (by simp) (parts_rep h parts.toList) hzr hcs
              have h2 := Reps.strips _ _ h2
              have hlen : us'.toList.length = len * te.size := by
                rw [h2.length]
                have e1 : (strips cs).length = cs.length := by
                  have : ∀ l : List PV, (strips l).length = l.length := by
                    intro l; induction l with
                    | nil => rfl
                    | cons x l ih => simp [strips, ih]
                  exact this cs
                rw [e1, fillParts_length _ _ _ hcs, flatten_replicate_length, hTe.zl]
              have hS := h.mkNew hdn (T := el) (us := us') (ls := te.lk) (chunk_rep h2 te.size len) (by rw [hTe.lk]; exact chunk_len hlen) (by simpa using hq1) (chunk_flatten us'.toList te.size len hlen).symm (by rw [hTe.lk]; simpa using hlen)
              refine good_value (v := .slice (some ⟨w.heap.size, 0, none⟩) len len) (w' := w.alloc (.cells us' el)) ?_ (by rw [hd']; simpa using hS)
              rw [hzl] at h1
              simp only [execOp, ho, Instr.buildSlice, Sem.run_bind, hu, Result.andThen_ok, hTe.run_sizeOf w, Sem.run_ite]
              rw [if_neg (by omega)]
              by_cases hz0 : len * te.size = 0
              · rw [if_pos hz0] at h1 ⊢
                simp only [Sem.run_pure, Result.andThen_ok, hpm, h1]
                rfl
              · rw [if_neg hz0] at h1 ⊢
                simp only [Sem.run_bind, zeroValue, typeInfo, run_program, Result.andThen_ok, hi1, Sem.run_pure, hi4, hpm, h1]
                rfl
            · cases ha
      · cases hel

end
end Go.Pew

namespace Go.Pew
set_option linter.unusedSimpArgs false
set_option linter.unusedVariables false
open Go.RowKit
set_option linter.unusedVariables false
set_option linter.unusedSimpArgs false

section
variable {P : Program} {E : Env} {call : Nat → List PV → Option PV} {base n : Nat} {w0 : Start} {g : Gh} {s : St} {a : Act} {w : World} {o : Oper} {e : Eff}

theorem upd_froze (s : St) (dst : Option Nat) (ds : List Nat) (p : PV) : upd s dst (.froze ds p) = { s with slots := putD s.slots dst p, boxes := edit s.boxes (ds.map fun d => (d, freezeBox)) } := rfl

/-- Boxes that are written no more, and a value. -/
theorem good_froze (h : SimG base w0 n g s a w) {ds : List Nat} {p : PV} {v : Value} (hr : (execOp a.eval o).run P w = .ok (.value v) w)
    (hp : ∀ g' s', (ctx s w g).Le (ctx s' w g') → g'.bx = g.bx → (∀ d, d ∈ ds → ∀ B, g.bx d = some B → ∀ us T fr, w.heap[B]? = some (.cells us T fr) → ∀ o, o < us.size → g'.st B o) → Rep (ctx s' w g') p v) :
    Good P o a w (Sim base w0 n (upd s o.dst (.froze ds p))) := by
  obtain ⟨g', h1, h2, h3, h4⟩ := SimG.freeze ds h
  refine good_value hr ⟨g', ?_⟩
  rw [upd_froze]
  exact h1.val (hp g' _ h2 h3 h4) o.dst

/-- What captured or yielded variables hold, once they are written no more. -/
theorem caps_rep (h : SimG base w0 n g s a w) {C' : Ctx} (hle : (ctx s w g).Le C') (hw : C'.w = w) : ∀ (ps : List PV) (us : List Value), Reps (ctx s w g) ps us →
    (∀ d, d ∈ ps.filterMap capBox → ∀ B, g.bx d = some B → ∀ us T fr, w.heap[B]? = some (.cells us T fr) → ∀ o, o < us.size → C'.st B o) → plains (ps.map (capPV s)) = true → Reps C' (ps.map (capPV s)) us := by
  intro ps
  induction ps with
  | nil => intro us hr _ _; exact hr
  | cons p ps ih =>
    intro us hr hst hpl
    rw [Reps] at hr
    obtain ⟨u, ws, rfl, h1, h2⟩ := hr
    simp only [List.map_cons, plains, Bool.and_eq_true] at hpl
    refine ⟨u, ws, rfl, ?_, ih ws h2 (fun d hd => hst d (by
      simp only [List.filterMap_cons]
      split
      · exact hd
      · exact List.mem_cons_of_mem _ hd)) hpl.2⟩
    cases p with
    | ptr d off =>
      obtain ⟨B, hB, hv⟩ := h1
      have hB : g.bx d = some B := hB
      simp only [capPV] at hpl ⊢
      cases hb : s.box d with
      | none => rw [hb] at hpl; simp [plain] at hpl
      | some b =>
        cases b with
        | row ls xs fz => rw [hb] at hpl; simp [plain] at hpl
        | cells cs fz =>
          obtain ⟨B', us, T, h3, h4, h5, h6, _⟩ := h.cells d cs fz hb
          have hBB : B' = B := by rw [h3] at hB; cases hB; rfl
          subst hBB
          refine ⟨B', 0, us.toList, by rw [hv, Nat.zero_add], Reps.strips _ _ (Reps.mono hle _ _ h6), reads_block (C := C') (by rw [hw]; exact h4) rfl fun o ho => ?_⟩
          exact hst d (by simp [List.filterMap_cons, capBox]) B' hB us T _ h4 o ho
    | _ => exact Rep.mono hle _ _ h1

theorem act_makeFunc (h : SimG base w0 n g s a w) {f : Nat} {first caps : Array Operand} (ho : o.op = .makeFunc (.func f) first caps) (ha : actMakeFunc E call s f first caps some = some e) :
    Good P o a w (Sim base w0 n (upd s o.dst e)) := by
  unfold actMakeFunc at ha
  split at ha
  · rename_i hq
    obtain ⟨hq1, hq2⟩ := hq
    cases ha
    have hfe : first = #[] := by simpa using hq1
    subst hfe
    -- the world of C' is w in each case
    obtain ⟨g', h1, h2, h3, h4⟩ := SimG.freeze ((caps.toList.map (operand s)).filterMap capBox) h
    refine good_value (v := .func (.func f) #[] (caps.map a.eval)) (w' := w) (by simp [execOp, ho, Instr.makeFunc]) ⟨g', ?_⟩
    rw [upd_froze]
    have e1 : (caps.map a.eval).toList = caps.toList.map a.eval := by simp
    have hv : Rep (ctx { s with boxes := edit s.boxes (((caps.toList.map (operand s)).filterMap capBox).map fun d => (d, freezeBox)) } w g') (.fn f ((caps.toList.map (operand s)).map (capPV s))) (.func (.func f) #[] (caps.map a.eval)) :=
      ⟨caps.map a.eval, rfl, by rw [e1]; exact caps_rep h h2 rfl _ _ (map_eval_rep h caps.toList) h4 hq2⟩
    exact h1.val hv o.dst
  · cases ha

theorem row_ok {ls : List LK} {xs : List (List PV)} (hok : okEff s o.dst (.row ls xs) = true) (h : SimG base w0 n g s a w) : ∃ d, o.dst = some d ∧ d < n ∧ s.box d = none := by
  unfold okEff at hok
  cases hd : o.dst with
  | none => rw [hd] at hok; cases hok
  | some d =>
    rw [hd] at hok
    simp only [Bool.and_eq_true, Option.isNone_iff_eq_none] at hok
    exact ⟨d, rfl, by rw [← h.ns]; exact blt_lt hok.2, hok.1⟩

theorem wrap_small {m : Int} (h0 : 0 ≤ m) (h1 : m ≤ 9223372036854775807) : IntKind.i64.wrap m = m := by
  unfold IntKind.wrap
  simp only [IntKind.bits, IntKind.signed]
  have : m % (2 ^ 64 : Int) = m := Int.emod_eq_of_lt h0 (by omega)
  simp only [this]
  rw [if_neg]
  simp
  omega

theorem act_makeSlice (T : ∀ t ti, E.ty t = some ti → TyOk P t ti) (h : SimG base w0 n g s a w) {t : Nat} {l c : Operand} (ho : o.op = .makeSlice t l c) (ha : actMakeSlice E call s t l c some = some e) (hok : okEff s o.dst e = true) :
    Good P o a w (Sim base w0 n (upd s o.dst e)) := by
  have hl := operand_rep h l
  have hc := operand_rep h c
  unfold actMakeSlice at ha
  split at ha
  · cases ha
  · rename_i ti hti
    have hu := (T _ _ hti).run_und w
    split at ha
    · cases ha
    · rename_i el hel
      unfold elemOf at hel
      split at hel
      · rename_i el' hd
        cases hel
        rw [hd] at hu
        split at ha
        · cases ha
        · rename_i te hte
          have hTe := T _ _ hte
          obtain ⟨i0, z, hi1, hi2, hi3, hi4, hz⟩ := hTe.info
          have hzl := (hz (ctx s w g)).length
          simp at hzl
          rw [hTe.zl] at hzl
          split at ha
          · rename_i k i k' j hvl hvc
            rw [hvl] at hl
            rw [hvc] at hc
            have hl : a.eval l = .int k i := hl
            have hc : a.eval c = .int k' j := hc
            split at ha
            · rename_i hk
              obtain ⟨rfl, rfl, hb0⟩ := hk
              obtain ⟨q1, ha1⟩ := guardK_some ha
              obtain ⟨q2, ha2⟩ := guardK_some ha1
              obtain ⟨q3, ha3⟩ := guardK_some ha2
              obtain ⟨q4, ha4⟩ := guardK_some ha3
              clear ha ha1 ha2 ha3
              have q1 := of_decide_eq_true q1
              have q2 := of_decide_eq_true q2
              have q3 := of_decide_eq_true q3
              subst q1
              cases ha4
              obtain ⟨d, hdst, hdn, hfree⟩ := row_ok hok h
              have him : i ≤ 9223372036854775807 := by
                have : i * 1 ≤ i * (te.bytes : Int) := Int.mul_le_mul_of_nonneg_left (by omega) q2
                omega
              have hw := wrap_small q2 him
              have hbz : ¬ ((te.bytes : Int) * i > 2 ^ 48) := by rw [Int.mul_comm]; omega
              generalize hzero : (if i.toNat * te.size = 0 then #[] else z.cells) = zero
              have hrun : (Instr.makeSlice t (.int .i64 i) (.int .i64 i)).run P w = .ok (.slice (some ⟨w.heap.size, 0, none⟩) i.toNat i.toNat) (w.alloc (.cells ((Array.range (i.toNat * te.size)).map (zero[· % zero.size]!)) el)) := by
                unfold Instr.makeSlice
                simp only [Sem.run_bind, hu, Result.andThen_ok, asInt, asIntOf, Sem.run_pure, typeInfo, run_program, hi1, hi3, hw, Sem.run_ite]
                rw [if_neg (by
                  simp only [Bool.or_eq_true, decide_eq_true_eq, not_or]
                  exact ⟨⟨⟨by omega, hbz⟩, by omega⟩, by omega⟩)]
                simp only [run_askRoom, Result.andThen_ok, hTe.run_sizeOf w]
                by_cases hz0 : i.toNat * te.size = 0
                · rw [if_pos hz0] at hzero ⊢
                  subst hzero
                  rfl
                · rw [if_neg hz0] at hzero ⊢
                  subst hzero
                  simp only [zeroValue, typeInfo, Sem.run_bind, run_program, Result.andThen_ok, hi1, Sem.run_pure, hi4]
                  rfl
              refine good_value (v := .slice (some ⟨w.heap.size, 0, none⟩) i.toNat i.toNat) (w' := w.alloc (.cells ((Array.range (i.toNat * te.size)).map (zero[· % zero.size]!)) el)) (by simp only [execOp, ho, hl, hc, Sem.run_bind, hrun]; rfl) ?_
              rw [hdst]
              have hzr := zeros_rep (hz (ctx s w g)) i.toNat zero (fun hne => by rw [hzl] at hne; rw [← hzero, if_neg hne])
              rw [hzl] at hzr
              have hlen : ((Array.range (i.toNat * te.size)).map (zero[· % zero.size]!)).toList.length = i.toNat * te.size := by simp
              have hch := chunk_rep hzr te.size i.toNat
              have hchz : chunks te.size (List.replicate i.toNat te.zero).flatten i.toNat = List.replicate i.toNat te.zero := by
                have : ∀ (m k : Nat) (rest : List PV), chunks te.size ((List.replicate m te.zero).flatten ++ rest) m = List.replicate m te.zero := by
                  intro m
                  induction m with
                  | zero => intro k rest; rfl
                  | succ m ih =>
                    intro k rest
                    unfold chunks
                    rw [List.range_succ_eq_map, List.map_cons, List.map_map, List.replicate_succ, List.flatten_cons]
                    congr 1
                    · rw [Nat.zero_mul, List.drop_zero, List.append_assoc, ← hTe.zl, List.take_left]
                    · have := ih k rest
                      unfold chunks at this
                      refine Eq.trans (List.map_congr_left fun j hj => ?_) this
                      show ((te.zero ++ (List.replicate m te.zero).flatten ++ rest).drop ((j + 1) * te.size)).take te.size = _
                      rw [Nat.succ_mul, Nat.add_comm, ← hTe.zl, List.append_assoc, List.drop_length_add_append, hTe.zl]
                simpa using this i.toNat 0 []
              rw [hchz] at hch
              exact ⟨_, h.newBox hdn hfree (b := .row te.lk (List.replicate i.toNat te.zero) false) (p := .row d) (.inr (by simp [rowLen]))
                (.inr ⟨te.lk, _, _, rfl, rfl, by simp, (chunk_flatten _ te.size i.toNat hlen).symm, hch, by rw [hTe.lk]; exact chunk_len hlen, fun y hy => by rw [List.eq_of_mem_replicate hy]; exact q4⟩) (some d)⟩
            · cases ha
          · cases ha
      · cases hel

theorem act_slice (T : ∀ t ti, E.ty t = some ti → TyOk P t ti) (h : SimG base w0 n g s a w) {t : Nat} {x : Operand} {lo hi : Option Operand} (ho : o.op = .slice t x lo hi none) (ha : actSlice E call s t x lo hi some = some e) :
    Good P o a w (Sim base w0 n (upd s o.dst e)) := by
  have hx := operand_rep h x
  unfold actSlice at ha
  split at ha
  · cases ha
  · rename_i ti hti
    have hu := (T _ _ hti).run_und w
    split at ha
    · rename_i el tag ls xs hd hv
      rw [hv] at hx
      obtain ⟨A, cap, rows, hx, hcap, hrr, hrl, hmem, hcf, _⟩ := hx
      rw [hd] at hu
      split at ha
      · cases ha
      · rename_i te hte
        have hTe := T _ _ hte
        split at ha
        · rename_i hsz
          have hlr := hrr.length
          have hhigh : ∃ hh : Nat, hh ≤ rows.length ∧ (∀ (lv : Option Value) (l : Nat), (match lv with | some v => Instr.sliceBound v hh .sliceB | none => pure 0).run P w = .ok l w →
              (Instr.sliceBounds true rows.length cap lv (hi.map a.eval) none).run P w = .ok (l, hh, cap) w) ∧
              (lowK s lo hh fun l => some (Eff.val (.sl none ls ((xs.take hh).drop l)))) = some e := by
            unfold highK at ha
            split at ha
            · refine ⟨rows.length, Nat.le_refl _, fun lv l hl => ?_, by rw [hlr]; exact ha⟩
              cases lv with
              | none => simp [Instr.sliceBounds] at hl ⊢; exact hl
              | some v => simp [Instr.sliceBounds] at hl ⊢; rw [hl]; rfl
            · rename_i ho'
              split at ha
              · rename_i k m hm
                obtain ⟨h1, ha⟩ := guardK_some ha
                obtain ⟨h2, ha⟩ := guardK_some ha
                have h1 := of_decide_eq_true h1
                have h2 := of_decide_eq_true h2
                have hev := operand_rep h ho'
                rw [hm] at hev
                have hev : a.eval ho' = .int k m := hev
                refine ⟨m.toNat, by omega, fun lv l hl => ?_, ha⟩
                have hmc : m ≤ (cap : Int) := by omega
                have hsb : (Instr.sliceBound (.int k m) cap .sliceAcap).run P w = .ok m.toNat w := by simp [Instr.sliceBound, asIntOf, h1, hmc]
                cases lv with
                | none =>
                  have hl : (pure 0 : Sem Nat).run P w = .ok l w := hl
                  cases hl
                  simp only [Instr.sliceBounds, Option.map_some, hev, Sem.run_bind, Sem.run_pure, Result.andThen_ok, if_true, hsb]
                | some v =>
                  have hl : (Instr.sliceBound v m.toNat .sliceB).run P w = .ok l w := hl
                  simp only [Instr.sliceBounds, Option.map_some, hev, Sem.run_bind, Sem.run_pure, Result.andThen_ok, if_true, hsb, Option.isSome_none, Bool.false_eq_true, if_false, hl]
              · cases ha
          obtain ⟨hh, hhl, hrun, ha⟩ := hhigh
          have hlow : ∃ l : Nat, l ≤ hh ∧ (match lo.map a.eval with | some v => Instr.sliceBound v hh .sliceB | none => pure 0).run P w = .ok l w ∧ e = .val (.sl none ls ((xs.take hh).drop l)) := by
            unfold lowK at ha
            split at ha
            · cases ha; exact ⟨0, Nat.zero_le _, rfl, rfl⟩
            · rename_i lo' _
              split at ha
              · rename_i k m hm
                obtain ⟨h1, ha⟩ := guardK_some ha
                obtain ⟨h2, ha⟩ := guardK_some ha
                have h1 := of_decide_eq_true h1
                have h2 := of_decide_eq_true h2
                cases ha
                have hev := operand_rep h lo'
                rw [hm] at hev
                have hev : a.eval lo' = .int k m := hev
                exact ⟨m.toNat, by omega, by simp [hev, Instr.sliceBound, asIntOf, h1, h2], rfl⟩
              · cases ha
          obtain ⟨l, hll, hlrun, rfl⟩ := hlow
          refine good_val h (v := .slice (if cap = l then A else A.map (·.add (l * te.size))) (hh - l) (cap - l)) ?_ ?_
          · have hb := hrun _ _ hlrun
            simp only [execOp, ho, Instr.sliceAt, Sem.run_bind, hu, Result.andThen_ok, hx, Instr.slice, Option.map_none, hb, hTe.run_sizeOf w, Sem.run_pure]
          · refine ⟨_, cap - l, (rows.take hh).drop l, by congr 1; simp; omega, by simp; omega, (hrr.take hh).drop l, fun r hr => hrl r (List.mem_of_mem_take (List.mem_of_mem_drop hr)), ?_, fun y hy => hcf y (List.mem_of_mem_take (List.mem_of_mem_drop hy)), fun d k e => by cases e⟩
            by_cases hne : (rows.take hh).drop l = []
            · exact .inl hne
            · right
              have hlt : l < hh := by
                apply Classical.byContradiction
                intro hq
                exact hne (List.drop_eq_nil_of_le (by simp; omega))
              rcases hmem with rfl | ⟨B, q, rfl, hrd⟩
              · simp at hne
              · refine ⟨B, q + l * te.size, by rw [if_neg (by omega)]; simp [addr_add], ?_⟩
                intro j u hj
                have hflat : rows.flatten[l * ls.length + j]? = some u := by
                  have hsplit : rows = rows.take l ++ ((rows.take hh).drop l ++ rows.drop hh) := by
                    have e1 : (rows.take hh).take l = rows.take l := by rw [List.take_take]; congr 1; omega
                    rw [← List.append_assoc, ← e1, List.take_append_drop, List.take_append_drop]
                  have hlen1 : (rows.take l).flatten.length = l * ls.length := by
                    have : ∀ (R : List (List Value)), (∀ r ∈ R, r.length = ls.length) → R.flatten.length = R.length * ls.length := by
                      intro R hR
                      induction R with
                      | nil => simp
                      | cons r R ih => rw [List.flatten_cons, List.length_append, hR r (List.mem_cons_self ..), ih fun q hq => hR q (List.mem_cons_of_mem _ hq), List.length_cons, Nat.succ_mul]; omega
                    rw [this _ (fun r hr => hrl r (List.mem_of_mem_take hr)), List.length_take]
                    congr 1; omega
                  have hjl : j < ((rows.take hh).drop l).flatten.length := (List.getElem?_eq_some_iff.1 hj).1
                  rw [hsplit, List.flatten_append, List.flatten_append, List.getElem?_append_right (by rw [hlen1]; omega), hlen1, Nat.add_sub_cancel_left, List.getElem?_append_left hjl]
                  exact hj
                have := hrd _ _ hflat
                rw [hsz, Nat.add_assoc]
                exact this
        · cases ha
    · rename_i m el d off hd hv
      rw [hv] at hx
      obtain ⟨B, hB, hx⟩ := hx
      have hB : g.bx d = some B := hB
      rw [hd] at hu
      split at ha
      · rename_i te cs fz hte hb
        have hTe := T _ _ hte
        split at ha
        · rename_i hq
          obtain ⟨rfl, hs1, hl1, hcm, hcf⟩ := hq
          cases ha
          obtain ⟨B', us, T', h3, h4, h5, h6, _⟩ := h.cells d cs fz hb
          have hBB : B' = B := by rw [h3] at hB; cases hB; rfl
          subst hBB
          have hlen := h6.length
          simp at hlen
          refine good_froze h (v := .slice (some ⟨B', 0, none⟩) m m) ?_ fun g' s' hle hbx hst => ?_
          · simp only [execOp, ho, Instr.sliceAt, Sem.run_bind, hu, Result.andThen_ok, hx, Instr.sureAddr, Sem.run_pure, Instr.sliceBounds, Option.map_none, hTe.run_sizeOf w]
            by_cases hm0 : m = 0
            · subst hm0; simp
            · simp [hm0, addr_add]
          · have hrs := Reps.strips _ _ (Reps.mono hle _ _ h6)
            have hslen : (strips cs).length = cs.length := by
              have : ∀ l : List PV, (strips l).length = l.length := by
                intro l; induction l with
                | nil => rfl
                | cons x l ih => simp [strips, ih]
              exact this cs
            refine ⟨some ⟨B', 0, none⟩, m, us.toList.map fun u => [u], by congr 1; simp; omega, by simp; omega, ?_, fun r hr => ?_, .inr ⟨B', 0, rfl, ?_⟩, fun y hy => ?_, fun d k e => by cases e⟩
            · refine RepRows.of_get (by simp [hslen, hlen]) fun i u hu' => ?_
              rw [List.getElem?_map] at hu'
              cases hi : us.toList[i]? with
              | none => rw [hi] at hu'; cases hu'
              | some z =>
                rw [hi] at hu'
                cases hu'
                have hr1 := hrs.get i z hi
                have hil : i < (strips cs).length := by
                  have := (List.getElem?_eq_some_iff.1 hi).1
                  rw [hslen, ← hlen]
                  simpa using this
                have : nths ((strips cs).map fun c => [c]) i = [nth (strips cs) i] := by
                  simp [nths, nth, List.getD_eq_getElem?_getD, hil]
                rw [this]
                exact ⟨z, [], rfl, hr1, rfl⟩
            · obtain ⟨u, _, rfl⟩ := List.mem_map.1 hr
              rw [hl1]; rfl
            · have : (us.toList.map fun u => [u]).flatten = us.toList := by
                generalize us.toList = L
                induction L with
                | nil => rfl
                | cons x L ih => simp [ih]
              rw [this]
              exact reads_block (C := ctx s' w g') h4 rfl fun o ho => hst d (List.mem_singleton.2 rfl) B' hB us T' _ h4 o ho
            · obtain ⟨c, hc, rfl⟩ := List.mem_map.1 hy
              have hcf' := List.all_eq_true.1 hcf
              have : ∀ l : List PV, ∀ c ∈ strips l, ∃ d ∈ l, c = strip d := by
                intro l; induction l with
                | nil => intro c hc; cases hc
                | cons x l ih =>
                  intro c hc
                  rcases List.mem_cons.1 hc with rfl | hc
                  · exact ⟨x, List.mem_cons_self .., rfl⟩
                  · obtain ⟨d, hd, hq⟩ := ih c hc
                    exact ⟨d, List.mem_cons_of_mem _ hd, hq⟩
              obtain ⟨d0, hd0, rfl⟩ := this cs c hc
              exact hcf' d0 hd0
        · cases ha
      · cases ha
    · cases ha

end
end Go.Pew

namespace Go.Pew
set_option linter.unusedSimpArgs false
set_option linter.unusedVariables false
open Go.RowKit
set_option linter.unusedVariables false
set_option linter.unusedSimpArgs false

section
variable {P : Program} {E : Env} {call : Nat → List PV → Option PV} {base n : Nat} {w0 : Start} {g : Gh} {s : St} {a : Act} {w : World} {o : Oper} {e : Eff}

theorem flatten_len {R : List (List Value)} {m : Nat} (hR : ∀ r ∈ R, r.length = m) : R.flatten.length = R.length * m := by
  induction R with
  | nil => simp
  | cons r R ih => rw [List.flatten_cons, List.length_append, hR r (List.mem_cons_self ..), ih fun q hq => hR q (List.mem_cons_of_mem _ hq), List.length_cons, Nat.succ_mul]; omega

theorem growBy_le (need : Nat) : ∀ (k c : Nat), 256 ≤ c → c < need → Builtin.growBy need k c ≤ 2 * need
  | 0, c, h1, h2 => by simp only [Builtin.growBy]; omega
  | k + 1, c, h1, h2 => by
    simp only [Builtin.growBy]
    rw [if_neg (by omega)]
    by_cases hq : c + (c + 768) / 4 < need
    · exact growBy_le need k _ (by omega) hq
    · have : ∀ k c, need ≤ c → Builtin.growBy need k c = c := by
        intro k c hc
        cases k with
        | zero => rfl
        | succ k => simp only [Builtin.growBy]; rw [if_pos hc]
      rw [this k _ (by omega)]
      omega

theorem nextslicecap_le {need cap : Nat} (h : cap < need) : Builtin.nextslicecap need cap ≤ 2 * need := by
  unfold Builtin.nextslicecap
  split
  · omega
  · split
    · omega
    · exact growBy_le need 4 cap (by omega) h

theorem run_firstCells {C : Ctx} {rows : List (List Value)} {m cap : Nat} {A : Option Addr} (hl : ∀ r ∈ rows, r.length = m) (hr : rows = [] ∨ ∃ B q, A = some ⟨B, q, none⟩ ∧ C.reads B q rows.flatten) :
    (Builtin.firstCells m rows.length (.slice A rows.length cap)).run P C.w = .ok rows.flatten.toArray C.w := by
  rcases hr with rfl | ⟨B, q, rfl, hr⟩
  · cases A with
    | none => rfl
    | some x =>
      simp only [Builtin.firstCells, List.length_nil, Nat.zero_mul, List.flatten_nil]
      rfl
  · have := run_loadCells_list (P := P) C.w ⟨B, q, none⟩ rows.flatten (fun j v hv => by rw [addr_add]; exact (hr j v hv).1)
    rw [flatten_len hl] at this
    exact this

theorem conf_leaf {l : LK} {p : PV} (h : conf l p = true) : leaf p = true := by
  cases l <;> cases p <;> simp_all [conf, leaf]

theorem confs_leafs : ∀ {ls : List LK} {cs : List PV}, confs ls cs = true → cs.all leaf = true
  | [], [], _ => rfl
  | [], _ :: _, h => by simp [confs] at h
  | _ :: _, [], h => by simp [confs] at h
  | l :: ls, c :: cs, h => by
    simp only [confs, Bool.and_eq_true] at h
    simp [conf_leaf h.1, confs_leafs h.2]

theorem rows_oneCell {C : Ctx} {ls : List LK} : ∀ {xs : List (List PV)} {rows : List (List Value)}, RepRows C xs rows → (∀ x ∈ xs, confs ls x = true) → ∀ u ∈ rows.flatten, u.oneCell' = true
  | [], rows, hr, hc, u, hu => by rw [RepRows] at hr; subst hr; simp at hu
  | x :: xs, rows, hr, hc, u, hu => by
    rw [RepRows] at hr
    obtain ⟨r, ws, rfl, h1, h2⟩ := hr
    rw [List.flatten_cons] at hu
    rcases List.mem_append.1 hu with hu | hu
    · exact leafs_oneCell (confs_leafs (hc x (List.mem_cons_self ..))) h1 u hu
    · exact rows_oneCell h2 (fun y hy => hc y (List.mem_cons_of_mem _ hy)) u hu

/-- A row of the call's own that has grown into a new block. -/
theorem SimG.grow (h : SimG base w0 n g s a w) {d : Nat} (hd : d < n) {ls : List LK} {xs : List (List PV)} {rws : List (List Value)} {us : Array Value} {T : TypeId} {cap : Nat} {w1 : World} (hw1 : w1.heap = w.heap) (hos : Below base w w1)
    (hr : RepRows (ctx s w g) xs rws) (hl : ∀ r ∈ rws, r.length = ls.length) (hc : ∀ x ∈ xs, confs ls x = true) (hu : us.toList.take rws.flatten.length = rws.flatten) (hcap : rws.length ≤ cap) (hus : us.size = cap * ls.length) (dst : Option Nat) :
    Sim base w0 n (upd s dst (.app d ls xs)) (a.put dst (.slice (some ⟨w.heap.size, 0, none⟩) rws.length cap)) (w1.alloc (.cells us T)) := by
  let w' := w1.alloc (.cells us T)
  have hsz : w1.heap.size = w.heap.size := by rw [hw1]
  have hfl := flatten_len hl
  let st' : Nat → Nat → Prop := fun B o => g.st B o ∨ (B = w.heap.size ∧ o < rws.length * ls.length)
  have hold : ∀ k, k < w.heap.size → w'.heap[k]? = w.heap[k]? := fun k hk => by
    have := Below.heap_alloc w1 (.cells us T) k (by rw [hsz]; exact hk)
    rw [hw1] at this
    exact this
  have hnewb : w'.heap[w.heap.size]? = some (.cells us T (0, 0)) := by
    have := heap_alloc_new w1 (.cells us T)
    rw [hsz] at this
    exact this
  have hle2 : rws.length * ls.length ≤ us.size := by rw [hus]; exact Nat.mul_le_mul_right _ hcap
  have hstlt : ∀ B o, g.st B o → B < w.heap.size := fun B o ho => by
    obtain ⟨us, T, fr, e, _⟩ := h.stlt B o ho
    exact block_lt e
  have hle : (ctx s w g).Le (ctx s w' { g with st := st' }) := ⟨fun _ _ h => .inl h, fun B o ho => World.cell?_of_block (w := w) (hold B (hstlt B o ho)), fun _ _ h => h, fun _ _ _ _ h => h, fun _ _ _ => rfl, fun _ _ _ => rfl, fun _ h => h⟩
  refine ⟨_, h.tag hd (w' := w') (st' := st') (ls := ls) (xs := xs) (hos.alloc (by rw [hsz]; exact Nat.le_trans h.base_le h.below.size) _) (fun k hk _ => hold k hk) (fun B o ho => World.cell?_of_block (w := w) (hold B (hstlt B o ho)))
    (fun _ _ h => .inl h) (fun B o ho => ?_) (fun B o ho => ?_) (.inr ⟨w.heap.size, 0, rws.length, cap, us, T, rfl, Nat.le_trans h.base_le h.below.size, hnewb, by rw [Nat.zero_add, hus]; exact Nat.le_refl _, hcap, fun j hj hq => ?_, fun d' hq => ?_⟩)
    (fun d' B hne hB hq => ?_) (fun B hq => h.old (by simp [ownBlock] at hq; exact Nat.le_of_eq hq)) ?_ dst⟩
  · rcases ho with ho | ⟨ho, _⟩
    · exact .inl ho
    · exact .inr (.inr (by omega))
  · rcases ho with ho | ⟨rfl, ho⟩
    · obtain ⟨us', T', fr, e, hl⟩ := h.stlt B o ho
      exact ⟨us', T', fr, by rw [hold B (block_lt e)]; exact e, hl⟩
    · exact ⟨us, T, _, hnewb, by omega⟩
  · rcases hq with hq | ⟨_, hq⟩
    · exact absurd (hstlt _ _ hq) (Nat.lt_irrefl _)
    · omega
  · exact absurd (h.bx_lt hq).1 (Nat.lt_irrefl _)
  · simp [ownBlock] at hB
    subst hB
    exact absurd (h.own_lt hq).1 (Nat.lt_irrefl _)
  · refine ⟨some ⟨w.heap.size, 0, none⟩, cap, rws, rfl, hcap, RepRows.mono hle _ _ hr, hl, .inr ⟨w.heap.size, 0, rfl, fun j u hj => ?_⟩, hc, fun d k e => by cases e⟩
    have hjl : j < rws.length * ls.length := by
      have := (List.getElem?_eq_some_iff.1 hj).1
      omega
    rw [Nat.zero_add]
    refine ⟨?_, .inr ⟨rfl, hjl⟩⟩
    have hju : us.toList[j]? = some u := by
      rw [← hu, List.getElem?_take] at hj
      split at hj
      · exact hj
      · cases hj
    show w'.cell? _ = _
    simp only [World.cell?, hnewb]
    simpa using hju

/-- A row of the call's own that has grown in its own block. -/
theorem SimG.growIn (h : SimG base w0 n g s a w) {d : Nat} (hd : d < n) {ls : List LK} {xs ys : List (List PV)} {rws rws' : List (List Value)} {us : Array Value} {T : TypeId} {B q cap : Nat} (hz : g.osz d = ls.length)
    (hown : g.own d = .slice (some ⟨B, q, none⟩) rws.length cap) (hh : w.heap[B]? = some (.cells us T (0, 0))) (hqc : q + cap * ls.length ≤ us.size) (hfree : ∀ j, q + rws.length * ls.length ≤ j → ¬ g.st B j) (hbase : base ≤ B) (hnb : ∀ d', g.bx d' ≠ some B)
    (hr : RepRows (ctx s w g) xs rws) (hl : ∀ r ∈ rws, r.length = ls.length) (hc : ∀ x ∈ xs, confs ls x = true) (hrd : rws = [] ∨ (ctx s w g).reads B q rws.flatten)
    (hr' : RepRows (ctx s w g) ys rws') (hl' : ∀ r ∈ rws', r.length = ls.length) (hc' : ∀ x ∈ ys, confs ls x = true) (hcap : rws.length + rws'.length ≤ cap) (dst : Option Nat) :
    Sim base w0 n (upd s dst (.app d ls (xs ++ ys))) (a.put dst (.slice (some ⟨B, q, none⟩) (rws.length + rws'.length) cap))
      (w.setRow B (us.toList.take (q + rws.length * ls.length) ++ rws'.flatten ++ us.toList.drop (q + rws.length * ls.length + rws'.flatten.length)).toArray) := by
  have hfl := flatten_len hl
  have hfl' := flatten_len hl'
  have hmul : (rws.length + rws'.length) * ls.length ≤ cap * ls.length := Nat.mul_le_mul_right _ hcap
  rw [Nat.add_mul] at hmul
  let us' : Array Value := (us.toList.take (q + rws.length * ls.length) ++ rws'.flatten ++ us.toList.drop (q + rws.length * ls.length + rws'.flatten.length)).toArray
  have hsz : us'.size = us.size := by simp [us', hfl']; omega
  let w' := w.setRow B us'
  let st' : Nat → Nat → Prop := fun B' o => g.st B' o ∨ (B' = B ∧ q + rws.length * ls.length ≤ o ∧ o < q + (rws.length + rws'.length) * ls.length)
  have hnew : w'.heap[B]? = some (.cells us' T (0, 0)) := setRow_heap w B us us' T (0, 0) hh
  have hold : ∀ k, k ≠ B → w'.heap[k]? = w.heap[k]? := fun k hk => setRow_other w B k us' hk
  have hob : ownBlock (g.own d) = some B := by rw [hown]; rfl
  have hlow : ∀ j, j < q + rws.length * ls.length → us'[j]? = us[j]? := fun j hj => by
    have : us'.toList[j]? = us.toList[j]? := by
      have e1 : us'.toList = us.toList.take (q + rws.length * ls.length) ++ (rws'.flatten ++ us.toList.drop (q + rws.length * ls.length + rws'.flatten.length)) := by simp [us']
      rw [e1, List.getElem?_append_left (by simp; omega), List.getElem?_take, if_pos hj]
    simpa using this
  have hcell : ∀ B' o, g.st B' o → w'.cell? ⟨B', o, none⟩ = w.cell? ⟨B', o, none⟩ := fun B' o ho => by
    by_cases hB : B' = B
    · subst hB
      have : o < q + rws.length * ls.length := by
        apply Classical.byContradiction
        intro hq
        exact hfree o (by omega) ho
      simp only [World.cell?, hnew, hh]
      simp [hlow o this]
    · exact World.cell?_of_block (w := w) (hold B' hB)
  have hle : (ctx s w g).Le (ctx s w' { g with st := st' }) := ⟨fun _ _ h => .inl h, hcell, fun _ _ h => h, fun _ _ _ _ h => h, fun _ _ _ => rfl, fun _ _ _ => rfl, fun _ h => h⟩
  refine ⟨_, h.tag hd (w' := w') (st' := st') (ls := ls) (xs := xs ++ ys) ⟨rfl, rfl, rfl, by simp [w', World.setRow], fun k hk => hold k (by omega)⟩ (fun k hk hne => hold k (fun q => hne (by rw [hob, q]))) hcell
    (fun _ _ h => .inl h) (fun B' o ho => ?_) (fun B' o ho => ?_) (.inr ⟨B, q, rws.length + rws'.length, cap, us', T, rfl, hbase, hnew, by rw [hsz]; exact hqc, hcap, fun j hj hq => ?_, hnb⟩)
    (fun d' B' hne hB hq => ?_) (fun B' hq hQ => (h.quiet B' hQ).2.2.2 d (by simp [ownBlock] at hq; rw [hob, hq])) ?_ dst⟩
  · rcases ho with ho | ⟨ho, _⟩
    · exact .inl ho
    · exact .inr (.inl (by rw [hob, ho]))
  · rcases ho with ho | ⟨rfl, ho1, ho2⟩
    · obtain ⟨us1, T1, fr, e, hl⟩ := h.stlt B' o ho
      by_cases hB : B' = B
      · subst hB
        rw [hh] at e
        cases e
        exact ⟨us', T, _, hnew, by rw [hsz]; exact hl⟩
      · exact ⟨us1, T1, fr, by rw [hold B' hB]; exact e, hl⟩
    · refine ⟨us', T, _, hnew, ?_⟩
      rw [hsz]
      rw [Nat.add_mul] at ho2
      omega
  · rcases hq with hq | ⟨_, _, hq⟩
    · refine hfree j ?_ hq
      rw [Nat.add_mul] at hj
      omega
    · omega
  · simp [ownBlock] at hB
    subst hB
    exact h.apart d d' B hne.symm hob hq
  · refine ⟨some ⟨B, q, none⟩, cap, rws ++ rws', by simp, by simpa using hcap, (RepRows.mono hle _ _ hr).append (RepRows.mono hle _ _ hr'), fun r hr => (List.mem_append.1 hr).elim (hl r) (hl' r), .inr ⟨B, q, rfl, fun j u hj => ?_⟩,
      fun x hx => (List.mem_append.1 hx).elim (hc x) (hc' x), fun d k e => by cases e⟩
    rw [List.flatten_append] at hj
    by_cases hjl : j < rws.flatten.length
    · rw [List.getElem?_append_left hjl] at hj
      rcases hrd with rfl | hrd
      · simp at hjl
      · exact hle.reads hrd j u hj
    · rw [List.getElem?_append_right (by omega)] at hj
      have hj2 : j - rws.flatten.length < rws'.flatten.length := (List.getElem?_eq_some_iff.1 hj).1
      refine ⟨?_, .inr ⟨rfl, by omega, by rw [Nat.add_mul]; omega⟩⟩
      show w'.cell? _ = _
      simp only [World.cell?, hnew]
      have : us'.toList[q + j]? = some u := by
        have e1 : us'.toList = us.toList.take (q + rws.length * ls.length) ++ (rws'.flatten ++ us.toList.drop (q + rws.length * ls.length + rws'.flatten.length)) := by simp [us']
        have e2 : (us.toList.take (q + rws.length * ls.length)).length = q + rws.length * ls.length := by simp; omega
        rw [e1, List.getElem?_append_right (by omega), e2, List.getElem?_append_left (by omega), show q + j - (q + rws.length * ls.length) = j - rws.flatten.length by omega]
        exact hj
      simpa using this

/-- The arm with room. -/
theorem run_append_in {P : Program} {w : World} {ts : Array TypeId} {ty t t' el el2 sz n m cap cap' : Nat} {A A' : Option Addr} {news : List Value} (h1 : ts[0]? = some t) (h1' : ts[1]? = some t') (hu : (underlying t).run P w = .ok (.slice el) w)
    (hu' : (underlying t').run P w = .ok (.slice el2) w) (hs : (sizeOf el).run P w = .ok sz w) (hn : (Builtin.firstCells sz m (.slice A' m cap')).run P w = .ok news.toArray w) (hneed : n + m ≤ cap) {w' : World}
    (hst : (match A with | some a => storeCells (a.add (n * sz)) news | none => pure ()).run P w = .ok () w') :
    (Builtin.append_ ts ty #[.slice A n cap, .slice A' m cap']).run P w = .ok (.slice A (n + m) cap) w' := by
  cases A with
  | none =>
    have hst : (pure () : Sem Unit).run P w = .ok () w' := hst
    cases hst
    simp [Builtin.append_, h1, h1', hu, hu', hs, Builtin.lenOf, hneed, hn]
  | some a =>
    have hst : (storeCells (a.add (n * sz)) news).run P w = .ok () w' := hst
    simp [Builtin.append_, h1, h1', hu, hu', hs, Builtin.lenOf, hneed, hn, hst]

/-- The arm that grows. -/
theorem run_append_out {P : Program} {w : World} {ts : Array TypeId} {ty t t' el el2 sz n m cap cap' : Nat} {A A' : Option Addr} {olds news : List Value} (h1 : ts[0]? = some t) (h1' : ts[1]? = some t') (hu : P.underlying t = some (.slice el))
    (hu' : P.underlying t' = some (.slice el2)) {i : TypeInfo} {z : Value} (hi : P.info? el = some i) (hz : i.zero = some z) (hsz : i.size = sz)
    (hn : ∀ w' : World, w'.heap = w.heap → (Builtin.firstCells sz m (.slice A' m cap')).run P w' = .ok news.toArray w') (ho : ∀ w' : World, w'.heap = w.heap → (Builtin.firstCells sz n (.slice A n cap)).run P w' = .ok olds.toArray w') (hneed : cap < n + m)
    (h63 : ((n + m : Nat) : Int) ≤ 9223372036854775807) (hfit : Builtin.nextslicecap (n + m) cap * i.bytes ≤ 281474976710656) :
    (Builtin.append_ ts ty #[.slice A n cap, .slice A' m cap']).run P w = .ok (.slice (some ⟨w.heap.size, 0, none⟩) (n + m) (grownCap w (n + m) cap el))
      (w.drew.alloc (.cells (olds.toArray ++ news.toArray ++ Builtin.zeroCells z.cells (grownCap w (n + m) cap el - (n + m))) el)) := by
  have hn' : ¬ (n + m ≤ cap) := by omega
  have h63' : ¬ (9223372036854775807 < ((n : Int) + (m : Int))) := by omega
  have h48' : ¬ (281474976710656 < Builtin.nextslicecap (n + m) cap * i.bytes) := by omega
  subst hsz
  have hf := hn w.drew rfl
  have hfo := ho w.drew rfl
  simp [Builtin.append_, h1, h1', run_underlying hu, run_underlying hu', sizeOf, typeInfo, zeroValue, hi, hz, Builtin.lenOf, hn', h63', h48', Question.forced, hf, hfo, newRow, grownCap]
  congr 2
  apply Array.ext'
  simp [List.append_assoc]

theorem app_ok {tag : Nat} {ls : List LK} {xs : List (List PV)} (hok : okEff s o.dst (.app tag ls xs) = true) (h : SimG base w0 n g s a w) : tag < n := by
  unfold okEff at hok
  simp only [Bool.and_eq_true] at hok
  rw [← h.ns]
  exact blt_lt hok.2

theorem act_append (T : ∀ t ti, E.ty t = some ti → TyOk P t ti) (h : SimG base w0 n g s a w) {args : Array Operand} {ts : Array TypeId} {t t' : Nat} {x y : Operand} (ho : o.op = .call { callee := .builtin .append, args := args, argTypes := ts })
    (hargs : args.toList = [x, y]) (hts : ts.toList = [t, t']) (ha : appK E s t t' (operand s x) (operand s y) some = some e) (hok : okEff s o.dst e = true) : Good P o a w (Sim base w0 n (upd s o.dst e)) := by
  have hx := operand_rep h x
  have hy := operand_rep h y
  have h0 : args = #[x, y] := by apply Array.ext'; simpa using hargs
  have h1 : ts[0]? = some t := by rw [← Array.getElem?_toList, hts]; rfl
  have h1' : ts[1]? = some t' := by rw [← Array.getElem?_toList, hts]; rfl
  unfold appK at ha
  split at ha
  · rename_i ti tu hti htu
    have hu := (T _ _ hti).run_und w
    have hu' := (T _ _ htu).run_und w
    split at ha
    · rename_i el el2 hd hd2
      rw [hd] at hu
      rw [hd2] at hu'
      split at ha
      · cases ha
      · rename_i te hte
        have hTe := T _ _ hte
        obtain ⟨i0, z, hi1, hi2, hi3, hi4, hz⟩ := hTe.info
        have hzl := (hz (ctx s w g)).length
        simp at hzl
        rw [hTe.zl] at hzl
        split at ha
        · rename_i d v ls xs tag2 ls2 ys hvx hvy
          split at ha
          · rename_i hq
            obtain ⟨rfl, hb0, hsz, hsame⟩ := hq
            have := sameLK_eq _ _ hsame
            subst this
            obtain ⟨q1, ha1⟩ := guardK_some ha
            have q1 := of_decide_eq_true q1
            cases ha1
            clear ha
            have hdn := app_ok hok h
            rw [hvx] at hx
            rw [hvy] at hy
            obtain ⟨A, cap, rows, hx, hcap, hrr, hrl, hmem, hcf, htg⟩ := hx
            obtain ⟨A', cap', rows', hy, hcap', hrr', hrl', hmem', hcf', _⟩ := hy
            obtain ⟨_, htg⟩ := htg d (s.ver d) rfl
            obtain ⟨hown, hoz⟩ := htg rfl
            have hoz : g.osz d = ls.length := hoz.symm
            have hlx := hrr.length
            have hly := hrr'.length
            rw [← hlx, ← hly] at q1
            have hev : (execOp a.eval o).run P w = ((Builtin.append_ ts o.type #[.slice A rows.length cap, .slice A' rows'.length cap']).run P w).andThen fun v w' => .ok (.value v) w' := by
              rw [run_builtin _ _ _ ho w, h0]
              simp only [builtin, Sem.run_bind, List.map_toArray, List.map_cons, List.map_nil, hx, hy]
              rfl
            have hnew : (Builtin.firstCells ls.length rows'.length (.slice A' rows'.length cap')).run P w = .ok rows'.flatten.toArray w := run_firstCells (C := ctx s w g) hrl' hmem'
            have hold : (Builtin.firstCells ls.length rows.length (.slice A rows.length cap)).run P w = .ok rows.flatten.toArray w := run_firstCells (C := ctx s w g) hrl hmem
            have hmatch : (match TypeDesc.slice el2 with | TypeDesc.int _ => true | _ => false) = false := rfl
            by_cases hneed : rows.length + rows'.length ≤ cap
            · -- in its own block
              rcases h.own d with hnil | ⟨B, q, len, cap0, us, T0, hv, hbase, hh, hqc, hlc, hfree, hnb⟩
              · rw [hnil] at hown
                rw [hown] at hx
                have hxx : Value.slice none 0 0 = Value.slice A rows.length cap := hx
                simp only [Value.slice.injEq] at hxx
                obtain ⟨rfl, hr0, rfl⟩ := hxx
                have hr1 : rows' = [] := List.eq_nil_of_length_eq_zero (by omega)
                have hr2 : rows = [] := List.eq_nil_of_length_eq_zero hr0.symm
                subst hr1; subst hr2
                have hx0 : xs = [] := List.eq_nil_of_length_eq_zero hlx.symm
                have hy0 : ys = [] := List.eq_nil_of_length_eq_zero hly.symm
                subst hx0; subst hy0
                refine good_value (v := .slice none 0 0) (w' := w) ?_ ?_
                · rw [hev]
                  have := run_append_in (ty := o.type) (A := none) (cap := 0) (n := 0) h1 h1' hu hu' (by rw [← hsz]; exact hTe.run_sizeOf w) hnew (Nat.zero_le _) (w' := w) rfl
                  simp only [List.length_nil] at this ⊢
                  rw [this]
                  rfl
                · exact ⟨_, h.tag hdn (w' := w) (st' := g.st) (v := .slice none 0 0) (ls := ls) (xs := []) (Below.refl _ _) (fun _ _ _ => rfl) (fun _ _ _ => rfl) (fun _ _ h => h) (fun _ _ h => .inl h) h.stlt (.inl rfl)
                    (fun _ _ _ e => by cases e) (fun B hq => by simp [ownBlock] at hq) (rep_nil _ _) o.dst⟩
              · rw [hv] at hown
                have hown := hx.symm.trans hown
                simp only [Value.slice.injEq] at hown
                obtain ⟨rfl, hlen, rfl⟩ := hown
                subst hlen
                rw [hoz] at hqc hfree
                have h1c := rows_oneCell hrr' hcf'
                have hfl' := flatten_len hrl'
                have hmul : (rows.length + rows'.length) * ls.length ≤ cap * ls.length := Nat.mul_le_mul_right _ hneed
                rw [Nat.add_mul] at hmul
                have hst := run_storeCells (P := P) B (q + rows.length * ls.length) T0 rows'.flatten 0 us w hh (by omega) h1c
                simp only [Nat.add_zero] at hst
                refine good_value (v := .slice (some ⟨B, q, none⟩) (rows.length + rows'.length) cap) (w' := w.setRow B (us.toList.take (q + rows.length * ls.length) ++ rows'.flatten ++ us.toList.drop (q + rows.length * ls.length + rows'.flatten.length)).toArray) ?_ ?_
                · rw [hev]
                  have := run_append_in (ty := o.type) (A := some ⟨B, q, none⟩) (n := rows.length) h1 h1' hu hu' (by rw [← hsz]; exact hTe.run_sizeOf w) hnew hneed (w' := w.setRow B (us.toList.take (q + rows.length * ls.length) ++ rows'.flatten ++ us.toList.drop (q + rows.length * ls.length + rows'.flatten.length)).toArray) (by
                    show (storeCells ((⟨B, q, none⟩ : Addr).add (rows.length * ls.length)) rows'.flatten).run P w = _
                    rw [addr_add]
                    exact hst)
                  rw [this]
                  rfl
                · exact h.growIn hdn hoz hv hh hqc hfree hbase hnb hrr hrl hcf (hmem.imp id fun ⟨B', q', e, hrd⟩ => by cases e; exact hrd) hrr' hrl' hcf' hneed o.dst
            · -- in a new one
              have hneed : cap < rows.length + rows'.length := by omega
              have hbm : rows.length + rows'.length ≤ (rows.length + rows'.length) * te.bytes := Nat.le_mul_of_pos_right _ (by omega)
              have hgl := nextslicecap_le hneed
              have hfit : Builtin.nextslicecap (rows.length + rows'.length) cap * i0.bytes ≤ 281474976710656 := by
                rw [hi3]
                have : Builtin.nextslicecap (rows.length + rows'.length) cap * te.bytes ≤ 2 * (rows.length + rows'.length) * te.bytes := Nat.mul_le_mul_right _ hgl
                rw [Nat.mul_assoc] at this
                omega
              have hcell : ∀ (w' : World), w'.heap = w.heap → ∀ B o us, (ctx s w g).reads B o us → ({ ctx s w g with w := w' } : Ctx).reads B o us := fun w' hw' B o us hr j u hj => by
                obtain ⟨r1, r2⟩ := hr j u hj
                refine ⟨?_, r2⟩
                have r1 : w.cell? _ = _ := r1
                show w'.cell? _ = _
                simp only [World.cell?, hw'] at r1 ⊢
                exact r1
              have hge := grownCap_ge w (rows.length + rows'.length) cap el
              have hrun := run_append_out (ty := o.type) (P := P) (w := w) (sz := ls.length) (n := rows.length) (m := rows'.length) (A := A) (A' := A') (cap := cap) (cap' := cap') h1 h1' (by rw [← hd]; exact (T _ _ hti).und) (by rw [← hd2]; exact (T _ _ htu).und) hi1 hi4 (by rw [hi2, hsz])
                (fun w' hw' => run_firstCells (C := { ctx s w g with w := w' }) hrl' (hmem'.imp id fun ⟨B, q, e, hr⟩ => ⟨B, q, e, hcell w' hw' _ _ _ hr⟩)) (fun w' hw' => run_firstCells (C := { ctx s w g with w := w' }) hrl (hmem.imp id fun ⟨B, q, e, hr⟩ => ⟨B, q, e, hcell w' hw' _ _ _ hr⟩)) hneed (by omega) hfit
              have hfl := flatten_len hrl
              have hfl' := flatten_len hrl'
              have hfa : (rows ++ rows').flatten.length = (rows.length + rows'.length) * ls.length := by rw [List.flatten_append, List.length_append, hfl, hfl', Nat.add_mul]
              have hG := h.grow (d := d) hdn (ls := ls) (xs := xs ++ ys) (rws := rows ++ rows') (us := rows.flatten.toArray ++ rows'.flatten.toArray ++ Builtin.zeroCells z.cells (grownCap w (rows.length + rows'.length) cap el - (rows.length + rows'.length))) (T := el) (cap := grownCap w (rows.length + rows'.length) cap el) (w1 := w.drew) rfl
                ⟨rfl, rfl, rfl, Nat.le_refl _, fun _ _ => rfl⟩ (hrr.append hrr') (fun r hr => (List.mem_append.1 hr).elim (hrl r) (hrl' r)) (fun x hx => (List.mem_append.1 hx).elim (hcf x) (hcf' x))
                (by
                  rw [hfa]
                  simp only [Array.toList_append, List.flatten_append]
                  rw [List.take_left' (by simp [hfl, hfl', Nat.add_mul])])
                (by simpa using hge)
                (by
                  simp only [Array.size_append, List.size_toArray, hfl, hfl', Builtin.zeroCells, Array.size_map, Array.size_range]
                  have : z.cells.size = ls.length := by rw [← hsz]; exact hzl
                  rw [this, ← Nat.add_mul, ← Nat.add_mul]
                  congr 1
                  omega) o.dst
              rw [List.length_append] at hG
              refine good_value ?_ hG
              rw [hev, hrun]
              rfl
          · cases ha
        · cases ha
    · cases ha
  · cases ha

end
end Go.Pew

namespace Go.Pew
set_option linter.unusedSimpArgs false
set_option linter.unusedVariables false
open Go.RowKit
set_option linter.unusedVariables false
set_option linter.unusedSimpArgs false

def plainCtx (w : World) (st : Nat → Nat → Prop) : Ctx := { w := w, st := st, bx := fun _ => none, tg := fun _ _ _ _ => False, rs := fun _ => 0, rl := fun _ => 0, yl := none }
def StOk (w : World) (st : Nat → Nat → Prop) : Prop := ∀ B o, st B o → ∃ us T fr, w.heap[B]? = some (.cells us T fr) ∧ o < us.size

def RConf (E : Env) (fn : Func) (r : PV) : Prop := match fn.resultTypes.toList with
  | [t] => confT E t r = true
  | ts => ∃ vs, r = .tup vs ∧ confTs E ts vs = true

def gh0 (st : Nat → Nat → Prop) : Gh := { st := st, bx := fun _ => none, own := fun _ => .slice none 0 0, osz := fun _ => 0, yl := none }

/-- What a call leaves. -/
def After (E : Env) (f : Nat) (r : PV) (w : World) (st : Nat → Nat → Prop) (v : Value) (w' : World) : Prop :=
  Below w.heap.size w w' ∧ ∃ st', (∀ B o, st B o → st' B o) ∧ (∀ B o, st' B o → st B o ∨ w.heap.size ≤ B) ∧ StOk w' st' ∧
    ((∃ u, r = u ∧ Rep (plainCtx w' st') u v)) ∧ (E.own f = true → ∃ ls xs, r = .sl none ls xs ∧ OwnOk (gh0 st') w.heap.size w' v ls.length)

/-- A function, called with what 'args' tell, hands back what r tells. -/
def Contract (P : Program) (E : Env) (f : Nat) (args : List PV) (r : PV) : Prop :=
  (∀ fn, E.fn f = some fn → RConf E fn r) ∧ ∀ w st vals, StOk w st → Reps (plainCtx w st) args vals → Calls P f vals.toArray w fun e w' => ∃ v, e = .returned v ∧ After E f r w st v w'

/-- A function, called with what 'args' tell, makes a function value: which, and what it has captured. -/
def MakerC (P : Program) (f : Nat) (args : List PV) (g : Nat) (pre : List PV) (m : Option (List PV)) (post : List PV) : Prop :=
  ∀ w st vals, StOk w st → Reps (plainCtx w st) args vals → Calls P f vals.toArray w fun e w' => ∃ pv mv qv, e = .returned (.func (.func g) #[] (pv ++ mv ++ qv).toArray) ∧
    Below w.heap.size w w' ∧ ∃ st', (∀ B o, st B o → st' B o) ∧ (∀ B o, st' B o → st B o ∨ w.heap.size ≤ B) ∧ StOk w' st' ∧ Reps (plainCtx w' st') pre pv ∧ Reps (plainCtx w' st') post qv ∧
    match m with
    | none => mv = []
    | some cs => ∃ B us T, mv = [.pointer (some ⟨B, 0, none⟩)] ∧ w.heap.size ≤ B ∧ w'.heap[B]? = some (.cells us T (0, 0)) ∧ Reps (plainCtx w' st') cs us.toList ∧ ∀ o, ¬ st' B o

/-- What the table tells of the makers is so. -/
def MakersOk (P : Program) (E : Env) : Prop := ∀ f m, E.maker f = some m → (∃ fn, P.funcs[f]? = some fn ∧ (fn.name == "runtime.NumGoroutine") = false ∧ fn.body.isNone = false) ∧ ∀ args g pre c post, m args = some (g, pre, c, post) → MakerC P f args g pre c post

def FnOk (P : Program) (E : Env) : Prop := ∀ f fn, E.fn f = some fn → P.funcs[f]? = some fn ∧ (fn.name == "runtime.NumGoroutine") = false ∧ fn.body.isNone = false

section
variable {P : Program} {E : Env} {call : Nat → List PV → Option PV} {base n : Nat} {w0 : Start} {g : Gh} {s : St} {a : Act} {w : World} {o : Oper} {e : Eff}

theorem argsK_some {R : Type} (s : St) {κ : List PV → List Nat → Option R} {r : R} : ∀ (os : List Operand) (ds : List Nat) (acc : List PV), argsK s os ds acc κ = some r →
    ∃ ds', (∀ d ∈ ds, d ∈ ds') ∧ (∀ o ∈ os, ∀ d, operand s o = .row d → d ∈ ds') ∧ κ (acc.reverse ++ os.map fun o => handed s (operand s o)) ds' = some r
  | [], ds, acc, h => ⟨ds, fun _ h => h, by simp, by simpa [argsK] using h⟩
  | o :: os, ds, acc, h => by
    unfold argsK at h
    split at h
    · rename_i d hd
      split at h
      · rename_i ls xs fz hb
        obtain ⟨ds', h1, h2, h3⟩ := argsK_some s os (d :: ds) _ h
        refine ⟨ds', fun x hx => h1 x (List.mem_cons_of_mem _ hx), fun x hx e he => ?_, ?_⟩
        · rcases List.mem_cons.1 hx with rfl | hx
          · rw [hd] at he; cases he
            exact h1 _ (List.mem_cons_self ..)
          · exact h2 x hx e he
        · rw [← h3]
          simp [hd, handed, hb]
      · cases h
    · rename_i hnr
      obtain ⟨ds', h1, h2, h3⟩ := argsK_some s os ds _ h
      refine ⟨ds', h1, fun x hx e he => ?_, ?_⟩
      · rcases List.mem_cons.1 hx with rfl | hx
        · exact absurd he (hnr e)
        · exact h2 x hx e he
      · rw [← h3]
        have : handed s (operand s o) = strip (operand s o) := by
          cases hq : operand s o with
          | row d => exact absurd hq (hnr d)
          | _ => rfl
        simp [this]

theorem argsK_nil {R : Type} {s : St} {κ : List PV → List Nat → Option R} {r : R} {os : List Operand} (h : argsK s os [] [] κ = some r) :
    ∃ ds', (∀ o ∈ os, ∀ d, operand s o = .row d → d ∈ ds') ∧ κ (os.map fun o => handed s (operand s o)) ds' = some r := by
  obtain ⟨ds', _, h2, h3⟩ := argsK_some s os [] [] h
  exact ⟨ds', h2, by simpa using h3⟩

/-- What is handed on, behind the row's box being frozen. -/
theorem handed_rep (h : SimG base w0 n g s a w) {C' : Ctx} (hle : (ctx s w g).Le C') (hw : C'.w = w) {p : PV} {u : Value} (hp : Rep (ctx s w g) p u)
    (hst : ∀ d, p = .row d → ∀ B, g.bx d = some B → ∀ us T fr, w.heap[B]? = some (.cells us T fr) → ∀ o, o < us.size → C'.st B o) : Rep C' (handed s p) u := by
  cases p with
  | row d =>
    obtain ⟨B, hB, hv⟩ := hp
    have hB : g.bx d = some B := hB
    unfold handed
    simp only
    cases hb : s.box d with
    | none => rw [h.nobox d hb] at hB; cases hB
    | some b =>
      cases b with
      | cells cs fz => trivial
      | row ls xs fz =>
        simp only
        obtain ⟨B', us, T, rws, h1, h2, h3, h4, h5, h6, h7, _⟩ := h.rows d ls xs fz hb
        have hBB : B' = B := by rw [h1] at hB; cases hB; rfl
        subst hBB
        have hrl : (ctx s w g).rl d = rws.length := by
          show rowLen (s.box d) = _
          rw [hb, h5.length]; rfl
        rw [hrl] at hv
        refine ⟨_, _, rws, hv, Nat.le_refl _, RepRows.mono hle _ _ h5, h6, .inr ⟨B', 0, rfl, reads_block (C := C') (cells := us) (T := T) (fr := (0, 0)) (by rw [hw]; exact h2) h4.symm fun o ho => hst d rfl B' h1 us T _ h2 o ho⟩, h7, fun d k e => by cases e⟩
  | _ => exact Rep.mono hle _ _ (Rep.strip _ _ hp)

theorem confT_rep {C : Ctx} {t : Nat} {r v : PV} {u : Value} (hc : confT E t r = true) (he : etaT E t r = some v) (h : Rep C r u) : Rep C v u := by
  unfold confT at hc
  unfold etaT at he
  split at hc
  · rename_i ti hti
    rw [hti] at he
    dsimp only at he
    cases hq : ti.agg with
    | true =>
      simp only [hq, if_true] at hc he
      split at hc
      · rename_i cs
        cases he
        obtain ⟨us, rfl, hr⟩ := h
        exact ⟨us, rfl, Reps.etas hc hr⟩
      · cases hc
    | false =>
      simp only [hq, Bool.false_eq_true, if_false] at hc he
      split at hc
      · rename_i l hl
        rw [hl] at he
        cases he
        exact Rep.eta hc h
      · cases hc
  · cases hc

theorem confTs_rep {C : Ctx} : ∀ {ts : List Nat} {i : Nat} {rs vs : List PV} {us : List Value}, confTs E ts (rs.drop i) = true → etaTs E ts i rs = some vs → Reps C (rs.drop i) us → Reps C vs us
  | [], i, rs, vs, us, hc, he, h => by
    have he : some [] = some vs := he
    cases he
    cases hd : rs.drop i with
    | nil => rw [hd] at h; exact h
    | cons r rest => rw [hd] at hc; simp [confTs] at hc
  | t :: ts, i, rs, vs, us, hc, he, h => by
    cases hd : rs.drop i with
    | nil => rw [hd] at hc; simp [confTs] at hc
    | cons r rest =>
      have hi : rs[i]? = some r := by
        have := congrArg (·[0]?) hd
        simpa [List.getElem?_drop] using this
      have hrest : rs.drop (i + 1) = rest := by
        have := congrArg (List.drop 1) hd
        simpa [List.drop_drop] using this
      have hn : nth rs i = r := by simp [nth, List.getD_eq_getElem?_getD, hi]
      rw [hd] at hc h
      simp only [confTs, Bool.and_eq_true] at hc
      rw [Reps] at h
      obtain ⟨u, ws, rfl, h1, h2⟩ := h
      unfold etaTs at he
      split at he
      · rename_i x y hx hy
        cases he
        rw [hn] at hx
        refine ⟨u, ws, rfl, confT_rep hc.1 hx h1, confTs_rep (i := i + 1) (rs := rs) (by rw [hrest]; exact hc.2) hy (by rw [hrest]; exact h2)⟩
      · cases he

theorem etaR_rep {C : Ctx} {fn : Func} {r v : PV} {u : Value} (hc : RConf E fn r) (he : etaR E fn r = some v) (h : Rep C r u) : Rep C v u := by
  unfold RConf at hc
  unfold etaR at he
  split at hc
  · rename_i t ht
    rw [ht] at he
    exact confT_rep hc he h
  · rename_i ts hts
    obtain ⟨vs, rfl, hc⟩ := hc
    split at he
    · rename_i t ht
      exact absurd ht (hts t)
    · split at he
      · rename_i ws hw
        cases he
        obtain ⟨us, rfl, hr⟩ := h
        exact ⟨us, rfl, confTs_rep (i := 0) (rs := vs) (by simpa using hc) hw (by simpa using hr)⟩
      · cases he

theorem plainCtx_le {st : Nat → Nat → Prop} {C : Ctx} (hw : C.w = w) (hst : ∀ B o, st B o → C.st B o) : (plainCtx w st).Le C :=
  { st := hst, cell := fun _ _ _ => by rw [hw]; rfl, bx := fun _ _ h => (by cases h), tg := fun _ _ _ _ h => False.elim h, rs := fun _ _ h => (by cases h), rl := fun _ _ h => (by cases h), yl := fun _ h => (by cases h) }

theorem etaR_sl {fn : Func} {ls : List LK} {xs : List (List PV)} {v : PV} (hc : RConf E fn (.sl none ls xs)) (he : etaR E fn (.sl none ls xs) = some v) : v = .sl none ls xs := by
  unfold RConf at hc
  unfold etaR at he
  split at hc
  · rename_i t ht
    rw [ht] at he
    dsimp only at he
    unfold confT at hc
    unfold etaT at he
    split at hc
    · rename_i ti hti
      rw [hti] at he
      dsimp only at he
      cases hq : ti.agg with
      | true => simp [hq] at hc
      | false =>
        simp only [hq, Bool.false_eq_true, if_false] at hc he
        split at hc
        · rename_i l hl
          rw [hl] at he
          cases he
          cases l with
          | sl ls' =>
            simp only [conf, Bool.and_eq_true] at hc
            rw [sameLK_eq _ _ hc.2]
            rfl
          | _ => simp [conf] at hc
        · cases hc
    · cases hc
  · obtain ⟨vs, hv, _⟩ := hc
    cases hv

theorem act_call (F : FnOk P E) (M : MakersOk P E) (hcall : ∀ f args r, call f args = some r → Contract P E f args r) (h : SimG base w0 n g s a w) {c : Call} {f : Operand} (ho : o.op = .call c) (hc : c.callee = .value f)
    (ha : actCall E call s c some = some e) (hok : okEff s o.dst e = true) : Good P o a w (Sim base w0 n (upd s o.dst e)) := by
  unfold actCall at ha
  rw [hc] at ha
  dsimp only at ha
  split at ha
  · rename_i k caps hf
    obtain ⟨ds, hds, ha⟩ := argsK_nil ha
    by_cases hpl : plains (List.map (fun o => handed s (operand s o)) c.args.toList ++ caps) = true
    · rw [if_pos hpl] at ha
      unfold callK at ha
      split at ha
      · rename_i m hm
        obtain ⟨⟨fn, hF1, hF2, hF3⟩, hmk⟩ := M _ _ hm
        unfold mkK at ha
        have hfr := operand_rep h f
        rw [hf] at hfr
        obtain ⟨us, hfv, hus⟩ := hfr
        have hnr : ds = [] → ∀ x ∈ c.args.toList, ∀ d, operand s x ≠ .row d := fun hd x hx d hq => by
          have := hds x hx d hq
          rw [hd] at this
          cases this
        have hargs : ds = [] → Reps (ctx s w g) (c.args.toList.map fun o => handed s (operand s o)) (c.args.toList.map a.eval) := fun hd => by
          have hnr := hnr hd
          generalize c.args.toList = os at hnr
          induction os with
          | nil => rfl
          | cons x os ih =>
            refine ⟨_, _, rfl, ?_, ih fun y hy => hnr y (List.mem_cons_of_mem _ hy)⟩
            exact handed_rep h (Ctx.Le.refl _) rfl (operand_rep h x) fun d hd => absurd hd (hnr x (List.mem_cons_self ..) d)
        have hrun : (execOp a.eval o).run P w = .ok (.enter k (c.args.toList.map a.eval ++ us.toList).toArray) w := by
          simp only [execOp, ho, resolve, hc, Sem.run_bind, hfv, Deferred.ofValue, Sem.run_pure, Result.andThen_ok, invoke, callFunc, run_program, hF1, hF2, hF3]
          simp
        have hcon : ∀ {g' pre mm post}, ds = [] → m (List.map (fun o => handed s (operand s o)) c.args.toList ++ caps) = some (g', pre, mm, post) → Calls P k (c.args.toList.map a.eval ++ us.toList).toArray w _ := fun hd hq =>
          hmk _ _ _ _ _ hq w g.st _ h.stlt (Reps.mono0 (C := ctx s w g) (C' := plainCtx w g.st) ⟨fun _ _ h => h, fun _ _ _ => rfl⟩ _ _ hpl ((hargs hd).append hus))
        split at ha
        · rename_i g' pre post hq
          cases ha
          intro K Q hK
          unfold Oper.wp
          rw [hrun, Oper.upon_enter]
          refine (hcon rfl hq).mono ?_
          rintro e' w' ⟨pv, mv, qv, rfl, hb, st', s1, s2, s3, r1, r2, rfl⟩
          obtain ⟨h2, l2⟩ := h.world hb st' s1 s2 s3
          have hl : (plainCtx w' st').Le (ctx s w' { g with st := st' }) := plainCtx_le rfl fun _ _ h => h
          have hv : Rep (ctx s w' { g with st := st' }) (.fn g' (pre ++ post)) (.func (.func g') #[] (pv ++ [] ++ qv).toArray) := ⟨_, rfl, by
            simpa using (Reps.mono hl _ _ r1).append (Reps.mono hl _ _ r2)⟩
          exact hK _ _ ⟨_, h2.val hv o.dst⟩
        · rename_i g' pre cs post hq
          cases ha
          have hd : ∃ d, o.dst = some d ∧ d < n ∧ s.box d = none := by
            unfold okEff at hok
            cases hd : o.dst with
            | none => rw [hd] at hok; cases hok
            | some d =>
              rw [hd] at hok
              simp only [Bool.and_eq_true, Option.isNone_iff_eq_none] at hok
              exact ⟨d, rfl, by rw [← h.ns]; exact blt_lt hok.2, hok.1⟩
          obtain ⟨d, hd, hdn, hfree⟩ := hd
          intro K Q hK
          unfold Oper.wp
          rw [hrun, Oper.upon_enter]
          refine (hcon rfl hq).mono ?_
          rintro e' w' ⟨pv, mv, qv, rfl, hb, st', s1, s2, s3, r1, r2, B, us', T, rfl, e1, e2, e3, e4⟩
          obtain ⟨h2, l2⟩ := h.world hb st' s1 s2 s3
          have hl : (plainCtx w' st').Le (ctx s w' { g with st := st' }) := plainCtx_le rfl fun _ _ h => h
          have := h2.adopt (v := .func (.func g') #[] (pv ++ [Value.pointer (some ⟨B, 0, none⟩)] ++ qv).toArray) (p := .fn g' (pre ++ .ptr d 0 :: post)) (b := .cells cs false) hdn hfree e2 (Nat.le_trans (Nat.le_trans h.base_le h.below.size) e1)
            (fun e q => absurd (h.bx_lt q).1 (by omega)) (fun e q => absurd (h.own_lt q).1 (by omega)) e4 (fun q => absurd (Nat.lt_of_lt_of_le (h.quiet _ q).1 h.below.size) (by omega))
            (.inl ⟨cs, rfl, Reps.mono hl _ _ e3⟩) (fun C' hC hbx _ => ⟨_, rfl, by
              have q1 := Reps.mono hC _ _ (Reps.mono hl _ _ r1)
              have q2 := Reps.mono hC _ _ (Reps.mono hl _ _ r2)
              have q3 : Reps C' (.ptr d 0 :: post) (.pointer (some ⟨B, 0, none⟩) :: qv) := ⟨_, _, rfl, ⟨B, hbx, rfl⟩, q2⟩
              simpa using q1.append q3⟩) (some d)
          rw [hd] at hK ⊢
          rw [← upd_clo] at this
          exact hK _ w' ⟨_, this⟩
        · cases ha
      split at ha
      · cases ha
      · rename_i fn hfn
        obtain ⟨r, hr, ha⟩ := Option.bind_eq_some_iff.1 ha
        obtain ⟨hrc, hcon⟩ := hcall _ _ _ hr
        have hrc := hrc fn hfn
        obtain ⟨hF1, hF2, hF3⟩ := F _ _ hfn
        have hfr := operand_rep h f
        rw [hf] at hfr
        obtain ⟨us, hfv, hus⟩ := hfr
        -- the rows that are handed on are frozen
        obtain ⟨g1, h1, l1, b1, c1⟩ := SimG.freeze ds h
        have hargs : ∀ (os : List Operand), (∀ o ∈ os, ∀ d, operand s o = .row d → d ∈ ds) → Reps (ctx { s with boxes := edit s.boxes (ds.map fun d => (d, freezeBox)) } w g1) (os.map fun o => handed s (operand s o)) (os.map a.eval) := by
          intro os
          induction os with
          | nil => intro _; rfl
          | cons x os ih =>
            intro hx
            exact ⟨_, _, rfl, handed_rep h l1 rfl (operand_rep h x) (fun d hd B hB us T fr hh o ho => c1 d (hx x (List.mem_cons_self ..) d hd) B hB us T fr hh o ho), ih fun y hy => hx y (List.mem_cons_of_mem _ hy)⟩
        have hall := (hargs c.args.toList hds).append (Reps.mono l1 _ _ hus)
        have hall' := Reps.mono0 (C := ctx _ w g1) (C' := plainCtx w g1.st) ⟨fun _ _ h => h, fun _ _ _ => rfl⟩ _ _ hpl hall
        have hC := hcon w g1.st _ h1.stlt hall'
        have hrun : (execOp a.eval o).run P w = .ok (.enter k (c.args.toList.map a.eval ++ us.toList).toArray) w := by
          simp only [execOp, ho, resolve, hc, Sem.run_bind, hfv, Deferred.ofValue, Sem.run_pure, Result.andThen_ok, invoke, callFunc, run_program, hF1, hF2, hF3]
          simp
        have key : ∀ v w', After E k r w g1.st v w' → Sim base w0 n (upd s o.dst e) (a.put o.dst v) w' := by
          rintro v w' ⟨hb, st', s1, s2, s3, ⟨u, rfl, hrep⟩, hown⟩
          obtain ⟨h2, l2⟩ := h1.world hb st' s1 s2 s3
          split at ha
          · cases ha
          · rename_i v' hv'
            have hv2 : Rep (plainCtx w' st') v' v := etaR_rep hrc hv' hrep
            split at ha
            · rename_i ho'
              split at ha
              · rename_i tag ls xs
                cases ha
                obtain ⟨ls', xs', hr', hownok⟩ := hown ho'
                subst hr'
                have hvv := etaR_sl hrc hv'
                cases hvv
                have hd : ∃ d, o.dst = some d ∧ d < n := by
                  unfold okEff at hok
                  cases hd : o.dst with
                  | none => rw [hd] at hok; cases hok
                  | some d => rw [hd] at hok; exact ⟨d, rfl, by rw [← h.ns]; exact blt_lt hok⟩
                obtain ⟨d, hd, hdn⟩ := hd
                have hown' : OwnOk { g1 with st := st' } base w' v ls.length := by
                  rcases hownok with hq | ⟨B, q, len, cap, us, T, q1, q2, q3, q4, q5, q6, q7⟩
                  · exact .inl hq
                  · exact .inr ⟨B, q, len, cap, us, T, q1, Nat.le_trans h.base_le (Nat.le_trans h.below.size q2), q3, q4, q5, q6, fun d' hd' => absurd (h1.bx_lt hd').1 (by omega)⟩
                have := h2.tag hdn (w' := w') (st' := st') (v := v) (ls := ls) (xs := xs) (Below.refl _ _) (fun _ _ _ => rfl) (fun _ _ _ => rfl) (fun _ _ h => h) (fun _ _ h => .inl h) s3 hown' (fun d' B hne hB hq => by
                  have hq : ownBlock (g1.own d') = some B := hq
                  have := (h1.own_lt hq).1
                  rcases hownok with hn | ⟨B', q, len, cap, us, T, q1, q2, _⟩
                  · rw [hn] at hB; simp [ownBlock] at hB
                  · rw [q1] at hB; simp [ownBlock] at hB; omega)
                  (fun B hB => h.old (by
                    rcases hownok with hn | ⟨B', q, len, cap, us, T, q1, q2, _⟩
                    · rw [hn] at hB; simp [ownBlock] at hB
                    · rw [q1] at hB; simp [ownBlock] at hB; omega))
                  (Rep.mono (plainCtx_le (C := ctx _ w' _) rfl fun _ _ h => h) _ _ hv2) (some d)
                rw [hd]
                exact ⟨_, this⟩
              · cases ha
            · cases ha
              exact ⟨_, h2.val (Rep.mono (plainCtx_le (C := ctx _ w' _) rfl fun _ _ h => h) _ _ hv2) o.dst⟩
        intro K Q hK
        unfold Oper.wp
        rw [hrun, Oper.upon_enter]
        refine hC.mono ?_
        rintro e' w' ⟨v, rfl, hA⟩
        exact hK _ _ (key v w' hA)
    · rw [if_neg hpl] at ha
      cases ha
  · cases ha

end
end Go.Pew

namespace Go.Pew
set_option linter.unusedSimpArgs false
set_option linter.unusedVariables false
open Go.RowKit
set_option linter.unusedVariables false
set_option linter.unusedSimpArgs false

structure EnvOk (P : Program) (E : Env) : Prop where
  ty : ∀ t ti, E.ty t = some ti → TyOk P t ti
  eq : ∀ t ti, E.eq t = true → E.ty t = some ti → EqOk P t ti.lk
  fn : FnOk P E
  makers : MakersOk P E

section
variable {P : Program} {E : Env} {call : Nat → List PV → Option PV} {base n : Nat} {w0 : Start} {g : Gh} {s : St} {a : Act} {w : World} {o : Oper} {e : Eff}

theorem act_sound (O : EnvOk P E) (hcall : ∀ f args r, call f args = some r → Contract P E f args r) (h : SimG base w0 n g s a w) (ha : act E call s o = some e) (hok : okEff s o.dst e = true) :
    Good P o a w (Sim base w0 n (upd s o.dst e)) := by
  unfold act actK at ha
  split at ha
  · rename_i x ho; exact act_move h (by simp [execOp, ho]) ha hok
  · rename_i x ho; exact act_move h (by simp [execOp, ho]) ha hok
  · rename_i ho; exact act_pick h ho ha
  · rename_i ho; exact act_alloc O.ty h ho ha hok
  · rename_i ho; exact act_box h ho ha hok
  · rename_i ho; exact act_build O.ty h ho ha
  · rename_i ho; exact act_buildSlice O.ty h ho ha hok
  · rename_i ho; exact act_load O.ty h ho ha
  · rename_i ho; exact act_store O.ty h ho ha
  · rename_i ho; exact act_binOp O.ty O.eq h ho ha
  · rename_i ho; exact act_unOp h ho ha
  · rename_i ho; exact act_convert O.ty h ho ha
  · rename_i ho; exact act_makeFunc h ho ha
  · rename_i ho; exact act_makeSlice O.ty h ho ha hok
  · rename_i ho; exact act_slice O.ty h ho ha
  · rename_i ho; exact act_fieldAddr O.ty h ho ha
  · rename_i ho; exact act_field O.ty h ho ha
  · rename_i ho; exact act_indexAddr O.ty h ho ha
  · rename_i ho; exact act_index O.ty h ho ha
  · rename_i ho; exact act_extract h ho ha
  · rename_i ho; exact act_nilCheck h ho ha
  · rename_i c ho
    cases hc : c.callee with
    | value f => exact act_call O.fn O.makers hcall h ho hc ha hok
    | invoke r m => unfold actCall at ha; rw [hc] at ha; cases ha
    | builtin b =>
      obtain ⟨callee, args, ts⟩ := c
      cases hc
      unfold actCall at ha
      dsimp only at ha
      cases b with
      | len =>
        dsimp only at ha
        split at ha
        · rename_i x t rest hx ht
          exact act_len O.ty h ho hx ht ha
        · cases ha
      | max =>
        dsimp only at ha
        split at ha
        · rename_i v hv
          cases ha
          exact act_minmax (b := true) h ho hv
        · cases ha
      | min =>
        dsimp only at ha
        split at ha
        · rename_i v hv
          cases ha
          exact act_minmax (b := false) h ho hv
        · cases ha
      | append =>
        dsimp only at ha
        split at ha
        · rename_i x y t u hx ht
          exact act_append O.ty h ho hx ht ha hok
        · cases ha
      | _ => cases ha
  · cases ha

end
end Go.Pew
