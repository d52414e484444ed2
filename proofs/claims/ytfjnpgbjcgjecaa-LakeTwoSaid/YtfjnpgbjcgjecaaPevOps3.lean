/- EACH OPERATION OF THE MACHINE DOES WHAT THE EVALUATOR TELLS: stores, literals, closures, slices. -/
import Derived.Test.YtfjnpgbjcgjecaaPevOps2
namespace Go.Pev
open Go.RowKit
set_option linter.unusedVariables false
set_option linter.unusedSimpArgs false

section
variable {P : Program} {E : Env} {call : Nat → List PV → Option PV} {base n : Nat} {w0 : Start} {g : Gh} {s : St} {a : Act} {w : World} {o : Oper} {e : Eff}

theorem setRow_same (w : World) (B : Nat) (us : Array Value) (T : TypeId) (hh : w.heap[B]? = some (.cells us T (0, 0))) : w.setRow B us = w := setRow_self' w B us T hh
where
  setRow_self' (w : World) (B : Nat) (us : Array Value) (T : TypeId) (hh : w.heap[B]? = some (.cells us T (0, 0))) : w.setRow B us = w := by
    have : (w.setRow B us).heap = w.heap := by
      apply Array.ext_getElem?
      intro k
      by_cases hk : k = B
      · subst hk; rw [setRow_heap w k us us T (0, 0) hh, hh]
      · rw [setRow_other w B k us hk]
    cases w
    simp only [World.setRow] at this ⊢
    rw [this]

theorem run_storeCells (B off : Nat) (T : TypeId) : ∀ (vs : List Value) (i : Nat) (cur : Array Value) (w : World), w.heap[B]? = some (.cells cur T (0, 0)) → off + i + vs.length ≤ cur.size → (∀ v ∈ vs, v.oneCell' = true) →
    (storeCells ⟨B, off, none⟩ vs i).run P w = .ok () (w.setRow B (cur.toList.take (off + i) ++ vs ++ cur.toList.drop (off + i + vs.length)).toArray)
  | [], i, cur, w, hh, hl, h1 => by
    have : (cur.toList.take (off + i) ++ [] ++ cur.toList.drop (off + i + 0)).toArray = cur := by simp
    simp only [List.length_nil]
    rw [this, setRow_same w B cur T hh]
    rfl
  | v :: rest, i, cur, w, hh, hl, h1 => by
    simp only [List.length_cons] at hl
    have hi : off + i < cur.size := by omega
    have hcell : w.cell? ⟨B, off + i, none⟩ = some cur[off + i] := by simp [World.cell?, hh, hi]
    have hfro : w.frozen? ⟨B, off + i, none⟩ = false := by simp [World.frozen?, hh]
    have hst : (store ((⟨B, off, none⟩ : Addr).add i) v).run P w = .ok () (w.setRow B (cur.setIfInBounds (off + i) v)) := by
      rw [addr_add, run_store P w _ v _ (h1 v (by simp)), hcell]
      simp [hfro, setCell_eq_setRow w B (off + i) cur T (0, 0) v hh]
    have ih := run_storeCells B off T rest (i + 1) (cur.setIfInBounds (off + i) v) (w.setRow B (cur.setIfInBounds (off + i) v)) (setRow_heap w B cur _ T _ hh) (by simp; omega) (fun x hx => h1 x (by simp [hx]))
    simp only [storeCells, Sem.run_bind, hst, Result.andThen_ok, ih, setRow_setRow]
    congr 2
    have e1 : (cur.setIfInBounds (off + i) v).toList = cur.toList.set (off + i) v := by simp
    rw [e1]
    have hl' : off + i < cur.toList.length := by simpa using hi
    rw [← Nat.add_assoc, List.take_set, List.drop_set, if_pos (by omega)]
    have : (cur.toList.take (off + i + 1)).set (off + i) v = cur.toList.take (off + i) ++ [v] := by
      rw [List.take_succ_eq_append_getElem hl', List.set_append, if_neg (by simp; omega)]
      simp [List.length_take, Nat.min_eq_left (Nat.le_of_lt hi)]
    rw [this]
    simp [Nat.add_assoc, Nat.add_comm 1]

theorem TyOk.run_storeVar {t : Nat} {ti : TI} (ht : TyOk P t ti) {w : World} {B off : Nat} {T : TypeId} {cur : Array Value} {v : Value} (hh : w.heap[B]? = some (.cells cur T (0, 0))) (hsz : v.cells.size = ti.size)
    (hl : off + ti.size ≤ cur.size) (h1 : ∀ u ∈ v.cells.toList, u.oneCell' = true) :
    (storeVar t ⟨B, off, none⟩ v).run P w = .ok () (w.setRow B (cur.toList.take off ++ v.cells.toList ++ cur.toList.drop (off + v.cells.toList.length)).toArray) := by
  have := run_storeCells (P := P) B off T v.cells.toList 0 cur w hh (by simp; omega) h1
  simp only [Nat.add_zero] at this
  simp [storeVar, ht.run_sizeOf w, hsz]
  simpa [hsz] using this

theorem leaf_oneCell {C : Ctx} {p : PV} {v : Value} (hl : leaf p = true) (hp : Rep C p v) : v.oneCell' = true := by
  cases p with
  | undef => simp [leaf] at hl
  | agg cs => simp [leaf] at hl
  | tup cs => simp [leaf] at hl
  | bool b => have hp : v = .bool b := hp; subst hp; rfl
  | int k m => have hp : v = .int k m := hp; subst hp; rfl
  | str b => have hp : v = .string b := hp; subst hp; rfl
  | nilp => have hp : v = .pointer none := hp; subst hp; rfl
  | ptr d off => obtain ⟨B, _, rfl⟩ := hp; rfl
  | rp cs off => obtain ⟨B, m, us, rfl, _⟩ := hp; rfl
  | sl tag ls xs => obtain ⟨A, cap, rows, rfl, _⟩ := hp; rfl
  | row d => obtain ⟨B, _, rfl⟩ := hp; rfl
  | rowp d i off => obtain ⟨B, _, rfl, _⟩ := hp; rfl
  | fn f caps => obtain ⟨us, rfl, _⟩ := hp; rfl

theorem leafs_oneCell {C : Ctx} : ∀ {ps : List PV} {us : List Value}, ps.all leaf = true → Reps C ps us → ∀ u ∈ us, u.oneCell' = true
  | [], us, h, hr, u, hu => by rw [Reps] at hr; subst hr; cases hu
  | p :: ps, us, h, hr, u, hu => by
    simp only [List.all_cons, Bool.and_eq_true] at h
    rw [Reps] at hr
    obtain ⟨v, ws, rfl, h1, h2⟩ := hr
    rcases List.mem_cons.1 hu with rfl | hu
    · exact leaf_oneCell h.1 h1
    · exact leafs_oneCell h.2 h2 u hu

theorem leaf_ne {p : PV} (h : (asA p).all leaf = true) : p ≠ .undef := by
  rintro rfl
  simp [asA, leaf] at h

theorem SimG.skip {g : Gh} (h : SimG base w0 n g s a w) (dst : Option Nat) : SimG base w0 n g { s with slots := putD s.slots dst (.tup []) } (a.put dst undef) w := h.val (rep_undef _) dst

theorem conf_strip {l : LK} {p : PV} (h : conf l p = true) : strip p = p := by
  cases l <;> cases p <;> simp_all [conf, Pev.strip]

theorem RepRows.set {C : Ctx} {ps : List (List PV)} {us : List (List Value)} (h : RepRows C ps us) {p : List PV} {u : List Value} (hp : Reps C p u) (i : Nat) : RepRows C (ps.set i p) (us.set i u) := by
  refine RepRows.of_get (by simp [h.length]) fun j v hv => ?_
  simp only [List.getElem?_set] at hv
  split at hv
  · rename_i e
    subst e
    split at hv
    · rename_i hl
      simp at hv; subst hv
      simpa [nths, List.getD_eq_getElem?_getD, h.length ▸ hl] using hp
    · cases hv
  · rename_i e
    have := h.get j v hv
    simpa [nths, List.getD_eq_getElem?_getD, List.getElem?_set_ne e] using this

theorem flatten_set {rws : List (List Value)} {m i : Nat} {r : List Value} (h : ∀ r ∈ rws, r.length = m) (hi : i < rws.length) (hr : r.length = m) :
    (rws.set i r).flatten = rws.flatten.take (i * m) ++ r ++ rws.flatten.drop (i * m + m) := by
  induction rws generalizing i with
  | nil => simp at hi
  | cons q rs ih =>
    have hq := h q (List.mem_cons_self ..)
    cases i with
    | zero => simp [hq]
    | succ i =>
      have := ih (fun r hr => h r (List.mem_cons_of_mem _ hr)) (i := i) (by simpa using hi)
      simp only [List.set_cons_succ, List.flatten_cons, this]
      have e1 : (i + 1) * m = q.length + i * m := by rw [Nat.succ_mul, hq, Nat.add_comm]
      rw [e1, List.take_length_add_append, Nat.add_assoc, List.drop_length_add_append]
      simp

theorem confs_get : ∀ {ls : List LK} {cs : List PV}, cs.length = ls.length → (∀ i, i < ls.length → conf (ls.getD i .any) (nth cs i) = true) → confs ls cs = true
  | [], [], _, _ => rfl
  | [], _ :: _, h, _ => by simp at h
  | _ :: _, [], h, _ => by simp at h
  | l :: ls, c :: cs, h, g => by
    simp only [confs, Bool.and_eq_true]
    refine ⟨by simpa [nth] using g 0 (by simp), confs_get (by simpa using h) fun i hi => ?_⟩
    simpa [nth] using g (i + 1) (by simp; omega)

theorem confs_at : ∀ {ls : List LK} {cs : List PV}, confs ls cs = true → ∀ i, i < ls.length → conf (ls.getD i .any) (nth cs i) = true
  | [], [], _, i, h => by simp at h
  | [], _ :: _, h, _, _ => by simp [confs] at h
  | _ :: _, [], h, _, _ => by simp [confs] at h
  | l :: ls, c :: cs, h, i, hi => by
    simp only [confs, Bool.and_eq_true] at h
    cases i with
    | zero => simpa [nth] using h.1
    | succ i => simpa [nth] using confs_at h.2 i (by simpa using hi)

theorem nth_over : ∀ (vs cs : List PV) (off i : Nat), off + vs.length ≤ cs.length → nth (over cs off vs) i = if off ≤ i ∧ i < off + vs.length then nth vs (i - off) else nth cs i
  | [], cs, off, i, h => by
    rw [if_neg (by simp only [List.length_nil]; omega)]
    rfl
  | v :: vs, cs, off, i, h => by
    simp only [List.length_cons] at h
    show nth (over (cs.set off v) (off + 1) vs) i = _
    rw [nth_over vs (cs.set off v) (off + 1) i (by rw [List.length_set]; omega)]
    simp only [List.length_cons]
    by_cases h1 : off + 1 ≤ i ∧ i < off + 1 + vs.length
    · rw [if_pos h1, if_pos (by omega)]
      have : i - off = (i - (off + 1)) + 1 := by omega
      rw [this]
      simp [nth]
    · rw [if_neg h1]
      by_cases h2 : i = off
      · subst h2
        rw [if_pos (by omega)]
        have hlt : i < cs.length := by omega
        simp [nth, List.getD_eq_getElem?_getD, hlt]
      · rw [if_neg (by omega)]
        simp [nth, List.getD_eq_getElem?_getD, List.getElem?_set_ne (Ne.symm h2)]

theorem confs_over {ls : List LK} {cs vs : List PV} {off m : Nat} (hc : confs ls cs = true) (hv : confs ((ls.drop off).take m) vs = true) (hl : off + m ≤ ls.length) : confs ls (over cs off vs) = true := by
  have h1 := confs_length hc
  have h2 := confs_length hv
  simp only [List.length_take, List.length_drop] at h2
  have h2 : vs.length = m := by omega
  refine confs_get (by rw [over_length]; exact h1) fun i hi => ?_
  rw [nth_over vs cs off i (by omega)]
  split
  · rename_i hq
    have := confs_at hv (i - off) (by simp; omega)
    have e : ((ls.drop off).take m).getD (i - off) LK.any = ls.getD i LK.any := by
      simp only [List.getD_eq_getElem?_getD, List.getElem?_take, List.getElem?_drop]
      rw [if_pos (by omega), show off + (i - off) = i by omega]
    rw [e] at this
    exact this
  · exact confs_at hc i hi

theorem take_drop_mid {α : Type} (L v : List α) {p m off : Nat} (h1 : off + v.length ≤ m) (h2 : p + m ≤ L.length) :
    L.take (p + off) ++ v ++ L.drop (p + off + v.length) = L.take p ++ (((L.drop p).take m).take off ++ v ++ ((L.drop p).take m).drop (off + v.length)) ++ L.drop (p + m) := by
  have e1 : L.take (p + off) = L.take p ++ (L.drop p).take off := by rw [List.take_add]
  have e2 : ((L.drop p).take m).take off = (L.drop p).take off := by rw [List.take_take]; congr 1; omega
  have e3 : ((L.drop p).take m).drop (off + v.length) ++ L.drop (p + m) = L.drop (p + off + v.length) := by
    have hx : L.drop (p + m) = (L.drop p).drop m := by rw [List.drop_drop]
    have hy : L.drop (p + off + v.length) = (L.drop p).drop (off + v.length) := by rw [List.drop_drop, Nat.add_assoc]
    rw [hx, hy]
    generalize L.drop p = X
    have : X.drop (off + v.length) = (X.take m ++ X.drop m).drop (off + v.length) := by rw [List.take_append_drop]
    rw [this, List.drop_append]
    by_cases hm : off + v.length ≤ (X.take m).length
    · rw [Nat.sub_eq_zero_of_le hm, List.drop_zero]
    · have hlen : X.length < m ∨ m ≤ X.length := by omega
      rcases hlen with hlen | hlen
      · have : X.drop m = [] := List.drop_eq_nil_of_le (Nat.le_of_lt hlen)
        rw [this]; simp
      · simp [List.length_take] at hm; omega
  rw [e1, e2, ← e3]
  simp

theorem act_store (T : ∀ t ti, E.ty t = some ti → TyOk P t ti) (h : SimG base w0 n g s a w) {t : Nat} {x y : Operand} (ho : o.op = .store t x y) (ha : actStore E call s t x y some = some e) :
    Good P o a w (Sim base w0 n (upd s o.dst e)) := by
  have hx := operand_rep h x
  have hy := operand_rep h y
  unfold actStore at ha
  split at ha
  · cases ha
  · rename_i ti hti
    have ht := T t ti hti
    split at ha
    · rename_i hsz
      obtain ⟨hsz, hleaf⟩ := hsz
      have hyc := hy.cells (leaf_ne hleaf)
      have hone := leafs_oneCell hleaf hyc
      have hvs : (a.eval y).cells.size = ti.size := by have := hyc.length; simp at this; omega
      split at ha
      · rename_i d off hd
        rw [hd] at hx
        obtain ⟨B, hB, hv⟩ := hx
        have hB : g.bx d = some B := hB
        split at ha
        · rename_i cs hb
          split at ha
          · rename_i hfit
            cases ha
            obtain ⟨B', us, T', h1, h2, h3, h4, _⟩ := h.cells d cs false hb
            have hBB : B' = B := by rw [h1] at hB; cases hB; rfl
            subst hBB
            have hlen := h4.length
            simp at hlen
            have hov := Reps.over off h4 hyc (by rw [hsz]; exact hfit)
            refine good_skip (w' := w.setRow B' (us.toList.take off ++ (a.eval y).cells.toList ++ us.toList.drop (off + (a.eval y).cells.toList.length)).toArray) ?_ ?_
            · simp [execOp, ho, hv, Instr.storeAt, Instr.sureAddr, ht.run_storeVar (off := off) h2 hvs (by omega) hone]
            · have hS := h.store hB h2 (us' := (us.toList.take off ++ (a.eval y).cells.toList ++ us.toList.drop (off + (a.eval y).cells.toList.length)).toArray) hb (by simp; omega)
                (b' := .cells (over cs off (asA (operand s y))) false) (.inl ⟨cs, _, rfl, rfl, by simpa using hov⟩)
              refine ⟨g, ?_⟩
              have := hS.skip o.dst
              have hbg : s.boxes.getD d none = some (.cells cs false) := hb
              rw [show upd s o.dst (Eff.store d off (asA (operand s y))) = { s with slots := putD s.slots o.dst (.tup []), boxes := s.boxes.set d (some (.cells (over cs off (asA (operand s y))) false)) } from by
                simp only [upd, valOf, edits, edit, bump, bumped, hbg, storeBox]]
              exact this
          · cases ha
        · cases ha
      · rename_i d i off hd
        rw [hd] at hx
        obtain ⟨B, hB, hv, hil⟩ := hx
        have hB : g.bx d = some B := hB
        split at ha
        · rename_i ls xs hb
          split at ha
          · rename_i hfit
            cases ha
            obtain ⟨B', us, T', rws, h1, h2, h3, h4, h5, h6, h7, _⟩ := h.rows d ls xs false hb
            have hBB : B' = B := by rw [h1] at hB; cases hB; rfl
            subst hBB
            obtain ⟨hfit, hcv⟩ := hfit
            have hrs : (ctx s w g).rs d = ls.length := by show rowSize (s.box d) = _; rw [hb]; rfl
            have hrl : (ctx s w g).rl d = xs.length := by show rowLen (s.box d) = _; rw [hb]; rfl
            rw [hrs] at hv
            rw [hrl] at hil
            have hir : i < rws.length := by rw [h5.length]; exact hil
            have hflen : ∀ {R : List (List Value)}, (∀ r ∈ R, r.length = ls.length) → R.flatten.length = R.length * ls.length := by
              intro R hR
              induction R with
              | nil => simp
              | cons r R ih => rw [List.flatten_cons, List.length_append, hR r (List.mem_cons_self ..), ih fun q hq => hR q (List.mem_cons_of_mem _ hq), List.length_cons, Nat.succ_mul]; omega
            have hul : us.size = rws.length * ls.length := by
              have := congrArg List.length h4
              rw [hflen h6] at this
              simpa using this
            have him : i * ls.length + ls.length ≤ us.size := by
              rw [hul, ← Nat.succ_mul]
              exact Nat.mul_le_mul_right _ hir
            have hvl : (a.eval y).cells.toList.length = ti.size := by simpa using hvs
            have hget : rws[i]? = some rws[i] := by simp [hir]
            have hrow : (us.toList.drop (i * ls.length)).take ls.length = rws[i] := by
              rw [h4]
              apply List.ext_getElem?
              intro j
              rw [List.getElem?_take]
              split
              · rename_i hj
                rw [List.getElem?_drop]
                have hjl : j < rws[i].length := by rw [h6 _ (List.getElem_mem _)]; exact hj
                rw [flatten_get h6 hir hj (u := rws[i][j]) (by simp [hjl])]
                simp [hjl]
              · rename_i hj
                rw [List.getElem?_eq_none]
                rw [h6 _ (List.getElem_mem _)]
                omega
            have hmid := take_drop_mid us.toList (a.eval y).cells.toList (p := i * ls.length) (m := ls.length) (off := off) (by rw [hvl]; exact hfit) (by simpa using him)
            rw [hrow] at hmid
            have hxi : nths xs i = xs[i] := by simp [nths, hil]
            have hci : confs ls (nths xs i) = true := by rw [hxi]; exact h7 _ (List.getElem_mem _)
            have hri : Reps (ctx s w g) (nths xs i) rws[i] := h5.get i _ hget
            have hlci := confs_length hci
            have hov := Reps.over off hri hyc (by rw [hsz, hlci]; exact hfit)
            have hrlen : rws[i].length = ls.length := h6 _ (List.getElem_mem _)
            have hnewlen : (rws[i].take off ++ (a.eval y).cells.toList ++ rws[i].drop (off + (a.eval y).cells.toList.length)).length = ls.length := by
              simp only [List.length_append, List.length_take, List.length_drop, hrlen, hvl]; omega
            have hflat := flatten_set h6 hir hnewlen
            refine good_skip (w' := w.setRow B' (us.toList.take (i * ls.length + off) ++ (a.eval y).cells.toList ++ us.toList.drop (i * ls.length + off + (a.eval y).cells.toList.length)).toArray) ?_ ?_
            · simp [execOp, ho, hv, Instr.storeAt, Instr.sureAddr, ht.run_storeVar (off := i * ls.length + off) h2 hvs (by omega) hone]
            · have hS := h.store hB h2 (us' := (us.toList.take (i * ls.length + off) ++ (a.eval y).cells.toList ++ us.toList.drop (i * ls.length + off + (a.eval y).cells.toList.length)).toArray) hb (by simp; omega)
                (b' := .row ls (xs.set i (over (nths xs i) off (asA (operand s y)))) false)
                (.inr ⟨ls, xs, _, rws.set i (rws[i].take off ++ (a.eval y).cells.toList ++ rws[i].drop (off + (a.eval y).cells.toList.length)), rfl, rfl, List.length_set, by rw [hflat, List.toList_toArray, hmid, h4],
                  h5.set hov i, fun r hr => by
                    rcases List.mem_or_eq_of_mem_set hr with hr | rfl
                    · exact h6 r hr
                    · exact hnewlen, fun x hx => by
                    rcases List.mem_or_eq_of_mem_set hx with hx | rfl
                    · exact h7 x hx
                    · exact confs_over hci hcv hfit⟩)
              refine ⟨g, ?_⟩
              have := hS.skip o.dst
              have hbg : s.boxes.getD d none = some (.row ls xs false) := hb
              rw [show upd s o.dst (Eff.rstore d i off (asA (operand s y))) = { s with slots := putD s.slots o.dst (.tup []), boxes := s.boxes.set d (some (.row ls (xs.set i (over (nths xs i) off (asA (operand s y)))) false)) } from by
                simp only [upd, valOf, edits, edit, bump, bumped, hbg, rstoreBox]]
              exact this
          · cases ha
        · cases ha
      · cases ha
    · cases ha

end
end Go.Pev
