/- The evaluator's single operations against the machine's: what is made, and what is stored. No statement of a law is proved here. -/
import Derived.Test.YtbmgafmmaihmfaaDoorL4
set_option linter.unusedVariables false
set_option linter.unusedSimpArgs false
namespace Go.Bw
open Go.RowKit M

section
variable {w : World} {ok : Nat → Nat → Prop} {ρ : Rho} {H : Heap} {P : Program} {T : Nat → TI} {t : Nat}
theorem cells_one {v : Value} (h : v.oneCell' = true) : v.cells = #[v] := by cases v <;> first | rfl | simp [Value.oneCell'] at h
/-- The cells of a value. -/
theorem cellsOf_rel {lv : LV} {c : Cells} (h : (cellsOf T t lv).Is c) {v : Value} (hr : LR w ok ρ H v lv) :
    ∃ vs : List Value, v.cells = vs.toArray ∧ CellsR w ok ρ H vs c ∧ vs.length = (if (T t).agg then (T t).size else 1) := by
  have mixed : ∀ {l : LV}, l.scal = true → LR w ok ρ H v l → CellsR w ok ρ H [v] (.mix [l]) := by
    intro l hs hl
    refine ⟨rfl, by simpa using hs, fun i u c' h1 h2 => ?_⟩
    cases i with
    | zero => simp at h1 h2; subst h1; subst h2; exact hl
    | succ i => simp at h1
  cases lv with
  | pv p =>
    have hp := hr.pvI
    cases ha : (T t).agg with
    | true =>
      simp only [cellsOf, ha, cond_true, is_bind, is_lift, is_pure] at h
      obtain ⟨cs, h1, rfl⟩ := h
      obtain ⟨rfl, hlen⟩ := pcells_some h1
      obtain ⟨vs, rfl, hl, hsc, hh⟩ := hp.aggI
      exact ⟨vs, rfl, ⟨hl, hsc, hh⟩, by simp [hl, hlen]⟩
    | false =>
      simp only [cellsOf, ha, cond_false, is_bind, is_lift, is_pure] at h
      obtain ⟨q, h1, rfl⟩ := h
      obtain ⟨rfl, hsc⟩ := pscal_some h1
      refine ⟨[v], cells_one (hp.one hsc), ⟨rfl, by simpa using hsc, fun i u c' h1 h2 => ?_⟩, by simp⟩
      cases i with
      | zero => simp at h1 h2; subst h1; subst h2; exact hp
      | succ i => simp at h1
  | agg cs =>
    simp only [cellsOf, is_cond, is_pure, is_fail, and_false, or_false, Bool.and_eq_true, beq_iff_eq] at h
    obtain ⟨⟨ha, hlen⟩, rfl⟩ := h
    obtain ⟨vs, rfl, hl, hsc, hh⟩ := hr.aggI
    exact ⟨vs, rfl, ⟨hl, hsc, hh⟩, by simp [ha, hl, hlen]⟩
  | any => simp [cellsOf, is_fail] at h
  | tup => simp [cellsOf, is_fail] at h
  | _ =>
    simp only [cellsOf, is_cond, is_pure, is_fail, and_false, false_or] at h
    obtain ⟨ha, rfl⟩ := h
    exact ⟨[v], cells_one (hr.one rfl), mixed rfl hr, by simp [ha]⟩
theorem CellsR.mixed {vs : List Value} {cs : List PV} (h : CellsR w ok ρ H vs (.pure cs)) : CellsR w ok ρ H vs (.mix (cs.map LV.pv)) := by
  obtain ⟨h1, h2, h3⟩ := h
  refine ⟨by simp [h1], fun c hc => ?_, fun i v c e1 e2 => ?_⟩
  · obtain ⟨p, hp, rfl⟩ := List.mem_map.1 hc; exact h2 p hp
  · rw [List.getElem?_map] at e2
    cases hp : cs[i]? with
    | none => rw [hp] at e2; cases e2
    | some p => rw [hp] at e2; injection e2 with e2; subst e2; exact .pv _ _ (h3 i v p e1 hp)

def splice {α : Type} (xs : List α) (off : Nat) (ys : List α) : List α := xs.take off ++ ys ++ xs.drop (off + ys.length)
theorem splice_length {α : Type} (xs ys : List α) (off : Nat) (h : off + ys.length ≤ xs.length) : (splice xs off ys).length = xs.length := by
  simp [splice]; omega
theorem splice_mem {α : Type} {xs ys : List α} {off : Nat} {x : α} (h : x ∈ splice xs off ys) : x ∈ xs ∨ x ∈ ys := by
  simp only [splice, List.mem_append] at h
  rcases h with (h | h) | h
  · exact .inl (List.mem_of_mem_take h)
  · exact .inr h
  · exact .inl (List.mem_of_mem_drop h)
theorem splice_get {α : Type} (xs ys : List α) (off i : Nat) (h : off + ys.length ≤ xs.length) :
    (splice xs off ys)[i]? = if i < off then xs[i]? else if i < off + ys.length then ys[i - off]? else xs[i]? := by
  unfold splice
  rw [List.append_assoc, List.getElem?_append]
  have e1 : (xs.take off).length = off := by simp; omega
  rw [e1]
  by_cases h1 : i < off
  · rw [if_pos h1, if_pos h1, List.getElem?_take, if_pos h1]
  · rw [if_neg h1, if_neg h1, List.getElem?_append]
    by_cases h2 : i < off + ys.length
    · rw [if_pos (by omega), if_pos h2]
    · rw [if_neg (by omega), if_neg h2, List.getElem?_drop]
      congr 1
      omega
theorem splice_rel {α β : Type} {R : α → β → Prop} {xs ds : List α} {ys es : List β} {off : Nat} (hl : xs.length = ys.length) (hd : ds.length = es.length) (hle : off + ds.length ≤ xs.length)
    (h1 : ∀ (i : Nat) (u : α) (c : β), xs[i]? = some u → ys[i]? = some c → R u c) (h2 : ∀ (i : Nat) (u : α) (c : β), ds[i]? = some u → es[i]? = some c → R u c) :
    ∀ (i : Nat) (u : α) (c : β), (splice xs off ds)[i]? = some u → (splice ys off es)[i]? = some c → R u c := by
  intro i u c e1 e2
  rw [splice_get _ _ _ _ hle] at e1
  rw [splice_get _ _ _ _ (by omega)] at e2
  rw [hd] at e1
  split at e1
  · rename_i hi; rw [if_pos hi] at e2; exact h1 _ _ _ e1 e2
  · rename_i hi
    rw [if_neg hi] at e2
    split at e1
    · rename_i hj; rw [if_pos hj] at e2; exact h2 _ _ _ e1 e2
    · rename_i hj; rw [if_neg hj] at e2; exact h1 _ _ _ e1 e2
theorem splice_one {α : Type} (xs : List α) (off : Nat) (y : α) (h : off < xs.length) : splice xs off [y] = xs.set off y := by
  apply List.ext_getElem?
  intro i
  rw [splice_get _ _ _ _ (by simp; omega), List.getElem?_set]
  by_cases h1 : i < off
  · rw [if_pos h1, if_neg (by omega)]
  · rw [if_neg h1]
    by_cases h2 : off = i
    · subst h2; simp [h]
    · rw [if_neg h2, if_neg (by simp; omega)]
/-- A store among cells. -/
theorem storeTo_rel {agg : Bool} {off : Nat} {c d c' : Cells} (h : (storeTo agg off c d).Is c') {vs ds : List Value} (hv : CellsR w ok ρ H vs c) (hd : CellsR w ok ρ H ds d) :
    off + ds.length ≤ vs.length ∧ CellsR w ok ρ H (splice vs off ds) c' ∧ c'.len = c.len := by
  have pp : ∀ {cs es : List PV}, CellsR w ok ρ H vs (.pure cs) → CellsR w ok ρ H ds (.pure es) → off + es.length ≤ cs.length →
      off + ds.length ≤ vs.length ∧ CellsR w ok ρ H (splice vs off ds) (.pure (splice cs off es)) ∧ (Cells.pure (splice cs off es)).len = (Cells.pure cs).len := by
    intro cs es h1 h2 hle
    have l1 := h1.1
    have l2 := h2.1
    have hle2 : off + ds.length ≤ vs.length := by omega
    refine ⟨hle2, ⟨?_, fun c hc => ?_, splice_rel l1 l2 hle2 h1.2.2 h2.2.2⟩, splice_length _ _ _ hle⟩
    · rw [splice_length _ _ _ hle2, splice_length _ _ _ hle, l1]
    · rcases splice_mem hc with hc | hc
      · exact h1.2.1 c hc
      · exact h2.2.1 c hc
  have mm : ∀ {cs es : List LV}, CellsR w ok ρ H vs (.mix cs) → CellsR w ok ρ H ds (.mix es) → off + es.length ≤ cs.length →
      off + ds.length ≤ vs.length ∧ CellsR w ok ρ H (splice vs off ds) (.mix (splice cs off es)) ∧ (Cells.mix (splice cs off es)).len = (Cells.mix cs).len := by
    intro cs es h1 h2 hle
    have l1 := h1.1
    have l2 := h2.1
    have hle2 : off + ds.length ≤ vs.length := by omega
    refine ⟨hle2, ⟨?_, fun c hc => ?_, splice_rel l1 l2 hle2 h1.2.2 h2.2.2⟩, splice_length _ _ _ hle⟩
    · rw [splice_length _ _ _ hle2, splice_length _ _ _ hle, l1]
    · rcases splice_mem hc with hc | hc
      · exact h1.2.1 c hc
      · exact h2.2.1 c hc
  cases c with
  | pure cs =>
    cases d with
    | pure es =>
      simp only [storeTo] at h
      cases agg with
      | true =>
        simp only [cond_true, is_bind, is_lift, is_pure] at h
        obtain ⟨cs', h1, rfl⟩ := h
        unfold pputs at h1
        split at h1
        · rename_i hle
          injection h1 with h1
          subst h1
          exact pp hv hd hle
        · cases h1
      | false =>
        simp only [cond_false] at h
        split at h
        · rename_i p
          simp only [is_bind, is_lift, is_pure] at h
          obtain ⟨cs', h1, rfl⟩ := h
          unfold psetc at h1
          split at h1
          · rename_i hlt
            injection h1 with h1
            subst h1
            rw [← splice_one cs off p hlt]
            exact pp hv hd (by simp; omega)
          · cases h1
        · simp [is_fail] at h
    | mix es =>
      simp only [storeTo, is_cond, is_pure, is_fail, and_false, or_false, decide_eq_true_eq] at h
      obtain ⟨hle, rfl⟩ := h
      obtain ⟨a1, a2, a3⟩ := mm hv.mixed hd hle
      exact ⟨a1, a2, a3.trans (by simp [Cells.len])⟩
  | mix cs =>
    cases d with
    | pure es =>
      simp only [storeTo, is_cond, is_pure, is_fail, and_false, or_false, decide_eq_true_eq] at h
      obtain ⟨hle, rfl⟩ := h
      exact mm hv hd.mixed hle
    | mix es =>
      simp only [storeTo, is_cond, is_pure, is_fail, and_false, or_false, decide_eq_true_eq] at h
      obtain ⟨hle, rfl⟩ := h
      exact mm hv hd hle
end

/-! ### stores -/
section
variable {w : World} {P : Program} {t : TypeId} {I : TI} {i : TypeInfo} {d : TypeDesc} {z : Value}
theorem storeVar_run (hf : TFact P t I i d z) {v : Value} {ds : List Value} (hv : v.cells = ds.toArray) (hl : ds.length = I.size) (h1 : ∀ u, u ∈ ds → u.oneCell' = true)
    {b o : Nat} {vs : List Value} {e : TypeId} (hb : w.heap[b]? = some (.cells vs.toArray e (0, 0))) (hle : o + ds.length ≤ vs.length) :
    (storeVar t ⟨b, o, none⟩ v).run P w = .ok () (w.setRow b (splice vs o ds).toArray) := by
  have h2 := run_storeCells_at P b o e ds 0 vs.toArray w hb (by simpa using hle) h1
  simp only [Nat.add_zero] at h2
  unfold storeVar
  simp [run_sizeOf hf.info, hf.size, hv, hl, h2, splice]
end

section
variable {base : Nat} {okx : Nat → Nat → Prop} {w0 : World} {P : Program} {T : Nat → TI} {o : Oper} {a : Act} {ρ : Rho} {H : Heap} {w : World} {nid lim : Nat}
/-- What turns an object: all that is to be seen to. -/
theorem does_mod {id : Nat} {r r' : Value} {ob ob' : HObj} {v : LV} {n : Next} {w' : World} (hw : WR base okx w0 w ρ H) (hid : H id = some ob) (hr : ρ id = some r)
    (hrun : (execOp a.eval o).run P w = .ok n w') (val : Value) (hn : n = .value val ∨ (n = .skip ∧ val = undef))
    (hkeep : ∀ k, k < w.heap.size → some k ≠ blk r → w'.heap[k]? = w.heap[k]?)
    (hcells : ∀ b off u, blk r = some b → w.cell? ⟨b, off, none⟩ = some u → ¬ mutO ob r b off → w'.cell? ⟨b, off, none⟩ = some u ∧ ¬ mutO ob' r' b off)
    (hnew : blk r' = blk r ∨ ∃ b', blk r' = some b' ∧ w.heap.size ≤ b') (hk : kindOk r r' ob ob') (hbelow : Below base w0 w') (hs : w.heap.size ≤ w'.heap.size)
    (hob : Evo (okF base okx H ρ) ρ H w (okF base okx (hset H id ob') (rset ρ id r')) (rset ρ id r') (hset H id ob') w' → ObjR base w' (okF base okx (hset H id ob') (rset ρ id r')) (rset ρ id r') (hset H id ob') r' ob')
    (hl : LR w' (okF base okx (hset H id ob') (rset ρ id r')) (rset ρ id r') (hset H id ob') val v) :
    Does base okx w0 P o a ρ H w nid v (hset H id ob') := by
  intro Q
  have he := evo_upd hw hid hr hkeep hcells hnew hk
  have hwr := wr_upd hw hid hr hkeep hnew he hbelow hs (hob he)
  have hρ : ∀ j, j ≠ nid → ρ j = none → rset ρ id r' j = none := fun j _ hj => by
    by_cases hji : j = id
    · subst hji; rw [hr] at hj; cases hj
    · rw [rset_other _ _ _ hji]; exact hj
  unfold Oper.wp
  rw [hrun]
  rcases hn with rfl | ⟨rfl, rfl⟩
  · exact ⟨val, _, rfl, he, hwr, hl, hρ⟩
  · exact ⟨undef, _, rfl, he, hwr, hl, hρ⟩
theorem store_run {t : TypeId} {x y : Operand} (ho : o.op = .store t x y) {ad : Addr} (hx : a.eval x = .pointer (some ad)) {w' : World} (h : (storeVar t ad (a.eval y)).run P w = .ok () w') : (execOp a.eval o).run P w = .ok .skip w' := by
  unfold execOp
  simp [ho, Instr.storeAt, hx, Instr.sureAddr, h]
theorem below_setRow {w1 : World} (hw : Below base w0 w) {b : Nat} (hb : base ≤ b) {cur : Array Value} {e : TypeId} {fz : Nat × Nat} (hh : w.heap[b]? = some (.cells cur e fz)) (cs : Array Value) : Below base w0 (w.setRow b cs) :=
  ⟨hw.os, hw.tape, hw.output, by simpa using hw.size, fun k hk => (setRow_other w b k cs (by omega)).trans (hw.block k hk)⟩
end
end Go.Bw
