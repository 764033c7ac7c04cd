/- The evaluator's single operations against the machine's: reading and writing of variables. No statement of a law is proved here. -/
import Derived.Test.YtbmgafmmaihmfaaDoorL3
set_option linter.unusedVariables false
set_option linter.unusedSimpArgs false
namespace Go.Bw
open Go.RowKit M

theorem add_at (b o j : Nat) : (⟨b, o, none⟩ : Addr).add j = ⟨b, o + j, none⟩ := by
  unfold Addr.add
  split
  · subst_vars; rfl
  · rfl
theorem nz_fact {P : Program} {T : Nat → TI} (hT : TOk P T) {t : Nat} (h : nz T t = true) : ∃ i d z, TFact P t (T t) i d z := by
  rcases hT t with hd | hf
  · rw [nz, hd] at h; exact absurd h (by decide)
  · exact hf
theorem TFact.one {P : Program} {t : Nat} {I : TI} {i : TypeInfo} {d : TypeDesc} {z : Value} (h : TFact P t I i d z) (ha : I.agg = false) : I.size = 1 := by
  have := (h.zone ha).2
  have h2 := h.zsize
  rw [this] at h2
  simpa using h2.symm
theorem run_isAgg {P : Program} {t : TypeId} {d : TypeDesc} (h : P.underlying t = some d) (w : World) : (isAgg t).run P w = .ok (aggB d) w := by
  unfold isAgg
  cases d <;> simp [run_underlying h, aggB]
theorem run_sizeOf {P : Program} {t : TypeId} {i : TypeInfo} (h : P.info? t = some i) (w : World) : (sizeOf t).run P w = .ok i.size w := by
  simp [sizeOf, typeInfo, h]

section
variable {w : World} {P : Program} {t : TypeId} {I : TI} {i : TypeInfo} {d : TypeDesc} {z : Value}
theorem loadVar_agg (hf : TFact P t I i d z) (ha : I.agg = true) {b o : Nat} (vs : List Value) (hl : vs.length = I.size)
    (hc : ∀ (j : Nat) (u : Value), vs[j]? = some u → w.cell? ⟨b, o + j, none⟩ = some u) : (loadVar t ⟨b, o, none⟩).run P w = .ok (.agg vs.toArray) w := by
  have h1 := run_loadCells_list (P := P) w ⟨b, o, none⟩ vs (fun j v hj => by rw [add_at]; exact hc j v hj)
  rw [hl, ← hf.size] at h1
  unfold loadVar
  simp [run_isAgg hf.und, hf.agg, ha, run_sizeOf hf.info, h1]
theorem loadVar_one (hf : TFact P t I i d z) (ha : I.agg = false) {b o : Nat} {u : Value} (hc : w.cell? ⟨b, o, none⟩ = some u) : (loadVar t ⟨b, o, none⟩).run P w = .ok u w := by
  unfold loadVar
  simp [run_isAgg hf.und, hf.agg, ha, hc]
end

section
variable {w : World} {ok : Nat → Nat → Prop} {ρ : Rho} {H : Heap} {P : Program} {T : Nat → TI} {t : Nat}
theorem getElem?_slice {α : Type} (vs : List α) (off n j : Nat) : ((vs.drop off).take n)[j]? = if j < n then vs[off + j]? else none := by
  rw [List.getElem?_take]
  split <;> simp [List.getElem?_drop]
/-- A part of cells that are known. -/
theorem loadFrom_run (hT : TOk P T) (hn : nz T t = true) {c : Cells} {off : Nat} {v : LV} (h : (loadFrom T t off c).Is v) {b o : Nat} {vs : List Value} (hr : CellsR w ok ρ H vs c)
    (hc : ∀ (j : Nat) (u : Value), vs[j]? = some u → w.cell? ⟨b, o + j, none⟩ = some u) :
    ∃ val, (loadVar t ⟨b, o + off, none⟩).run P w = .ok val w ∧ LR w ok ρ H val v := by
  obtain ⟨i, d, z, hf⟩ := nz_fact hT hn
  cases c with
  | pure cs =>
    obtain ⟨hl, hs, hp⟩ := hr
    cases ha : (T t).agg with
    | true =>
      simp only [loadFrom, ha, cond_true, is_bind, is_lift, is_pure] at h
      obtain ⟨p, h1, rfl⟩ := h
      unfold pext at h1
      split at h1
      · rename_i hle
        injection h1 with h1
        subst h1
        have hlen : ((vs.drop off).take (T t).size).length = (T t).size := by simp; omega
        refine ⟨.agg ((vs.drop off).take (T t).size).toArray, ?_, .pv _ _ (.agg _ _ (by simp; omega) (fun c hc' => hs c (List.mem_of_mem_drop (List.mem_of_mem_take hc'))) fun j u c h2 h3 => ?_)⟩
        · exact loadVar_agg hf ha _ hlen fun j u hj => by
            rw [getElem?_slice] at hj
            split at hj
            · have := hc _ _ hj
              rwa [← Nat.add_assoc] at this
            · cases hj
        · rw [getElem?_slice] at h2 h3
          split at h2
          · rename_i hlt
            rw [if_pos hlt] at h3
            exact hp _ _ _ h2 h3
          · cases h2
      · cases h1
    | false =>
      simp only [loadFrom, ha, cond_false, is_bind, is_lift, is_pure] at h
      obtain ⟨p, h1, rfl⟩ := h
      have hlt : off < vs.length := by rw [hl]; exact (List.getElem?_eq_some_iff.1 h1).1
      exact ⟨vs[off], loadVar_one hf ha (hc _ _ (List.getElem?_eq_getElem hlt)), .pv _ _ (hp _ _ _ (List.getElem?_eq_getElem hlt) h1)⟩
  | mix cs =>
    obtain ⟨hl, hs, hp⟩ := hr
    cases ha : (T t).agg with
    | true =>
      simp only [loadFrom, ha, cond_true, is_cond, is_pure, is_fail, and_false, or_false] at h
      obtain ⟨h1, rfl⟩ := h
      simp only [decide_eq_true_eq] at h1
      have hlen : ((vs.drop off).take (T t).size).length = (T t).size := by simp; omega
      refine ⟨.agg ((vs.drop off).take (T t).size).toArray, ?_, .agg _ _ (by simp; omega) (fun c hc' => hs c (List.mem_of_mem_drop (List.mem_of_mem_take hc'))) fun j u c h2 h3 => ?_⟩
      · exact loadVar_agg hf ha _ hlen fun j u hj => by
          rw [getElem?_slice] at hj
          split at hj
          · have := hc _ _ hj
            rwa [← Nat.add_assoc] at this
          · cases hj
      · rw [getElem?_slice] at h2 h3
        split at h2
        · rename_i hlt
          rw [if_pos hlt] at h3
          exact hp _ _ _ h2 h3
        · cases h2
    | false =>
      simp only [loadFrom, ha, cond_false] at h
      cases hcs : cs[off]? with
      | none => simp [hcs, is_fail] at h
      | some c =>
        simp only [hcs, is_pure] at h
        subst h
        have hlt : off < vs.length := by rw [hl]; exact (List.getElem?_eq_some_iff.1 hcs).1
        exact ⟨vs[off], loadVar_one hf ha (hc _ _ (List.getElem?_eq_getElem hlt)), hp _ _ _ (List.getElem?_eq_getElem hlt) hcs⟩
/-- Cells told one by one are a list. -/
theorem cells_list {cs : List PV} {b o : Nat} (h : ∀ (j : Nat) (c : PV), cs[j]? = some c → ∃ u, w.cell? ⟨b, o + j, none⟩ = some u ∧ ok b (o + j) ∧ PR w ok u c) :
    ∃ vs : List Value, vs.length = cs.length ∧ (∀ (j : Nat) (u : Value), vs[j]? = some u → w.cell? ⟨b, o + j, none⟩ = some u) ∧ ∀ (j : Nat) (u : Value) (c : PV), vs[j]? = some u → cs[j]? = some c → PR w ok u c := by
  induction cs generalizing o with
  | nil => exact ⟨[], rfl, by simp, by simp⟩
  | cons c cs ih =>
    obtain ⟨u, h1, _, h2⟩ := h 0 c rfl
    obtain ⟨vs, h3, h4, h5⟩ := ih (o := o + 1) (fun j c' hj => by
      have := h (j + 1) c' hj
      rwa [show o + (j + 1) = o + 1 + j by omega] at this)
    refine ⟨u :: vs, by simp [h3], fun j u' hj => ?_, fun j u' c' hj hj' => ?_⟩
    · cases j with
      | zero => simp at hj; subst hj; exact h1
      | succ j =>
        have := h4 j u' (by simpa using hj)
        rwa [show o + 1 + j = o + (j + 1) by omega] at this
    · cases j with
      | zero => simp at hj hj'; subst hj; subst hj'; exact h2
      | succ j => exact h5 j u' c' (by simpa using hj) (by simpa using hj')
end

theorem cell_row {w : World} {b : Nat} {arr : Array Value} {e : TypeId} {fz : Nat × Nat} (h : w.heap[b]? = some (.cells arr e fz)) (j : Nat) : w.cell? ⟨b, j, none⟩ = arr[j]? := by
  simp [World.cell?, h]
theorem ownsRow_cell {w : World} {base : Nat} {e : TypeId} {sz n : Nat} {r : Value} {vs : List Value} (h : w.ownsRow base e sz r n vs) {b : Nat} (hb : blk r = some b) {j : Nat} {u : Value} (hj : vs[j]? = some u) : w.cell? ⟨b, j, none⟩ = some u := by
  obtain ⟨A, c, hs, _⟩ := ownsRow_slice h
  have := h.cells (g := b) (by rw [← blk_own r A n c hs]; exact hb) j u hj
  rwa [add_at, Nat.zero_add] at this

/-! ### a load -/
section
variable {base : Nat} {okx : Nat → Nat → Prop} {w0 : World} {P : Program} {T : Nat → TI} {o : Oper} {a : Act} {ρ : Rho} {H : Heap} {w : World} {nid lim : Nat}
theorem load_run {t : TypeId} {x : Operand} (ho : o.op = .load t x) {ad : Addr} {val : Value} (hx : a.eval x = .pointer (some ad)) (h : (loadVar t ad).run P w = .ok val w) : (execOp a.eval o).run P w = .ok (.value val) w := by
  unfold execOp
  simp [ho, Instr.loadAt, hx, Instr.sureAddr, h]
theorem load_does {G : Nat → Option Given} {t : TypeId} {x : Operand} (ho : o.op = .load t x) (hT : TOk P T) (hw : WR base okx w0 w ρ H) {ev : Operand → LV} (hev : LR w (okF base okx H ρ) ρ H (a.eval x) (ev x))
    {s : LSem} (hs : (lop T G o ev nid).Is s) {v : LV} {H' : Heap} (hx : (exec s nid lim H).Is (v, H')) : Does base okx w0 P o a ρ H w nid v H' := by
  have hs' := hs
  unfold lop at hs'
  simp only [ho] at hs'
  cases hn : nz T t with
  | false => simp [hn, is_fail] at hs'
  | true =>
    simp only [hn, Bool.not_true, cond_false] at hs'
    cases he : ev x with
    | ptr id off =>
      simp only [he, is_pure] at hs'
      subst hs'
      simp only [exec] at hx
      cases hid : H id with
      | none => simp [hid, is_fail] at hx
      | some ob =>
        simp only [hid, is_bind, is_pure] at hx
        obtain ⟨v', h1, h2⟩ := hx
        injection h2 with h2 h3
        subst h2
        subst h3
        cases ob with
        | sl => simp [is_fail] at h1
        | box c =>
          obtain ⟨r, hr, b, vs, e, rfl, hb, hh, hcr⟩ := hw.obj id _ hid
          rw [he] at hev
          obtain ⟨r', hr', hbox, ha⟩ := hev.ptrI
          rw [hr] at hr'
          injection hr' with hr'
          subst hr'
          obtain ⟨b', e1, e2⟩ := hbox c hid
          injection e1 with e1
          injection e1 with e1
          injection e1 with e1
          subst e1
          obtain ⟨val, hrun, hl⟩ := loadFrom_run (b := b) (o := 0) hT hn h1 hcr (fun j u hj => by rw [Nat.zero_add, cell_row hh]; simpa using hj)
          rw [Nat.zero_add] at hrun
          exact does_val hw (load_run ho e2 hrun) hl
    | eptr cs off =>
      simp only [he, is_bind, is_pure] at hs'
      obtain ⟨v', h1, rfl⟩ := hs'
      simp only [exec, is_pure] at hx
      injection hx with h2 h3
      subst h2
      subst h3
      rw [he] at hev
      obtain ⟨b, o', hav, hsc, hh⟩ := hev.eptrI
      · obtain ⟨vs, hl, hc, hp⟩ := cells_list hh
        obtain ⟨val, hrun, hl⟩ := loadFrom_run (b := b) (o := o') hT hn h1 (show CellsR w (okF base okx H ρ) ρ H vs (.pure cs) from ⟨hl, hsc, hp⟩) hc
        exact does_val hw (load_run ho hav hrun) hl
    | optr id n i off =>
      simp only [he, is_pure] at hs'
      subst hs'
      simp only [exec] at hx
      cases hid : H id with
      | none => simp [hid, is_fail] at hx
      | some ob =>
        simp only [hid, is_bind, is_pure] at hx
        obtain ⟨v', h1, h2⟩ := hx
        injection h2 with h2 h3
        subst h2
        subst h3
        cases ob with
        | box => simp [is_fail] at h1
        | sl e sz xs sn =>
          simp only [is_ite, is_fail, and_false, or_false, is_bind, is_lift] at h1
          obtain ⟨hlen, cs, hcs, h1⟩ := h1
          simp only [beq_iff_eq] at hlen
          obtain ⟨r, hr, vs, hown, hrows⟩ := hw.obj id _ hid
          rw [he] at hev
          obtain ⟨r', hr', hsl, ha⟩ := hev.optrI
          rw [hr] at hr'
          injection hr' with hr'
          subst hr'
          have hi : i < xs.length := (List.getElem?_eq_some_iff.1 hcs).1
          obtain ⟨b, hb, e2⟩ := (hsl e sz xs sn hid).2 hlen.symm (by omega)
          have hmem : cs ∈ xs := List.mem_of_getElem? hcs
          obtain ⟨ws, hl, hc, hp⟩ := cells_list (w := w) (ok := fun _ _ => True) (cs := cs) (b := b) (o := i * sz) (fun j c hj => by
            obtain ⟨u, hu, hpu⟩ := hrows.2.2 i cs j c hcs hj
            exact ⟨u, ownsRow_cell hown hb hu, trivial, hpu.okmono fun _ _ _ _ _ => trivial⟩)
          have hp2 : ∀ (j : Nat) (u : Value) (c : PV), ws[j]? = some u → cs[j]? = some c → PR w (okF base okx H ρ) u c := by
            intro j u c hj hj'
            obtain ⟨u', hu, hpu⟩ := hrows.2.2 i cs j c hcs hj'
            have := ownsRow_cell hown hb hu
            rw [hc j u hj] at this
            injection this with this
            subst this
            exact hpu
          obtain ⟨val, hrun, hl⟩ := loadFrom_run (b := b) (o := i * sz) hT hn h1 (show CellsR w (okF base okx H ρ) ρ H ws (.pure cs) from ⟨hl, hrows.2.1 cs hmem, hp2⟩) hc
          exact does_val hw (load_run ho e2 hrun) hl
    | _ => simp [he, is_fail] at hs'
end
end Go.Bw
