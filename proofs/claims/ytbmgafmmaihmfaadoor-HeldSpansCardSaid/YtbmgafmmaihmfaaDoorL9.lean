/- The evaluator's single operations against the machine's: slices made, appended to; structs built. No statement of a law is proved here. -/
import Derived.Test.YtbmgafmmaihmfaaDoorL8
set_option linter.unusedVariables false
set_option linter.unusedSimpArgs false
namespace Go.Bw
open Go.RowKit M

section
variable {base : Nat} {okx : Nat → Nat → Prop} {w0 : World} {P : Program} {T : Nat → TI} {o : Oper} {a : Act} {ρ : Rho} {H : Heap} {w : World} {nid lim : Nat}

theorem buildSlice_run {t e len : Nat} {I : TI} {i : TypeInfo} {d : TypeDesc} {z : Value} (hu : P.underlying t = some (.slice e)) (hf : TFact P e I i d z) (hle : len * I.size ≤ 16777216) {parts : Array (Nat × Value)} {cells : List Value}
    (hfill : ∀ A : List Value, A.length = len * I.size → Instr.fill (fun i => some (i * I.size, I.size)) A.toArray parts.toList = some cells.toArray) :
    (Instr.buildSlice t len parts).run P w = .ok (.slice (some ⟨w.heap.size, 0, none⟩) len len) (w.alloc (.cells cells.toArray e)) := by
  have h1 : ¬ (len * I.size > 2 ^ 24) := by omega
  unfold Instr.buildSlice
  simp only [Sem.run_bind, run_underlying hu, Result.andThen_ok, run_sizeOf hf.info, hf.size, Sem.run_ite, if_neg h1, Sem.run_pure, run_zeroValue hf]
  have key : ∀ A : Array Value, A.size = len * I.size → Instr.fill (fun i => some (i * I.size, I.size)) A parts.toList = some cells.toArray := fun A hA => by
    have := hfill A.toList (by simpa using hA)
    rwa [Array.toArray_toList] at this
  by_cases h0 : len * I.size = 0
  · simp only [h0, if_true, Result.andThen_ok]
    rw [key _ (by simp [h0])]
    simp only [Sem.run_bind, run_newRow, Result.andThen_ok, Sem.run_pure]
  · simp only [h0, if_false, Result.andThen_ok]
    rw [key _ (by simp)]
    simp only [Sem.run_bind, run_newRow, Result.andThen_ok, Sem.run_pure]
theorem buildSlice_does {G : Nat → Option Given} {t len : Nat} {parts : Array (Nat × Operand)} (ho : o.op = .buildSlice t len parts) (hT : TOk P T) (hw : WR base okx w0 w ρ H) (hnid : ρ nid = none) {ev : Operand → LV} (hev : ∀ x, LR w (okF base okx H ρ) ρ H (a.eval x) (ev x))
    {s : LSem} (hs : (lop T G o ev nid).Is s) {v : LV} {H' : Heap} (hx : (exec s nid lim H).Is (v, H')) : Does base okx w0 P o a ρ H w nid v H' := by
  unfold lop at hs
  simp only [ho] at hs
  cases he : sliceElem T t with
  | none => simp [he, is_fail] at hs
  | some e =>
    obtain ⟨hu, i, d, z, hf⟩ := sliceElem_fact hT he
    simp only [he, is_cond, is_fail, and_false, false_or, is_bind, Bool.not_eq_false', Bool.and_eq_true, beq_iff_eq] at hs
    obtain ⟨⟨hpr, hle⟩, cs, hcs, hs⟩ := hs
    have hle := Nat.le_of_ble_eq_true hle
    have hpl : parts.toList.length = len := by simpa using congrArg List.length hpr
    rw [List.range_eq_range', ← hpl] at hpr
    obtain ⟨vss, g1, g2, g3, g4, g5⟩ := elems_rel hev (fun ha => hf.one ha) hcs 0 hpr
    have hfl := flatten_len g3
    have hrun : (execOp a.eval o).run P w = .ok (.value (.slice (some ⟨w.heap.size, 0, none⟩) len len)) (w.alloc (.cells vss.flatten.toArray e)) := by
      unfold execOp
      simp only [ho, Sem.run_bind]
      rw [buildSlice_run (cells := vss.flatten) hu hf hle (fun A hA => ?_)]
      · rfl
      · have := g5 A (by rw [hA, hpl]; omega)
        rw [Nat.zero_mul, splice_all _ _ (by rw [hfl, hA, g1, hpl])] at this
        simpa using this
    have hmax : len ≤ maxLen := by
      have := Nat.le_mul_of_pos_right len hf.pos
      unfold maxLen; omega
    cases hp : pureRows cs with
    | some xs =>
      simp only [hp, is_pure] at hs
      subst hs
      simp only [exec, is_pure] at hx
      injection hx with h1 h2
      subst h1; subst h2
      have hcs' := pureRows_some hp
      have hxl : xs.length = len := by rw [← hpl, ← g2, hcs']; simp
      rw [← hxl] at hrun hmax ⊢
      refine does_row hw hnid (rows_of_cells (by rw [g1, hpl, hxl]) g3 fun i vs c e1 e2 => ?_) (by rw [hfl, g1, hpl, hxl]) hmax hrun false
      have := g4 i vs (.pure c) e1 (by rw [hcs', List.getElem?_map, e2]; rfl)
      exact ⟨this.1, this.2.1, this.2.2⟩
    | none =>
      simp only [hp, is_pure] at hs
      subst hs
      simp only [exec, is_cond, is_fail, and_false, or_false, is_bind, is_pure] at hx
      obtain ⟨_, xs, h1, h2⟩ := hx
      injection h2 with h2 h3
      subst h2; subst h3
      obtain ⟨e1, w1, l1, p1⟩ := rowsL_rel hw h1 (vss := vss) (by rw [g1, g2]) g4
      have hxl : xs.length = len := by rw [l1, g2, hpl]
      rw [← hxl] at hrun hmax ⊢
      have hd := does_row (o := o) (a := a) (P := P) w1 hnid (rows_of_cells (by rw [g1, hpl, hxl]) g3 p1) (by rw [hfl, g1, hpl, hxl]) hmax hrun false
      intro Q
      have := hd Q
      unfold Oper.wp at this ⊢
      rw [hrun] at this ⊢
      obtain ⟨val, ρ', q1, q2, q3, q4, q5⟩ := this
      exact ⟨val, ρ', q1, e1.trans q2, q3, q4, q5⟩

theorem makeSlice_run {t e : Nat} {I : TI} {i : TypeInfo} {d : TypeDesc} {z : Value} (hu : P.underlying t = some (.slice e)) (hf : TFact P e I i d z) {n : Int} (h0 : 0 ≤ n) (hn : n ≤ LIM) (k k' : IntKind) :
    ∃ vs : List Value, (Instr.makeSlice t (.int k n) (.int k' n)).run P w = .ok (.slice (some ⟨w.heap.size, 0, none⟩) n.toNat n.toNat) (w.alloc (.cells vs.toArray e)) ∧ vs.length = n.toNat * I.size ∧
      ∀ i j, i < n.toNat → j < I.size → vs[i * I.size + j]? = z.cells.toList[j]? := by
  have hw64 : IntKind.i64.wrap n = n := by
    unfold LIM at hn
    simp only [IntKind.wrap, IntKind.signed, IntKind.bits]
    simp
    omega
  have hbm := hf.bmax
  have hsm : ¬ ((I.bytes : Int) * n > 2 ^ 48) := by
    unfold LIM at hn
    have : (I.bytes : Int) * n ≤ 256 * n := Int.mul_le_mul_of_nonneg_right (by omega) h0
    omega
  have hc1 : ¬ (n < 0 || (I.bytes : Int) * n > 2 ^ 48 || n < 0 || n > n) = true := by
    simp only [Bool.or_eq_true, decide_eq_true_eq, not_or]
    refine ⟨⟨⟨by omega, by simpa using hsm⟩, by omega⟩, by omega⟩
  by_cases hz : n.toNat * I.size = 0
  · have hn0 : n.toNat = 0 := by
      rcases Nat.mul_eq_zero.1 hz with h | h
      · exact h
      · have := hf.pos; omega
    refine ⟨[], ?_, by simp [hz], fun i j hi _ => by omega⟩
    unfold Instr.makeSlice
    simp only [Sem.run_bind, run_underlying hu, Result.andThen_ok, asInt, asIntOf, Sem.run_pure, typeInfo, hf.info, run_program, hw64, hf.bytes, Sem.run_ite]
    rw [if_neg (by simpa using hc1)]
    simp [run_askRoom, hf.size, run_sizeOf hf.info, hz, run_newRow]
    have e0 : Array.map (fun x => (default : Value)) (Array.range 0) = #[] := by apply Array.ext'; simp
    rw [e0]
  · refine ⟨((Array.range (n.toNat * I.size)).map (fun x => z.cells[x % z.cells.size]!)).toList, ?_, by simp, fun i j hi hj => ?_⟩
    · unfold Instr.makeSlice
      simp only [Sem.run_bind, run_underlying hu, Result.andThen_ok, asInt, asIntOf, Sem.run_pure, typeInfo, hf.info, run_program, hw64, hf.bytes, Sem.run_ite]
      rw [if_neg (by simpa using hc1)]
      simp only [run_askRoom, Result.andThen_ok, Sem.run_bind, run_sizeOf hf.info, hf.size, Sem.run_ite, hz, if_false, run_zeroValue hf, Sem.run_pure, run_newRow, Array.toArray_toList]
    · have hlt : i * I.size + j < n.toNat * I.size := by
        have : (i + 1) * I.size ≤ n.toNat * I.size := Nat.mul_le_mul_right _ hi
        rw [Nat.add_mul, Nat.one_mul] at this
        omega
      have hm : (i * I.size + j) % z.cells.size = j := by
        rw [hf.zsize, Nat.add_comm, Nat.add_mul_mod_self_right, Nat.mod_eq_of_lt hj]
      have hjz : j < z.cells.size := by rw [hf.zsize]; exact hj
      simp [hlt, hm, hjz]
theorem makeSlice_does {G : Nat → Option Given} {t : Nat} {x y : Operand} (ho : o.op = .makeSlice t x y) (hT : TOk P T) (hw : WR base okx w0 w ρ H) (hnid : ρ nid = none) {ev : Operand → LV} (hev : ∀ x, LR w (okF base okx H ρ) ρ H (a.eval x) (ev x))
    {s : LSem} (hs : (lop T G o ev nid).Is s) {v : LV} {H' : Heap} (hx : (exec s nid lim H).Is (v, H')) : Does base okx w0 P o a ρ H w nid v H' := by
  unfold lop at hs
  simp only [ho, is_bind, asPure_is, is_lift] at hs
  obtain ⟨p, hp, q, hq, n, hn, m, hm, hs⟩ := hs
  obtain ⟨k, rfl⟩ := pint_some hn
  obtain ⟨k', rfl⟩ := pint_some hm
  cases he : sliceElem T t with
  | none => simp [he, is_fail] at hs
  | some e =>
    obtain ⟨hu, i, d, z, hf⟩ := sliceElem_fact hT he
    simp only [he, is_ite, is_fail, and_false, or_false, is_pure, Bool.and_eq_true, beq_iff_eq, decide_eq_true_eq] at hs
    obtain ⟨⟨⟨rfl, h0⟩, hl⟩, rfl⟩ := hs
    simp only [exec, is_pure] at hx
    injection hx with h1 h2
    subst h1; subst h2
    have e1 := (hp ▸ hev x).pvI.intI
    have e2 := (hq ▸ hev y).pvI.intI
    obtain ⟨vs, hrun, hvl, hvs⟩ := makeSlice_run (w := w) hu hf h0 hl k k'
    obtain ⟨z1, z2, z3⟩ := zero_rel (w := w) (ρ := ρ) (H := H) hf (okF base okx H ρ)
    have hlen : (List.replicate n.toNat (T e).zero).length = n.toNat := by simp
    have hrun' : (execOp a.eval o).run P w = .ok (.value (.slice (some ⟨w.heap.size, 0, none⟩) (List.replicate n.toNat (T e).zero).length (List.replicate n.toNat (T e).zero).length)) (w.alloc (.cells vs.toArray e)) := by
      unfold execOp
      simp [ho, e1, e2, hrun]
    have := does_row (sz := (T e).size) (xs := List.replicate n.toNat (T e).zero) hw hnid ⟨fun cs hc => ?_, fun cs hc c hcc => ?_, fun i cs j c g1 g2 => ?_⟩ (by rw [hlen]; exact hvl) (by rw [hlen]; unfold LIM at hl; unfold maxLen; omega) hrun' false
    · rw [hlen] at this; exact this
    · rw [List.eq_of_mem_replicate hc, ← z1]
      have := hf.zsize
      simpa using this
    · rw [List.eq_of_mem_replicate hc] at hcc; exact z2 c hcc
    · rw [List.getElem?_replicate] at g1
      split at g1
      · rename_i hi
        injection g1 with g1
        subst g1
        have hj : j < (T e).zero.length := (List.getElem?_eq_some_iff.1 g2).1
        have hzl : z.cells.toList.length = (T e).zero.length := z1
        have hj' : j < (T e).size := by have := hf.zsize; simp at hzl; omega
        rw [hvs i j hi hj']
        have hj2 : j < z.cells.toList.length := by omega
        exact ⟨_, List.getElem?_eq_getElem hj2, z3 j _ c (List.getElem?_eq_getElem hj2) g2⟩
      · cases g1
end
end Go.Bw
