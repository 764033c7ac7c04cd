/- The evaluator's single operations against the machine's: new variables and rows. No statement of a law is proved here. -/
import Derived.Test.YtbmgafmmaihmfaaDoorL5
set_option linter.unusedVariables false
set_option linter.unusedSimpArgs false
namespace Go.Bw
open Go.RowKit M

section
variable {base : Nat} {okx : Nat → Nat → Prop} {w0 : World} {P : Program} {T : Nat → TI} {o : Oper} {a : Act} {ρ : Rho} {H : Heap} {w : World} {nid lim : Nat}
theorem does_new {r : Value} {ob : HObj} {v : LV} {w' : World} {val : Value} (hw : WR base okx w0 w ρ H) (hnid : ρ nid = none)
    (hrun : (execOp a.eval o).run P w = .ok (.value val) w')
    (hkeep : ∀ k, k < w.heap.size → w'.heap[k]? = w.heap[k]?) (hnew : ∀ b, blk r = some b → w.heap.size ≤ b) (hbelow : Below base w0 w') (hs : w.heap.size ≤ w'.heap.size)
    (hob : Evo (okF base okx H ρ) ρ H w (okF base okx (hset H nid ob) (rset ρ nid r)) (rset ρ nid r) (hset H nid ob) w' → ObjR base w' (okF base okx (hset H nid ob) (rset ρ nid r)) (rset ρ nid r) (hset H nid ob) r ob)
    (hl : LR w' (okF base okx (hset H nid ob) (rset ρ nid r)) (rset ρ nid r) (hset H nid ob) val v) :
    Does base okx w0 P o a ρ H w nid v (hset H nid ob) := by
  intro Q
  have he := evo_new (o := ob) hw hnid hkeep hnew
  have hwr := wr_new hw hnid hkeep hnew hbelow hs (hob he)
  unfold Oper.wp
  rw [hrun]
  exact ⟨val, _, rfl, he, hwr, hl, fun j hj hn => (rset_other _ _ _ hj).trans hn⟩
theorem below_alloc' (hw : WR base okx w0 w ρ H) (ob : Obj) : Below base w0 (w.alloc ob) := hw.below.alloc hw.size ob
/-- A new variable. -/
theorem does_box {vs : List Value} {e : TypeId} {c : Cells} (hw : WR base okx w0 w ρ H) (hnid : ρ nid = none) (hc : CellsR w (okF base okx H ρ) ρ H vs c)
    (hrun : (execOp a.eval o).run P w = .ok (.value (.pointer (some ⟨w.heap.size, 0, none⟩))) (w.alloc (.cells vs.toArray e))) :
    Does base okx w0 P o a ρ H w nid (.ptr nid 0) (hset H nid (.box c)) := by
  refine does_new (r := .pointer (some ⟨w.heap.size, 0, none⟩)) hw hnid hrun (fun k hk => heap_alloc_old w _ k hk) (fun b hb => by simp [blk] at hb; omega) (below_alloc' hw _) (by simp) (fun he => ?_) ?_
  · exact ⟨w.heap.size, vs, e, rfl, hw.size, heap_alloc_new w _, hc.evo he⟩
  · exact .ptr _ nid 0 _ (rset_same _ _ _) (fun c' _ => ⟨w.heap.size, rfl, rfl⟩) ⟨_, rfl⟩
/-- A new row. -/
theorem does_row {vs : List Value} {e sz : Nat} {xs : List (List PV)} (hw : WR base okx w0 w ρ H) (hnid : ρ nid = none) (hr : RowsR w (okF base okx H ρ) sz vs xs) (hvl : vs.length = xs.length * sz) (hmax : xs.length ≤ maxLen)
    (hrun : (execOp a.eval o).run P w = .ok (.value (.slice (some ⟨w.heap.size, 0, none⟩) xs.length xs.length)) (w.alloc (.cells vs.toArray e))) (sn : Bool) :
    Does base okx w0 P o a ρ H w nid (.osl nid xs.length) (hset H nid (.sl e sz xs sn)) := by
  refine does_new (r := .slice (some ⟨w.heap.size, 0, none⟩) xs.length xs.length) hw hnid hrun (fun k hk => heap_alloc_old w _ k hk) (fun b hb => by simp [blk] at hb; omega) (below_alloc' hw _) (by simp) (fun he => ?_) ?_
  · refine ⟨vs, ⟨hvl, .inr ⟨w.heap.size, xs.length, vs.toArray, rfl, hw.size, heap_alloc_new w _, Nat.le_refl _, hmax, by simpa using hvl, ?_⟩⟩, hr.evo he⟩
    simp only [List.toList_toArray]
    exact List.take_of_length_le (by omega)
  · refine .osl _ nid _ _ (rset_same _ _ _) (fun e' sz' xs' s' hs => ?_) ⟨_, _, rfl, fun _ => rfl⟩
    rw [hset_same] at hs
    injection hs with hs
    injection hs with _ _ hs _
    subst hs
    exact ⟨Nat.le_refl _, fun _ => rfl⟩
theorem does_nil {e sz : Nat} (hw : WR base okx w0 w ρ H) (hnid : ρ nid = none)
    (hrun : (execOp a.eval o).run P w = .ok (.value (.slice none 0 0)) w) :
    Does base okx w0 P o a ρ H w nid (.osl nid 0) (hset H nid (.sl e sz [] false)) := by
  refine does_new (r := .slice none 0 0) hw hnid hrun (fun k hk => rfl) (fun b hb => by simp [blk] at hb) hw.below (Nat.le_refl _) (fun he => ?_) ?_
  · exact ⟨[], World.ownsRow_nil _ _ _ _, by simp, by simp, by simp⟩
  · refine .osl _ nid _ _ (rset_same _ _ _) (fun e' sz' xs' s' hs => ?_) ⟨_, _, rfl, fun h => absurd h (Nat.lt_irrefl 0)⟩
    rw [hset_same] at hs
    injection hs with hs
    injection hs with _ _ hs _
    subst hs
    exact ⟨Nat.le_refl _, fun _ => rfl⟩

theorem run_newVar (t : TypeId) (v : Value) : (newVar t v).run P w = .ok ⟨w.heap.size, 0, none⟩ (w.alloc (.cells v.cells t)) := rfl
theorem run_newRow (t : TypeId) (cs : Array Value) : (newRow t cs).run P w = .ok ⟨w.heap.size, 0, none⟩ (w.alloc (.cells cs t)) := rfl
theorem run_zeroValue {t : TypeId} {I : TI} {i : TypeInfo} {d : TypeDesc} {z : Value} (hf : TFact P t I i d z) : (zeroValue t).run P w = .ok z w := by
  simp [zeroValue, typeInfo, hf.info, hf.zero]
theorem zero_rel {t : TypeId} {I : TI} {i : TypeInfo} {d : TypeDesc} {z : Value} (hf : TFact P t I i d z) (ok : Nat → Nat → Prop) : CellsR w ok ρ H z.cells.toList (.pure I.zero) := by
  obtain ⟨h1, h2, h3⟩ := cellsB_rel hf.zcells w ok
  exact ⟨h1, h2, h3⟩

theorem alloc_does {G : Nat → Option Given} {t : TypeId} (ho : o.op = .alloc t) (hT : TOk P T) (hw : WR base okx w0 w ρ H) (hnid : ρ nid = none) {ev : Operand → LV}
    {s : LSem} (hs : (lop T G o ev nid).Is s) {v : LV} {H' : Heap} (hx : (exec s nid lim H).Is (v, H')) : Does base okx w0 P o a ρ H w nid v H' := by
  unfold lop at hs
  simp only [ho] at hs
  cases hn : nz T t with
  | false => simp [hn, is_fail] at hs
  | true =>
    obtain ⟨i, d, z, hf⟩ := nz_fact hT hn
    simp only [hn, Bool.not_true, cond_false, is_pure] at hs
    subst hs
    simp only [exec, is_pure] at hx
    injection hx with h1 h2
    subst h1; subst h2
    refine does_box (vs := z.cells.toList) (e := t) hw hnid (zero_rel hf _) ?_
    unfold execOp
    simp [ho, Instr.alloc, run_zeroValue hf, run_newVar]
theorem box_does {G : Nat → Option Given} {t : TypeId} {x : Operand} (ho : o.op = .box t x) (hw : WR base okx w0 w ρ H) (hnid : ρ nid = none) {ev : Operand → LV} (hev : ∀ x, LR w (okF base okx H ρ) ρ H (a.eval x) (ev x))
    {s : LSem} (hs : (lop T G o ev nid).Is s) {v : LV} {H' : Heap} (hx : (exec s nid lim H).Is (v, H')) : Does base okx w0 P o a ρ H w nid v H' := by
  unfold lop at hs
  simp only [ho, is_bind, is_pure] at hs
  obtain ⟨c, hc, rfl⟩ := hs
  simp only [exec, is_pure] at hx
  injection hx with h1 h2
  subst h1; subst h2
  obtain ⟨vs, h1, h2, _⟩ := cellsOf_rel hc (hev x)
  refine does_box (vs := vs) (e := t) hw hnid h2 ?_
  unfold execOp
  simp [ho, Instr.box, run_newVar, h1]
theorem sliceElem_fact (hT : TOk P T) {t e : Nat} (h : sliceElem T t = some e) : P.underlying t = some (.slice e) ∧ ∃ i d z, TFact P e (T e) i d z := by
  unfold sliceElem at h
  split at h
  · rename_i e' hu
    cases hb : Nat.beq (T e').size 0 with
    | true => rw [hb] at h; cases h
    | false =>
      rw [hb] at h
      injection h with h
      subst h
      refine ⟨?_, nz_fact hT (by simp [nz, hb])⟩
      rcases hT t with hd | ⟨i, d, z, hf⟩
      · rw [hd] at hu; cases hu
      · have := hf.tur
        rw [hu] at this
        cases d <;> simp [turB] at this
        subst this
        exact hf.und
  · cases h
theorem move_does {G : Nat → Option Given} {x : Operand} (ho : o.op = .move x ∨ o.op = .assign x) (hT : TOk P T) (hw : WR base okx w0 w ρ H) (hnid : ρ nid = none) {ev : Operand → LV} (hev : ∀ x, LR w (okF base okx H ρ) ρ H (a.eval x) (ev x))
    {s : LSem} (hs : (lop T G o ev nid).Is s) {v : LV} {H' : Heap} (hx : (exec s nid lim H).Is (v, H')) : Does base okx w0 P o a ρ H w nid v H' := by
  have hs' : (moveSem T o.type x ev nid).Is s := by
    unfold lop at hs
    rcases ho with ho | ho <;> simpa only [ho] using hs
  have hrun : (execOp a.eval o).run P w = .ok (.value (a.eval x)) w := by
    unfold execOp
    rcases ho with ho | ho <;> simp [ho]
  unfold moveSem at hs'
  cases hn : isNilC x with
  | true =>
    simp only [hn, cond_true] at hs'
    have hxv : a.eval x = .slice none 0 0 := by
      unfold isNilC at hn
      split at hn
      · rfl
      · cases hn
    cases he : sliceElem T o.type with
    | none => simp [he, is_fail] at hs'
    | some e =>
      simp only [he, is_pure] at hs'
      subst hs'
      simp only [exec, is_pure] at hx
      injection hx with h1 h2
      subst h1; subst h2
      exact does_nil hw hnid (hxv ▸ hrun)
  | false =>
    simp only [hn, cond_false, is_pure] at hs'
    subst hs'
    simp only [exec, is_pure] at hx
    injection hx with h1 h2
    subst h1; subst h2
    exact does_val hw hrun (hev x)

/-! ### rows out of parts -/
def concatA : List Value → List Value
  | [] => []
  | v :: r => v.cells.toList ++ concatA r
theorem fold_splice (ys : List Value) : ∀ (off : Nat) (k : Nat) (cs : Array Value), off + k + ys.length ≤ cs.size →
    (ys.zipIdx k).foldl (fun (cs : Array Value) (p : Value × Nat) => cs.setIfInBounds (off + p.2) p.1) cs = (splice cs.toList (off + k) ys).toArray := by
  induction ys with
  | nil => intro off k cs h; simp [splice]
  | cons y ys ih =>
    intro off k cs h
    simp only [List.length_cons] at h
    simp only [List.zipIdx_cons, List.foldl_cons]
    rw [ih off (k + 1) _ (by simp; omega)]
    congr 1
    apply List.ext_getElem?
    intro i
    rw [splice_get _ _ _ _ (by simp only [Array.length_toList, Array.size_setIfInBounds]; omega), splice_get _ _ _ _ (by simp only [Array.length_toList, List.length_cons]; omega)]
    simp only [Array.toList_setIfInBounds, List.getElem?_set, List.length_cons]
    by_cases h1 : i < off + k
    · rw [if_pos (by omega), if_pos h1, if_neg (by omega)]
    · rw [if_neg h1]
      by_cases h2 : i = off + k
      · subst h2
        have : off + k < cs.toList.length := by rw [Array.length_toList]; omega
        rw [if_pos (by omega), if_pos rfl, if_pos this, if_pos (by omega)]
        simp
      · by_cases h3 : i < off + k + (ys.length + 1)
        · rw [if_neg (by omega), if_pos (by omega), if_pos h3]
          rw [show i - (off + k) = (i - (off + (k + 1))) + 1 by omega]
          simp
        · rw [if_neg (by omega), if_neg (by omega), if_neg h3, if_neg (by omega)]
theorem fill_cons {place : Nat → Option (Nat × Nat)} {cells : List Value} {i off size : Nat} {v : Value} {ys : List Value} (r : List (Nat × Value)) (hp : place i = some (off, size)) (hv : v.cells = ys.toArray) (hs : ys.length = size) (hle : off + size ≤ cells.length) :
    Instr.fill place cells.toArray ((i, v) :: r) = Instr.fill place (splice cells off ys).toArray r := by
  rw [Instr.fill]
  simp only [hp]
  have h1 : v.cells.size = size := by rw [hv]; simpa using hs
  have h2 : ¬ (v.cells.size ≠ size || decide (off + v.cells.size > cells.toArray.size)) = true := by
    simp [h1]; omega
  rw [if_neg (by simpa using h2)]
  congr 1
  have := fold_splice ys off 0 cells.toArray (by simp; omega)
  rw [Nat.add_zero] at this
  simp only [List.toList_toArray] at this
  rw [← this, hv]
  rw [← Array.foldl_toList, Array.toList_zipIdx]
end
end Go.Bw
