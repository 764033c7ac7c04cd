/- The evaluator's single operations against the machine's: calls. No statement of a law is proved here. -/
import Derived.Test.YtbmgafmmaihmfaaDoorL15
set_option linter.unusedVariables false
set_option linter.unusedSimpArgs false
namespace Go.Bw
open Go.RowKit M

def CallOk (P : Program) (f : FuncId) : Prop := ∃ fn, P.funcs[f]? = some fn ∧ (fn.name == "runtime.NumGoroutine") = false ∧ fn.body.isNone = false
def ArgsR {α : Type} (R : Value → α → Prop) (vs : List Value) (ps : List α) : Prop := vs.length = ps.length ∧ ∀ (i : Nat) (v : Value) (p : α), vs[i]? = some v → ps[i]? = some p → R v p
def Back (P : Program) (f : FuncId) (vs : List Value) (w : World) (R : Value → World → Prop) : Prop := Calls P f vs.toArray w fun e w' => ∃ v, e = .returned v ∧ R v w'
theorem Back.mono {P : Program} {f : FuncId} {vs : List Value} {w : World} {R R' : Value → World → Prop} (h : Back P f vs w R) (hr : ∀ v w', R v w' → R' v w') : Back P f vs w R' :=
  Calls.mono h fun e w' ⟨v, he, hv⟩ => ⟨v, he, hr v w' hv⟩
/-- As the caller lets, below; all above. -/
def upto (n : Nat) (okx : Nat → Nat → Prop) : Nat → Nat → Prop := fun b o => b < n → okx b o
def rho0 : Rho := fun _ => none
def heap0 : Heap := fun _ => none

/-- What a given summary of a function says of the program. -/
def GivenOk (P : Program) (f : FuncId) : Given → Prop
  | .pcall F => CallOk P f ∧ ∀ ps r, F ps = some r → ∀ w okx vs, Gl w → ArgsR (PR w okx) vs ps →
      Back P f vs w fun v w' => Below w.heap.size w w' ∧ PR w' (upto w.heap.size okx) v r
  | .fcall F => CallOk P f ∧ ∀ ls r, F ls = some r → ∀ w okx vs, Gl w → ArgsR (LR w okx rho0 heap0) vs ls →
      Back P f vs w fun v w' => Below w.heap.size w w' ∧ PR w' (upto w.heap.size okx) v r
  | .ocall e sz F => CallOk P f ∧ ∀ ps xs, F ps = some xs → ∀ w okx vs, Gl w → ArgsR (PR w okx) vs ps →
      Back P f vs w fun v w' => Below w.heap.size w w' ∧ ∃ us, w'.ownsRow w.heap.size e sz v xs.length us ∧ RowsR w' (fun b o => upto w.heap.size okx b o ∧ blk v ≠ some b) sz us xs
  | .bcall F => CallOk P f ∧ ∀ ps cs, F ps = some cs → ∀ w okx vs, Gl w → ArgsR (PR w okx) vs ps →
      Back P f vs w fun v w' => Below w.heap.size w w' ∧ ∃ b us e, v = .pointer (some ⟨b, 0, none⟩) ∧ w.heap.size ≤ b ∧ w'.heap[b]? = some (.cells us.toArray e (0, 0)) ∧
        CellsR w' (fun b' o => upto w.heap.size okx b' o ∧ b' ≠ b) rho0 heap0 us (.pure cs)
  | .ecall F => CallOk P f ∧ ∀ ps cs, F ps = some cs → ∀ w okx vs, Gl w → ArgsR (PR w okx) vs ps →
      Back P f vs w fun v w' => Below w.heap.size w w' ∧ LR w' (upto w.heap.size okx) rho0 heap0 v (.eptr cs 0)
  | .rcall F => CallOk P f ∧ ∀ base okx w0 w ρ H nid ls r vs, (F ls nid H).Is r → WR base okx w0 w ρ H → (∀ id, nid ≤ id → ρ id = none) → ArgsR (LR w (okF base okx H ρ) ρ H) vs ls →
      Back P f vs w fun v w' => Evo (okF base okx H ρ) ρ H w (okF base okx H ρ) ρ H w' ∧ WR base okx w0 w' ρ H ∧ PR w' (okF base okx H ρ) v r
  | .gcall K => CallOk P f ∧ ∀ base okx w0 w ρ H nid lim ls s lv H' vs, (K ls).Is s → (exec s nid lim H).Is (lv, H') → WR base okx w0 w ρ H → ρ nid = none → ArgsR (LR w (okF base okx H ρ) ρ H) vs ls →
      Back P f vs w fun v w' => ∃ ρ', Post base okx w0 ρ H w nid lv H' v w' ρ'
def GOk (P : Program) (G : Nat → Option Given) : Prop := ∀ f g, G f = some g → GivenOk P f g
theorem GivenOk.call {P : Program} {f : FuncId} {g : Given} (h : GivenOk P f g) : CallOk P f := by
  cases g <;> exact h.1

section
variable {base : Nat} {okx : Nat → Nat → Prop} {w0 : World} {P : Program} {T : Nat → TI} {G : Nat → Option Given} {o : Oper} {a : Act} {ρ : Rho} {H : Heap} {w : World} {nid lim : Nat} {ok : Nat → Nat → Prop}
variable {ev : Operand → LV} {s : LSem} {v : LV} {H' : Heap}

theorem evo_call {w' : World} (hw : WR base okx w0 w ρ H) (hb : Below w.heap.size w w') : Evo (okF base okx H ρ) ρ H w (okF base okx H ρ) ρ H w' ∧ WR base okx w0 w' ρ H := by
  have he : Evo (okF base okx H ρ) ρ H w (okF base okx H ρ) ρ H w' := ⟨fun b off u h1 h2 => ⟨cell_same (hb.block b (cell_lt h1)) h1, h2⟩, fun id r h => ⟨r, h⟩, fun id r c' h1 h2 => ⟨⟨c', h2⟩, h1⟩, fun id r e sz xs' s' h1 h2 => ⟨xs', s', h2, Nat.le_refl _, fun _ => h1⟩⟩
  refine ⟨he, ⟨⟨hb.os.trans hw.below.os, hb.tape.trans hw.below.tape, hb.output.trans hw.below.output, Nat.le_trans hw.below.size hb.size, fun k hk => (hb.block k (Nat.lt_of_lt_of_le hk hw.size)).trans (hw.below.block k hk)⟩,
    Nat.le_trans hw.size hb.size, fun id ob hid => ?_, hw.apart, hw.gl⟩⟩
  obtain ⟨r, hr, ho⟩ := hw.obj id ob hid
  exact ⟨r, hr, ho.keep he fun b hbk => hb.block b (ho.lt hbk).2⟩
theorem okF_up (hw : WR base okx w0 w ρ H) {b o : Nat} (h : upto w.heap.size (okF base okx H ρ) b o) : okF base okx H ρ b o := by
  by_cases hlt : b < w.heap.size
  · exact h hlt
  · refine ⟨fun hb => absurd (Nat.lt_of_lt_of_le hb hw.size) hlt, ?_⟩
    rintro ⟨id, r, ob, h1, h2, h3⟩
    obtain ⟨r', hr', ho⟩ := hw.obj id ob h2
    rw [h1] at hr'
    injection hr' with hr'
    subst hr'
    exact hlt (ho.lt (mutO_blk h3)).2
theorem evo_pr {w' : World} {v : Value} {p : PV} (hw : WR base okx w0 w ρ H) (h : PR w' (upto w.heap.size (okF base okx H ρ)) v p) : PR w' (okF base okx H ρ) v p := h.okmono fun b off u _ h2 => okF_up hw h2

theorem run_callFunc {f : FuncId} (h : CallOk P f) (args : Array Value) : (callFunc f args).run P w = .ok (.enter f args) w := by
  obtain ⟨fn, h1, h2, h3⟩ := h
  simp only [callFunc, Sem.run_bind, run_program, Result.andThen_ok, h1, h2, h3]
  rfl
theorem call_does {c : Call} {fx : Operand} {f : FuncId} {caps : List LV} (ho : o.op = .call c) (hc : c.callee = .value fx) (hok : CallOk P f) (hev : ∀ x, LR w (okF base okx H ρ) ρ H (a.eval x) (ev x)) (hf : ev fx = .clo f caps)
    (h : ∀ vs, ArgsR (LR w (okF base okx H ρ) ρ H) vs (c.args.toList.map ev ++ caps) → Back P f vs w fun val w' => ∃ ρ', Post base okx w0 ρ H w nid v H' val w' ρ') : Does base okx w0 P o a ρ H w nid v H' := by
  obtain ⟨cs, hv, hl, hh⟩ := (hf ▸ hev fx).cloI
  have harg : ArgsR (LR w (okF base okx H ρ) ρ H) (c.args.toList.map a.eval ++ cs) (c.args.toList.map ev ++ caps) := by
    refine ⟨by simp [hl], fun i v l h1 h2 => ?_⟩
    rw [List.getElem?_append] at h1 h2
    simp only [List.length_map] at h1 h2
    split at h1
    · rename_i hlt
      rw [if_pos hlt] at h2
      rw [List.getElem?_map] at h1 h2
      cases hq : c.args.toList[i]? with
      | none => rw [hq] at h1; cases h1
      | some x =>
        rw [hq] at h1 h2
        injection h1 with h1
        injection h2 with h2
        subst h1; subst h2
        exact hev x
    · rename_i hlt
      rw [if_neg hlt] at h2
      exact hh _ _ _ h1 h2
  intro Q
  have hrun : (execOp a.eval o).run P w = .ok (.enter f (c.args.toList.map a.eval ++ cs).toArray) w := by
    unfold execOp
    simp only [ho, resolve, hc, hv, Deferred.ofValue, Sem.run_bind, Sem.run_pure, Result.andThen_ok, invoke, run_callFunc hok]
    congr 2
    apply Array.ext'
    simp
  unfold Oper.wp
  rw [hrun, Oper.upon_enter]
  refine Calls.mono (h _ harg) ?_
  rintro e w' ⟨val, rfl, ρ', hp⟩
  exact ⟨val, ρ', rfl, hp⟩
theorem allPure_some : ∀ {ls : List LV} {ps : List PV}, allPure ls = some ps → ls = ps.map LV.pv
  | [], ps, h => by simp only [allPure, Option.some.injEq] at h; subst h; rfl
  | l :: ls, ps, h => by
    cases l <;> simp only [allPure, reduceCtorEq, Option.map_eq_some_iff] at h
    obtain ⟨qs, h1, rfl⟩ := h
    rw [allPure_some h1]
    rfl
theorem args_pure {vs : List Value} {ls : List LV} {ps : List PV} (h : allPure ls = some ps) (ha : ArgsR (LR w ok ρ H) vs ls) : ArgsR (PR w ok) vs ps := by
  have := allPure_some h
  subst this
  refine ⟨by simpa using ha.1, fun i v p h1 h2 => (ha.2 i v (.pv p) h1 ?_).pvI⟩
  rw [List.getElem?_map, h2]; rfl
theorem eptr_any {ρ' : Rho} {H' : Heap} {v : Value} {cs : List PV} {off : Nat} (h : LR w ok ρ H v (.eptr cs off)) : LR w ok ρ' H' v (.eptr cs off) := by
  obtain ⟨b, o, rfl, hs, hh⟩ := h.eptrI
  exact .eptr b o cs off hs hh
theorem closed1_lr {ρ' : Rho} {H' : Heap} {v : Value} {l : LV} (hc : l.closed1 = true) (hl : LR w ok ρ H v l) : LR w ok ρ' H' v l := by
  cases l <;> simp only [LV.closed1, Bool.false_eq_true] at hc
  · exact .pv _ _ hl.pvI
  · exact eptr_any hl
  · rename_i f caps
    cases caps with
    | cons => simp [LV.closed1] at hc
    | nil =>
      obtain ⟨vs, rfl, hl, _⟩ := hl.cloI
      exact .clo f vs [] hl (by simp)
theorem closed_lr {ρ' : Rho} {H' : Heap} {v : Value} {l : LV} (hc : l.closed = true) (hl : LR w ok ρ H v l) : LR w ok ρ' H' v l := by
  cases l <;> simp only [LV.closed, Bool.false_eq_true] at hc
  · exact .pv _ _ hl.pvI
  · exact eptr_any hl
  · rename_i f caps
    obtain ⟨vs, rfl, hlen, hh⟩ := hl.cloI
    exact .clo f vs caps hlen fun i v c h1 h2 => closed1_lr (List.all_eq_true.1 hc c (List.mem_of_getElem? h2)) (hh i v c h1 h2)
theorem args_closed {vs : List Value} {ls : List LV} (h : ls.all LV.closed = true) (ha : ArgsR (LR w ok ρ H) vs ls) : ArgsR (LR w ok rho0 heap0) vs ls :=
  ⟨ha.1, fun i v l h1 h2 => closed_lr (List.all_eq_true.1 h l (List.mem_of_getElem? h2)) (ha.2 i v l h1 h2)⟩
def okAll : Nat → Nat → Prop := fun _ _ => True
theorem PR.all {v : Value} {p : PV} (h : PR w ok v p) : PR w okAll v p := h.okmono fun _ _ _ _ _ => trivial
theorem LR.all1 {v : Value} {l : LV} (hc : l.closed1 = true) (h : LR w ok ρ H v l) : LR w okAll rho0 heap0 v l := by
  cases l <;> simp only [LV.closed1, Bool.false_eq_true] at hc
  · exact .pv _ _ h.pvI.all
  · obtain ⟨b, o, rfl, hs, hh⟩ := h.eptrI
    exact .eptr b o _ _ hs fun j c hj => by obtain ⟨u, h1, _, h3⟩ := hh j c hj; exact ⟨u, h1, trivial, h3.all⟩
  · rename_i f caps
    cases caps with
    | cons => simp [LV.closed1] at hc
    | nil =>
      obtain ⟨vs, rfl, hl, _⟩ := h.cloI
      exact .clo f vs [] hl (by simp)
theorem box_eptr {id off : Nat} {c : Cells} {ps : List PV} (hw : WR base okx w0 w ρ H) {v : Value} (h : LR w (okF base okx H ρ) ρ H v (.ptr id off)) (hid : H id = some (.box c))
    (hps : ∀ vs, CellsR w (okF base okx H ρ) ρ H vs c → vs.length = ps.length ∧ ∀ (i : Nat) (v : Value) (p : PV), vs[i]? = some v → ps[i]? = some p → PR w okAll v p ∧ p.scal = true) : LR w okAll rho0 heap0 v (.eptr ps off) := by
  obtain ⟨r, hr, hb, _⟩ := h.ptrI
  obtain ⟨b, e1, rfl⟩ := hb c hid
  obtain ⟨r', hr', b', vs, e, e2, _, hh, hc⟩ := hw.obj id _ hid
  rw [hr] at hr'
  injection hr' with hr'
  subst hr'
  rw [e1] at e2
  injection e2 with e2
  injection e2 with e2
  injection e2 with e2
  subst e2
  obtain ⟨hl, hp⟩ := hps vs hc
  have hget : ∀ j c, ps[j]? = some c → ∃ u, vs[j]? = some u := fun j c hj => ⟨vs[j]'(by rw [hl]; exact (List.getElem?_eq_some_iff.1 hj).1), List.getElem?_eq_getElem _⟩
  have := LR.eptr (w := w) (ok := okAll) (ρ := rho0) (H := heap0) b 0 ps off (fun c hm => ?_) (fun j c hj => ?_)
  · rw [Nat.zero_add] at this; exact this
  · obtain ⟨j, hj⟩ := List.mem_iff_getElem?.1 hm
    obtain ⟨u, hu⟩ := hget j c hj
    exact (hp j u c hu hj).2
  · obtain ⟨u, hu⟩ := hget j c hj
    refine ⟨u, ?_, trivial, (hp j u c hu hj).1⟩
    rw [Nat.zero_add, cell_row hh]
    simpa using hu
theorem closeV1_rel (hw : WR base okx w0 w ρ H) {l l' : LV} (h : (closeV1 H l).Is l') {v : Value} (hl : LR w (okF base okx H ρ) ρ H v l) : LR w okAll rho0 heap0 v l' := by
  cases l with
  | pv p => simp only [closeV1, is_pure] at h; subst h; exact hl.all1 rfl
  | eptr cs off => simp only [closeV1, is_pure] at h; subst h; exact hl.all1 rfl
  | clo f caps =>
    cases caps with
    | nil => simp only [closeV1, is_pure] at h; subst h; exact hl.all1 rfl
    | cons => simp [closeV1, is_fail] at h
  | osl id len =>
    simp only [closeV1, is_bind, is_pure] at h
    obtain ⟨p, hp, rfl⟩ := h
    exact .pv _ _ (purify_rel hw hp hl).2.2.all
  | ptr id off =>
    simp only [closeV1] at h
    cases hid : H id with
    | none => simp [hid, is_fail] at h
    | some ob =>
      cases ob with
      | sl => simp [hid, is_fail] at h
      | box c =>
        cases c with
        | pure cs =>
          simp only [hid, is_pure] at h
          subst h
          exact box_eptr hw hl hid fun vs hc => ⟨hc.1, fun i v p h1 h2 => ⟨(hc.2.2 i v p h1 h2).all, hc.2.1 p (List.mem_of_getElem? h2)⟩⟩
        | mix cs =>
          simp only [hid, is_bind, is_pure] at h
          obtain ⟨ps, h1, rfl⟩ := h
          obtain ⟨g1, g2⟩ := purifyL_get h1
          refine box_eptr hw hl hid fun vs hc => ⟨hc.1.trans g1.symm, fun i v p e1 e2 => ?_⟩
          have hi : i < cs.length := by rw [← hc.1]; exact (List.getElem?_eq_some_iff.1 e1).1
          have hp := g2 i cs[i] p (List.getElem?_eq_getElem hi) e2
          have hv := hc.2.2 i v cs[i] e1 (List.getElem?_eq_getElem hi)
          exact ⟨(purify_rel hw hp hv).2.2.all, purify_scal hp (hc.2.1 _ (List.getElem_mem hi))⟩
  | agg cs =>
    simp only [closeV1, is_bind, is_pure] at h
    obtain ⟨ps, h1, rfl⟩ := h
    have h2 : (purifyA H (.agg cs)).Is (.agg ps) := by simp only [purifyA, is_bind, is_pure]; exact ⟨ps, h1, rfl⟩
    exact .pv _ _ (purifyA_rel hw h2 hl).2.2.all
  | _ => simp [closeV1, is_fail] at h
theorem closeL1_rel (hw : WR base okx w0 w ρ H) : ∀ {ls ls' : List LV}, (closeL1 H ls).Is ls' → ∀ {vs : List Value}, ArgsR (LR w (okF base okx H ρ) ρ H) vs ls → ArgsR (LR w okAll rho0 heap0) vs ls'
  | [], ls', h, vs, ha => by
    simp only [closeL1, is_pure] at h
    subst h
    exact ⟨ha.1, by simp⟩
  | l :: ls, ls', h, vs, ha => by
    simp only [closeL1, is_bind, is_pure] at h
    obtain ⟨l1, h1, l2, h2, rfl⟩ := h
    cases vs with
    | nil => cases ha.1
    | cons v vs =>
      have h3 := closeL1_rel hw h2 (vs := vs) ⟨by simpa using ha.1, fun i v' l' g1 g2 => ha.2 (i + 1) v' l' (by simpa using g1) (by simpa using g2)⟩
      refine ⟨by simp [h3.1], fun i v' l' g1 g2 => ?_⟩
      cases i with
      | zero => simp at g1 g2; subst g1; subst g2; exact closeV1_rel hw h1 (ha.2 0 v l rfl rfl)
      | succ i => exact h3.2 i v' l' (by simpa using g1) (by simpa using g2)
theorem closeV_rel (hw : WR base okx w0 w ρ H) {l l' : LV} (h : (closeV H l).Is l') {v : Value} (hl : LR w (okF base okx H ρ) ρ H v l) : LR w okAll rho0 heap0 v l' := by
  cases l with
  | clo f caps =>
    simp only [closeV, is_bind, is_pure] at h
    obtain ⟨cs, h1, rfl⟩ := h
    obtain ⟨vs, rfl, hlen, hh⟩ := hl.cloI
    obtain ⟨g1, g2⟩ := closeL1_rel hw h1 (vs := vs) ⟨hlen, hh⟩
    exact .clo f vs cs g1 g2
  | _ => simp only [closeV] at h; exact closeV1_rel hw h hl
theorem closeL_rel (hw : WR base okx w0 w ρ H) : ∀ {ls ls' : List LV}, (closeL H ls).Is ls' → ∀ {vs : List Value}, ArgsR (LR w (okF base okx H ρ) ρ H) vs ls → ArgsR (LR w okAll rho0 heap0) vs ls'
  | [], ls', h, vs, ha => by
    simp only [closeL, is_pure] at h
    subst h
    exact ⟨ha.1, by simp⟩
  | l :: ls, ls', h, vs, ha => by
    simp only [closeL, is_bind, is_pure] at h
    obtain ⟨l1, h1, l2, h2, rfl⟩ := h
    cases vs with
    | nil => cases ha.1
    | cons v vs =>
      have h3 := closeL_rel hw h2 (vs := vs) ⟨by simpa using ha.1, fun i v' l' g1 g2 => ha.2 (i + 1) v' l' (by simpa using g1) (by simpa using g2)⟩
      refine ⟨by simp [h3.1], fun i v' l' g1 g2 => ?_⟩
      cases i with
      | zero => simp at g1 g2; subst g1; subst g2; exact closeV_rel hw h1 (ha.2 0 v l rfl rfl)
      | succ i => exact h3.2 i v' l' (by simpa using g1) (by simpa using g2)
theorem PR.flat1 {w' : World} {ok' : Nat → Nat → Prop} {v : Value} {p : PV} (h : PR w ok v p) (hf : p.flat1 = true) : PR w' ok' v p := by
  cases p <;> simp only [PV.flat1, Bool.false_eq_true] at hf
  · have := h.intI; subst this; exact .int _ _
  · have := h.boolI; subst this; exact .bool _
  · have := h.strI; subst this; exact .str _
  · have := h.fltI; subst this; exact .flt _ _
theorem PR.flat {w' : World} {ok' : Nat → Nat → Prop} {v : Value} {p : PV} (h : PR w ok v p) (hf : p.flat = true) : PR w' ok' v p := by
  cases p with
  | tup cs =>
    obtain ⟨vs, rfl, hl, hh⟩ := h.tupI
    exact .tup vs cs hl fun i v c h1 h2 => (hh i v c h1 h2).flat1 (List.all_eq_true.1 hf c (List.mem_of_getElem? h2))
  | _ => exact h.flat1 hf
theorem exec_glob {f : Heap → M (LV × Heap)} (h : (exec (.glob f) nid lim H).Is (v, H')) : (f H).Is (v, H') := by
  simp only [exec, is_cond, is_fail, and_false, or_false] at h
  exact h.2
theorem exec_globR {f : Heap → M LV} (h : (exec (.globR f) nid lim H).Is (v, H')) : (f H).Is v ∧ H' = H := by
  simp only [exec, is_bind, is_pure, Prod.mk.injEq] at h
  obtain ⟨u, h1, rfl, h2⟩ := h
  exact ⟨h1, h2.symm⟩
theorem exec_new {ob : HObj} {u : LV} (h : (exec (.new ob u) nid lim H).Is (v, H')) : v = u ∧ H' = hset H nid ob := by
  simp only [exec, is_pure, Prod.mk.injEq] at h
  exact ⟨h.1.symm, h.2.symm⟩
theorem post_val {u : Value} {w' : World} (hw : WR base okx w0 w ρ H) (hb : Below w.heap.size w w') {p : PV} (h : PR w' (upto w.heap.size (okF base okx H ρ)) u p) : Post base okx w0 ρ H w nid (.pv p) H u w' ρ := by
  obtain ⟨h1, h2⟩ := evo_call hw hb
  exact ⟨h1, h2, .pv _ _ (evo_pr hw h), fun _ _ h => h⟩
theorem fixV_rel {T : Nat → TI} {t : Nat} {v : Value} {l : LV} (h : LR w ok ρ H v l) : LR w ok ρ H v (fixV T t l) := by
  unfold fixV
  split
  · have hp := h.pvI
    obtain ⟨A, c, rfl, _⟩ := hp.listI
    split
    · exact .pv _ _ (.nil _ _ _)
    · exact .pv _ _ (.nil _ _ _)
  · exact h
theorem fixL_rel {T : Nat → TI} : ∀ {xs : List Operand} {vs : List Value} {ls : List LV} {ts : List TypeId}, ArgsR (LR w ok ρ H) vs ls → ArgsR (LR w ok ρ H) vs (fixL T xs ls ts)
  | [], _, _, _, h => by simpa only [fixL] using h
  | _ :: _, [], [], ts, h => by simpa only [fixL] using h
  | _ :: _, _ :: _, _ :: _, [], h => by simpa only [fixL] using h
  | x :: xs, v :: vs, l :: ls, t :: ts, h => by
    have h2 := fixL_rel (T := T) (ts := ts) (vs := vs) (ls := ls) (xs := xs) ⟨by simpa using h.1, fun i u p e1 e2 => h.2 (i + 1) u p (by simpa using e1) (by simpa using e2)⟩
    have h3 : LR w ok ρ H v (bif nilOp x then fixV T t l else l) := by
      cases nilOp x
      · exact h.2 0 v l rfl rfl
      · exact fixV_rel (h.2 0 v l rfl rfl)
    refine ⟨by simp [fixL, h2.1], fun i u p e1 e2 => ?_⟩
    cases i with
    | zero => simp [fixL] at e1 e2; subst e1; subst e2; simpa [Bool.cond_eq_ite] using h3
    | succ i => exact h2.2 i u p (by simpa using e1) (by simpa [fixL] using e2)
  | _ :: _, [], l :: ls, ts, h => by cases h.1
  | _ :: _, v :: vs, [], ts, h => by cases h.1
theorem fixL_app {T : Nat → TI} {xs : List Operand} {ls caps : List LV} {ts : List TypeId} (vs : List Value) (h : ArgsR (LR w ok ρ H) vs (ls ++ caps)) : ArgsR (LR w ok ρ H) vs (fixL T xs ls ts ++ caps) := by
  have hlen : ls.length ≤ vs.length := by rw [h.1]; simp
  have h1 : ArgsR (LR w ok ρ H) (vs.take ls.length) ls := ⟨by simp [hlen], fun i u p e1 e2 => by
    have hi : i < ls.length := (List.getElem?_eq_some_iff.1 e2).1
    refine h.2 i u p ?_ (by rw [List.getElem?_append_left hi]; exact e2)
    rw [List.getElem?_take, if_pos hi] at e1
    exact e1⟩
  have h2 := fixL_rel (T := T) (ts := ts) (xs := xs) h1
  have hl2 : (fixL T xs ls ts).length = ls.length := by rw [← h2.1]; simp [hlen]
  refine ⟨by rw [h.1]; simp [hl2], fun i u p e1 e2 => ?_⟩
  by_cases hi : i < ls.length
  · rw [List.getElem?_append_left (by omega)] at e2
    exact h2.2 i u p (by rw [List.getElem?_take, if_pos hi]; exact e1) e2
  · rw [List.getElem?_append_right (by omega), hl2] at e2
    exact h.2 i u p e1 (by rw [List.getElem?_append_right (by omega)]; exact e2)
theorem call_value_does {c : Call} {fx : Operand} {f : FuncId} {caps : List LV} {g : Given} (ho : o.op = .call c) (hc : c.callee = .value fx) (hg : GivenOk P f g) (hf : ev fx = .clo f caps) (hw : WR base okx w0 w ρ H) (hnid : ρ nid = none) (hfree : ∀ id, nid + 4096 ≤ id → ρ id = none)
    (hev : ∀ x, LR w (okF base okx H ρ) ρ H (a.eval x) (ev x))
    {args' : List LV} (hfix : ∀ vs, ArgsR (LR w (okF base okx H ρ) ρ H) vs (c.args.toList.map ev ++ caps) → ArgsR (LR w (okF base okx H ρ) ρ H) vs args') (hs : (callSem g args' nid).Is s) (hx : (exec s nid lim H).Is (v, H')) : Does base okx w0 P o a ρ H w nid v H' := by
  refine call_does ho hc hg.call hev hf fun vs ha => ?_
  replace ha := hfix vs ha
  cases g with
  | pcall F =>
    simp only [callSem] at hs
    cases hp : allPure args' with
    | some ps =>
      simp only [hp, is_bind, is_lift, is_pure] at hs
      obtain ⟨r, hr, rfl⟩ := hs
      obtain ⟨rfl, rfl⟩ := exec_val hx
      exact (hg.2 ps r hr w _ vs (hw.gl w hw.below) (args_pure hp ha)).mono fun val w' ⟨hb, hl⟩ => ⟨ρ, post_val hw hb hl⟩
    | none =>
      simp only [hp, is_pure] at hs
      subst hs
      have hx := exec_glob hx
      simp only [is_bind, is_lift, is_pure, Prod.mk.injEq] at hx
      obtain ⟨ps, h1, r, hr, rfl, rfl⟩ := hx
      obtain ⟨e1, w1, l1, p1⟩ := purifyAL_rel hw h1 ha.1 ha.2
      refine (hg.2 ps r hr w _ vs (hw.gl w hw.below) ⟨l1.symm, p1⟩).mono fun val w' ⟨hb, hl⟩ => ⟨ρ, ?_⟩
      obtain ⟨q1, q2, q3, q4⟩ := post_val (nid := nid) w1 hb hl
      exact ⟨e1.trans q1, q2, q3, q4⟩
  | fcall F =>
    simp only [callSem, is_cond] at hs
    rcases hs with ⟨hcl, hs⟩ | ⟨_, hs⟩
    · simp only [is_bind, is_lift, is_pure] at hs
      obtain ⟨r, hr, rfl⟩ := hs
      obtain ⟨rfl, rfl⟩ := exec_val hx
      exact (hg.2 _ r hr w _ vs (hw.gl w hw.below) (args_closed hcl ha)).mono fun val w' ⟨hb, hl⟩ => ⟨ρ, post_val hw hb hl⟩
    · simp only [is_pure] at hs
      subst hs
      obtain ⟨hx, rfl⟩ := exec_globR hx
      simp only [is_bind, is_lift, is_ite, is_pure, is_fail, and_false, or_false] at hx
      obtain ⟨ls, h1, r, hr, hfl, rfl⟩ := hx
      exact (hg.2 ls r hr w okAll vs (hw.gl w hw.below) (closeL_rel hw h1 ha)).mono fun val w' ⟨hb, hl⟩ => ⟨ρ, post_val hw hb (hl.flat hfl)⟩
  | ecall F =>
    simp only [callSem] at hs
    cases hp : allPure args' with
    | none => simp [hp, is_fail] at hs
    | some ps =>
      simp only [hp, is_bind, is_lift, is_pure] at hs
      obtain ⟨cs, hr, rfl⟩ := hs
      obtain ⟨rfl, rfl⟩ := exec_val hx
      refine (hg.2 ps cs hr w _ vs (hw.gl w hw.below) (args_pure hp ha)).mono fun val w' ⟨hb, hl⟩ => ⟨ρ, ?_⟩
      obtain ⟨h1, h2⟩ := evo_call hw hb
      obtain ⟨b, o, rfl, hsc, hh⟩ := hl.eptrI
      exact ⟨h1, h2, .eptr b o cs 0 hsc fun j c hj => by
        obtain ⟨u, g1, g2, g3⟩ := hh j c hj
        exact ⟨u, g1, okF_up hw g2, evo_pr hw g3⟩, fun _ _ h => h⟩
  | ocall e sz F =>
    simp only [callSem] at hs
    cases hp : allPure args' with
    | none => simp [hp, is_fail] at hs
    | some ps =>
      simp only [hp, is_bind, is_lift, is_pure] at hs
      obtain ⟨xs, hr, rfl⟩ := hs
      obtain ⟨rfl, rfl⟩ := exec_new hx
      refine (hg.2 ps xs hr w _ vs (hw.gl w hw.below) (args_pure hp ha)).mono fun val w' ⟨hb, us, hown, hrows⟩ => ⟨rset ρ nid val, ?_⟩
      obtain ⟨h1, h2⟩ := evo_call hw hb
      obtain ⟨A, cc, hv, _⟩ := ownsRow_slice hown
      have hge : ∀ b, blk val = some b → w.heap.size ≤ b := fun b hbk => (hown.lt b (by rw [← blk_own val A _ cc hv]; exact hbk)).1
      have hkeep : ∀ k, k < w.heap.size → w'.heap[k]? = w.heap[k]? := fun k hk => hb.block k hk
      have he := evo_new (o := .sl e sz xs false) hw hnid hkeep hge
      have hown' : w'.ownsRow base e sz val xs.length us := by
        refine ⟨hown.1, ?_⟩
        rcases hown.2 with h | ⟨g, cap, cur, q1, q2, q3⟩
        · exact .inl h
        · exact .inr ⟨g, cap, cur, q1, Nat.le_trans hw.size q2, q3⟩
      have hok : ∀ b off, upto w.heap.size (okF base okx H ρ) b off ∧ blk val ≠ some b → okF base okx (hset H nid (.sl e sz xs false)) (rset ρ nid val) b off := by
        rintro b off ⟨h3, h4⟩
        have h5 := okF_up hw h3
        refine ⟨h5.1, ?_⟩
        rintro ⟨id, r, ob, g1, g2, g3⟩
        by_cases hj : id = nid
        · subst hj
          rw [rset_same] at g1
          injection g1 with g1
          subst g1
          exact h4 (mutO_blk g3)
        · rw [rset_other _ _ _ hj] at g1
          rw [hset_other _ _ _ hj] at g2
          exact h5.2 ⟨id, r, ob, g1, g2, g3⟩
      have hwr := wr_new (o := .sl e sz xs false) hw hnid hkeep hge h2.below hb.size ⟨us, hown', hrows.1, hrows.2.1, fun i cs j cc g1 g2 => by
        obtain ⟨u, g3, g4⟩ := hrows.2.2 i cs j cc g1 g2
        exact ⟨u, g3, g4.okmono fun b off _ _ h => hok b off h⟩⟩
      refine ⟨he, hwr, .osl _ nid _ _ (rset_same _ _ _) (fun e' sz' xs' s' hs' => ?_) ⟨A, cc, hv, fun hpos => ?_⟩, fun j hj hn => (rset_other _ _ _ hj).trans hn⟩
      · rw [hset_same] at hs'
        injection hs' with hs'
        injection hs' with _ _ hs' _
        subst hs'
        exact ⟨Nat.le_refl _, fun _ => rfl⟩
      · rcases hown.2 with ⟨_, hz⟩ | ⟨g, cap, cur, hq, _⟩
        · omega
        · rw [hv] at hq
          injection hq with hq
          rw [hq]; rfl
  | bcall F =>
    simp only [callSem] at hs
    cases hp : allPure args' with
    | none => simp [hp, is_fail] at hs
    | some ps =>
      simp only [hp, is_bind, is_lift, is_pure] at hs
      obtain ⟨xs, hr, rfl⟩ := hs
      obtain ⟨rfl, rfl⟩ := exec_new hx
      refine (hg.2 ps xs hr w _ vs (hw.gl w hw.below) (args_pure hp ha)).mono fun val w' ⟨hb, b0, us, e, hv, hge0, hheap, hcells⟩ => ⟨rset ρ nid val, ?_⟩
      obtain ⟨h1, h2⟩ := evo_call hw hb
      have hbk : blk val = some b0 := by rw [hv]; rfl
      have hge : ∀ b, blk val = some b → w.heap.size ≤ b := fun b hbk' => by rw [hbk] at hbk'; injection hbk' with h; subst h; exact hge0
      have hkeep : ∀ k, k < w.heap.size → w'.heap[k]? = w.heap[k]? := fun k hk => hb.block k hk
      have he := evo_new (o := .box (.pure xs)) hw hnid hkeep hge
      have hok : ∀ b off, upto w.heap.size (okF base okx H ρ) b off ∧ b ≠ b0 → okF base okx (hset H nid (.box (.pure xs))) (rset ρ nid val) b off := by
        rintro b off ⟨h3, h4⟩
        have h5 := okF_up hw h3
        refine ⟨h5.1, ?_⟩
        rintro ⟨id, r, ob, g1, g2, g3⟩
        by_cases hj : id = nid
        · subst hj
          rw [rset_same] at g1
          injection g1 with g1
          subst g1
          have := mutO_blk g3
          rw [hbk] at this
          injection this with this
          exact h4 this.symm
        · rw [rset_other _ _ _ hj] at g1
          rw [hset_other _ _ _ hj] at g2
          exact h5.2 ⟨id, r, ob, g1, g2, g3⟩
      have hwr := wr_new (o := .box (.pure xs)) hw hnid hkeep hge h2.below hb.size ⟨b0, us, e, hv, Nat.le_trans hw.size hge0, hheap, hcells.1, hcells.2.1, fun i v p g1 g2 => (hcells.2.2 i v p g1 g2).okmono fun b off _ _ h => hok b off h⟩
      exact ⟨he, hwr, .ptr _ nid 0 _ (rset_same _ _ _) (fun c' _ => ⟨b0, hv, hv⟩) ⟨_, hv⟩, fun j hj hn => (rset_other _ _ _ hj).trans hn⟩
  | rcall F =>
    simp only [callSem, is_pure] at hs
    subst hs
    obtain ⟨hx, rfl⟩ := exec_globR hx
    simp only [is_bind, is_pure] at hx
    obtain ⟨r, hr, rfl⟩ := hx
    exact (hg.2 base okx w0 w ρ H' (nid + 4096) _ r vs hr hw hfree ha).mono fun val w' ⟨h1, h2, h3⟩ => ⟨ρ, h1, h2, .pv _ _ h3, fun _ _ h => h⟩
  | gcall K =>
    simp only [callSem] at hs
    exact hg.2 base okx w0 w ρ H nid lim _ s v H' vs hs hx hw hnid ha
end
end Go.Bw
