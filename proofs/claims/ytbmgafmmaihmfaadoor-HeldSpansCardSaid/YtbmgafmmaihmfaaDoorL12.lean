/- The evaluator's single operations against the machine's: fields, elements, cuts, lengths. No statement of a law is proved here. -/
import Derived.Test.YtbmgafmmaihmfaaDoorL11
set_option linter.unusedVariables false
set_option linter.unusedSimpArgs false
namespace Go.Bw
open Go.RowKit M

section
variable {base : Nat} {okx : Nat → Nat → Prop} {w0 : World} {P : Program} {T : Nat → TI} {G : Nat → Option Given} {o : Oper} {a : Act} {ρ : Rho} {H : Heap} {w : World} {nid lim : Nat} {ok : Nat → Nat → Prop}
variable {ev : Operand → LV} {s : LSem} {v : LV} {H' : Heap}

theorem part_run {t : Nat} (hT : TOk P T) (hn : nz T t = true) {c : Cells} {off : Nat} {u : LV} (h : (loadFrom T t off c).Is u) {vs : List Value} (hr : CellsR w ok ρ H vs c) :
    ∃ val, (part t vs.toArray off).run P w = .ok val w ∧ LR w ok ρ H val u := by
  obtain ⟨i, d, z, hf⟩ := nz_fact hT hn
  have ex : ∀ n : Nat, off + n ≤ vs.length → (vs.toArray.extract off (off + n)) = ((vs.drop off).take n).toArray := by
    intro n hle
    apply Array.ext'
    simp
  cases c with
  | pure cs =>
    obtain ⟨hl, hs, hp⟩ := hr
    cases ha : (T t).agg with
    | true =>
      simp only [loadFrom, ha, cond_true, is_bind, is_lift, is_pure] at h
      obtain ⟨p, h1, rfl⟩ := h
      unfold pext at h1
      split at h1
      · rename_i hle
        injection h1 with h1
        subst h1
        refine ⟨.agg ((vs.drop off).take (T t).size).toArray, ?_, .pv _ _ (.agg _ _ (by simp; omega) (fun c hc' => hs c (List.mem_of_mem_drop (List.mem_of_mem_take hc'))) fun j u c h2 h3 => ?_)⟩
        · unfold part
          simp [run_isAgg hf.und, hf.agg, ha, run_sizeOf hf.info, hf.size, ex _ (show off + (T t).size ≤ vs.length by omega)]
        · rw [getElem?_slice] at h2 h3
          split at h2
          · rename_i hlt
            rw [if_pos hlt] at h3
            exact hp _ _ _ h2 h3
          · cases h2
      · cases h1
    | false =>
      simp only [loadFrom, ha, cond_false, is_bind, is_lift, is_pure] at h
      obtain ⟨p, h1, rfl⟩ := h
      have hlt : off < vs.length := by rw [hl]; exact (List.getElem?_eq_some_iff.1 h1).1
      refine ⟨vs[off], ?_, .pv _ _ (hp _ _ _ (List.getElem?_eq_getElem hlt) h1)⟩
      unfold part
      simp [run_isAgg hf.und, hf.agg, ha, hlt]
  | mix cs =>
    obtain ⟨hl, hs, hp⟩ := hr
    cases ha : (T t).agg with
    | true =>
      simp only [loadFrom, ha, cond_true, is_cond, is_pure, is_fail, and_false, or_false] at h
      obtain ⟨h1, rfl⟩ := h
      simp only [decide_eq_true_eq] at h1
      refine ⟨.agg ((vs.drop off).take (T t).size).toArray, ?_, .agg _ _ (by simp; omega) (fun c hc' => hs c (List.mem_of_mem_drop (List.mem_of_mem_take hc'))) fun j u c h2 h3 => ?_⟩
      · unfold part
        simp [run_isAgg hf.und, hf.agg, ha, run_sizeOf hf.info, hf.size, ex _ (show off + (T t).size ≤ vs.length by omega)]
      · rw [getElem?_slice] at h2 h3
        split at h2
        · rename_i hlt
          rw [if_pos hlt] at h3
          exact hp _ _ _ h2 h3
        · cases h2
    | false =>
      simp only [loadFrom, ha, cond_false] at h
      cases hcs : cs[off]? with
      | none => simp [hcs, is_fail] at h
      | some c =>
        simp only [hcs, is_pure] at h
        subst h
        have hlt : off < vs.length := by rw [hl]; exact (List.getElem?_eq_some_iff.1 hcs).1
        refine ⟨vs[off], ?_, hp _ _ _ (List.getElem?_eq_getElem hlt) hcs⟩
        unfold part
        simp [run_isAgg hf.und, hf.agg, ha, hlt]
/-- A struct's value is one. -/
theorem cellsOf_agg {t : Nat} {lv : LV} {c : Cells} (h : (cellsOf T t lv).Is c) (ha : (T t).agg = true) {u : Value} (hr : LR w ok ρ H u lv) : ∃ vs : List Value, u = .agg vs.toArray ∧ CellsR w ok ρ H vs c := by
  cases lv with
  | pv p =>
    simp only [cellsOf, ha, cond_true, is_bind, is_lift, is_pure] at h
    obtain ⟨cs, h1, rfl⟩ := h
    obtain ⟨rfl, hlen⟩ := pcells_some h1
    obtain ⟨vs, rfl, hl, hsc, hh⟩ := hr.pvI.aggI
    exact ⟨vs, rfl, hl, hsc, hh⟩
  | agg cs =>
    simp only [cellsOf, is_cond, is_pure, is_fail, and_false, or_false] at h
    obtain ⟨_, rfl⟩ := h
    obtain ⟨vs, rfl, hl, hsc, hh⟩ := hr.aggI
    exact ⟨vs, rfl, hl, hsc, hh⟩
  | any => simp [cellsOf, is_fail] at h
  | tup => simp [cellsOf, is_fail] at h
  | _ => simp [cellsOf, ha, is_fail] at h
theorem field_does {t : TypeId} {x : Operand} {f : Nat} (ho : o.op = .field t x f) (hT : TOk P T) (hw : WR base okx w0 w ρ H) (hev : ∀ x, LR w (okF base okx H ρ) ρ H (a.eval x) (ev x))
    (hs : (lop T G o ev nid).Is s) (hx : (exec s nid lim H).Is (v, H')) : Does base okx w0 P o a ρ H w nid v H' := by
  unfold lop at hs
  simp only [ho] at hs
  cases hu : (T t).u with
  | struct fs =>
    obtain ⟨fields, hund, hfs, hagg⟩ := struct_fact hT hu
    simp only [hu] at hs
    cases hfi : fs[f]? with
    | none => simp [hfi, is_fail] at hs
    | some q =>
      obtain ⟨ft, off⟩ := q
      simp only [hfi] at hs
      cases hn : nz T ft with
      | false => simp [hn, is_fail] at hs
      | true =>
        simp only [hn, Bool.not_true, cond_false, is_bind, is_pure] at hs
        obtain ⟨c, h1, u, h2, rfl⟩ := hs
        obtain ⟨fl, hfl, rfl, rfl⟩ := field_get hfs hfi
        obtain ⟨vs, hv, hc⟩ := cellsOf_agg h1 hagg (hev x)
        obtain ⟨val, hrun, hl⟩ := part_run hT hn h2 hc
        refine does_pure hw hx (val := val) ?_ hl
        unfold execOp
        simp [ho, Instr.field, run_underlying hund, hfl, hv, asAgg, hrun]
  | _ => simp [hu, is_fail] at hs
theorem index_does {t : TypeId} {x y : Operand} (ho : o.op = .index t x y) (hT : TOk P T) (hw : WR base okx w0 w ρ H) (hev : ∀ x, LR w (okF base okx H ρ) ρ H (a.eval x) (ev x))
    (hs : (lop T G o ev nid).Is s) (hx : (exec s nid lim H).Is (v, H')) : Does base okx w0 P o a ρ H w nid v H' := by
  unfold lop at hs
  simp only [ho, is_bind, asPure_is, is_lift] at hs
  obtain ⟨p, hp, n, hn, q, hq, hs⟩ := hs
  obtain ⟨k, rfl⟩ := pint_some hn
  have e1 := (hp ▸ hev y).pvI.intI
  have e2 := (hq ▸ hev x).pvI
  cases hu : (T t).u with
  | str =>
    simp only [hu, is_bind, is_lift, is_pure] at hs
    obtain ⟨st, h1, r, h2, rfl⟩ := hs
    have := pstr_some h1
    subst this
    unfold pstridx at h2
    split at h2
    · rename_i h0
      simp only [Option.map_eq_some_iff] at h2
      obtain ⟨b, hb, rfl⟩ := h2
      refine does_pure hw hx (val := .int .u8 b.toNat) ?_ (.pv _ _ (.int _ _))
      unfold execOp
      simp [ho, Instr.index, e1, e2.strI, asIntOf, run_underlying (str_fact hT hu), h0, hb]
    · cases h2
  | arr len e =>
    simp only [hu, is_cond, is_fail, and_false, or_false, is_ite, is_bind, is_lift, is_pure, Bool.and_eq_true, Bool.not_eq_true', decide_eq_true_eq, beq_iff_eq] at hs
    obtain ⟨⟨ha, h1⟩, ⟨h0, hl⟩, cs, hcs, r, hr, rfl⟩ := hs
    obtain ⟨rfl, hlen⟩ := pcells_some hcs
    obtain ⟨vs, hv, hvl, hsc, hh⟩ := e2.aggI
    obtain ⟨hund, _⟩ := arr_fact hT hu
    have hlt : n.toNat < vs.length := by omega
    have hnz : nz T e = true := by
      have : ¬ ((T e).size = 0) := by omega
      simp only [nz, Bool.not_eq_true']
      exact Bool.eq_false_iff.2 fun h => this (Nat.eq_of_beq_eq_true h)
    obtain ⟨ei, ed, ez, hfe⟩ := nz_fact hT hnz
    refine does_pure hw hx (val := vs[n.toNat]) ?_ (.pv _ _ (hh _ _ _ (List.getElem?_eq_getElem hlt) hr))
    unfold execOp
    simp only [ho, Sem.run_bind, Instr.index, e1, hv, asIntOf, run_underlying hund, Result.andThen_ok, Sem.run_pure, Sem.run_ite, run_sizeOf hfe.info, hfe.size, h1, Nat.mul_one]
    rw [if_pos ⟨h0, hl⟩]
    unfold part
    simp [run_isAgg hfe.und, hfe.agg, ha, hlt]
  | _ => simp [hu, is_fail] at hs
theorem indexAt_run {t e : TypeId} {x y : Operand} (ho : o.op = .indexAddr t x y) {k : IntKind} {n : Int} {len : Nat} {ad : Addr} (e1 : a.eval y = .int k n) {i : TypeInfo} {d : TypeDesc} {z : Value} (hf : TFact P e (T e) i d z)
    (hu : (P.underlying t = some (.slice e) ∧ ∃ c, a.eval x = .slice (some ad) len c) ∨ (P.underlying t = some (.array len e) ∧ 2 ≤ len ∧ a.eval x = .pointer (some ad))) (h0 : 0 ≤ n) (hl : n < len) :
    (execOp a.eval o).run P w = .ok (.value (.pointer (some (ad.add (n.toNat * (T e).size))))) w := by
  unfold execOp
  rcases hu with ⟨hund, c, hv⟩ | ⟨hund, _, hv⟩
  · simp only [ho, Sem.run_bind, Instr.indexAt, e1, hv, asIntOf, run_underlying hund, Result.andThen_ok, Sem.run_pure, Sem.run_ite, run_sizeOf hf.info, hf.size]
    rw [if_pos ⟨h0, hl⟩]
    rfl
  · simp only [ho, Sem.run_bind, Instr.indexAt, e1, hv, asIntOf, run_underlying hund, Instr.sureAddr, Result.andThen_ok, Sem.run_pure, Sem.run_ite, run_sizeOf hf.info, hf.size]
    rw [if_pos ⟨h0, hl⟩]
    rfl
theorem exec_get {id : Nat} {f : HObj → M LV} (h : (exec (.get id f) nid lim H).Is (v, H')) : ∃ ob, H id = some ob ∧ (f ob).Is v ∧ H' = H := by
  simp only [exec] at h
  cases hid : H id with
  | none => simp [hid, is_fail] at h
  | some ob =>
    simp only [hid, is_bind, is_pure, Prod.mk.injEq] at h
    obtain ⟨v', h1, rfl, h3⟩ := h
    exact ⟨ob, rfl, h1, h3.symm⟩
theorem indexAddr_does {t : TypeId} {x y : Operand} (ho : o.op = .indexAddr t x y) (hT : TOk P T) (hw : WR base okx w0 w ρ H) (hev : ∀ x, LR w (okF base okx H ρ) ρ H (a.eval x) (ev x))
    (hs : (lop T G o ev nid).Is s) (hx : (exec s nid lim H).Is (v, H')) : Does base okx w0 P o a ρ H w nid v H' := by
  unfold lop at hs
  simp only [ho, is_bind, asPure_is, is_lift] at hs
  obtain ⟨p, hp, n, hn, hs⟩ := hs
  obtain ⟨k, rfl⟩ := pint_some hn
  have e1 := (hp ▸ hev y).pvI.intI
  cases hu : (T t).u with
  | slice e =>
    have hund := slice_fact hT hu
    cases he : ev x with
    | osl id len =>
      simp only [hu, he] at hs
      cases hnz : nz T e with
      | false => simp [hnz, is_fail] at hs
      | true =>
        obtain ⟨ei, ed, ez, hfe⟩ := nz_fact hT hnz
        simp only [hnz, Bool.not_true, cond_false, is_pure] at hs
        subst hs
        obtain ⟨ob, hid, hf, rfl⟩ := exec_get hx
        cases ob with
        | box => simp [is_fail] at hf
        | sl e0 sz xs s0 =>
          simp only [is_cond, is_ite, is_pure, is_fail, and_false, or_false, Bool.and_eq_true, decide_eq_true_eq] at hf
          obtain ⟨hsz, ⟨h0, hl⟩, rfl⟩ := hf
          have hsz := Nat.eq_of_beq_eq_true hsz
          obtain ⟨r, hr, hh, A, c, hv, hA⟩ := (he ▸ hev x).oslI
          have hA := hA (by omega)
          cases A with
          | none => cases hA
          | some ad =>
            refine does_val hw (indexAt_run ho e1 hfe (.inl ⟨hund, c, hv⟩) h0 hl) (.optr _ id len _ 0 r hr (fun e' sz' xs' s' hid' => ⟨(hh e' sz' xs' s' hid').1, fun h1 h2 => ?_⟩) ⟨_, rfl⟩)
            have h3 := (hh e' sz' xs' s' hid').2 h1
            rw [hid] at hid'
            injection hid' with hid'
            injection hid' with q1 q2 q3 q4
            subst q2
            obtain ⟨r', hr', vs, hown, hrows⟩ := hw.obj id _ hid
            rw [hr] at hr'
            injection hr' with hr'
            subst hr'
            rw [hv] at h3
            rw [← h3] at hown ⊢
            rcases hown.2 with ⟨hnil, hz⟩ | ⟨g, cap, cur, hrv, _⟩
            · cases hnil
            · injection hrv with q5 q6 q7
              injection q5 with q5
              subst q5
              exact ⟨g, rfl, by rw [add_at, hsz]; simp⟩
    | pv q =>
      simp only [hu, he] at hs
      cases hnz : nz T e with
      | false => simp [hnz, is_fail] at hs
      | true =>
        obtain ⟨ei, ed, ez, hfe⟩ := nz_fact hT hnz
        simp only [hnz, Bool.not_true, cond_false, is_bind, is_lift, is_pure] at hs
        obtain ⟨xs, h1, cs, h2, rfl⟩ := hs
        obtain ⟨sz, rfl, hsz⟩ := plistS_some h1
        obtain ⟨A, c, hv, hcap, hlen, hsc, u, hA, hrel⟩ := (he ▸ hev x).pvI.listI
        unfold lget at h2
        split at h2
        · rename_i h0
          have hlt : n.toNat < xs.length := (List.getElem?_eq_some_iff.1 h2).1
          have hne : xs ≠ [] := by rintro rfl; simp at hlt
          have hszE : sz = (T e).size := hsz.resolve_right hne
          obtain ⟨b, o0, rfl, hcell⟩ := hA hne
          have hmem : cs ∈ xs := List.mem_of_getElem? h2
          refine does_pure hw hx (indexAt_run ho e1 hfe (.inl ⟨hund, c, hv⟩) h0 (by omega)) ?_
          rw [add_at, ← hszE]
          refine .eptr b (o0 + n.toNat * sz) cs 0 (hsc cs hmem) fun j c' hj => ?_
          have hj' : j < sz := by rw [← hlen cs hmem]; exact (List.getElem?_eq_some_iff.1 hj).1
          obtain ⟨h3, h4⟩ := hcell n.toNat j hlt hj'
          exact ⟨_, h3, h4, hrel _ _ _ _ h2 hj⟩
        · cases h2
    | _ => simp [hu, he, is_fail] at hs
  | arr len e =>
    obtain ⟨hund, _⟩ := arr_fact hT hu
    cases he : ev x with
    | ptr id off =>
      simp only [hu, he, is_cond, is_ite, is_pure, is_fail, and_false, or_false, Bool.and_eq_true, decide_eq_true_eq] at hs
      obtain ⟨⟨h2, hnz⟩, ⟨h0, hl⟩, rfl⟩ := hs
      obtain ⟨ei, ed, ez, hfe⟩ := nz_fact hT hnz
      obtain ⟨r, hr, hb, ad, had⟩ := (he ▸ hev x).ptrI
      refine does_pure hw hx (indexAt_run ho e1 hfe (.inr ⟨hund, h2, had⟩) h0 hl) (.ptr _ id _ r hr (fun c hc => ?_) ⟨_, rfl⟩)
      obtain ⟨b, e1, e2⟩ := hb c hc
      rw [had] at e2
      injection e2 with e2
      injection e2 with e2
      subst e2
      exact ⟨b, e1, by rw [add_at]⟩
    | _ => simp [hu, he, is_fail] at hs
  | _ => cases he : ev x <;> simp [hu, he, is_fail] at hs
end
end Go.Bw
