/- The evaluator's single operations against the machine's: parts, places, cuts. No statement of a law is proved here. -/
import Derived.Test.YtbmgafmmaihmfaaDoorL10
set_option linter.unusedVariables false
set_option linter.unusedSimpArgs false
namespace Go.Bw
open Go.RowKit M

section
variable {base : Nat} {okx : Nat → Nat → Prop} {w0 : World} {P : Program} {T : Nat → TI} {G : Nat → Option Given} {o : Oper} {a : Act} {ρ : Rho} {H : Heap} {w : World} {nid lim : Nat} {ok : Nat → Nat → Prop}
variable {ev : Operand → LV} {s : LSem} {v : LV} {H' : Heap}

theorem exec_val {u : LV} (h : (exec (.val u) nid lim H).Is (v, H')) : v = u ∧ H' = H := by
  simp only [exec, is_pure, Prod.mk.injEq] at h
  exact ⟨h.1.symm, h.2.symm⟩
/-- It only reckons. -/
theorem does_pure {u : LV} {val : Value} (hw : WR base okx w0 w ρ H) (hx : (exec (.val u) nid lim H).Is (v, H')) (hrun : (execOp a.eval o).run P w = .ok (.value val) w) (hl : LR w (okF base okx H ρ) ρ H val u) :
    Does base okx w0 P o a ρ H w nid v H' := by
  obtain ⟨rfl, rfl⟩ := exec_val hx
  exact does_val hw hrun hl

theorem pick_does {c x y : Operand} (ho : o.op = .pick c x y) (hw : WR base okx w0 w ρ H) (hev : ∀ x, LR w (okF base okx H ρ) ρ H (a.eval x) (ev x))
    (hs : (lop T G o ev nid).Is s) (hx : (exec s nid lim H).Is (v, H')) : Does base okx w0 P o a ρ H w nid v H' := by
  unfold lop at hs
  simp only [ho, is_bind, asPure_is, is_lift, is_ite, is_pure] at hs
  obtain ⟨p, hp, t, ht, hs⟩ := hs
  have hpb := pbool_some ht
  subst hpb
  have hc := (hp ▸ hev c).pvI.boolI
  rcases hs with ⟨rfl, rfl⟩ | ⟨rfl, rfl⟩
  · exact does_pure hw hx (by unfold execOp; simp [ho, hc, asBool]) (hev x)
  · exact does_pure hw hx (by unfold execOp; simp [ho, hc, asBool]) (hev y)
theorem unOp_does {op : UnOp} {t : TypeId} {x : Operand} (ho : o.op = .unOp op t x) (hw : WR base okx w0 w ρ H) (hev : ∀ x, LR w (okF base okx H ρ) ρ H (a.eval x) (ev x))
    (hs : (lop T G o ev nid).Is s) (hx : (exec s nid lim H).Is (v, H')) : Does base okx w0 P o a ρ H w nid v H' := by
  unfold lop at hs
  simp only [ho, is_bind, asPure_is, is_lift, is_pure] at hs
  obtain ⟨p, hp, r, hr, rfl⟩ := hs
  obtain ⟨z, hz, hl⟩ := pun_run (P := P) ((hp ▸ hev x).pvI) hr
  exact does_pure hw hx (by unfold execOp; simp [ho, hz]) (.pv _ _ hl)
theorem binOp_does {op : BinOp} {t t' : TypeId} {x y : Operand} (ho : o.op = .binOp op t x y t') (hT : TOk P T) (hw : WR base okx w0 w ρ H) (hev : ∀ x, LR w (okF base okx H ρ) ρ H (a.eval x) (ev x))
    (hs : (lop T G o ev nid).Is s) (hx : (exec s nid lim H).Is (v, H')) : Does base okx w0 P o a ρ H w nid v H' := by
  unfold lop at hs
  simp only [ho] at hs
  cases h1 : ev x with
  | pv p =>
    cases h2 : ev y with
    | pv q =>
      have e1 := (h1 ▸ hev x).pvI
      have e2 := (h2 ▸ hev y).pvI
      simp only [h1, h2] at hs
      have fin : ∀ {r : PV} {z : Value}, (binOp op t (a.eval x) (a.eval y)).run P w = .ok z w → PR w (okF base okx H ρ) z r → ((∃ k n, p = .int k n) ∨ (∃ b, p = .bool b) ∨ (∃ s, p = .str s)) → s = .val (.pv r) → Does base okx w0 P o a ρ H w nid v H' := by
        intro r z hz hl hp hs
        subst hs
        exact does_pure hw hx (by unfold execOp; simp [ho, eqGuard_int op t x y e1 hp, hz]) (.pv _ _ hl)
      have kinds : ∀ {op : BinOp} {r : PV}, pbin op p q = some r → ((∃ k n, p = .int k n) ∨ (∃ b, p = .bool b) ∨ (∃ s, p = .str s)) := by
        intro op r h
        cases p <;> cases q <;> simp only [pbin, reduceCtorEq] at h
        · exact .inl ⟨_, _, rfl⟩
        · exact .inr (.inr ⟨_, rfl⟩)
      have kindsb : ∀ {neq : Bool} {r : PV}, peq T t neq p q = some r → ((∃ k n, p = .int k n) ∨ (∃ b, p = .bool b) ∨ (∃ s, p = .str s)) := by
        intro neq r h
        unfold peq at h
        split at h
        · exact .inr (.inl ⟨_, rfl⟩)
        · cases h
      split at hs
      · simp only [is_bind, is_lift, is_pure] at hs
        obtain ⟨r, hr, hs⟩ := hs
        obtain ⟨z, hz, hl⟩ := peq_run (P := P) hT e1 e2 hr
        exact fin hz hl (kindsb hr) hs.symm
      · simp only [is_bind, is_lift, is_pure] at hs
        obtain ⟨r, hr, hs⟩ := hs
        obtain ⟨z, hz, hl⟩ := peq_run (P := P) hT e1 e2 hr
        exact fin hz hl (kindsb hr) hs.symm
      · simp only [is_bind, is_lift, is_pure] at hs
        obtain ⟨r, hr, hs⟩ := hs
        obtain ⟨z, hz, hl⟩ := pbin_run (P := P) t e1 e2 hr
        exact fin hz hl (kinds hr) hs.symm
    | _ => simp [h1, h2, is_fail] at hs
  | _ => simp [h1, is_fail] at hs
theorem convert_does {src dst : TypeId} {x : Operand} (ho : o.op = .convert src dst x) (hT : TOk P T) (hw : WR base okx w0 w ρ H) (hev : ∀ x, LR w (okF base okx H ρ) ρ H (a.eval x) (ev x))
    (hs : (lop T G o ev nid).Is s) (hx : (exec s nid lim H).Is (v, H')) : Does base okx w0 P o a ρ H w nid v H' := by
  unfold lop at hs
  simp only [ho] at hs
  cases hn : nz T src with
  | false => simp [hn, is_fail] at hs
  | true =>
    obtain ⟨i, d, z, hf⟩ := nz_fact hT hn
    simp only [hn, Bool.not_true, cond_false, is_bind, asPure_is, is_lift, is_pure] at hs
    obtain ⟨p, hp, r, hr, rfl⟩ := hs
    obtain ⟨z, hz, hl⟩ := pconv_run (P := P) hT ⟨d, hf.und⟩ ((hp ▸ hev x).pvI) hr
    exact does_pure hw hx (by unfold execOp; simp [ho, hz]) (.pv _ _ hl)
theorem makeInterface_does {t : TypeId} {x : Operand} (ho : o.op = .makeInterface t x) (hT : TOk P T) (hw : WR base okx w0 w ρ H) (hev : ∀ x, LR w (okF base okx H ρ) ρ H (a.eval x) (ev x))
    (hs : (lop T G o ev nid).Is s) (hx : (exec s nid lim H).Is (v, H')) : Does base okx w0 P o a ρ H w nid v H' := by
  unfold lop at hs
  simp only [ho] at hs
  cases hu : (T t).u with
  | other => simp [hu, is_fail] at hs
  | _ =>
    obtain ⟨i, d, z, hf⟩ := nz_of (P := P) (T := T) (t := t) hT (by rw [hu]; exact fun h => by cases h)
    simp only [hu, is_bind, asPure_is, is_pure] at hs
    obtain ⟨p, hp, rfl⟩ := hs
    have htur := hf.tur
    rw [hu] at htur
    have hni : ∀ ms, d ≠ .interface ms := fun ms hd => by rw [hd] at htur; simp [turB] at htur
    refine does_pure hw hx (val := .iface t (a.eval x)) ?_ (.pv _ _ (.ifc t _ _ ((hp ▸ hev x).pvI)))
    unfold execOp
    simp only [ho, Sem.run_bind, Instr.makeInterface, run_underlying hf.und, Result.andThen_ok]
    cases d <;> first | rfl | exact absurd rfl (hni _)
theorem makeFunc_does {f : Nat} {first caps : Array Operand} (ho : o.op = .makeFunc (.func f) first caps) (hw : WR base okx w0 w ρ H) (hev : ∀ x, LR w (okF base okx H ρ) ρ H (a.eval x) (ev x))
    (hs : (lop T G o ev nid).Is s) (hx : (exec s nid lim H).Is (v, H')) : Does base okx w0 P o a ρ H w nid v H' := by
  unfold lop at hs
  simp only [ho, is_cond, is_pure, is_fail, and_false, or_false] at hs
  obtain ⟨he, rfl⟩ := hs
  have he' : first = #[] := by simpa using he
  refine does_pure hw hx (val := .func (.func f) #[] (caps.toList.map a.eval).toArray) ?_ (.clo f _ _ (by simp) fun i u c h1 h2 => ?_)
  · unfold execOp
    simp [ho, Instr.makeFunc, he']
    apply Array.ext'; simp
  · rw [List.getElem?_map] at h1 h2
    cases hc : caps.toList[i]? with
    | none => rw [hc] at h1; cases h1
    | some x => rw [hc] at h1 h2; injection h1 with h1; injection h2 with h2; subst h1; subst h2; exact hev x
theorem nilCheck_does {x : Operand} (ho : o.op = .nilCheck x) (hw : WR base okx w0 w ρ H) (hev : ∀ x, LR w (okF base okx H ρ) ρ H (a.eval x) (ev x))
    (hs : (lop T G o ev nid).Is s) (hx : (exec s nid lim H).Is (v, H')) : Does base okx w0 P o a ρ H w nid v H' := by
  unfold lop at hs
  simp only [ho] at hs
  cases he : ev x with
  | ptr id off =>
    simp only [he, is_pure] at hs; subst hs
    have hl := he ▸ hev x
    obtain ⟨r, _, _, ad, had⟩ := hl.ptrI
    exact does_pure hw hx (val := a.eval x) (by unfold execOp; simp [ho, had]) hl
  | eptr cs off =>
    simp only [he, is_pure] at hs; subst hs
    have hl := he ▸ hev x
    obtain ⟨b, o', had, _, _⟩ := hl.eptrI
    exact does_pure hw hx (val := a.eval x) (by unfold execOp; simp [ho, had]) hl
  | optr id n i off =>
    simp only [he, is_pure] at hs; subst hs
    have hl := he ▸ hev x
    obtain ⟨r, _, _, ad, had⟩ := hl.optrI
    exact does_pure hw hx (val := a.eval x) (by unfold execOp; simp [ho, had]) hl
  | _ => simp [he, is_fail] at hs
theorem extract_does {x : Operand} {i : Nat} (ho : o.op = .extract x i) (hw : WR base okx w0 w ρ H) (hev : ∀ x, LR w (okF base okx H ρ) ρ H (a.eval x) (ev x))
    (hs : (lop T G o ev nid).Is s) (hx : (exec s nid lim H).Is (v, H')) : Does base okx w0 P o a ρ H w nid v H' := by
  unfold lop at hs
  simp only [ho] at hs
  cases he : ev x with
  | tup cs =>
    simp only [he] at hs
    cases hc : cs[i]? with
    | none => simp [hc, is_fail] at hs
    | some c =>
      simp only [hc, is_pure] at hs; subst hs
      obtain ⟨vs, hv, hl, hh⟩ := (he ▸ hev x).tupI
      have hlt : i < vs.length := by rw [hl]; exact (List.getElem?_eq_some_iff.1 hc).1
      exact does_pure hw hx (val := vs[i]) (by unfold execOp; simp [ho, Instr.extract, hv, hlt]) (hh i _ c (List.getElem?_eq_getElem hlt) hc)
  | pv p =>
    simp only [he, is_bind, is_lift, is_pure] at hs
    obtain ⟨r, hr, rfl⟩ := hs
    cases p <;> simp only [pnth, reduceCtorEq] at hr
    rename_i cs
    obtain ⟨vs, hv, hl, hh⟩ := (he ▸ hev x).pvI.tupI
    have hlt : i < vs.length := by rw [hl]; exact (List.getElem?_eq_some_iff.1 hr).1
    exact does_pure hw hx (val := vs[i]) (by unfold execOp; simp [ho, Instr.extract, hv, hlt]) (.pv _ _ (hh i _ r (List.getElem?_eq_getElem hlt) hr))
  | _ => simp [he, is_fail] at hs

/-! ### parts of structs and arrays -/
theorem struct_fact {t : Nat} {fs : List (Nat × Nat)} (hT : TOk P T) (hu : (T t).u = .struct fs) : ∃ fields : Array Field, P.underlying t = some (.struct fields) ∧ fields.toList.map (fun f => (f.type, f.offset)) = fs ∧ (T t).agg = true := by
  obtain ⟨i, d, z, hf⟩ := nz_of (P := P) hT (t := t) (by rw [hu]; exact fun h => by cases h)
  have htur := hf.tur
  have hagg := hf.agg
  have hund := hf.und
  rw [hu] at htur
  cases d <;> simp only [turB, Bool.false_eq_true, beq_iff_eq] at htur
  exact ⟨_, hund, htur, hagg ▸ rfl⟩
theorem arr_fact {t n e : Nat} (hT : TOk P T) (hu : (T t).u = .arr n e) : P.underlying t = some (.array n e) ∧ (T t).agg = true := by
  obtain ⟨i, d, z, hf⟩ := nz_of (P := P) hT (t := t) (by rw [hu]; exact fun h => by cases h)
  have htur := hf.tur
  have hagg := hf.agg
  have hund := hf.und
  rw [hu] at htur
  cases d <;> simp only [turB, Bool.false_eq_true, Bool.and_eq_true, beq_iff_eq] at htur
  obtain ⟨rfl, rfl⟩ := htur
  exact ⟨hund, hagg ▸ rfl⟩
theorem str_fact {t : Nat} (hT : TOk P T) (hu : (T t).u = .str) : P.underlying t = some .string := by
  obtain ⟨i, d, z, hf⟩ := nz_of (P := P) hT (t := t) (by rw [hu]; exact fun h => by cases h)
  have htur := hf.tur
  have hund := hf.und
  rw [hu] at htur
  cases d <;> simp only [turB, Bool.false_eq_true] at htur
  exact hund
theorem slice_fact {t e : Nat} (hT : TOk P T) (hu : (T t).u = .slice e) : P.underlying t = some (.slice e) := by
  obtain ⟨i, d, z, hf⟩ := nz_of (P := P) hT (t := t) (by rw [hu]; exact fun h => by cases h)
  have htur := hf.tur
  have hund := hf.und
  rw [hu] at htur
  cases d <;> simp only [turB, Bool.false_eq_true, beq_iff_eq] at htur
  subst htur
  exact hund
theorem field_get {fields : Array Field} {fs : List (Nat × Nat)} (h : fields.toList.map (fun f => (f.type, f.offset)) = fs) {i ft off : Nat} (hi : fs[i]? = some (ft, off)) : ∃ f, fields[i]? = some f ∧ f.type = ft ∧ f.offset = off := by
  rw [← h, List.getElem?_map] at hi
  cases hq : fields.toList[i]? with
  | none => rw [hq] at hi; cases hi
  | some f =>
    rw [hq] at hi
    injection hi with hi
    injection hi with h1 h2
    exact ⟨f, by rw [← Array.getElem?_toList, hq], h1, h2⟩
theorem fieldAddr_does {t : TypeId} {x : Operand} {f : Nat} (ho : o.op = .fieldAddr t x f) (hT : TOk P T) (hw : WR base okx w0 w ρ H) (hev : ∀ x, LR w (okF base okx H ρ) ρ H (a.eval x) (ev x))
    (hs : (lop T G o ev nid).Is s) (hx : (exec s nid lim H).Is (v, H')) : Does base okx w0 P o a ρ H w nid v H' := by
  unfold lop at hs
  simp only [ho] at hs
  cases hu : (T t).u with
  | struct fs =>
    obtain ⟨fields, hund, hfs, _⟩ := struct_fact hT hu
    simp only [hu] at hs
    cases hfi : fs[f]? with
    | none => simp [hfi, is_fail] at hs
    | some q =>
      obtain ⟨ft, off⟩ := q
      simp only [hfi] at hs
      cases hn : nz T ft with
      | false => simp [hn, is_fail] at hs
      | true =>
        simp only [hn, Bool.not_true, cond_false] at hs
        obtain ⟨fi, fd, fz, hff⟩ := nz_fact hT hn
        obtain ⟨fl, hfl, rfl, rfl⟩ := field_get hfs hfi
        have hpos := hff.pos
        have run : ∀ {ad : Addr}, a.eval x = .pointer (some ad) → (execOp a.eval o).run P w = .ok (.value (.pointer (some (ad.add fl.offset)))) w := by
          intro ad had
          unfold execOp
          have h0 : ¬ fi.size = 0 := by rw [hff.size]; omega
          simp [ho, Instr.fieldAt, run_underlying hund, hfl, Instr.sureAddr, had, fieldPlace, run_sizeOf hff.info, h0]
        cases he : ev x with
        | ptr id off =>
          simp only [he, is_pure] at hs; subst hs
          obtain ⟨r, hr, hb, ad, had⟩ := (he ▸ hev x).ptrI
          refine does_pure hw hx (run had) (.ptr _ id _ r hr (fun c hc => ?_) ⟨_, rfl⟩)
          obtain ⟨b, e1, e2⟩ := hb c hc
          rw [had] at e2
          injection e2 with e2
          injection e2 with e2
          subst e2
          exact ⟨b, e1, by rw [add_at]⟩
        | eptr cs off =>
          simp only [he, is_pure] at hs; subst hs
          obtain ⟨b, o', had, hsc, hh⟩ := (he ▸ hev x).eptrI
          refine does_pure hw hx (run had) ?_
          rw [add_at, Nat.add_assoc]
          exact .eptr b o' cs _ hsc hh
        | optr id n i off =>
          simp only [he, is_pure] at hs; subst hs
          obtain ⟨r, hr, hb, ad, had⟩ := (he ▸ hev x).optrI
          refine does_pure hw hx (run had) (.optr _ id n i _ r hr (fun e sz xs s hh => ⟨(hb e sz xs s hh).1, fun h1 h2 => ?_⟩) ⟨_, rfl⟩)
          obtain ⟨b, e1, e2⟩ := (hb e sz xs s hh).2 h1 h2
          rw [had] at e2
          injection e2 with e2
          injection e2 with e2
          subst e2
          exact ⟨b, e1, by rw [add_at, Nat.add_assoc]⟩
        | _ => simp [he, is_fail] at hs
  | _ => simp [hu, is_fail] at hs
end
end Go.Bw
