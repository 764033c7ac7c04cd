/- The evaluator's single operations against the machine's: built-in functions. No statement of a law is proved here. -/
import Derived.Test.YtbmgafmmaihmfaaDoorL14
set_option linter.unusedVariables false
set_option linter.unusedSimpArgs false
namespace Go.Bw
open Go.RowKit M

theorem map_one {α β : Type} {f : α → β} {l : List α} {v : β} (h : l.map f = [v]) : ∃ x, l = [x] ∧ f x = v := by
  match l, h with
  | [x], h => exact ⟨x, rfl, by simpa using h⟩
theorem map_two {α β : Type} {f : α → β} {l : List α} {v u : β} (h : l.map f = [v, u]) : ∃ x y, l = [x, y] ∧ f x = v ∧ f y = u := by
  match l, h with
  | [x, y], h => exact ⟨x, y, rfl, by simpa using h⟩

section
variable {base : Nat} {okx : Nat → Nat → Prop} {w0 : World} {P : Program} {T : Nat → TI} {G : Nat → Option Given} {o : Oper} {a : Act} {ρ : Rho} {H : Heap} {w : World} {nid lim : Nat} {ok : Nat → Nat → Prop}
variable {ev : Operand → LV} {s : LSem} {v : LV} {H' : Heap}

theorem exec_mod {id : Nat} {f : HObj → M (LV × HObj)} (h : (exec (.mod id f) nid lim H).Is (v, H')) : ∃ ob ob', H id = some ob ∧ (f ob).Is (v, ob') ∧ H' = hset H id ob' := by
  simp only [exec, is_cond, is_fail, and_false, or_false] at h
  obtain ⟨_, h⟩ := h
  cases hid : H id with
  | none => simp [hid, is_fail] at h
  | some ob =>
    simp only [hid, is_bind, is_pure, Prod.mk.injEq] at h
    obtain ⟨⟨v', ob'⟩, h1, rfl, h3⟩ := h
    exact ⟨ob, ob', rfl, h1, h3.symm⟩
theorem exec_take {id : Nat} {f : HObj → M LV} (h : (exec (.take id f) nid lim H).Is (v, H')) : ∃ ob, H id = some ob ∧ (f ob).Is v ∧ H' = hdel H id := by
  simp only [exec, is_cond, is_fail, and_false, or_false] at h
  obtain ⟨_, h⟩ := h
  cases hid : H id with
  | none => simp [hid, is_fail] at h
  | some ob =>
    simp only [hid, is_bind, is_pure, Prod.mk.injEq] at h
    obtain ⟨u, h1, rfl, h2⟩ := h
    exact ⟨ob, rfl, h1, h2.symm⟩
theorem exec_take2 {rd id : Nat} {f : HObj → HObj → M LV} (h : (exec (.take2 rd id f) nid lim H).Is (v, H')) : rd ≠ id ∧ ∃ o2 ob, H rd = some o2 ∧ H id = some ob ∧ (f o2 ob).Is v ∧ H' = hdel H id := by
  simp only [exec, is_cond, is_fail, and_false, or_false, Bool.and_eq_true, Bool.not_eq_true'] at h
  obtain ⟨⟨_, hne⟩, h⟩ := h
  refine ⟨fun e => by subst e; simp at hne, ?_⟩
  cases hrd : H rd with
  | none => simp [hrd, is_fail] at h
  | some o2 =>
    cases hid : H id with
    | none => simp [hrd, hid, is_fail] at h
    | some ob =>
      simp only [hrd, hid, is_bind, is_pure, Prod.mk.injEq] at h
      obtain ⟨u, h1, rfl, h2⟩ := h
      exact ⟨o2, ob, rfl, rfl, h1, h2.symm⟩
theorem hdel_same (H : Heap) (id : Nat) : hdel H id id = none := by simp [hdel]
theorem hdel_other (H : Heap) (id : Nat) {j : Nat} (h : j ≠ id) : hdel H id j = H j := by
  have : Nat.beq j id = false := Bool.eq_false_iff.2 fun e => h (Nat.eq_of_beq_eq_true e)
  simp [hdel, this]
theorem exec_mod2 {rd id : Nat} {f : HObj → HObj → M (LV × HObj)} (h : (exec (.mod2 rd id f) nid lim H).Is (v, H')) : ∃ o2 ob ob', H rd = some o2 ∧ H id = some ob ∧ (f o2 ob).Is (v, ob') ∧ H' = hset H id ob' := by
  simp only [exec, is_cond, is_fail, and_false, or_false] at h
  obtain ⟨_, h⟩ := h
  cases hrd : H rd with
  | none => simp [hrd, is_fail] at h
  | some o2 =>
    cases hid : H id with
    | none => simp [hrd, hid, is_fail] at h
    | some ob =>
      simp only [hrd, hid, is_bind, is_pure, Prod.mk.injEq] at h
      obtain ⟨⟨v', ob'⟩, h1, rfl, h3⟩ := h
      exact ⟨o2, ob, ob', rfl, rfl, h1, h3.symm⟩
theorem builtin_does {c : Call} {b : Builtin} (ho : o.op = .call c) (hc : c.callee = .builtin b) (hT : TOk P T) (hw : WR base okx w0 w ρ H) (hev : ∀ x, LR w (okF base okx H ρ) ρ H (a.eval x) (ev x))
    (hs : (builtinSem T b c.argTypes.toList (c.args.toList.map ev) nid).Is s) (hx : (exec s nid lim H).Is (v, H')) : Does base okx w0 P o a ρ H w nid v H' := by
  unfold builtinSem at hs
  split at hs
  · rename_i n hargs
    obtain ⟨x, hxs, hxv⟩ := map_one hargs
    split at hs
    · rename_i t hts
      split at hs
      · rename_i e hu
        simp only [is_pure] at hs
        subst hs
        obtain ⟨r, hr, _, A, cc, hv, _⟩ := (hxv ▸ hev x).oslI
        refine does_pure hw hx (val := .int .i64 n) ?_ (.pv _ _ (.int _ _))
        rw [run_builtin ho hc hxs hts]
        simp [builtin, Builtin.len_, run_underlying (slice_fact hT hu), hv, goInt]
      · simp [is_fail] at hs
    · simp [is_fail] at hs
  · rename_i p hargs
    obtain ⟨x, hxs, hxv⟩ := map_one hargs
    have hp := (hxv ▸ hev x).pvI
    split at hs
    · rename_i t hts
      split at hs
      · rename_i hu
        simp only [is_bind, is_lift, is_pure] at hs
        obtain ⟨st, h1, rfl⟩ := hs
        have := pstr_some h1
        subst this
        refine does_pure hw hx (val := .int .i64 st.size) ?_ (.pv _ _ (.int _ _))
        rw [run_builtin ho hc hxs hts]
        simp [builtin, Builtin.len_, run_underlying (str_fact hT hu), hp.strI, goInt]
      · rename_i e hu
        simp only [is_bind, is_lift, is_pure] at hs
        obtain ⟨xs, h1, rfl⟩ := hs
        obtain ⟨sz, rfl⟩ := plist_some h1
        obtain ⟨A, cc, hv, _⟩ := hp.listI
        refine does_pure hw hx (val := .int .i64 xs.length) ?_ (.pv _ _ (.int _ _))
        rw [run_builtin ho hc hxs hts]
        simp [builtin, Builtin.len_, run_underlying (slice_fact hT hu), hv, goInt]
      · simp [is_fail] at hs
    · simp [is_fail] at hs
  · rename_i id n p hargs
    obtain ⟨x, y, hxs, hxv, hyv⟩ := map_two hargs
    split at hs
    · rename_i t t' hts
      split at hs
      · rename_i e' he
        simp only [is_cond, is_fail, and_false, false_or, is_bind, is_lift, is_pure, Bool.not_eq_false'] at hs
        obtain ⟨htt, ys, h1, rfl⟩ := hs
        have := Nat.eq_of_beq_eq_true htt
        subst this
        obtain ⟨ob, ob', hid, hf, rfl⟩ := exec_mod hx
        cases ob with
        | box => simp [is_fail] at hf
        | sl e sz xs sn =>
          simp only [is_cond, is_ite, is_fail, and_false, or_false, is_bind, is_pure, Bool.and_eq_true, beq_iff_eq, lappend, decide_eq_true_eq] at hf
          obtain ⟨⟨rfl, rfl⟩, hn, zs, ⟨hlim, rfl⟩, hf⟩ := hf
          injection hf with q1 q2
          subst q1; subst q2
          obtain ⟨sz, rfl, hsz⟩ := plistS_some h1
          have hp := (hyv ▸ hev y).pvI
          obtain ⟨A, cc, news, hv, hl, hrows, hone, hA⟩ := list_cells hp
          have hx' := hev x
          rw [hxv, ← hn] at hx'
          rcases hsz with rfl | rfl
          · exact append_does ho hc hxs hts hT hw he hid hx' hv hl hrows hA hone hlim
          · have hne : news = [] := List.eq_nil_of_length_eq_zero (by simpa using hl)
            subst hne
            exact append_does ho hc hxs hts hT hw he hid hx' hv (by simp) ⟨by simp, by simp, by simp⟩ hA hone hlim
      · simp [is_fail] at hs
    · simp [is_fail] at hs
  · rename_i id n id2 n2 hargs
    obtain ⟨x, y, hxs, hxv, hyv⟩ := map_two hargs
    split at hs
    · rename_i t t' hts
      split at hs
      · rename_i e' he
        simp only [is_cond, is_fail, and_false, false_or, is_bind, is_lift, is_pure, Bool.or_eq_false_iff, Bool.not_eq_false'] at hs
        obtain ⟨⟨hne, htt⟩, rfl⟩ := hs
        have := Nat.eq_of_beq_eq_true htt
        subst this
        obtain ⟨o2, ob, ob', hid2, hid, hf, rfl⟩ := exec_mod2 hx
        cases o2 with
        | box => cases ob <;> simp [is_fail] at hf
        | sl e2 sz2 ys s2 =>
          cases ob with
          | box => simp [is_fail] at hf
          | sl e sz xs sn =>
            simp only [is_cond, is_ite, is_fail, and_false, or_false, is_bind, is_pure, Bool.and_eq_true, beq_iff_eq, lappend, decide_eq_true_eq] at hf
            obtain ⟨⟨⟨rfl, rfl⟩, hsz2⟩, hn, hn2, zs, ⟨hlim, rfl⟩, hf⟩ := hf
            subst hsz2
            injection hf with q1 q2
            subst q1; subst q2
            have hx' := hev x
            rw [hxv, ← hn] at hx'
            obtain ⟨r2, hr2, hh2, A2, c2, hv2, _⟩ := (hyv ▸ hev y).oslI
            obtain ⟨r2', hr2', vs2, hown2, hrows2⟩ := hw.obj id2 _ hid2
            rw [hr2] at hr2'
            injection hr2' with hr2'
            subst hr2'
            have hyr := (hh2 _ _ _ _ hid2).2 hn2.symm
            obtain ⟨A, cc, hrs, _⟩ := ownsRow_slice hown2
            refine append_does ho hc hxs hts hT hw he hid hx' (hyr.trans hrs) hown2.1 hrows2 ?_ (fun u hu => ?_) hlim
            · rcases hown2.2 with ⟨hq, hz⟩ | ⟨g, cap, cur, hq, _⟩
              · rw [hrs] at hq
                injection hq with q1 q2 q3
                exact .inl ⟨q1, hz⟩
              · have hq' := hq
                rw [hrs] at hq
                injection hq with q1 q2 q3
                exact .inr ⟨_, q1, hown2.cells (by rw [hq']; rfl)⟩
            · obtain ⟨k, hk⟩ := List.mem_iff_getElem?.1 hu
              have hlt : k < ys.length * (T e).size := by rw [← hown2.1]; exact (List.getElem?_eq_some_iff.1 hk).1
              have hsz : 0 < (T e).size := Nat.pos_of_ne_zero fun e => by simp [e] at hlt
              have hi : k / (T e).size < ys.length := Nat.div_lt_of_lt_mul (by rw [Nat.mul_comm]; exact hlt)
              have hm := List.getElem_mem hi
              have hj : k % (T e).size < ys[k / (T e).size].length := by rw [hrows2.1 _ hm]; exact Nat.mod_lt _ hsz
              obtain ⟨u', h3, h4⟩ := hrows2.2.2 _ _ _ _ (List.getElem?_eq_getElem hi) (List.getElem?_eq_getElem hj)
              have e1 : k / (T e).size * (T e).size + k % (T e).size = k := by
                have := Nat.div_add_mod k (T e).size
                rw [Nat.mul_comm] at this
                exact this
              rw [e1, hk] at h3
              injection h3 with h3
              subst h3
              exact h4.one (hrows2.2.1 _ hm _ (List.getElem_mem hj))
      · simp [is_fail] at hs
    · simp [is_fail] at hs
  · rename_i p q hargs
    obtain ⟨x, y, hxs, hxv, hyv⟩ := map_two hargs
    simp only [is_bind, is_lift, is_pure] at hs
    obtain ⟨r, hr, rfl⟩ := hs
    obtain ⟨z, hz, hl⟩ := pmax_run (P := P) ((hxv ▸ hev x).pvI) ((hyv ▸ hev y).pvI) hr
    refine does_pure hw hx (val := z) ?_ (.pv _ _ hl)
    rw [run_builtin ho hc hxs rfl]
    simp [builtin, Builtin.max_, hz]
  · rename_i p q hargs
    obtain ⟨x, y, hxs, hxv, hyv⟩ := map_two hargs
    simp only [is_bind, is_lift, is_pure] at hs
    obtain ⟨r, hr, rfl⟩ := hs
    obtain ⟨z, hz, hl⟩ := pmin_run (P := P) ((hxv ▸ hev x).pvI) ((hyv ▸ hev y).pvI) hr
    refine does_pure hw hx (val := z) ?_ (.pv _ _ hl)
    rw [run_builtin ho hc hxs rfl]
    simp [builtin, Builtin.min_, hz]
  · simp [is_fail] at hs
end
end Go.Bw
