/- The evaluator's state against the machine's; one operation, with its guard. No statement of a law is proved here. -/
import Derived.Test.YtbmgafmmaihmfaaDoorL17
set_option linter.unusedVariables false
set_option linter.unusedSimpArgs false
namespace Go.Bw
open Go.RowKit M

section
variable (base : Nat) (okx : Nat → Nat → Prop) (w0 : World) (n : Nat) (ρ0 : Rho) (H0 : Heap) (w1 : World) (fx : Bool)
/-- The evaluator's state tells the machine's. -/
structure Sim (ρ : Rho) (S : LS) (a : Act) (w : World) : Prop where
  wr : WR base okx w0 w ρ S.H
  sl : ∀ t, LR w (okF base okx S.H ρ) ρ S.H (a.eval (.tmp t)) (S.sl t)
  size : a.tmps.size = n
  defers : a.defers = []
  fr : fx = true → Evo (okF base okx H0 ρ0) ρ0 H0 w1 (okF base okx S.H ρ) ρ S.H w ∧ ∀ id, id < S.lim → S.H id = H0 id
end
section
variable {base : Nat} {okx : Nat → Nat → Prop} {w0 : World} {n : Nat} {ρ0 : Rho} {H0 : Heap} {w1 : World} {fx : Bool} {ρ : Rho} {S S' : LS} {a : Act} {w : World} {P : Program} {T : Nat → TI} {G : Nat → Option Given} {ops : Array Oper} {o : Oper} {nid : Nat} {f : Fp}

theorem cval_rel (w : World) (ok : Nat → Nat → Prop) (ρ : Rho) (H : Heap) (v : Value) : LR w ok ρ H v (cval v) := by
  unfold cval
  split
  · exact .pv _ _ (.int _ _)
  · exact .pv _ _ (.bool _)
  · exact .pv _ _ (.str _)
  · exact .pv _ _ (.flt _ _)
  · exact .pv _ _ (.nil _ _ _)
  · exact .pv _ _ .nilI
  · exact .any _
theorem Sim.ev (h : Sim base okx w0 n ρ0 H0 w1 fx ρ S a w) (x : Operand) : LR w (okF base okx S.H ρ) ρ S.H (a.eval x) (S.ev x) := by
  cases x with
  | tmp t => exact h.sl t
  | const v => exact cval_rel _ _ _ _ _
  | func f => exact .clo f [] [] rfl (by simp)
  | global g => exact .any _

theorem supd_same (f : Nat → LV) (i : Nat) (v : LV) : supd f i v i = v := by simp [supd]
theorem supd_other (f : Nat → LV) (i : Nat) (v : LV) {j : Nat} (h : j ≠ i) : supd f i v j = f j := by
  have : Nat.beq j i = false := Bool.eq_false_iff.2 fun e => h (Nat.eq_of_beq_eq_true e)
  simp [supd, this]
theorem supd_self {f : Nat → LV} {i : Nat} {v : LV} (h : f i = v) : supd f i v = f := by
  funext j
  by_cases hj : j = i
  · subst hj; rw [supd_same, h]
  · rw [supd_other _ _ _ hj]
theorem LS.set_self {S : LS} {d : Nat} {v : LV} (h : S.sl d = v) : S.set (some d) v = S := by
  cases S
  simp only [LS.set]
  congr 1
  exact supd_self h
theorem put_eval (a : Act) (d : Nat) (v : Value) (t : Nat) (hd : d < a.tmps.size) : (a.put (some d) v).eval (.tmp t) = if t = d then v else a.eval (.tmp t) := by
  simp only [Act.eval, Act.put]
  by_cases h : t = d
  · subst h
    simp [hd]
  · rw [if_neg h]
    simp only [Array.getD_eq_getD_getElem?]
    rw [Array.getElem?_setIfInBounds_ne (Ne.symm h)]
theorem put_size (a : Act) (d : Option Nat) (v : Value) : (a.put d v).tmps.size = a.tmps.size := by cases d <;> simp [Act.put]
theorem put_defers' (a : Act) (d : Option Nat) (v : Value) : (a.put d v).defers = a.defers := by cases d <;> rfl
theorem set_sl (S : LS) (d : Option Nat) (v : LV) (t : Nat) : (S.set d v).sl t = if some t = d then v else S.sl t := by
  cases d with
  | none => simp [LS.set]
  | some d =>
    simp only [LS.set, Option.some.injEq]
    by_cases h : t = d
    · subst h; rw [supd_same, if_pos rfl]
    · rw [supd_other _ _ _ h, if_neg h]
/-- After a step: the slots. -/
theorem sl_put {H' : Heap} {ρ' : Rho} {w' : World} {val : Value} {v : LV} {d : Option Nat} (hsl : ∀ t, LR w' (okF base okx H' ρ') ρ' H' (a.eval (.tmp t)) (S.sl t)) (hv : LR w' (okF base okx H' ρ') ρ' H' val v)
    (hd : ∀ k, d = some k → k < a.tmps.size) (t : Nat) : LR w' (okF base okx H' ρ') ρ' H' ((a.put d val).eval (.tmp t)) ((S.set d v).sl t) := by
  rw [set_sl]
  cases d with
  | none => simpa [Act.put] using hsl t
  | some d =>
    rw [put_eval _ _ _ _ (hd d rfl)]
    simp only [Option.some.injEq]
    by_cases h : t = d
    · rw [if_pos h, if_pos h]; exact hv
    · rw [if_neg h, if_neg h]; exact hsl t

theorem exec_low {s : LSem} {nid lim : Nat} {H H' : Heap} {v : LV} (h : (exec s nid lim H).Is (v, H')) (hl : lim ≤ nid) : ∀ id, id < lim → H' id = H id := by
  intro id hid
  cases s with
  | val u => obtain ⟨_, rfl⟩ := exec_val h; rfl
  | new ob u => obtain ⟨_, rfl⟩ := exec_new h; exact hset_other _ _ _ (by omega)
  | get i f => obtain ⟨_, _, _, rfl⟩ := exec_get h; rfl
  | mod i f =>
    have h' := h
    simp only [exec, is_cond, is_fail, and_false, or_false] at h'
    have := Nat.le_of_ble_eq_true h'.1
    obtain ⟨_, _, _, _, rfl⟩ := exec_mod h
    exact hset_other _ _ _ (by omega)
  | mod2 r i f =>
    have h' := h
    simp only [exec, is_cond, is_fail, and_false, or_false] at h'
    have := Nat.le_of_ble_eq_true h'.1
    obtain ⟨_, _, _, _, _, _, rfl⟩ := exec_mod2 h
    exact hset_other _ _ _ (by omega)
  | take i f =>
    have h' := h
    simp only [exec, is_cond, is_fail, and_false, or_false] at h'
    have := Nat.le_of_ble_eq_true h'.1
    obtain ⟨_, _, _, rfl⟩ := exec_take h
    exact hdel_other _ _ (by omega)
  | take2 r i f =>
    have h' := h
    simp only [exec, is_cond, is_fail, and_false, or_false, Bool.and_eq_true] at h'
    have := Nat.le_of_ble_eq_true h'.1.1
    obtain ⟨_, _, _, _, _, _, rfl⟩ := exec_take2 h
    exact hdel_other _ _ (by omega)
  | globR f => obtain ⟨_, rfl⟩ := exec_globR h; rfl
  | glob f =>
    simp only [exec, is_cond, is_fail, and_false, or_false] at h
    have := Nat.eq_of_beq_eq_true h.1
    omega

theorem lstep_is {F : LS × Fp} : (lstep T G o nid S).Is F ↔ ∃ s v H, (lop T G o S.ev nid).Is s ∧ (exec s nid S.lim S.H).Is (v, H) ∧ F = ({ S with sl := (S.set o.dst v).sl, H := H }, fpOf s nid) := by
  unfold lstep
  simp only [is_bind, is_pure]
  constructor
  · rintro ⟨s, h1, ⟨v, H⟩, h2, h3⟩
    exact ⟨s, v, H, h1, h2, h3.symm⟩
  · rintro ⟨s, v, H, h1, h2, h3⟩
    exact ⟨s, h1, ⟨v, H⟩, h2, h3.symm⟩
/-- What a step leaves. -/
def Stepped (base : Nat) (okx : Nat → Nat → Prop) (w0 : World) (n : Nat) (ρ0 : Rho) (H0 : Heap) (w1 : World) (fx : Bool) (ρ : Rho) (nid : Nat) (S' : LS) (a' : Act) (w' : World) : Prop :=
  ∃ ρ', Sim base okx w0 n ρ0 H0 w1 fx ρ' S' a' w' ∧ ∀ id, id ≠ nid → ρ id = none → ρ' id = none
theorem lstep_wp (hT : TOk P T) (hG : GOk P G) (h : Sim base okx w0 n ρ0 H0 w1 fx ρ S a w) (hnid : ρ nid = none) (hfree : ∀ id, nid + 4096 ≤ id → ρ id = none) (hlim : S.lim ≤ nid) (hd : ∀ k, o.dst = some k → k < n)
    (hs : (lstep T G o nid S).Is (S', f)) (Q : Exit → Act → World → Prop) : o.wp P a w (Stepped base okx w0 n ρ0 H0 w1 fx ρ nid S') Q := by
  obtain ⟨s, v, H', h1, h2, h3⟩ := lstep_is.1 hs
  injection h3 with h3 _
  subst h3
  refine Oper.wp_mono ?_ (op_does hT hG h.wr hnid hfree h.ev h1 h2 Q)
  rintro a' w' ⟨val, ρ', rfl, he, hw, hl, hn⟩
  refine ⟨ρ', ⟨hw, fun t => sl_put (fun t => (h.sl t).evo he) hl (fun k hk => h.size ▸ hd k hk) t, by rw [put_size]; exact h.size, by rw [put_defers']; exact h.defers, fun h0 => ?_⟩, hn⟩
  obtain ⟨e1, e2⟩ := h.fr h0
  exact ⟨e1.trans he, fun id hid => (exec_low h2 hlim id hid).trans (e2 id hid)⟩

theorem yielded_of {d g : Nat} {b : Bool} (hd : dstOf ops g = some d) (hv : a.eval (.tmp d) = .bool b) : yielded ops a.tmps g = some b := by
  unfold yielded
  unfold dstOf at hd
  rw [hd]
  simp only [Act.eval, Array.getD_eq_getD_getElem?] at hv
  simp only [Option.bind_some]
  cases hq : a.tmps[d]? with
  | none => rw [hq] at hv; cases hv
  | some u => rw [hq] at hv; simp only [Option.getD_some] at hv; subst hv; rfl
theorem lstepG_is {F : LS × Fp} : (lstepG T G ops o nid S).Is F ↔
    (o.guard = none ∧ (lstep T G o nid S).Is F) ∨ (∃ g want d, o.guard = some (g, want) ∧ dstOf ops g = some d ∧ ((S.sl d = .pv (.bool want) ∧ (lstep T G o nid S).Is F) ∨ ((S.sl d = .pv (.bool (!want)) ∨ S.sl d = .tup []) ∧ F = (S.set o.dst (.tup []), ⟨[], [], false, false⟩)))) := by
  unfold lstepG
  cases hg : o.guard with
  | none => simp
  | some q =>
    obtain ⟨g, want⟩ := q
    simp only [reduceCtorEq, false_and, false_or, Option.some.injEq, Prod.mk.injEq]
    cases hd : dstOf ops g with
    | none =>
      refine ⟨fun h => (is_fail.1 h).elim, ?_⟩
      rintro ⟨g', want', d', ⟨rfl, rfl⟩, hd', _⟩
      rw [hd] at hd'
      cases hd'
    | some d =>
      have pvc : ∀ p, S.sl d = .pv p → ((match S.sl d with
          | .tup [] => pure (S.set o.dst (.tup []), ⟨[], [], false, false⟩)
          | v => do
            let p ← asPure v; let b ← M.lift (pbool p)
            M.ite b
              (let S := S.set (some d) (.pv (.bool true)); bif want then lstep T G o nid S else pure (S.set o.dst (.tup []), ⟨[], [], false, false⟩))
              (let S := S.set (some d) (.pv (.bool false)); bif want then pure (S.set o.dst (.tup []), ⟨[], [], false, false⟩) else lstep T G o nid S) : M (LS × Fp)).Is F ↔
            (p = .bool want ∧ (lstep T G o nid S).Is F) ∨ (p = .bool (!want) ∧ F = (S.set o.dst (.tup []), ⟨[], [], false, false⟩))) := by
        intro p hp
        simp only [hp, is_bind, asPure_is, is_lift, is_ite, LV.pv.injEq, exists_eq_left']
        constructor
        · rintro ⟨b, hb, h⟩
          have := pbool_some hb
          subst this
          rcases h with ⟨rfl, h⟩ | ⟨rfl, h⟩ <;> rw [LS.set_self hp] at h <;> cases want <;> simp only [cond_true, cond_false, is_pure] at h
          · exact .inr ⟨rfl, h.symm⟩
          · exact .inl ⟨rfl, h⟩
          · exact .inl ⟨rfl, h⟩
          · exact .inr ⟨rfl, h.symm⟩
        · rintro (⟨rfl, h⟩ | ⟨rfl, h⟩)
          · refine ⟨want, rfl, ?_⟩
            cases want <;> simp_all [LS.set_self, is_pure]
          · refine ⟨!want, rfl, ?_⟩
            cases want <;> simp_all [LS.set_self, is_pure]
      constructor
      · intro h
        refine ⟨g, want, d, ⟨rfl, rfl⟩, hd, ?_⟩
        cases hsl : S.sl d with
        | pv p =>
          rcases (pvc p hsl).1 h with ⟨rfl, h⟩ | ⟨rfl, h⟩
          · exact .inl ⟨rfl, h⟩
          · exact .inr ⟨.inl rfl, h⟩
        | tup vs =>
          cases vs with
          | nil =>
            simp only [hsl] at h
            exact .inr ⟨.inr rfl, (is_pure.1 h).symm⟩
          | cons => simp [hsl, is_bind, asPure_is] at h
        | _ => simp [hsl, is_bind, asPure_is] at h
      · rintro ⟨g', want', d', ⟨rfl, rfl⟩, hd', h⟩
        rw [hd] at hd'
        injection hd' with hd'
        subst hd'
        rcases h with ⟨hp, h⟩ | ⟨hp | hp, h⟩
        · exact (pvc _ hp).2 (.inl ⟨rfl, h⟩)
        · exact (pvc _ hp).2 (.inr ⟨rfl, h⟩)
        · simp only [hp]
          exact is_pure.2 h.symm
theorem lstepG_wp {i : Nat} (ho : ops[i]? = some o) (hT : TOk P T) (hG : GOk P G) (h : Sim base okx w0 n ρ0 H0 w1 fx ρ S a w) (hnid : ρ nid = none) (hfree : ∀ id, nid + 4096 ≤ id → ρ id = none) (hlim : S.lim ≤ nid) (hd : ∀ k, o.dst = some k → k < n)
    (hs : (lstepG T G ops o nid S).Is (S', f)) (Q : Exit → Act → World → Prop) : wpOp P ops Q i (Stepped base okx w0 n ρ0 H0 w1 fx ρ nid S') a w := by
  unfold wpOp
  simp only [ho]
  rcases lstepG_is.1 hs with ⟨hg, hs⟩ | ⟨g, want, d, hg, hdo, hs⟩
  · have : Region.wanted o (yielded ops a.tmps) = true := by simp [Region.wanted, hg]
    rw [if_pos this]
    exact .inl (lstep_wp hT hG h hnid hfree hlim hd hs Q)
  · rcases hs with ⟨hsl, hs⟩ | ⟨hsl, hF⟩
    · have hy := yielded_of hdo ((hsl ▸ h.sl d).pvI.boolI)
      have hwant : Region.wanted o (yielded ops a.tmps) = true := by
        simp only [Region.wanted, hg, hy]
        cases want <;> rfl
      rw [if_pos hwant]
      exact .inl (lstep_wp hT hG h hnid hfree hlim hd hs Q)
    · have hwant : Region.wanted o (yielded ops a.tmps) = false := by
        rcases hsl with hsl | hsl
        · have hy := yielded_of hdo ((hsl ▸ h.sl d).pvI.boolI)
          simp only [Region.wanted, hg, hy]
          cases want <;> rfl
        · obtain ⟨vs, hv, hl, _⟩ := (hsl ▸ h.sl d).tupI
          have hv0 : vs = [] := List.eq_nil_of_length_eq_zero hl
          subst hv0
          have hy : yielded ops a.tmps g = none := by
            unfold yielded
            unfold dstOf at hdo
            rw [hdo]
            simp only [Act.eval, Array.getD_eq_getD_getElem?] at hv
            simp only [Option.bind_some]
            cases hq : a.tmps[d]? with
            | none => rfl
            | some u => rw [hq] at hv; simp only [Option.getD_some] at hv; subst hv; rfl
          simp only [Region.wanted, hg, hy]
          cases want <;> rfl
      rw [if_neg (by rw [hwant]; simp)]
      injection hF with hF _
      subst hF
      refine ⟨ρ, ⟨?_, fun t => ?_, by rw [put_size]; exact h.size, by rw [put_defers']; exact h.defers, ?_⟩, fun _ _ h => h⟩
      · have : (S.set o.dst (.tup [])).H = S.H := by cases o.dst <;> rfl
        rw [this]; exact h.wr
      · have : (S.set o.dst (.tup [])).H = S.H := by cases o.dst <;> rfl
        rw [this]
        exact sl_put h.sl (.tup [] [] rfl (by simp)) (fun k hk => h.size ▸ hd k hk) t
      · have h1 : (S.set o.dst (.tup [])).H = S.H := by cases o.dst <;> rfl
        have h2 : (S.set o.dst (.tup [])).lim = S.lim := by cases o.dst <;> rfl
        rw [h1, h2]
        exact h.fr
theorem lstepG_nx (hs : (lstepG T G ops o nid S).Is (S', f)) : S'.nx = S.nx ∧ S'.lim = S.lim := by
  rcases lstepG_is.1 hs with ⟨hg, hs⟩ | ⟨g, want, d, hg, hdo, hs⟩
  · obtain ⟨s, v, H', h1, h2, h3⟩ := lstep_is.1 hs
    injection h3 with h3 _
    subst h3
    exact ⟨rfl, rfl⟩
  · rcases hs with ⟨_, hs⟩ | ⟨_, hF⟩
    · obtain ⟨s, v, H', h1, h2, h3⟩ := lstep_is.1 hs
      injection h3 with h3 _
      subst h3
      exact ⟨rfl, rfl⟩
    · injection hF with hF _
      subst hF
      cases o.dst <;> exact ⟨rfl, rfl⟩
end
end Go.Bw
