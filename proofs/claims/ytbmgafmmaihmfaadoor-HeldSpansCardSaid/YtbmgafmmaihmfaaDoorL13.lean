/- The evaluator's single operations against the machine's: cuts, lengths. No statement of a law is proved here. -/
import Derived.Test.YtbmgafmmaihmfaaDoorL12
set_option linter.unusedVariables false
set_option linter.unusedSimpArgs false
namespace Go.Bw
open Go.RowKit M

section
variable {base : Nat} {okx : Nat → Nat → Prop} {w0 : World} {P : Program} {T : Nat → TI} {G : Nat → Option Given} {o : Oper} {a : Act} {ρ : Rho} {H : Heap} {w : World} {nid lim : Nat} {ok : Nat → Nat → Prop}
variable {ev : Operand → LV} {s : LSem} {v : LV} {H' : Heap}

theorem sliceBound_run {k : IntKind} {i : Int} {y : Nat} (c : BoundsCode) (h0 : 0 ≤ i) (h1 : i ≤ y) : (Instr.sliceBound (.int k i) y c).run P w = .ok i.toNat w := by
  unfold Instr.sliceBound
  simp only [Sem.run_bind, asIntOf, Sem.run_pure, Result.andThen_ok, Sem.run_ite]
  rw [if_pos ⟨h0, h1⟩]
theorem sliceBounds_run (isSlice : Bool) {len cap : Nat} (hc : len ≤ cap) {lo hi : Option Value} {l h : Int} (hl : (∃ k, lo = some (.int k l)) ∨ (lo = none ∧ l = 0)) (hh : (∃ k, hi = some (.int k h)) ∨ (hi = none ∧ h = len))
    (h0 : 0 ≤ l) (h1 : l ≤ h) (h2 : h ≤ len) : (Instr.sliceBounds isSlice len cap lo hi none).run P w = .ok (l.toNat, h.toNat, cap) w := by
  unfold Instr.sliceBounds
  have hle : l ≤ (h.toNat : Nat) := by omega
  rcases hh with ⟨k, rfl⟩ | ⟨rfl, rfl⟩
  · rcases hl with ⟨k', rfl⟩ | ⟨rfl, rfl⟩
    · simp [sliceBound_run _ h0 hle, sliceBound_run (y := cap) _ (show 0 ≤ h by omega) (by omega)]
    · simp [sliceBound_run (y := cap) _ (show 0 ≤ h by omega) (by omega)]
  · rcases hl with ⟨k', rfl⟩ | ⟨rfl, rfl⟩
    · have : (len : Int).toNat = len := by omega
      simp [sliceBound_run (y := len) _ h0 h1]
    · simp
theorem optBound {x : Option Operand} {d l : Int} (hev : ∀ x, LR w (okF base okx H ρ) ρ H (a.eval x) (ev x)) (h : (boundOf ev x d).Is l) :
    (∃ k, x.map a.eval = some (.int k l)) ∨ (x.map a.eval = none ∧ l = d) := by
  unfold boundOf at h
  cases x with
  | none => simp only [is_pure] at h; exact .inr ⟨rfl, h.symm⟩
  | some x =>
    simp only [is_bind, asPure_is, is_lift] at h
    obtain ⟨p, h1, h2⟩ := h
    obtain ⟨k, rfl⟩ := pint_some h2
    exact .inl ⟨k, congrArg some (h1 ▸ hev x).pvI.intI⟩
theorem slice_does {t : TypeId} {x : Operand} {lo hi mx : Option Operand} (ho : o.op = .slice t x lo hi mx) (hT : TOk P T) (hw : WR base okx w0 w ρ H) (hev : ∀ x, LR w (okF base okx H ρ) ρ H (a.eval x) (ev x))
    (hs : (lop T G o ev nid).Is s) (hx : (exec s nid lim H).Is (v, H')) : Does base okx w0 P o a ρ H w nid v H' := by
  unfold lop at hs
  simp only [ho] at hs
  cases mx with
  | some m => simp [is_fail] at hs
  | none =>
    simp only [Option.isSome_none, cond_false] at hs
    rw [is_bind] at hs
    obtain ⟨l, hl, hs⟩ := hs
    have hl := optBound (a := a) (base := base) (okx := okx) (ρ := ρ) (H := H) (w := w) hev hl
    cases he : ev x with
    | pv p =>
      have hp := (he ▸ hev x).pvI
      simp only [he] at hs
      cases hu : (T t).u with
      | str =>
        simp only [hu] at hs
        rw [is_bind] at hs
        obtain ⟨st, h1, hs⟩ := hs
        rw [is_lift] at h1
        have := pstr_some h1
        subst this
        rw [is_bind] at hs
        obtain ⟨h, hh, hs⟩ := hs
        have hh := optBound (a := a) (base := base) (okx := okx) (ρ := ρ) (H := H) (w := w) hev hh
        simp only [is_bind, is_lift, is_pure] at hs
        obtain ⟨r, hr, rfl⟩ := hs
        unfold pstrslice at hr
        split at hr
        · rename_i hc
          injection hr with hr
          subst hr
          refine does_pure hw hx (val := .string (st.extract l.toNat h.toNat)) ?_ (.pv _ _ (.str _))
          unfold execOp
          simp [ho, Instr.sliceAt, run_underlying (str_fact hT hu), Instr.slice, hp.strI, sliceBounds_run false (Nat.le_refl _) hl hh hc.1 hc.2.1 hc.2.2]
        · cases hr
      | slice e =>
        simp only [hu] at hs
        cases hnz : nz T e with
        | false => simp [hnz, is_fail] at hs
        | true =>
          obtain ⟨ei, ed, ez, hfe⟩ := nz_fact hT hnz
          simp only [hnz, Bool.not_true, cond_false] at hs
          rw [is_bind] at hs
          obtain ⟨xs, h1, hs⟩ := hs
          rw [is_lift] at h1
          rw [is_bind] at hs
          obtain ⟨h, hh, hs⟩ := hs
          have hh := optBound (a := a) (base := base) (okx := okx) (ρ := ρ) (H := H) (w := w) hev hh
          simp only [is_bind, is_lift, is_pure] at hs
          obtain ⟨ys, hr, rfl⟩ := hs
          obtain ⟨sz, rfl, hsz⟩ := plistS_some h1
          obtain ⟨A, c, hv, hcap, hlen, hsc, u, hA, hrel⟩ := hp.listI
          unfold pslice at hr
          split at hr
          · rename_i hc
            injection hr with hr
            have hyl : ys.length = h.toNat - l.toNat := by rw [← hr, List.length_drop, List.length_take, Nat.min_eq_left (by omega)]
            have hrun : (execOp a.eval o).run P w = .ok (.value (.slice (if c = l.toNat then A else A.map (·.add (l.toNat * (T e).size))) ys.length (c - l.toNat))) w := by
              unfold execOp
              simp [ho, Instr.sliceAt, run_underlying (slice_fact hT hu), Instr.slice, hv, sliceBounds_run true hcap hl hh hc.1 hc.2.1 hc.2.2, run_sizeOf hfe.info, hfe.size, hyl]
            refine does_pure hw hx hrun ?_
            by_cases hne : ys = []
            · subst hne
              exact .pv _ _ (.nil _ _ _)
            · have hlt : l.toNat < h.toNat := by
                have := List.length_pos_iff.2 hne
                omega
              have hxne : xs ≠ [] := by rintro rfl; simp at hr; exact hne hr
              have hszE : sz = (T e).size := hsz.resolve_right hxne
              obtain ⟨b, o0, rfl, hcell⟩ := hA hxne
              have hget : ∀ i, i < ys.length → ys[i]? = xs[l.toNat + i]? := by
                intro i hi
                rw [← hr, List.getElem?_drop, List.getElem?_take, if_pos (by omega)]
              have hmem : ∀ cs, cs ∈ ys → cs ∈ xs := by
                intro cs hm
                rw [← hr] at hm
                exact List.mem_of_mem_take (List.mem_of_mem_drop hm)
              rw [if_neg (by omega)]
              simp only [Option.map_some]
              refine .pv _ _ (.list _ _ _ ys (fun i j => u (l.toNat + i) j) (by omega) (fun cs hm => hszE ▸ hlen cs (hmem cs hm)) (fun cs hm => hsc cs (hmem cs hm)) (fun _ => ⟨b, o0 + l.toNat * (T e).size, by rw [add_at], fun i j hi hj => ?_⟩) fun i cs j cc h3 h4 => ?_)
              · have := hcell (l.toNat + i) j (by omega) (hszE ▸ hj)
                rw [show o0 + l.toNat * (T e).size + i * (T e).size + j = o0 + (l.toNat + i) * sz + j by rw [hszE, Nat.add_mul]; omega]
                exact this
              · have hi : i < ys.length := (List.getElem?_eq_some_iff.1 h3).1
                rw [hget i hi] at h3
                exact hrel _ _ _ _ h3 h4
          · cases hr
      | _ => simp [hu, is_fail] at hs
    | _ => simp [he, is_fail] at hs
end
end Go.Bw
