/- A region's operations: what the machine does, in whatever order. No statement of a law is proved here. -/
import Derived.Test.YtbmgafmmaihmfaaDoorL20
set_option linter.unusedVariables false
set_option linter.unusedSimpArgs false
namespace Go.Bw
open Go.RowKit M

section
variable {base : Nat} {okx : Nat → Nat → Prop} {w0 : World} {n : Nat} {ρ0 : Rho} {H0 : Heap} {w1 : World} {fx : Bool} {P : Program} {T : Nat → TI} {G : Nat → Option Given} {ops : Array Oper} {S S' : LS} {l : List (Nat × Fp)} {a : Act} {w : World} {ρ : Rho}
/-- A region's slots are the function's. -/
def dstsIn (n : Nat) (ops : Array Oper) : Prop := ∀ (i : Nat) (o : Oper) (k : Nat), ops[i]? = some o → o.dst = some k → k < n

theorem lrun_wp (hT : TOk P T) (hG : GOk P G) (hd : dstsIn n ops) (hsz : ops.size ≤ 4096) {Q : Exit → Act → World → Prop} : ∀ {r : List Nat} {S : LS} {l : List (Nat × Fp)} {ρ : Rho} {a : Act} {w : World}, Sim base okx w0 n ρ0 H0 w1 fx ρ S a w →
    r.Nodup → (∀ i, i ∈ r → ρ (S.nx + i) = none) → (∀ id, S.nx + ops.size ≤ id → ρ id = none) → S.lim ≤ S.nx → (lrun T G ops r S).Is (S', l) →
    (∀ ρ' a' w', Sim base okx w0 n ρ0 H0 w1 fx ρ' S' a' w' → (∀ id, S.nx + ops.size ≤ id → ρ' id = none) → Q .normal a' w') → wpOps P ops Q r a w
  | [], S, l, ρ, a, w, h, hnd, hr, hf, hlim, hrun, hQ => by
    obtain ⟨rfl, _⟩ := lrun_nil.1 hrun
    exact hQ ρ a w h hf
  | i :: r, S, l, ρ, a, w, h, hnd, hr, hf, hlim, hrun, hQ => by
    obtain ⟨o, S1, f, l', h0, h1, h2, _⟩ := lrun_cons.1 hrun
    rw [wpOps_cons]
    have hnx := lstepG_nx h1
    refine wpOp_mono ?_ (lstepG_wp h0 hT hG h (hr i List.mem_cons_self) (fun id hid => hf id (by omega)) (by omega) (fun k hk => hd i o k h0 hk) h1 Q)
    rintro a' w' ⟨ρ', h', hn⟩
    obtain ⟨hnd1, hnd2⟩ := List.nodup_cons.1 hnd
    have hi : i < ops.size := (Array.getElem?_eq_some_iff.1 h0).1
    refine lrun_wp hT hG hd hsz h' hnd2 (fun j hj => ?_) (fun id hid => ?_) (by rw [hnx.1, hnx.2]; exact hlim) h2 (fun ρ'' a'' w'' h'' hf'' => hQ ρ'' a'' w'' h'' fun id hid => hf'' id (by rw [hnx.1]; exact hid))
    · rw [hnx.1]
      exact hn _ (fun e => hnd1 ((show j = i by omega) ▸ hj)) (hr j (List.mem_cons_of_mem _ hj))
    · rw [hnx.1] at hid
      exact hn _ (by omega) (hf id hid)

theorem lrun_any (hT : TOk P T) (hG : GOk P G) (hd : dstsIn n ops) (hsz : ops.size ≤ 4096) (hedge : edgesOk ops.toList 0 = true) {Q : Exit → Act → World → Prop} : ∀ (fuel : Nat) {r : List Nat} {S : LS} {l : List (Nat × Fp)} {ρ : Rho} {a : Act} {w : World} {listed : Array Bool},
    Sim base okx w0 n ρ0 H0 w1 fx ρ S a w → r.length = fuel → listed.size = ops.size → Closed ops listed → (∀ j, j ∈ r ↔ j < ops.size ∧ listed.getD j false = false) → r.Pairwise (· < ·) →
    (∀ i, i ∈ r → ρ (S.nx + i) = none) → (∀ id, S.nx + ops.size ≤ id → ρ id = none) → S.lim ≤ S.nx → (lrun T G ops r S).Is (S', l) → l.Pairwise (fun p q => pairOk ops (masks ops.toList []) p q = true) →
    (∀ ρ' a' w', Sim base okx w0 n ρ0 H0 w1 fx ρ' S' a' w' → (∀ id, S.nx + ops.size ≤ id → ρ' id = none) → Q .normal a' w') → wpAny P .any ops Q fuel listed a w := by
  intro fuel
  induction fuel with
  | zero =>
    intro r S l ρ a w listed h hlen hls hcl hr hsort hfr hf hlim hrun hp hQ
    have hnil := List.eq_nil_of_length_eq_zero hlen
    subst hnil
    obtain ⟨rfl, _⟩ := lrun_nil.1 hrun
    refine ⟨?_, hQ ρ a w h hf⟩
    unfold Region.ready
    rw [List.filter_eq_nil_iff]
    intro i hi hcond
    have hi' := List.mem_range.1 hi
    have := (hr i).2 ⟨hi', ?_⟩
    · simp at this
    · simp only [Bool.and_eq_true, Bool.not_eq_true'] at hcond
      have h1 := hcond.1
      rw [Array.getD_eq_getD_getElem?, Array.getElem?_eq_getElem (by omega)] at h1 ⊢
      exact h1
  | succ fuel ih =>
    intro r S l ρ a w listed h hlen hls hcl hr hsort hfr hf hlim hrun hp hQ
    have mem_ready : ∀ i, i ∈ Region.ready .any ops listed ↔ i ∈ r ∧ ∀ o, ops[i]? = some o → ∀ e, e ∈ o.after.toList → Region.binds .any e = true → listed.getD e.on false = true := by
      intro i
      unfold Region.ready
      rw [List.mem_filter, List.mem_range, hr i]
      simp only [Bool.and_eq_true, Bool.not_eq_true']
      constructor
      · rintro ⟨hi, h1, h2⟩
        have hil : i < listed.size := by omega
        rw [Array.getD_eq_getD_getElem?, Array.getElem?_eq_getElem hil] at h1
        refine ⟨⟨hi, ?_⟩, fun o ho e he hb => ?_⟩
        · rw [Array.getD_eq_getD_getElem?, Array.getElem?_eq_getElem hil]; exact h1
        · rw [ho] at h2
          simp only [Option.map_some, Option.getD_some] at h2
          have := Array.all_eq_true'.1 h2 e (by simpa using he)
          simpa [hb] using this
      · rintro ⟨⟨hi, h1⟩, h2⟩
        have hil : i < listed.size := by omega
        rw [Array.getD_eq_getD_getElem?, Array.getElem?_eq_getElem hil] at h1
        refine ⟨hi, ?_, ?_⟩
        · rw [Array.getD_eq_getD_getElem?, Array.getElem?_eq_getElem hil]; exact h1
        · rw [Array.getElem?_eq_getElem hi]
          simp only [Option.map_some, Option.getD_some]
          rw [Array.all_eq_true']
          intro e he
          cases hb : Region.binds .any e with
          | false => rfl
          | true =>
            have := h2 _ (Array.getElem?_eq_getElem hi) e (by simpa using he) hb
            simpa using this
    refine ⟨fun hnil => ?_, fun i hi => ?_⟩
    · -- the first that isn't listed is ready
      exfalso
      cases r with
      | nil => simp at hlen
      | cons j r =>
        obtain ⟨hlt, _⟩ := List.pairwise_cons.1 hsort
        have : j ∈ Region.ready .any ops listed := by
          refine (mem_ready j).2 ⟨List.mem_cons_self, fun o ho e he hb => ?_⟩
          have hon := edgesOk_get ops.toList hedge (j := j) (by simpa using ho) he hb
          cases hq : listed.getD e.on false with
          | true => rfl
          | false =>
            have hj := ((hr j).1 List.mem_cons_self).1
            have hm := (hr e.on).2 ⟨by omega, hq⟩
            rcases List.mem_cons.1 hm with h | h
            · omega
            · have := hlt _ h; omega
        rw [hnil] at this
        cases this
    · obtain ⟨him, hie⟩ := (mem_ready i).1 hi
      obtain ⟨hilt, hil⟩ := (hr i).1 him
      obtain ⟨pre, post, rfl⟩ := List.append_of_mem him
      have hnodup : (pre ++ i :: post).Nodup := hsort.imp fun h => Nat.ne_of_lt h
      obtain ⟨f, lpre, lpost, rfl, hrun'⟩ := bubble hrun hp fun p hpm => by
        cases hb : ((masks ops.toList []).getD i 0).testBit p with
        | false => rfl
        | true =>
          have := mask_listed hcl hls i i p _ (Nat.le_refl _) (Array.getElem?_eq_getElem hilt) (fun e he hb => hie _ (Array.getElem?_eq_getElem hilt) e he hb) hb
          have hq := ((hr p).1 (List.mem_append_left _ hpm)).2
          rw [hq] at this; cases this
      obtain ⟨o, S1, f', l', h0, h1, h2, h3⟩ := lrun_cons.1 hrun'
      injection h3 with h3 h4
      subst h4
      have hnx := lstepG_nx h1
      refine wpOp_mono ?_ (lstepG_wp h0 hT hG h (hfr i him) (fun id hid => hf id (by omega)) (by omega) (fun k hk => hd i o k h0 hk) h1 Q)
      rintro a' w' ⟨ρ', h', hn⟩
      have hni : i ∉ pre ++ post := by
        have q := List.nodup_append.1 hnodup
        intro hm
        rcases List.mem_append.1 hm with h | h
        · exact q.2.2 i h i List.mem_cons_self rfl
        · exact (List.nodup_cons.1 q.2.1).1 h
      have hsub : (pre ++ post).Sublist (pre ++ i :: post) := List.Sublist.append (List.Sublist.refl _) (List.sublist_cons_self _ _)
      refine ih h' (by simp at hlen ⊢; omega) (by simpa using hls) ?_ (fun j => ?_) (hsort.sublist hsub) (fun j hj => ?_) (fun id hid => ?_) (by rw [hnx.1, hnx.2]; exact hlim) h2
        (hp.sublist (List.Sublist.append (List.Sublist.refl _) (List.sublist_cons_self _ _))) (fun ρ'' a'' w'' h'' hf'' => hQ ρ'' a'' w'' h'' fun id hid => hf'' id (by rw [hnx.1]; exact hid))
      · intro j oj e hj hoj he hb
        have up : ∀ k, listed.getD k false = true → (listed.setIfInBounds i true).getD k false = true := by
          intro k hk
          rw [Array.getD_eq_getD_getElem?, Array.getElem?_setIfInBounds]
          split
          · split
            · rfl
            · omega
          · rw [Array.getD_eq_getD_getElem?] at hk; exact hk
        by_cases hji : j = i
        · subst hji
          exact up _ (hie oj hoj e he hb)
        · refine up _ (hcl j oj e ?_ hoj he hb)
          rw [Array.getD_eq_getD_getElem?, Array.getElem?_setIfInBounds_ne (Ne.symm hji)] at hj
          rw [Array.getD_eq_getD_getElem?]; exact hj
      · have hmem : j ∈ pre ++ post ↔ j ∈ pre ++ i :: post ∧ j ≠ i := by
          simp only [List.mem_append, List.mem_cons]
          constructor
          · rintro (h | h)
            · exact ⟨.inl h, fun e => hni (e ▸ List.mem_append_left _ h)⟩
            · exact ⟨.inr (.inr h), fun e => hni (e ▸ List.mem_append_right _ h)⟩
          · rintro ⟨h | h | h, hne⟩
            · exact .inl h
            · exact absurd h hne
            · exact .inr h
        rw [hmem, hr j]
        constructor
        · rintro ⟨⟨g1, g2⟩, hne⟩
          refine ⟨g1, ?_⟩
          rw [Array.getD_eq_getD_getElem?, Array.getElem?_setIfInBounds_ne (Ne.symm hne)]
          rw [Array.getD_eq_getD_getElem?] at g2; exact g2
        · rintro ⟨g1, g2⟩
          by_cases hji : j = i
          · subst hji
            rw [Array.getD_eq_getD_getElem?, Array.getElem?_setIfInBounds_self] at g2
            rw [if_pos (by omega)] at g2
            cases g2
          · rw [Array.getD_eq_getD_getElem?, Array.getElem?_setIfInBounds_ne (Ne.symm hji)] at g2
            rw [Array.getD_eq_getD_getElem?]
            exact ⟨⟨g1, g2⟩, hji⟩
      · rw [hnx.1]
        refine hn _ (fun e => hni ?_) (hfr j (hsub.subset hj))
        have : j = i := by omega
        exact this ▸ hj
      · rw [hnx.1] at hid
        exact hn _ (by omega) (hf id hid)
end
end Go.Bw
