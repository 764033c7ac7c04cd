/- Code against the machine's: all of it. No statement of a law is proved here. -/
import Derived.Test.YtbmgafmmaihmfaaDoorL23
set_option linter.unusedVariables false
set_option linter.unusedSimpArgs false
namespace Go.Bw
open Go.RowKit M

def LOut.exit' : LOut → Exit | .normal => .normal | .exit id => .exit id | .ret => .ret
/-- The told loops are the code's. -/
def LoopsOk (T : Nat → TI) (G : Nat → Option Given) : Code → Ann → Prop
  | .seq a b, A => LoopsOk T G a A ∧ LoopsOk T G b A
  | .cond _ a b, A => LoopsOk T G a A ∧ LoopsOk T G b A
  | .block _ c, A => LoopsOk T G c A
  | .loop c, A => ∀ f, (firstRegion c).bind A.loop = some f → ∃ A', LoopsOk T G c A' ∧
      ∀ S0 S o S', (normOpt ((firstRegion c).bind A.head) S0).Is S → (f S).Is (o, S') → ∃ m, (liter (lbody T G A' c) m S).Is (o, S')
  | _, _ => True
def loopsIn : Code → List Code
  | .seq a b => loopsIn a ++ loopsIn b
  | .cond _ a b => loopsIn a ++ loopsIn b
  | .block _ c => loopsIn c
  | .loop c => [c]
  | _ => []
theorem loopsOk_of {T : Nat → TI} {G : Nat → Option Given} {A : Ann} : ∀ {c : Code}, (∀ c', c' ∈ loopsIn c → LoopsOk T G (.loop c') A) → LoopsOk T G c A
  | .seq a b, h => ⟨loopsOk_of fun c' hc => h c' (List.mem_append_left _ hc), loopsOk_of fun c' hc => h c' (List.mem_append_right _ hc)⟩
  | .cond _ a b, h => ⟨loopsOk_of fun c' hc => h c' (List.mem_append_left _ hc), loopsOk_of fun c' hc => h c' (List.mem_append_right _ hc)⟩
  | .block _ c, h => loopsOk_of (c := c) h
  | .loop c, h => h c (by simp [loopsIn])
  | .skip, _ => trivial
  | .region .., _ => trivial
  | .exit _, _ => trivial
  | .label _, _ => trivial
  | .goto _, _ => trivial
  | .ret, _ => trivial
  | .rangeFunc .., _ => trivial
  | .scope _, _ => trivial
  | .refuse _, _ => trivial
/-- The slots are within. -/
def slotsB (n : Nat) : Code → Bool
  | .seq a b => slotsB n a && slotsB n b
  | .cond _ a b => slotsB n a && slotsB n b
  | .block _ c => slotsB n c
  | .loop c => slotsB n c
  | .region _ ops _ => ops.toList.all fun o => match o.dst with | some d => Nat.blt d n | none => true
  | _ => true
theorem dstsIn_of {n : Nat} {id : Nat} {ops : Array Oper} {draw : Bool} (h : slotsB n (.region id ops draw) = true) : dstsIn n ops := by
  intro i o k ho hk
  simp only [slotsB, List.all_eq_true] at h
  have := h o (by rw [← Array.getElem?_toList] at ho; exact List.mem_of_getElem? ho)
  rw [hk] at this
  exact Nat.le_of_ble_eq_true this

section
variable {T : Nat → TI} {G : Nat → Option Given} {A : Ann} {S S' : LS} {o : LOut}
theorem leval_seq {x y : Code} : (leval T G A (.seq x y) S).Is (o, S') ↔ ∃ o1 S1, (leval T G A x S).Is (o1, S1) ∧ ((o1 = .normal ∧ (leval T G A y S1).Is (o, S')) ∨ (o1 ≠ .normal ∧ o = o1 ∧ S' = S1)) := by
  simp only [leval]
  rw [is_bind]
  constructor
  · rintro ⟨⟨o1, S1⟩, h1, h2⟩
    refine ⟨o1, S1, h1, ?_⟩
    cases o1 with
    | normal => exact .inl ⟨rfl, h2⟩
    | _ =>
      replace h2 := is_pure.1 h2
      injection h2 with h2 h3
      exact .inr ⟨by simp, h2.symm, h3.symm⟩
  · rintro ⟨o1, S1, h1, h2⟩
    refine ⟨(o1, S1), h1, ?_⟩
    rcases h2 with ⟨rfl, h2⟩ | ⟨h2, rfl, rfl⟩
    · exact h2
    · cases o <;> first | exact absurd rfl h2 | exact is_pure.2 rfl
theorem leval_block {id : Nat} {c : Code} : (leval T G A (.block id c) S).Is (o, S') ↔ ∃ o1, (leval T G A c S).Is (o1, S') ∧ ((o1 = .exit id ∧ o = .normal) ∨ (o1 ≠ .exit id ∧ o = o1)) := by
  simp only [leval]
  rw [is_bind]
  constructor
  · rintro ⟨⟨o1, S1⟩, h1, h2⟩
    cases o1 with
    | exit i =>
      simp only at h2
      cases hb : Nat.beq i id with
      | true =>
        rw [hb] at h2
        simp only [cond_true] at h2
        replace h2 := is_pure.1 h2
        injection h2 with h2 h3
        have := Nat.eq_of_beq_eq_true hb
        subst this; subst h3
        exact ⟨_, h1, .inl ⟨rfl, h2.symm⟩⟩
      | false =>
        rw [hb] at h2
        simp only [cond_false] at h2
        replace h2 := is_pure.1 h2
        injection h2 with h2 h3
        subst h3
        refine ⟨_, h1, .inr ⟨fun e => ?_, h2.symm⟩⟩
        injection e with e
        subst e
        simp at hb
    | _ =>
      replace h2 := is_pure.1 h2
      injection h2 with h2 h3
      subst h3
      exact ⟨_, h1, .inr ⟨by simp, h2.symm⟩⟩
  · rintro ⟨o1, h1, h2⟩
    refine ⟨(o1, S'), h1, ?_⟩
    rcases h2 with ⟨rfl, rfl⟩ | ⟨h2, rfl⟩
    · simp only
      have : Nat.beq id id = true := by simp
      rw [this]
      exact is_pure.2 rfl
    · cases o with
      | exit i =>
        simp only
        have : Nat.beq i id = false := Bool.eq_false_iff.2 fun e => h2 (by rw [Nat.eq_of_beq_eq_true e])
        rw [this]
        exact is_pure.2 rfl
      | _ => exact is_pure.2 rfl
theorem leval_loop {c : Code} : (leval T G A (.loop c) S).Is (o, S') ↔ ∃ f S1, (firstRegion c).bind A.loop = some f ∧ (normOpt ((firstRegion c).bind A.head) S).Is S1 ∧ (f S1).Is (o, S') := by
  simp only [leval]
  cases hf : (firstRegion c).bind A.loop with
  | none => simp [is_fail]
  | some f => simp only [is_bind, Option.some.injEq, exists_eq_left', exists_and_left, exists_eq_left]
theorem lbody_is {c : Code} : (lbody T G A c S).Is (o, S') ↔ ∃ o1 S1, (leval T G A c S).Is (o1, S1) ∧ ((o1 = .normal ∧ o = .normal ∧ (normOpt ((firstRegion c).bind A.head) S1).Is S') ∨ (o1 ≠ .normal ∧ o = o1 ∧ S' = S1)) := by
  unfold lbody
  rw [is_bind]
  constructor
  · rintro ⟨⟨o1, S1⟩, h1, h2⟩
    refine ⟨o1, S1, h1, ?_⟩
    cases o1 with
    | normal =>
      simp only at h2
      rw [is_bind] at h2
      obtain ⟨S2, h2, h3⟩ := h2
      replace h3 := is_pure.1 h3
      injection h3 with h3 h4
      subst h4
      exact .inl ⟨rfl, h3.symm, h2⟩
    | _ =>
      replace h2 := is_pure.1 h2
      injection h2 with h2 h3
      exact .inr ⟨by simp, h2.symm, h3.symm⟩
  · rintro ⟨o1, S1, h1, h2⟩
    refine ⟨(o1, S1), h1, ?_⟩
    rcases h2 with ⟨rfl, rfl, h2⟩ | ⟨h2, rfl, rfl⟩
    · simp only
      rw [is_bind]
      exact ⟨S', h2, is_pure.2 rfl⟩
    · cases o <;> first | exact absurd rfl h2 | exact is_pure.2 rfl
theorem liter_zero {b : LS → M (LOut × LS)} : (liter b 0 S).Is (o, S') ↔ False := is_fail
theorem liter_step {b : LS → M (LOut × LS)} {m : Nat} : (liter b (m + 1) S).Is (o, S') ↔ ∃ o1 S1, (b S).Is (o1, S1) ∧ ((o1 = .normal ∧ (liter b m S1).Is (o, S')) ∨ (o1 ≠ .normal ∧ o = o1 ∧ S' = S1)) := by
  simp only [liter]
  rw [is_bind]
  constructor
  · rintro ⟨⟨o1, S1⟩, h1, h2⟩
    refine ⟨o1, S1, h1, ?_⟩
    cases o1 with
    | normal => exact .inl ⟨rfl, h2⟩
    | _ =>
      replace h2 := is_pure.1 h2
      injection h2 with h2 h3
      exact .inr ⟨by simp, h2.symm, h3.symm⟩
  · rintro ⟨o1, S1, h1, h2⟩
    refine ⟨(o1, S1), h1, ?_⟩
    rcases h2 with ⟨rfl, h2⟩ | ⟨h2, rfl, rfl⟩
    · exact h2
    · cases o <;> first | exact absurd rfl h2 | exact is_pure.2 rfl
end

section
variable {base : Nat} {okx : Nat → Nat → Prop} {w0 : World} {n : Nat} {ρ0 : Rho} {H0 : Heap} {w1 : World} {fx : Bool} {P : Program} {T : Nat → TI} {G : Nat → Option Given}
theorem region_lim {draw : Bool} {ops : Array Oper} {S S' : LS} (hs : (lregion T G draw ops S).Is S') : S'.lim = S.lim ∧ S.nx ≤ S'.nx := by
  unfold lregion at hs
  rw [is_cond] at hs
  obtain ⟨hsz, hs⟩ := hs.resolve_left fun h => is_fail.1 h.2
  rw [is_cond] at hs
  rcases hs with ⟨hgd, hs⟩ | ⟨hgd, hs⟩
  · cases hlast : lastDst ops.toList with
    | none => simp [hlast, is_fail] at hs
    | some d =>
      simp only [hlast] at hs
      obtain ⟨f1, f2, _⟩ := forget_sl 0 ops.toList S
      split at hs
      · rw [is_bind] at hs
        obtain ⟨p, hp, hs⟩ := hs
        rw [is_pure] at hs
        subst hs
        exact ⟨f2, Nat.le_add_right _ _⟩
      · rw [is_bind] at hs
        obtain ⟨v, hp, hs⟩ := hs
        rw [is_bind] at hs
        obtain ⟨S2, h2, hs⟩ := hs
        rw [is_pure] at hs
        subst hs
        obtain ⟨k1, k2, _, k4⟩ := keepL_is h2
        exact ⟨k2.trans f2, Nat.le_add_right _ _⟩
  · rw [is_bind] at hs
    obtain ⟨⟨S1, l⟩, hrun, hs⟩ := hs
    simp only [is_cond, is_fail, and_false, false_or, is_pure] at hs
    obtain ⟨hchk, rfl⟩ := hs
    obtain ⟨n1, n2, _⟩ := lrun_nx hrun
    exact ⟨n2, Nat.le_add_right _ _⟩
theorem leval_lim : ∀ (c : Code) {A : Ann} {S S' : LS} {o : LOut}, LoopsOk T G c A → S.lim ≤ S.nx → (leval T G A c S).Is (o, S') → S'.lim = S.lim ∧ S'.lim ≤ S'.nx
  | .skip, A, S, S', o, hL, hl, h => by
    simp only [leval, is_pure, Prod.mk.injEq] at h; obtain ⟨_, rfl⟩ := h; exact ⟨rfl, hl⟩
  | .label _, A, S, S', o, hL, hl, h => by
    simp only [leval, is_pure, Prod.mk.injEq] at h; obtain ⟨_, rfl⟩ := h; exact ⟨rfl, hl⟩
  | .goto _, A, S, S', o, hL, hl, h => by simp [leval, is_fail] at h
  | .rangeFunc .., A, S, S', o, hL, hl, h => by simp [leval, is_fail] at h
  | .scope _, A, S, S', o, hL, hl, h => by simp [leval, is_fail] at h
  | .refuse _, A, S, S', o, hL, hl, h => by simp [leval, is_fail] at h
  | .region _ ops draw, A, S, S', o, hL, hl, h => by
    simp only [leval, is_bind, is_pure, Prod.mk.injEq] at h
    obtain ⟨S1, h1, _, rfl⟩ := h
    obtain ⟨e1, e2⟩ := region_lim h1
    exact ⟨e1, by omega⟩
  | .seq a b, A, S, S', o, hL, hl, h => by
    obtain ⟨o1, S1, h1, h2⟩ := leval_seq.1 h
    obtain ⟨e1, e2⟩ := leval_lim a hL.1 hl h1
    rcases h2 with ⟨_, h2⟩ | ⟨_, _, rfl⟩
    · obtain ⟨e3, e4⟩ := leval_lim b hL.2 e2 h2
      exact ⟨e3.trans e1, e4⟩
    · exact ⟨e1, e2⟩
  | .cond c a b, A, S, S', o, hL, hl, h => by
    simp only [leval, is_bind, asPure_is, is_lift, is_ite] at h
    obtain ⟨_, _, _, _, h⟩ := h
    rcases h with ⟨_, h⟩ | ⟨_, h⟩
    · exact leval_lim a hL.1 hl h
    · exact leval_lim b hL.2 hl h
  | .block id c, A, S, S', o, hL, hl, h => by
    obtain ⟨o1, h1, _⟩ := leval_block.1 h
    exact leval_lim c hL hl h1
  | .exit id, A, S, S', o, hL, hl, h => by
    simp only [leval, is_bind, is_pure, Prod.mk.injEq] at h
    obtain ⟨S1, h1, _, rfl⟩ := h
    exact normOpt_lim hl h1
  | .ret, A, S, S', o, hL, hl, h => by
    simp only [leval, is_bind, is_pure, Prod.mk.injEq] at h
    obtain ⟨S1, h1, _, rfl⟩ := h
    exact normOpt_lim hl h1
  | .loop c, A, S, S', o, hL, hl, h => by
    obtain ⟨f, S1, hf, hn, h1⟩ := leval_loop.1 h
    obtain ⟨A', hL', hv⟩ := hL f hf
    obtain ⟨m, hm⟩ := hv S S1 o S' hn h1
    obtain ⟨e1, e2⟩ := normOpt_lim hl hn
    have key : ∀ (m : Nat) (S1 : LS), S1.lim ≤ S1.nx → (liter (lbody T G A' c) m S1).Is (o, S') → S'.lim = S1.lim ∧ S'.lim ≤ S'.nx := by
      intro m
      induction m with
      | zero => intro S1 _ hm; exact (liter_zero.1 hm).elim
      | succ m ih =>
        intro S1 hl1 hm
        obtain ⟨o2, S2, h2, h3⟩ := liter_step.1 hm
        obtain ⟨o3, S3, h4, h5⟩ := lbody_is.1 h2
        obtain ⟨g1, g2⟩ := leval_lim c hL' hl1 h4
        have : S2.lim = S1.lim ∧ S2.lim ≤ S2.nx := by
          rcases h5 with ⟨_, _, h5⟩ | ⟨_, _, rfl⟩
          · obtain ⟨q1, q2⟩ := normOpt_lim g2 h5
            exact ⟨q1.trans g1, q2⟩
          · exact ⟨g1, g2⟩
        rcases h3 with ⟨_, h3⟩ | ⟨_, _, rfl⟩
        · obtain ⟨q1, q2⟩ := ih S2 this.2 h3
          exact ⟨q1.trans this.1, q2⟩
        · exact this
    obtain ⟨q1, q2⟩ := key m S1 e2 hm
    exact ⟨q1.trans e1, q2⟩
theorem leval_wp (hT : TOk P T) (hG : GOk P G) (hmix : P.follows .mixedOrders = true) : ∀ (c : Code) {A : Ann} {S S' : LS} {o : LOut} {ρ : Rho} {a : Act} {w : World} {Q : Exit → Act → World → Prop}, LoopsOk T G c A → slotsB n c = true →
    Sim base okx w0 n ρ0 H0 w1 fx ρ S a w → (∀ id, S.nx ≤ id → ρ id = none) → S.lim ≤ S.nx → (fx = true → S.lim ≠ 0) → (leval T G A c S).Is (o, S') →
    (∀ ρ' a' w', Sim base okx w0 n ρ0 H0 w1 fx ρ' S' a' w' → (∀ id, S'.nx ≤ id → ρ' id = none) → Q o.exit' a' w') → c.wp P Q a w
  | .skip, A, S, S', o, ρ, a, w, Q, hL, hB, h, hf, hl, hx, hs, hQ => by
    simp only [leval, is_pure, Prod.mk.injEq] at hs; obtain ⟨rfl, rfl⟩ := hs; exact wp_skip (hQ ρ a w h hf)
  | .label _, A, S, S', o, ρ, a, w, Q, hL, hB, h, hf, hl, hx, hs, hQ => by
    simp only [leval, is_pure, Prod.mk.injEq] at hs; obtain ⟨rfl, rfl⟩ := hs; exact wp_label (hQ ρ a w h hf)
  | .goto _, A, S, S', o, ρ, a, w, Q, hL, hB, h, hf, hl, hx, hs, hQ => by simp [leval, is_fail] at hs
  | .rangeFunc .., A, S, S', o, ρ, a, w, Q, hL, hB, h, hf, hl, hx, hs, hQ => by simp [leval, is_fail] at hs
  | .scope _, A, S, S', o, ρ, a, w, Q, hL, hB, h, hf, hl, hx, hs, hQ => by simp [leval, is_fail] at hs
  | .refuse _, A, S, S', o, ρ, a, w, Q, hL, hB, h, hf, hl, hx, hs, hQ => by simp [leval, is_fail] at hs
  | .region _ ops draw, A, S, S', o, ρ, a, w, Q, hL, hB, h, hf, hl, hx, hs, hQ => by
    simp only [leval, is_bind, is_pure, Prod.mk.injEq] at hs
    obtain ⟨S1, h1, rfl, rfl⟩ := hs
    exact (region_wp hT hG (dstsIn_of hB) (fun _ => hmix) h hf hl h1 hQ).1
  | .seq x y, A, S, S', o, ρ, a, w, Q, hL, hB, h, hf, hl, hx, hs, hQ => by
    obtain ⟨o1, S1, h1, h2⟩ := leval_seq.1 hs
    simp only [slotsB, Bool.and_eq_true] at hB
    obtain ⟨e1, e2⟩ := leval_lim x hL.1 hl h1
    refine wp_seq (leval_wp hT hG hmix x hL.1 hB.1 h hf hl hx h1 fun ρ' a' w' h' hf' => ?_)
    rcases h2 with ⟨rfl, h2⟩ | ⟨hne, rfl, rfl⟩
    · exact leval_wp hT hG hmix y hL.2 hB.2 h' hf' e2 (fun hh => by rw [e1]; exact hx hh) h2 hQ
    · have := hQ ρ' a' w' h' hf'
      cases o with
      | normal => exact absurd rfl hne
      | _ => exact this
  | .cond c x y, A, S, S', o, ρ, a, w, Q, hL, hB, h, hf, hl, hx, hs, hQ => by
    simp only [slotsB, Bool.and_eq_true] at hB
    simp only [leval, is_bind, asPure_is, is_lift, is_ite] at hs
    obtain ⟨p, hp, t, ht, hs⟩ := hs
    have := pbool_some ht
    subst this
    have hc := (hp ▸ h.ev c).pvI.boolI
    rcases hs with ⟨rfl, hs⟩ | ⟨rfl, hs⟩
    · exact wp_cond_true hc (leval_wp hT hG hmix x hL.1 hB.1 h hf hl hx hs hQ)
    · exact wp_cond_false hc (leval_wp hT hG hmix y hL.2 hB.2 h hf hl hx hs hQ)
  | .block id c, A, S, S', o, ρ, a, w, Q, hL, hB, h, hf, hl, hx, hs, hQ => by
    obtain ⟨o1, h1, h2⟩ := leval_block.1 hs
    refine wp_block (leval_wp hT hG hmix c hL hB h hf hl hx h1 fun ρ' a' w' h' hf' => ?_)
    have := hQ ρ' a' w' h' hf'
    rcases h2 with ⟨rfl, rfl⟩ | ⟨hne, rfl⟩
    · show Exit.inBlock id Q (.exit id) a' w'
      simp only [Exit.inBlock, if_true]
      exact this
    · cases o with
      | exit i =>
        show Exit.inBlock id Q (.exit i) a' w'
        simp only [Exit.inBlock]
        rw [if_neg fun e => hne (by rw [e])]
        exact this
      | _ => exact this
  | .exit id, A, S, S', o, ρ, a, w, Q, hL, hB, h, hf, hl, hx, hs, hQ => by
    simp only [leval, is_bind, is_pure, Prod.mk.injEq] at hs
    obtain ⟨S1, h1, rfl, rfl⟩ := hs
    obtain ⟨ρ', h', hf'⟩ := normOpt_sim h hf hx h1
    exact wp_exit (hQ ρ' a w h' hf')
  | .ret, A, S, S', o, ρ, a, w, Q, hL, hB, h, hf, hl, hx, hs, hQ => by
    simp only [leval, is_bind, is_pure, Prod.mk.injEq] at hs
    obtain ⟨S1, h1, rfl, rfl⟩ := hs
    obtain ⟨ρ', h', hf'⟩ := normOpt_sim h hf hx h1
    exact wp_ret (hQ ρ' a w h' hf')
  | .loop c, A, S, S', o, ρ, a, w, Q, hL, hB, h, hf, hl, hx, hs, hQ => by
    obtain ⟨f, S1, hff, hn, h1⟩ := leval_loop.1 hs
    obtain ⟨A', hL', hv⟩ := hL f hff
    obtain ⟨m, hm⟩ := hv S S1 o S' hn h1
    obtain ⟨e1, e2⟩ := normOpt_lim hl hn
    obtain ⟨ρ1, h', hf'⟩ := normOpt_sim h hf hx hn
    refine wp_loop_rounds m ?_
    have key : ∀ (m : Nat) (S1 : LS) (ρ1 : Rho) (a : Act) (w : World), Sim base okx w0 n ρ0 H0 w1 fx ρ1 S1 a w → (∀ id, S1.nx ≤ id → ρ1 id = none) → S1.lim ≤ S1.nx → (fx = true → S1.lim ≠ 0) → (liter (lbody T G A' c) m S1).Is (o, S') → Code.rounds P c Q m a w := by
      intro m
      induction m with
      | zero => intro S1 _ _ _ _ _ _ _ hm; exact (liter_zero.1 hm).elim
      | succ m ih =>
        intro S1 ρ1 a w hs1 hf1 hl1 hx1 hm
        obtain ⟨o2, S2, h2, h3⟩ := liter_step.1 hm
        obtain ⟨o3, S3, h4, h5⟩ := lbody_is.1 h2
        obtain ⟨g1, g2⟩ := leval_lim c hL' hl1 h4
        rw [rounds_succ]
        refine leval_wp hT hG hmix c hL' hB hs1 hf1 hl1 hx1 h4 fun ρ' a' w' h' hf' => ?_
        rcases h5 with ⟨rfl, rfl, h5⟩ | ⟨hne, rfl, rfl⟩
        · rcases h3 with ⟨_, h3⟩ | ⟨hne, _, _⟩
          · obtain ⟨ρ2, k1, k2⟩ := normOpt_sim h' hf' (fun hh => by rw [g1]; exact hx1 hh) h5
            obtain ⟨q1, q2⟩ := normOpt_lim g2 h5
            exact ih S2 ρ2 a' w' k1 k2 q2 (fun hh => by rw [q1, g1]; exact hx1 hh) h3
          · exact absurd rfl hne
        · rcases h3 with ⟨rfl, _⟩ | ⟨_, rfl, rfl⟩
          · exact absurd rfl hne
          · have := hQ ρ' a' w' h' hf'
            cases o with
            | normal => exact absurd rfl hne
            | _ => exact this
    exact key m S1 ρ1 a w h' hf' e2 (fun hh => by rw [e1]; exact hx hh) hm
end
end Go.Bw
