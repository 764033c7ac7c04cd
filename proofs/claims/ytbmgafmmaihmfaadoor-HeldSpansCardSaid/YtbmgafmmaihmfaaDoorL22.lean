/- A region against the machine's. No statement of a law is proved here. -/
import Derived.Test.YtbmgafmmaihmfaaDoorL21
set_option linter.unusedVariables false
set_option linter.unusedSimpArgs false
namespace Go.Bw
open Go.RowKit M

theorem LR.back {w w' : World} {ok ok' : Nat → Nat → Prop} {ρ ρ' : Rho} {H H' : Heap} {v0 : Value} {l : LV} (h0 : LR w ok ρ H v0 l) (hH : ∀ id o, H id = some o → H' id = some o) (hρ : ∀ id r o, ρ id = some r → H id = some o → ρ' id = some r) (hok : ∀ b o, ok' b o → ok b o) :
    ∀ {v : Value}, LR w' ok' ρ' H' v l → LR w' ok ρ H v l := by
  have same : ∀ {id r r' o}, ρ id = some r → ρ' id = some r' → H id = some o → r' = r := fun hr hr' ho => by
    rw [hρ _ _ _ hr ho] at hr'
    injection hr' with hr'
    exact hr'.symm
  induction h0 with
  | any => intro v h; exact .any _
  | pv v0 p hp => intro v h; exact .pv _ _ (h.pvI.okmono fun b o _ _ hb => hok b o hb)
  | ptr v0 id off r hr hh ha =>
    intro v h
    obtain ⟨r', hr', hb, had⟩ := h.ptrI
    refine .ptr _ id off r hr (fun c hc => ?_) had
    have := same hr hr' hc
    subst this
    exact hb c (hH _ _ hc)
  | eptr b o cs off hs hh =>
    intro v h
    obtain ⟨b', o', rfl, hs', hh'⟩ := h.eptrI
    refine .eptr b' o' cs off hs' fun j c hj => ?_
    obtain ⟨u, h1, h2, h3⟩ := hh' j c hj
    exact ⟨u, h1, hok _ _ h2, h3.okmono fun b o _ _ hb => hok b o hb⟩
  | osl v0 id len r hr hh ha =>
    intro v h
    obtain ⟨r', hr', hb, had⟩ := h.oslI
    refine .osl _ id len r hr (fun e sz xs s hc => ?_) had
    have := same hr hr' hc
    subst this
    exact hb e sz xs s (hH _ _ hc)
  | optr v0 id len i off r hr hh ha =>
    intro v h
    obtain ⟨r', hr', hb, had⟩ := h.optrI
    refine .optr _ id len i off r hr (fun e sz xs s hc => ?_) had
    have := same hr hr' hc
    subst this
    exact hb e sz xs s (hH _ _ hc)
  | agg vs cs hl hsc hh ih =>
    intro v h
    obtain ⟨us, rfl, hl', hsc', hh'⟩ := h.aggI
    refine .agg us cs hl' hsc' fun i u c h1 h2 => ?_
    have hi : i < vs.length := by rw [hl]; exact (List.getElem?_eq_some_iff.1 h2).1
    exact ih i _ c (List.getElem?_eq_getElem hi) h2 (hh' i u c h1 h2)
  | clo f vs cs hl hh ih =>
    intro v h
    obtain ⟨us, rfl, hl', hh'⟩ := h.cloI
    refine .clo f us cs hl' fun i u c h1 h2 => ?_
    have hi : i < vs.length := by rw [hl]; exact (List.getElem?_eq_some_iff.1 h2).1
    exact ih i _ c (List.getElem?_eq_getElem hi) h2 (hh' i u c h1 h2)
  | tup vs cs hl hh ih =>
    intro v h
    obtain ⟨us, rfl, hl', hh'⟩ := h.tupI
    refine .tup us cs hl' fun i u c h1 h2 => ?_
    have hi : i < vs.length := by rw [hl]; exact (List.getElem?_eq_some_iff.1 h2).1
    exact ih i _ c (List.getElem?_eq_getElem hi) h2 (hh' i u c h1 h2)

section
variable {base : Nat} {okx : Nat → Nat → Prop} {w0 : World} {n : Nat} {ρ0 : Rho} {H0 : Heap} {w1 : World} {fx : Bool} {P : Program} {T : Nat → TI} {G : Nat → Option Given} {ops : Array Oper} {S S' : LS} {l : List (Nat × Fp)} {a : Act} {w w' : World} {ρ ρ' : Rho} {H H' : Heap}

theorem rho_same (he : Evo (okF base okx H ρ) ρ H w (okF base okx H' ρ') ρ' H' w') (hH : ∀ id o, H id = some o → H' id = some o) : ∀ id r o, ρ id = some r → H id = some o → ρ' id = some r := by
  intro id r o hr ho
  cases o with
  | box c => exact (he.box id r c hr (hH _ _ ho)).2
  | sl e sz xs s =>
    obtain ⟨xs1, s1, h1, _, h2⟩ := he.sl id r e sz xs s hr (hH _ _ ho)
    rw [ho] at h1
    injection h1 with h1
    injection h1 with _ _ h1 _
    subst h1
    exact h2 rfl
/-- What came to be meanwhile is let go. -/
theorem drop_new (hw : WR base okx w0 w ρ H) (he : Evo (okF base okx H ρ) ρ H w (okF base okx H' ρ') ρ' H' w') (hw' : WR base okx w0 w' ρ' H') (hH : ∀ id o, H id = some o → H' id = some o) :
    Evo (okF base okx H ρ) ρ H w (okF base okx H ρ) ρ H w' ∧ WR base okx w0 w' ρ H ∧ ∀ b o, okF base okx H' ρ' b o → okF base okx H ρ b o := by
  have hρ := rho_same he hH
  have hok : ∀ b o, okF base okx H' ρ' b o → okF base okx H ρ b o := by
    rintro b o ⟨h1, h2⟩
    refine ⟨h1, ?_⟩
    rintro ⟨id, r, ob, g1, g2, g3⟩
    exact h2 ⟨id, r, ob, hρ id r ob g1 g2, hH id ob g2, g3⟩
  refine ⟨⟨fun b o u h1 h2 => ⟨(he.cells b o u h1 h2).1, h2⟩, fun id r h => ⟨r, h⟩, fun id r c' h1 h2 => ⟨⟨c', h2⟩, h1⟩, fun id r e sz xs' s' h1 h2 => ⟨xs', s', h2, Nat.le_refl _, fun _ => h1⟩⟩, ⟨hw'.below, hw'.size, fun id o ho => ?_, fun id id' r r' b hne h1 h2 hr hr' hb => ?_, hw.gl⟩, hok⟩
  · obtain ⟨r, hr, hob⟩ := hw.obj id o ho
    obtain ⟨r', hr', hob'⟩ := hw'.obj id o (hH _ _ ho)
    have := hρ id r o hr ho
    rw [this] at hr'
    injection hr' with hr'
    subst hr'
    refine ⟨r, hr, ?_⟩
    cases o with
    | box c =>
      obtain ⟨b, vs, e, _, _, _, hc⟩ := hob
      obtain ⟨b', vs', e', g1, g2, g3, hc'⟩ := hob'
      refine ⟨b', vs', e', g1, g2, g3, ?_⟩
      cases c with
      | pure cs => exact ⟨hc'.1, hc'.2.1, fun i v c h1 h2 => (hc'.2.2 i v c h1 h2).okmono fun b o _ _ hb => hok b o hb⟩
      | mix cs =>
        refine ⟨hc'.1, hc'.2.1, fun i v c h1 h2 => ?_⟩
        have hi : i < vs.length := by rw [hc.1]; exact (List.getElem?_eq_some_iff.1 h2).1
        exact (hc.2.2 i _ c (List.getElem?_eq_getElem hi) h2).back hH hρ hok (hc'.2.2 i v c h1 h2)
    | sl e sz xs s =>
      obtain ⟨vs', hown, hrows⟩ := hob'
      exact ⟨vs', hown, hrows.1, hrows.2.1, fun i cs j c h1 h2 => by
        obtain ⟨v, h3, h4⟩ := hrows.2.2 i cs j c h1 h2
        exact ⟨v, h3, h4.okmono fun b o _ _ hb => hok b o hb⟩⟩
  · cases hq : H id with
    | none => exact absurd hq h1
    | some o =>
      cases hq' : H id' with
      | none => exact absurd hq' h2
      | some o' => exact hw'.apart id id' r r' b hne (by rw [hH _ _ hq]; simp) (by rw [hH _ _ hq']; simp) (hρ _ _ _ hr hq) (hρ _ _ _ hr' hq') hb
theorem Sim.world (h : Sim base okx w0 n ρ0 H0 w1 fx ρ S a w) (hb : Below w.heap.size w w') : Sim base okx w0 n ρ0 H0 w1 fx ρ S a w' := by
  obtain ⟨e1, e2⟩ := evo_call h.wr hb
  exact ⟨e2, fun t => (h.sl t).evo e1, h.size, h.defers, fun hf => ⟨(h.fr hf).1.trans e1, (h.fr hf).2⟩⟩
theorem run_region_wp {id : Nat} {draw : Bool} (hT : TOk P T) (hG : GOk P G) (hd : dstsIn n ops) (hmix : draw = true → P.follows .mixedOrders = true) (hsz : ops.size ≤ 4096) {Q : Exit → Act → World → Prop} (h : Sim base okx w0 n ρ0 H0 w1 fx ρ S a w)
    (hfree : ∀ id, S.nx ≤ id → ρ id = none) (hlim : S.lim ≤ S.nx) (hrun : (lrun T G ops (List.range ops.size) S).Is (S', l)) (hr : draw = true → edgesOk ops.toList 0 = true ∧ raceOk ops (masks ops.toList []) l = true)
    (hQ : ∀ ρ' a' w', Sim base okx w0 n ρ0 H0 w1 fx ρ' S' a' w' → (∀ id, S.nx + ops.size ≤ id → ρ' id = none) → Q .normal a' w') : (Code.region id ops draw).wp P Q a w := by
  cases draw with
  | false => exact wp_region (lrun_wp hT hG hd hsz h List.nodup_range (fun i _ => hfree _ (by omega)) (fun id hid => hfree _ (by omega)) hlim hrun hQ)
  | true =>
    obtain ⟨hr1, hr2⟩ := hr rfl
    refine wp_region_any (hmix rfl) ?_
    refine lrun_any hT hG hd hsz hr1 ops.size (h.world (w' := { w with drawn := w.drawn + 1 }) ⟨rfl, rfl, rfl, Nat.le_refl _, fun _ _ => rfl⟩) (by simp) (by simp) ?_ ?_ List.pairwise_lt_range (fun i _ => hfree _ (by omega)) (fun id hid => hfree _ (by omega)) hlim hrun (raceOk_pair hr2) hQ
    · intro j o e hj
      exfalso
      rw [Array.getD_eq_getD_getElem?, Array.getElem?_replicate] at hj
      split at hj <;> simp at hj
    · intro j
      rw [List.mem_range]
      refine ⟨fun h => ⟨h, ?_⟩, fun h => h.1⟩
      rw [Array.getD_eq_getD_getElem?, Array.getElem?_replicate, if_pos h]
      rfl
theorem lrun_sl {t : Nat} (ht : ∀ (i : Nat) (o : Oper), ops[i]? = some o → o.dst ≠ some t) : ∀ {r : List Nat} {S : LS} {l : List (Nat × Fp)}, (lrun T G ops r S).Is (S', l) → S'.sl t = S.sl t
  | [], S, l, h => by obtain ⟨rfl, _⟩ := lrun_nil.1 h; rfl
  | i :: r, S, l, h => by
    obtain ⟨o, S1, f, l', h0, h1, h2, rfl⟩ := lrun_cons.1 h
    rw [lrun_sl ht h2]
    obtain ⟨v, H1, _, hS⟩ := lstepG_eff.1 h1
    simp only at hS
    subst hS
    simp only [set_sl]
    rw [if_neg fun e => ht i o h0 e.symm]
theorem forget_sl (t : Nat) : ∀ (l : List Oper) (S : LS), (forget S l).H = S.H ∧ (forget S l).lim = S.lim ∧ ((forget S l).sl t = .any ∨ ((forget S l).sl t = S.sl t ∧ ∀ o, o ∈ l → o.dst ≠ some t))
  | [], S => ⟨rfl, rfl, .inr ⟨rfl, by simp⟩⟩
  | o :: l, S => by
    obtain ⟨h1, h2, h3⟩ := forget_sl t l (S.set o.dst .any)
    have e1 : (S.set o.dst .any).H = S.H := by cases o.dst <;> rfl
    have e2 : (S.set o.dst .any).lim = S.lim := by cases o.dst <;> rfl
    simp only [forget]
    refine ⟨h1.trans e1, h2.trans e2, ?_⟩
    rcases h3 with h3 | ⟨h3, h4⟩
    · exact .inl h3
    · rw [set_sl] at h3
      by_cases ht : some t = o.dst
      · rw [if_pos ht] at h3; exact .inl h3
      · rw [if_neg ht] at h3
        refine .inr ⟨h3, fun o' ho' => ?_⟩
        rcases List.mem_cons.1 ho' with rfl | ho'
        · exact fun e => ht e.symm
        · exact h4 o' ho'
theorem keepL_is {v : PV} : ∀ {ds : List Nat} {i : Nat} {S S2 : LS}, (keepL S v ds i).Is S2 → S2.H = S.H ∧ S2.lim = S.lim ∧ S2.nx = S.nx ∧ ∀ t, S2.sl t = S.sl t ∨ ∃ (j : Nat) (p : PV), ds[j]? = some t ∧ pnth v (i + j) = some p ∧ S2.sl t = .pv p
  | [], i, S, S2, h => by simp only [keepL, is_pure] at h; subst h; exact ⟨rfl, rfl, rfl, fun t => .inl rfl⟩
  | d :: r, i, S, S2, h => by
    simp only [keepL, is_bind, is_lift] at h
    obtain ⟨p, hp, h⟩ := h
    obtain ⟨h1, h2, h3, h4⟩ := keepL_is h
    refine ⟨h1, h2, h3, fun t => ?_⟩
    rcases h4 t with h5 | ⟨j, q, g1, g2, g3⟩
    · clear h4
      rw [set_sl] at h5
      by_cases ht : some t = some d
      · rw [if_pos ht] at h5
        injection ht with ht
        subst ht
        exact .inr ⟨0, p, rfl, hp, h5⟩
      · rw [if_neg ht] at h5
        exact .inl h5
    · exact .inr ⟨j + 1, q, by simpa using g1, by rw [← g2]; congr 1; omega, g3⟩
theorem pureSl_is : ∀ {ds : List Nat} {qs : List PV}, (pureSl S ds).Is qs → ∀ (j t : Nat), ds[j]? = some t → ∃ p, qs[j]? = some p ∧ S.sl t = .pv p
  | [], qs, h, j, t, hj => by simp at hj
  | d :: r, qs, h, j, t, hj => by
    simp only [pureSl, is_bind, is_pure, asPure_is] at h
    obtain ⟨p, hp, ps, h1, rfl⟩ := h
    cases j with
    | zero => simp at hj; subst hj; exact ⟨p, rfl, hp⟩
    | succ j => exact pureSl_is h1 j t (by simpa using hj)
theorem region_wp {id : Nat} {draw : Bool} (hT : TOk P T) (hG : GOk P G) (hd : dstsIn n ops) (hmix : draw = true → P.follows .mixedOrders = true) {Q : Exit → Act → World → Prop} (h : Sim base okx w0 n ρ0 H0 w1 fx ρ S a w)
    (hfree : ∀ id, S.nx ≤ id → ρ id = none) (hlim : S.lim ≤ S.nx) (hs : (lregion T G draw ops S).Is S')
    (hQ : ∀ ρ' a' w', Sim base okx w0 n ρ0 H0 w1 fx ρ' S' a' w' → (∀ id, S'.nx ≤ id → ρ' id = none) → Q .normal a' w') : (Code.region id ops draw).wp P Q a w ∧ S'.lim = S.lim ∧ S.nx ≤ S'.nx := by
  unfold lregion at hs
  rw [is_cond] at hs
  obtain ⟨hsz, hs⟩ := hs.resolve_left fun h => is_fail.1 h.2
  have hsz : ops.size ≤ 4096 := Nat.le_of_ble_eq_true (by simpa using hsz)
  have chk : ∀ {l : List (Nat × Fp)}, (draw && !(edgesOk ops.toList 0 && raceOk ops (masks ops.toList []) l)) = false → draw = true → edgesOk ops.toList 0 = true ∧ raceOk ops (masks ops.toList []) l = true := by
    intro l hb hdr
    simpa [hdr] using hb
  rw [is_cond] at hs
  rcases hs with ⟨hgd, hs⟩ | ⟨hgd, hs⟩
  · cases hlast : lastDst ops.toList with
    | none => simp [hlast, is_fail] at hs
    | some d =>
      simp only [hlast] at hs
      have key : ∀ {S1 S2 : LS} {l : List (Nat × Fp)}, (lrun T G ops (List.range ops.size) { S with lim := S.nx }).Is (S1, l) → (draw && !(edgesOk ops.toList 0 && raceOk ops (masks ops.toList []) l)) = false →
          S2.H = (forget S ops.toList).H → S2.lim = (forget S ops.toList).lim → (∀ t, S2.sl t = (forget S ops.toList).sl t ∨ ∃ p, S2.sl t = .pv p ∧ S1.sl t = .pv p) → S' = { S2 with nx := S.nx + ops.size } →
          (Code.region id ops draw).wp P Q a w ∧ S'.lim = S.lim ∧ S.nx ≤ S'.nx := by
        rintro S1 S2 l hrun hchk k1 k2 k3 rfl
        obtain ⟨f1, f2, _⟩ := forget_sl 0 ops.toList S
        rw [f1] at k1
        rw [f2] at k2
        refine ⟨?_, k2, Nat.le_add_right _ _⟩
        have hin : Sim base okx w0 n ρ S.H w true ρ { S with lim := S.nx } a w := ⟨h.wr, h.sl, h.size, h.defers, fun _ => ⟨Evo.refl _ _ _ _, fun _ _ => rfl⟩⟩
        refine run_region_wp (S := { S with lim := S.nx }) hT hG hd hmix hsz hin hfree (Nat.le_refl _) hrun (chk hchk) fun ρ' a' w' h' hf' => ?_
        obtain ⟨he, hlow⟩ := h'.fr rfl
        have hl1 := (lrun_nx hrun).2.1
        have hH : ∀ id o, S.H id = some o → S1.H id = some o := by
          intro id o ho
          by_cases hid : id < S.nx
          · exact (hlow id (by rw [hl1]; exact hid)).trans ho
          · rw [h.wr.hnone (hfree id (by omega))] at ho; cases ho
        obtain ⟨e1, e2, e3⟩ := drop_new h.wr he h'.wr hH
        refine hQ ρ a' w' ⟨?_, fun t => ?_, h'.size, h'.defers, fun hf => ?_⟩ (fun id hid => hfree id (by simp only at hid; omega))
        · show WR base okx w0 w' ρ S2.H
          rw [k1]; exact e2
        · show LR w' (okF base okx S2.H ρ) ρ S2.H (a'.eval (.tmp t)) (S2.sl t)
          rw [k1]
          have := h'.sl t
          rcases k3 t with k3 | ⟨p, g1, g2⟩
          · rw [k3]
            obtain ⟨_, _, f3⟩ := forget_sl t ops.toList S
            rcases f3 with f3 | ⟨f3, f4⟩
            · rw [f3]; exact .any _
            · rw [f3]
              rw [lrun_sl (fun i o ho => f4 o (by rw [← Array.getElem?_toList] at ho; exact List.mem_of_getElem? ho)) hrun] at this
              exact (h.sl t).back hH (rho_same he hH) e3 this
          · rw [g1]
            rw [g2] at this
            exact .pv _ _ (this.pvI.okmono fun b o _ _ hb => e3 b o hb)
        · show Evo (okF base okx H0 ρ0) ρ0 H0 w1 (okF base okx S2.H ρ) ρ S2.H w' ∧ ∀ id, id < S2.lim → S2.H id = H0 id
          rw [k1, k2]
          exact ⟨(h.fr hf).1.trans e1, (h.fr hf).2⟩
      split at hs
      · rw [is_bind] at hs
        obtain ⟨p, hp, hs⟩ := hs
        rw [is_told, is_bind] at hp
        obtain ⟨⟨S1, l⟩, hrun, hp⟩ := hp
        simp only [is_cond, is_fail, and_false, false_or, asPure_is] at hp
        obtain ⟨hchk, hp⟩ := hp
        rw [is_pure] at hs
        refine key (S2 := (forget S ops.toList).set (some d) (.pv p)) hrun hchk rfl rfl (fun t => ?_) hs.symm
        rw [set_sl]
        by_cases ht : some t = some d
        · rw [if_pos ht]
          injection ht with ht
          subst ht
          exact .inr ⟨p, rfl, hp⟩
        · rw [if_neg ht]; exact .inl rfl
      · rename_i e es _
        rw [is_bind] at hs
        obtain ⟨v, hp, hs⟩ := hs
        rw [is_told, is_bind] at hp
        obtain ⟨⟨S1, l⟩, hrun, hp⟩ := hp
        simp only [is_cond, is_fail, and_false, false_or, is_bind, is_pure] at hp
        obtain ⟨hchk, qs, hq, rfl⟩ := hp
        rw [is_bind] at hs
        obtain ⟨S2, h2, hs⟩ := hs
        rw [is_pure] at hs
        obtain ⟨k1, k2, _, k4⟩ := keepL_is h2
        refine key hrun hchk k1 k2 (fun t => ?_) hs.symm
        rcases k4 t with k4 | ⟨j, p, g1, g2, g3⟩
        · exact .inl k4
        · obtain ⟨p', q1, q2⟩ := pureSl_is hq j t g1
          simp only [Nat.zero_add, pnth] at g2
          rw [q1] at g2
          injection g2 with g2
          subst g2
          exact .inr ⟨p', g3, q2⟩
  · rw [is_bind] at hs
    obtain ⟨⟨S1, l⟩, hrun, hs⟩ := hs
    simp only [is_cond, is_fail, and_false, false_or, is_pure] at hs
    obtain ⟨hchk, rfl⟩ := hs
    obtain ⟨n1, n2, _⟩ := lrun_nx hrun
    refine ⟨?_, n2, Nat.le_add_right _ _⟩
    exact run_region_wp hT hG hd hmix hsz h hfree hlim hrun (chk hchk) fun ρ' a' w' h' hf' => hQ ρ' a' w' ⟨h'.wr, h'.sl, h'.size, h'.defers, h'.fr⟩ hf'
end
end Go.Bw
