/- Code against the machine's: kept parts, branches, loops. No statement of a law is proved here. -/
import Derived.Test.YtbmgafmmaihmfaaDoorL22
import Derived.LoopN
set_option linter.unusedVariables false
set_option linter.unusedSimpArgs false
namespace Go.Bw
open Go.RowKit M

theorem normSl_get (f : Nat → LV) (t : Nat) : ∀ (l : List Nat), normSl f l t = if t ∈ l then f t else .any
  | [] => by simp [normSl]
  | s :: r => by
    simp only [normSl]
    by_cases h : t = s
    · subst h; rw [supd_same, if_pos List.mem_cons_self]
    · rw [supd_other _ _ _ h, normSl_get f t r]
      simp [h]
theorem normH_get (H : Heap) (t : Nat) : ∀ (l : List Nat), normH H l t = if t ∈ l then H t else none
  | [] => by simp [normH]
  | s :: r => by
    simp only [normH]
    by_cases h : t = s
    · subst h
      rw [if_pos List.mem_cons_self]
      cases hh : H t with
      | none => simp only []; rw [normH_get H t r, hh]; simp
      | some o => exact hset_same _ _ _
    · have : (if t ∈ s :: r then H t else none) = if t ∈ r then H t else none := by simp [h]
      rw [this]
      cases hh : H s with
      | none => exact normH_get H t r
      | some o => simp only []; rw [hset_other _ _ _ h]; exact normH_get H t r
theorem normSl_congr {f g : Nat → LV} {l : List Nat} (h : ∀ s, s ∈ l → f s = g s) : normSl f l = normSl g l := by
  funext t
  rw [normSl_get, normSl_get]
  by_cases ht : t ∈ l
  · rw [if_pos ht, if_pos ht, h t ht]
  · rw [if_neg ht, if_neg ht]
theorem normH_congr {f g : Heap} {l : List Nat} (h : ∀ s, s ∈ l → f s = g s) : normH f l = normH g l := by
  funext t
  rw [normH_get, normH_get]
  by_cases ht : t ∈ l
  · rw [if_pos ht, if_pos ht, h t ht]
  · rw [if_neg ht, if_neg ht]
theorem norm0_is {t : Tpl} {S S' : LS} : (norm0 t S).Is S' ↔ (t.keep = true ∧ S' = { S with sl := normSl S.sl t.slots }) ∨
    (t.keep = false ∧ (∀ s, s ∈ t.slots → (S.sl s).idsIn t.ids = true) ∧ (∀ i, i ∈ t.ids → i < t.nx ∧ ∀ o, S.H i = some o → o.idsIn t.ids = true) ∧ S.lim = 0 ∧ S' = ⟨normSl S.sl t.slots, normH S.H t.ids, t.nx, S.lim⟩) := by
  unfold norm0
  rw [is_cond]
  refine or_congr ?_ ?_
  · rw [is_pure]
    exact and_congr Iff.rfl ⟨fun h => h.symm, fun h => h.symm⟩
  · refine and_congr Iff.rfl ?_
    rw [is_cond]
    simp only [is_fail, and_false, or_false, is_pure, Bool.and_eq_true, List.all_eq_true]
    constructor
    · rintro ⟨⟨⟨h1, h2⟩, h3⟩, h4⟩
      refine ⟨h1, fun i hi => ?_, Nat.eq_of_beq_eq_true h3, h4.symm⟩
      obtain ⟨q1, q2⟩ := h2 i hi
      refine ⟨Nat.le_of_ble_eq_true q1, fun o ho => ?_⟩
      rw [ho] at q2
      exact q2
    · rintro ⟨h1, h2, h3, h4⟩
      refine ⟨⟨⟨h1, fun i hi => ?_⟩, by rw [h3]; rfl⟩, h4.symm⟩
      obtain ⟨q1, q2⟩ := h2 i hi
      refine ⟨Nat.ble_eq_true_of_le q1, ?_⟩
      cases ho : S.H i with
      | none => rfl
      | some o => exact q2 o ho
theorem norm_is {t : Tpl} {S S' : LS} : (norm t S).Is S' → (norm0 t S).Is S' ∨ (S.lim = 0 ∧ ∃ S1, (tell t.told S).Is S1 ∧ (norm0 t S1).Is S') := by
  intro h
  unfold norm at h
  cases ht : t.told with
  | nil => simp only [ht] at h; exact .inl h
  | cons s r =>
    simp only [ht, is_cond, is_fail, and_false, or_false, is_bind] at h
    exact .inr ⟨Nat.eq_of_beq_eq_true h.1, h.2⟩
theorem tell_nx : ∀ {l : List Nat} {S S' : LS}, (tell l S).Is S' → S'.nx = S.nx ∧ S'.lim = S.lim
  | [], S, S', h => by simp only [tell, is_pure] at h; subst h; exact ⟨rfl, rfl⟩
  | s :: r, S, S', h => by
    simp only [tell] at h
    split at h
    · rw [is_bind] at h
      obtain ⟨p, _, h⟩ := h
      have := tell_nx h
      exact this
    · exact tell_nx h
theorem norm0_eq {t : Tpl} {S0 S m : LS} (h : (norm0 t S0).Is S) (hk : t.keep = false) (h1 : ∀ s, s ∈ t.slots → S.sl s = m.sl s) (h2 : ∀ i, i ∈ t.ids → S.H i = m.H i) (m1 : m.sl = normSl m.sl t.slots) (m2 : m.H = normH m.H t.ids) (m3 : m.nx = t.nx) (m4 : m.lim = 0) : S = m := by
  rcases norm0_is.1 h with ⟨hk', _⟩ | ⟨_, _, _, hl, rfl⟩
  · rw [hk] at hk'; cases hk'
  · have e1 : normSl S0.sl t.slots = m.sl := by
      rw [m1, ← normSl_congr h1]
      funext s
      simp only [normSl_get]
      split <;> rfl
    have e2 : normH S0.H t.ids = m.H := by
      rw [m2, ← normH_congr h2]
      funext s
      simp only [normH_get]
      split <;> rfl
    cases m
    simp only at e1 e2 m3 m4
    rw [e1, e2, ← m3, hl, m4]

/-- A kept state is the one that a summary tells. -/
theorem norm_eq {t : Tpl} {S0 S m : LS} (h : (norm t S0).Is S) (hk : t.keep = false) (h1 : ∀ s, s ∈ t.slots → S.sl s = m.sl s) (h2 : ∀ i, i ∈ t.ids → S.H i = m.H i) (m1 : m.sl = normSl m.sl t.slots) (m2 : m.H = normH m.H t.ids) (m3 : m.nx = t.nx) (m4 : m.lim = 0) : S = m := by
  rcases norm_is h with h | ⟨_, S1, _, h⟩
  · exact norm0_eq h hk h1 h2 m1 m2 m3 m4
  · exact norm0_eq h hk h1 h2 m1 m2 m3 m4
section
variable {base : Nat} {okx : Nat → Nat → Prop} {w0 : World} {n : Nat} {ρ0 : Rho} {H0 : Heap} {w1 : World} {fx : Bool} {P : Program} {T : Nat → TI} {G : Nat → Option Given} {S S' : LS} {a : Act} {w w' : World} {ρ ρ' : Rho} {H H' : Heap}
theorem LR.restrict {ok ok' : Nat → Nat → Prop} {ids : List Nat} {v : Value} {l : LV} (h : LR w ok ρ H v l) (hi : l.idsIn ids = true) (hok : ∀ b o, ok b o → ok' b o) (hρ : ∀ id, id ∈ ids → ρ' id = ρ id) (hH : ∀ id, id ∈ ids → H' id = H id) : LR w ok' ρ' H' v l := by
  cases l with
  | any => exact .any _
  | pv p => exact .pv _ _ (h.pvI.okmono fun b o _ _ hb => hok b o hb)
  | ptr id off =>
    have hm : id ∈ ids := by simpa [LV.idsIn] using hi
    obtain ⟨r, hr, hb, ha⟩ := h.ptrI
    exact .ptr _ id off r ((hρ id hm).trans hr) (fun c hc => hb c ((hH id hm) ▸ hc)) ha
  | eptr cs off =>
    obtain ⟨b, o, rfl, hs, hh⟩ := h.eptrI
    refine .eptr b o cs off hs fun j c hj => ?_
    obtain ⟨u, h1, h2, h3⟩ := hh j c hj
    exact ⟨u, h1, hok _ _ h2, h3.okmono fun b o _ _ hb => hok b o hb⟩
  | osl id len =>
    have hm : id ∈ ids := by simpa [LV.idsIn] using hi
    obtain ⟨r, hr, hb, ha⟩ := h.oslI
    exact .osl _ id len r ((hρ id hm).trans hr) (fun e sz xs s hc => hb e sz xs s ((hH id hm) ▸ hc)) ha
  | optr id len i off =>
    have hm : id ∈ ids := by simpa [LV.idsIn] using hi
    obtain ⟨r, hr, hb, ha⟩ := h.optrI
    exact .optr _ id len i off r ((hρ id hm).trans hr) (fun e sz xs s hc => hb e sz xs s ((hH id hm) ▸ hc)) ha
  | clo f caps =>
    obtain ⟨vs, rfl, hl, hh⟩ := h.cloI
    refine .clo f vs caps hl fun i v c h1 h2 => ?_
    have hc := List.all_eq_true.1 hi c (List.mem_of_getElem? h2)
    have hv := hh i v c h1 h2
    cases c <;> simp only [LV.closed1, Bool.false_eq_true] at hc
    · exact .pv _ _ (hv.pvI.okmono fun b o _ _ hb => hok b o hb)
    · obtain ⟨b, o, rfl, hs, hh⟩ := hv.eptrI
      refine .eptr b o _ _ hs fun j c hj => ?_
      obtain ⟨u, h1, h2, h3⟩ := hh j c hj
      exact ⟨u, h1, hok _ _ h2, h3.okmono fun b o _ _ hb => hok b o hb⟩
    · rename_i g caps'
      cases caps' with
      | cons => simp [LV.closed1] at hc
      | nil =>
        obtain ⟨vs, rfl, hl, _⟩ := hv.cloI
        exact .clo g vs [] hl (by simp)
  | agg => simp [LV.idsIn] at hi
  | tup => simp [LV.idsIn] at hi
theorem norm0_sim {t : Tpl} (h : Sim base okx w0 n ρ0 H0 w1 fx ρ S a w) (hfree : ∀ id, S.nx ≤ id → ρ id = none) (hfx : fx = true → S.lim ≠ 0) (hs : (norm0 t S).Is S') :
    ∃ ρ', Sim base okx w0 n ρ0 H0 w1 fx ρ' S' a w ∧ ∀ id, S'.nx ≤ id → ρ' id = none := by
  rcases norm0_is.1 hs with ⟨_, rfl⟩ | ⟨_, h1, h2, h3, rfl⟩
  · refine ⟨ρ, ⟨h.wr, fun t' => ?_, h.size, h.defers, h.fr⟩, hfree⟩
    show LR w (okF base okx S.H ρ) ρ S.H (a.eval (.tmp t')) (normSl S.sl t.slots t')
    rw [normSl_get]
    split
    · exact h.sl t'
    · exact .any _
  · let ρ' : Rho := fun id => if id ∈ t.ids then ρ id else none
    have hρ : ∀ id, id ∈ t.ids → ρ' id = ρ id := fun id hid => if_pos hid
    have hH : ∀ id, id ∈ t.ids → normH S.H t.ids id = S.H id := fun id hid => by rw [normH_get, if_pos hid]
    have hρ2 : ∀ id r, ρ' id = some r → id ∈ t.ids ∧ ρ id = some r := by
      intro id r hr
      by_cases hid : id ∈ t.ids
      · exact ⟨hid, (hρ id hid) ▸ hr⟩
      · simp only [ρ', if_neg hid] at hr; cases hr
    have hH2 : ∀ id o, normH S.H t.ids id = some o → id ∈ t.ids ∧ S.H id = some o := by
      intro id o ho
      rw [normH_get] at ho
      split at ho
      · exact ⟨by assumption, ho⟩
      · cases ho
    have hok : ∀ b o, okF base okx S.H ρ b o → okF base okx (normH S.H t.ids) ρ' b o := by
      rintro b o ⟨g1, g2⟩
      refine ⟨g1, ?_⟩
      rintro ⟨id, r, ob, q1, q2, q3⟩
      exact g2 ⟨id, r, ob, (hρ2 id r q1).2, (hH2 id ob q2).2, q3⟩
    refine ⟨ρ', ⟨⟨h.wr.below, h.wr.size, fun id o ho => ?_, fun id id' r r' b hne g1 g2 hr hr' hb => ?_, h.wr.gl⟩, fun t' => ?_, h.size, h.defers, fun hf => absurd h3 (hfx hf)⟩, fun id hid => ?_⟩
    · obtain ⟨hm, ho⟩ := hH2 id o ho
      obtain ⟨r, hr, hob⟩ := h.wr.obj id o ho
      refine ⟨r, (hρ id hm).trans hr, ?_⟩
      have hin := (h2 id hm).2 o ho
      cases o with
      | box c =>
        obtain ⟨b, vs, e, g1, g2, g3, hc⟩ := hob
        refine ⟨b, vs, e, g1, g2, g3, ?_⟩
        cases c with
        | pure cs => exact ⟨hc.1, hc.2.1, fun i v c h1 h2 => (hc.2.2 i v c h1 h2).okmono fun b o _ _ hb => hok b o hb⟩
        | mix cs =>
          refine ⟨hc.1, hc.2.1, fun i v c h1 h2 => (hc.2.2 i v c h1 h2).restrict ?_ hok hρ hH⟩
          exact List.all_eq_true.1 hin c (List.mem_of_getElem? h2)
      | sl e sz xs s =>
        obtain ⟨vs, hown, hrows⟩ := hob
        exact ⟨vs, hown, hrows.1, hrows.2.1, fun i cs j c h1 h2 => by
          obtain ⟨v, h3, h4⟩ := hrows.2.2 i cs j c h1 h2
          exact ⟨v, h3, h4.okmono fun b o _ _ hb => hok b o hb⟩⟩
    · obtain ⟨_, hr⟩ := hρ2 id r hr
      obtain ⟨_, hr'⟩ := hρ2 id' r' hr'
      cases hq : normH S.H t.ids id with
      | none => exact absurd hq g1
      | some o =>
        cases hq' : normH S.H t.ids id' with
        | none => exact absurd hq' g2
        | some o' => exact h.wr.apart id id' r r' b hne (by rw [(hH2 id o hq).2]; simp) (by rw [(hH2 id' o' hq').2]; simp) hr hr' hb
    · show LR w (okF base okx (normH S.H t.ids) ρ') ρ' (normH S.H t.ids) (a.eval (.tmp t')) (normSl S.sl t.slots t')
      rw [normSl_get]
      split
      · rename_i hm
        exact (h.sl t').restrict (h1 t' hm) hok hρ hH
      · exact .any _
    · by_cases hm : id ∈ t.ids
      · have := (h2 id hm).1
        simp only at hid
        omega
      · exact if_neg hm
theorem tell_sim (hfx : fx = true → S.lim ≠ 0) : ∀ {l : List Nat} {S S' : LS}, S.lim = 0 → (fx = true → False) → Sim base okx w0 n ρ0 H0 w1 fx ρ S a w → (tell l S).Is S' → Sim base okx w0 n ρ0 H0 w1 fx ρ S' a w
  | [], S, S', hl, hf, h, hs => by simp only [tell, is_pure] at hs; subst hs; exact h
  | s :: r, S, S', hl, hf, h, hs => by
    simp only [tell] at hs
    split at hs
    · rename_i id len hsl
      rw [is_bind] at hs
      obtain ⟨p, hp, hs⟩ := hs
      have hv := h.sl s
      rw [hsl] at hv
      obtain ⟨e1, w1, p1⟩ := purify_rel h.wr hp hv
      rw [← snapL_one] at e1 w1 p1
      refine tell_sim hfx (S := { S with sl := supd S.sl s (.pv p), H := snapL S.H [.osl id len] }) hl hf ⟨w1, fun t => ?_, h.size, h.defers, fun hh => (hf hh).elim⟩ hs
      show LR w (okF base okx (snapL S.H [.osl id len]) ρ) ρ (snapL S.H [.osl id len]) (a.eval (.tmp t)) (supd S.sl s (.pv p) t)
      by_cases ht : t = s
      · subst ht; rw [supd_same]; exact .pv _ _ p1
      · rw [supd_other _ _ _ ht]; exact (h.sl t).evo e1
    · exact tell_sim hfx hl hf h hs
theorem norm_sim {t : Tpl} (h : Sim base okx w0 n ρ0 H0 w1 fx ρ S a w) (hfree : ∀ id, S.nx ≤ id → ρ id = none) (hfx : fx = true → S.lim ≠ 0) (hs : (norm t S).Is S') :
    ∃ ρ', Sim base okx w0 n ρ0 H0 w1 fx ρ' S' a w ∧ ∀ id, S'.nx ≤ id → ρ' id = none := by
  rcases norm_is hs with hs | ⟨hl, S1, h1, hs⟩
  · exact norm0_sim h hfree hfx hs
  · obtain ⟨e1, e2⟩ := tell_nx h1
    exact norm0_sim (tell_sim hfx hl (fun hf => hfx hf hl) h h1) (by rw [e1]; exact hfree) (by rw [e2]; exact hfx) hs
theorem normOpt_sim {t : Option Tpl} (h : Sim base okx w0 n ρ0 H0 w1 fx ρ S a w) (hfree : ∀ id, S.nx ≤ id → ρ id = none) (hfx : fx = true → S.lim ≠ 0) (hs : (normOpt t S).Is S') :
    ∃ ρ', Sim base okx w0 n ρ0 H0 w1 fx ρ' S' a w ∧ ∀ id, S'.nx ≤ id → ρ' id = none := by
  cases t with
  | none => simp only [normOpt, is_pure] at hs; subst hs; exact ⟨ρ, h, hfree⟩
  | some t => exact norm_sim h hfree hfx hs
theorem normOpt_lim {t : Option Tpl} (hl : S.lim ≤ S.nx) (hs : (normOpt t S).Is S') : S'.lim = S.lim ∧ S'.lim ≤ S'.nx := by
  cases t with
  | none => simp only [normOpt, is_pure] at hs; subst hs; exact ⟨rfl, hl⟩
  | some t =>
    rcases norm_is hs with hs | ⟨_, S1, h1, hs⟩
    · rcases norm0_is.1 hs with ⟨_, rfl⟩ | ⟨_, h1, h2, h3, rfl⟩
      · exact ⟨rfl, hl⟩
      · exact ⟨rfl, by simp only; omega⟩
    · obtain ⟨e1, e2⟩ := tell_nx h1
      rcases norm0_is.1 hs with ⟨_, rfl⟩ | ⟨_, h1, h2, h3, rfl⟩
      · exact ⟨e2, by simp only; omega⟩
      · exact ⟨e2, by simp only; omega⟩
end
end Go.Bw
