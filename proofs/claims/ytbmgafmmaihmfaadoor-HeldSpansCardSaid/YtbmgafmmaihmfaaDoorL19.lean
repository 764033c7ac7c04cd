/- Two operations whose order doesn't matter. No statement of a law is proved here. -/
import Derived.Test.YtbmgafmmaihmfaaDoorL18
set_option linter.unusedVariables false
set_option linter.unusedSimpArgs false
namespace Go.Bw
open Go.RowKit M

section
variable {T : Nat → TI} {G : Nat → Option Given} {o : Oper} {nid : Nat} {ev ev' : Operand → LV}
theorem buildParts_congr (t : Nat) {l : List (Nat × Operand)} (h : ∀ p, p ∈ l → ev p.2 = ev' p.2) : buildParts T t ev l = buildParts T t ev' l := by
  induction l with
  | nil => rfl
  | cons p r ih =>
    obtain ⟨i, x⟩ := p
    simp only [buildParts]
    rw [ih fun q hq => h q (List.mem_cons_of_mem _ hq), h (i, x) List.mem_cons_self]
theorem elemsOf_congr (e : Nat) {l : List (Nat × Operand)} (h : ∀ p, p ∈ l → ev p.2 = ev' p.2) : elemsOf T e ev l = elemsOf T e ev' l := by
  induction l with
  | nil => rfl
  | cons p r ih =>
    obtain ⟨i, x⟩ := p
    simp only [elemsOf]
    rw [ih fun q hq => h q (List.mem_cons_of_mem _ hq), h (i, x) List.mem_cons_self]
theorem boundOf_congr {x : Option Operand} {d : Int} (h : ∀ y, x = some y → ev y = ev' y) : boundOf ev x d = boundOf ev' x d := by
  cases x with
  | none => rfl
  | some y => simp only [boundOf]; rw [h y rfl]
theorem moveSem_congr {t : Nat} {x : Operand} (h : ev x = ev' x) : moveSem T t x ev nid = moveSem T t x ev' nid := by
  unfold moveSem; rw [h]
theorem lop_congr (h : ∀ x, x ∈ o.op.operands → ev x = ev' x) : lop T G o ev nid = lop T G o ev' nid := by
  obtain ⟨dst, op, type, pos, after, guard⟩ := o
  have parts : ∀ (ps : Array (Nat × Operand)), (∀ x, x ∈ ps.map (·.2) → ev x = ev' x) → ∀ p, p ∈ ps.toList → ev p.2 = ev' p.2 := fun ps hp p hm => hp p.2 (Array.mem_map.2 ⟨p, by simpa using hm, rfl⟩)
  cases op <;> simp only [Op.operands] at h <;> unfold lop <;> simp only
  case move x => exact moveSem_congr (h x (by simp))
  case assign x => exact moveSem_congr (h x (by simp))
  case build t ps => rw [buildParts_congr t (parts ps fun x hx => h x (by simpa using hx))]
  case buildSlice t k ps =>
    have : ∀ e, elemsOf T e ev ps.toList = elemsOf T e ev' ps.toList := fun e => elemsOf_congr e (parts ps fun x hx => h x (by simpa using hx))
    simp only [this]
  case makeFunc fn first caps =>
    cases fn <;> try rfl
    have : caps.toList.map ev = caps.toList.map ev' := List.map_congr_left fun x hx => h x (by simp at hx; simp [hx])
    simp only [this]
  case call c =>
    have h1 : c.args.toList.map ev = c.args.toList.map ev' := List.map_congr_left fun x hx => h x (by simp at hx; simp [Call.operands, hx])
    simp only [h1]
    cases hc : c.callee with
    | value f => simp only [h f (by simp [Call.operands, hc])]
    | _ => rfl
  case slice t x lo hi mx =>
    have h1 : ev x = ev' x := h x (by simp)
    have h2 : ∀ d, boundOf ev lo d = boundOf ev' lo d := fun d => boundOf_congr fun y hy => h y (by subst hy; simp)
    have h3 : ∀ d, boundOf ev hi d = boundOf ev' hi d := fun d => boundOf_congr fun y hy => h y (by subst hy; simp)
    simp only [h1, h2, h3]
  all_goals (first | rfl | (simp only [Array.mem_def, List.mem_cons, List.not_mem_nil, or_false, forall_eq_or_imp, forall_eq] at h; simp only [h]))
end

/-- What it looks at is the same. -/
def Dep (f : Fp) (H H2 : Heap) : Prop := ((f.rall = true ∨ f.wall = true) → H2 = H) ∧ ∀ id, (id ∈ f.rd ∨ id ∈ f.wr) → H2 id = H id
theorem exec_dep {s : LSem} {nid lim : Nat} {H H' H2 : Heap} {v : LV} (h : (exec s nid lim H).Is (v, H')) (hd : Dep (fpOf s nid) H H2) :
    ∃ H2', (exec s nid lim H2).Is (v, H2') ∧ (∀ id, ((fpOf s nid).wall = true ∨ id ∈ (fpOf s nid).wr) → H2' id = H' id) ∧ (∀ id, ¬ ((fpOf s nid).wall = true ∨ id ∈ (fpOf s nid).wr) → H2' id = H2 id) ∧
      (∀ id, ¬ ((fpOf s nid).wall = true ∨ id ∈ (fpOf s nid).wr) → H' id = H id) := by
  cases s with
  | val u =>
    obtain ⟨rfl, rfl⟩ := exec_val h
    exact ⟨H2, by simp [exec, is_pure], by simp [fpOf], fun _ _ => rfl, fun _ _ => rfl⟩
  | new ob u =>
    obtain ⟨rfl, rfl⟩ := exec_new h
    refine ⟨hset H2 nid ob, by simp [exec, is_pure], fun id hid => ?_, fun id hid => ?_, fun id hid => ?_⟩
    · simp [fpOf] at hid; subst hid; rw [hset_same, hset_same]
    · simp [fpOf] at hid; exact hset_other _ _ _ hid
    · simp [fpOf] at hid; exact hset_other _ _ _ hid
  | get i f =>
    obtain ⟨ob, h1, h2, rfl⟩ := exec_get h
    have := hd.2 i (.inl (by simp [fpOf]))
    refine ⟨H2, ?_, by simp [fpOf], fun _ _ => rfl, fun _ _ => rfl⟩
    simp only [exec, this, h1, is_bind, is_pure]
    exact ⟨v, h2, rfl⟩
  | mod i f =>
    have h' := h
    simp only [exec, is_cond, is_fail, and_false, or_false] at h'
    obtain ⟨ob, ob', h1, h2, rfl⟩ := exec_mod h
    have := hd.2 i (.inr (by simp [fpOf]))
    refine ⟨hset H2 i ob', ?_, fun id hid => ?_, fun id hid => ?_, fun id hid => ?_⟩
    · simp only [exec, h'.1, cond_true, this, h1, is_bind, is_pure]
      exact ⟨(v, ob'), h2, rfl⟩
    · simp [fpOf] at hid; subst hid; rw [hset_same, hset_same]
    · simp [fpOf] at hid; exact hset_other _ _ _ hid
    · simp [fpOf] at hid; exact hset_other _ _ _ hid
  | mod2 r i f =>
    have h' := h
    simp only [exec, is_cond, is_fail, and_false, or_false] at h'
    obtain ⟨o2, ob, ob', h0, h1, h2, rfl⟩ := exec_mod2 h
    have e1 := hd.2 i (.inr (by simp [fpOf]))
    have e2 := hd.2 r (.inl (by simp [fpOf]))
    refine ⟨hset H2 i ob', ?_, fun id hid => ?_, fun id hid => ?_, fun id hid => ?_⟩
    · simp only [exec, h'.1, cond_true, e1, e2, h0, h1, is_bind, is_pure]
      exact ⟨(v, ob'), h2, rfl⟩
    · simp [fpOf] at hid; subst hid; rw [hset_same, hset_same]
    · simp [fpOf] at hid; exact hset_other _ _ _ hid
    · simp [fpOf] at hid; exact hset_other _ _ _ hid
  | take i f =>
    have h' := h
    simp only [exec, is_cond, is_fail, and_false, or_false] at h'
    obtain ⟨ob, h1, h2, rfl⟩ := exec_take h
    have := hd.2 i (.inr (by simp [fpOf]))
    refine ⟨hdel H2 i, ?_, fun id hid => ?_, fun id hid => ?_, fun id hid => ?_⟩
    · simp only [exec, h'.1, cond_true, this, h1, is_bind, is_pure]
      exact ⟨v, h2, rfl⟩
    · simp [fpOf] at hid; subst hid; rw [hdel_same, hdel_same]
    · simp [fpOf] at hid; exact hdel_other _ _ hid
    · simp [fpOf] at hid; exact hdel_other _ _ hid
  | take2 r i f =>
    have h' := h
    simp only [exec, is_cond, is_fail, and_false, or_false] at h'
    obtain ⟨_, o2, ob, h0, h1, h2, rfl⟩ := exec_take2 h
    have e1 := hd.2 i (.inr (by simp [fpOf]))
    have e2 := hd.2 r (.inl (by simp [fpOf]))
    refine ⟨hdel H2 i, ?_, fun id hid => ?_, fun id hid => ?_, fun id hid => ?_⟩
    · simp only [exec, h'.1, cond_true, e1, e2, h0, h1, is_bind, is_pure]
      exact ⟨v, h2, rfl⟩
    · simp [fpOf] at hid; subst hid; rw [hdel_same, hdel_same]
    · simp [fpOf] at hid; exact hdel_other _ _ hid
    · simp [fpOf] at hid; exact hdel_other _ _ hid
  | globR f =>
    have := hd.1 (.inl rfl)
    subst this
    obtain ⟨h1, rfl⟩ := exec_globR h
    exact ⟨H', h, fun _ _ => rfl, fun _ _ => rfl, fun _ _ => rfl⟩
  | glob f =>
    have := hd.1 (.inl rfl)
    subst this
    exact ⟨H', h, fun _ _ => rfl, fun id hid => absurd (Or.inl rfl) hid, fun id hid => absurd (Or.inl rfl) hid⟩

section
variable {S S' S1 S2 : LS} {T : Nat → TI} {G : Nat → Option Given} {ops : Array Oper} {o x y : Oper} {nid : Nat} {f g : Fp}
/-- A step: its value, the heap after it. -/
def Eff (T : Nat → TI) (G : Nat → Option Given) (ops : Array Oper) (o : Oper) (nid lim : Nat) (sl : Nat → LV) (H : Heap) (v : LV) (H' : Heap) (f : Fp) : Prop :=
  (∃ s, (lop T G o (LS.ev ⟨sl, H, 0, 0⟩) nid).Is s ∧ (exec s nid lim H).Is (v, H') ∧ f = fpOf s nid ∧
    (o.guard = none ∨ ∃ g want d, o.guard = some (g, want) ∧ dstOf ops g = some d ∧ sl d = .pv (.bool want))) ∨
  (v = .tup [] ∧ H' = H ∧ f = ⟨[], [], false, false⟩ ∧ ∃ g want d, o.guard = some (g, want) ∧ dstOf ops g = some d ∧ (sl d = .pv (.bool (!want)) ∨ sl d = .tup []))
theorem ev_eq (S : LS) : S.ev = LS.ev ⟨S.sl, S.H, 0, 0⟩ := by funext x; cases x <;> rfl
theorem lstepG_eff {F : LS × Fp} : (lstepG T G ops o nid S).Is F ↔ ∃ v H', Eff T G ops o nid S.lim S.sl S.H v H' F.2 ∧ F.1 = { S with sl := (S.set o.dst v).sl, H := H' } := by
  rw [lstepG_is]
  constructor
  · rintro (⟨hg, hs⟩ | ⟨g, want, d, hg, hdo, hs⟩)
    · obtain ⟨s, v, H', h1, h2, rfl⟩ := lstep_is.1 hs
      exact ⟨v, H', .inl ⟨s, ev_eq S ▸ h1, h2, rfl, .inl hg⟩, rfl⟩
    · rcases hs with ⟨hsl, hs⟩ | ⟨hsl, rfl⟩
      · obtain ⟨s, v, H', h1, h2, rfl⟩ := lstep_is.1 hs
        exact ⟨v, H', .inl ⟨s, ev_eq S ▸ h1, h2, rfl, .inr ⟨g, want, d, hg, hdo, hsl⟩⟩, rfl⟩
      · refine ⟨.tup [], S.H, .inr ⟨rfl, rfl, rfl, g, want, d, hg, hdo, hsl⟩, ?_⟩
        cases o.dst <;> rfl
  · rintro ⟨v, H', h, hF⟩
    obtain ⟨F1, F2⟩ := F
    simp only at hF
    subst hF
    rcases h with ⟨s, h1, h2, rfl, hg | ⟨g, want, d, hg, hdo, hsl⟩⟩ | ⟨rfl, rfl, hf, g, want, d, hg, hdo, hsl⟩
    · exact .inl ⟨hg, lstep_is.2 ⟨s, v, H', (ev_eq S).symm ▸ h1, h2, rfl⟩⟩
    · exact .inr ⟨g, want, d, hg, hdo, .inl ⟨hsl, lstep_is.2 ⟨s, v, H', (ev_eq S).symm ▸ h1, h2, rfl⟩⟩⟩
    · simp only at hf
      subst hf
      refine .inr ⟨g, want, d, hg, hdo, .inr ⟨hsl, ?_⟩⟩
      cases o.dst <;> rfl
theorem eff_dep {lim : Nat} {sl sl2 : Nat → LV} {H H' H2 : Heap} {v : LV} (h : Eff T G ops o nid lim sl H v H' f) (hsl : ∀ d, d ∈ o.looksAt ops → sl2 d = sl d) (hd : Dep f H H2) :
    ∃ H2', Eff T G ops o nid lim sl2 H2 v H2' f ∧ (∀ id, (f.wall = true ∨ id ∈ f.wr) → H2' id = H' id) ∧ (∀ id, ¬ (f.wall = true ∨ id ∈ f.wr) → H2' id = H2 id) ∧ (∀ id, ¬ (f.wall = true ∨ id ∈ f.wr) → H' id = H id) := by
  have look : ∀ g want d, o.guard = some (g, want) → dstOf ops g = some d → d ∈ o.looksAt ops := by
    intro g want d hg hdo
    refine List.mem_append_right _ ?_
    simp only [hg]
    unfold dstOf at hdo
    rw [hdo]; simp
  have hev : ∀ z, z ∈ o.op.operands → LS.ev ⟨sl, H, 0, 0⟩ z = LS.ev ⟨sl2, H2, 0, 0⟩ z := by
    intro z hz
    cases z with
    | tmp t => exact (hsl t (List.mem_append_left _ (List.mem_filterMap.2 ⟨.tmp t, by simpa using hz, rfl⟩))).symm
    | _ => rfl
  rcases h with ⟨s, h1, h2, rfl, hg⟩ | ⟨rfl, rfl, rfl, g, want, d, hg, hdo, hsld⟩
  · obtain ⟨H2', e1, e2, e3, e4⟩ := exec_dep h2 hd
    refine ⟨H2', .inl ⟨s, ?_, e1, rfl, ?_⟩, e2, e3, e4⟩
    · rw [← lop_congr hev]; exact h1
    · rcases hg with hg | ⟨g, want, d, hg, hdo, hsld⟩
      · exact .inl hg
      · exact .inr ⟨g, want, d, hg, hdo, (hsl d (look g want d hg hdo)).trans hsld⟩
  · exact ⟨H2, .inr ⟨rfl, rfl, rfl, g, want, d, hg, hdo, by rw [hsl d (look g want d hg hdo)]; exact hsld⟩, by simp, fun _ _ => rfl, fun _ _ => rfl⟩
theorem meets_not {a b : List Nat} (h : meets a b = false) {i : Nat} (ha : i ∈ a) (hb : i ∈ b) : False := by
  have : meets a b = true := by
    simp only [meets, List.any_eq_true]
    exact ⟨i, ha, i, hb, by simp⟩
  rw [h] at this; cases this
theorem swap {nidx nidy : Nat} (h1 : (lstepG T G ops x nidx S).Is (S1, f)) (h2 : (lstepG T G ops y nidy S1).Is (S2, g)) (hap : x.apart ops y = true) (hfp : fpApart f g = true) :
    ∃ S1', (lstepG T G ops y nidy S).Is (S1', g) ∧ (lstepG T G ops x nidx S1').Is (S2, f) := by
  obtain ⟨v, H1, e1, hS1⟩ := lstepG_eff.1 h1
  obtain ⟨u, H2, e2, hS2⟩ := lstepG_eff.1 h2
  simp only at hS1 hS2 e1 e2
  subst hS1
  obtain ⟨a1, a2, a3⟩ := Oper.apart_spec hap
  simp only [fpApart, Bool.and_eq_true, Bool.or_eq_true, Bool.not_eq_true', List.isEmpty_iff] at hfp
  obtain ⟨⟨⟨⟨⟨⟨w1, w2⟩, w3⟩, w4⟩, m1⟩, m2⟩, m3⟩ := hfp
  have quiet : ∀ {p : Fp}, p.quiet = true → p.rd = [] ∧ p.wr = [] ∧ p.rall = false ∧ p.wall = false := by
    intro p hp
    simpa [Fp.quiet, and_assoc] using hp
  have sl_set : ∀ (S : LS) (d : Option Nat) (v : LV) (t : Nat), d ≠ some t → (S.set d v).sl t = S.sl t := by
    intro S d v t hne
    rw [set_sl, if_neg (fun e => hne e.symm)]
  obtain ⟨_, _, _, _, k1⟩ := eff_dep (sl2 := S.sl) (H2 := S.H) e1 (fun _ _ => rfl) ⟨fun _ => rfl, fun _ _ => rfl⟩
  obtain ⟨_, _, _, _, k2⟩ := eff_dep (H2 := H1) e2 (fun _ _ => rfl) ⟨fun _ => rfl, fun _ _ => rfl⟩
  have dep1 : Dep g H1 S.H := by
    refine ⟨fun hr => ?_, fun id hid => ?_⟩
    · funext id
      refine (k1 id ?_).symm
      rintro (hw | hw)
      · obtain ⟨q1, q2, q3, q4⟩ := quiet (w1.resolve_left (by simp [hw]))
        rcases hr with hr | hr
        · rw [q3] at hr; cases hr
        · rw [q4] at hr; cases hr
      · rcases hr with hr | hr
        · have := w4.resolve_left (by simp [hr]); rw [this] at hw; cases hw
        · obtain ⟨q1, q2, q3, q4⟩ := quiet (w2.resolve_left (by simp [hr])); rw [q2] at hw; cases hw
    · refine (k1 id ?_).symm
      rintro (hw | hw)
      · obtain ⟨q1, q2, q3, q4⟩ := quiet (w1.resolve_left (by simp [hw]))
        rcases hid with hid | hid
        · rw [q1] at hid; cases hid
        · rw [q2] at hid; cases hid
      · rcases hid with hid | hid
        · exact meets_not m2 hw hid
        · exact meets_not m1 hw hid
  obtain ⟨H1', f1, f2, f3, _⟩ := eff_dep (sl2 := S.sl) (H2 := S.H) e2 (fun d hd => (sl_set S x.dst v d fun e => a1 d e hd).symm) dep1
  have dep2 : Dep f S.H H1' := by
    refine ⟨fun hr => ?_, fun id hid => ?_⟩
    · funext id
      refine f3 id ?_
      rintro (hw | hw)
      · obtain ⟨q1, q2, q3, q4⟩ := quiet (w2.resolve_left (by simp [hw]))
        rcases hr with hr | hr
        · rw [q3] at hr; cases hr
        · rw [q4] at hr; cases hr
      · rcases hr with hr | hr
        · have := w3.resolve_left (by simp [hr]); rw [this] at hw; cases hw
        · obtain ⟨q1, q2, q3, q4⟩ := quiet (w1.resolve_left (by simp [hr])); rw [q2] at hw; cases hw
    · refine f3 id ?_
      rintro (hw | hw)
      · obtain ⟨q1, q2, q3, q4⟩ := quiet (w2.resolve_left (by simp [hw]))
        rcases hid with hid | hid
        · rw [q1] at hid; cases hid
        · rw [q2] at hid; cases hid
      · rcases hid with hid | hid
        · exact meets_not m3 hid hw
        · exact meets_not m1 hid hw
  obtain ⟨H2', g1, g2, g3, _⟩ := eff_dep (sl2 := (S.set y.dst u).sl) (H2 := H1') e1 (fun d hd => sl_set S y.dst u d fun e => a3 d e hd) dep2
  have hH : H2' = H2 := by
    funext id
    by_cases hw : f.wall = true ∨ id ∈ f.wr
    · rw [g2 id hw]
      refine (k2 id ?_).symm
      rcases hw with hw | hw
      · obtain ⟨q1, q2, q3, q4⟩ := quiet (w1.resolve_left (by simp [hw]))
        simp [q2, q4]
      · rintro (hg | hg)
        · obtain ⟨q1, q2, q3, q4⟩ := quiet (w2.resolve_left (by simp [hg])); rw [q2] at hw; cases hw
        · exact meets_not m1 hw hg
    · rw [g3 id hw]
      by_cases hg : g.wall = true ∨ id ∈ g.wr
      · exact f2 id hg
      · rw [f3 id hg, k2 id hg]; exact (k1 id hw).symm
  subst hH
  refine ⟨{ S with sl := (S.set y.dst u).sl, H := H1' }, lstepG_eff.2 ⟨u, H1', f1, rfl⟩, lstepG_eff.2 ⟨v, H2', g1, ?_⟩⟩
  simp only
  rw [hS2]
  congr 1
  funext t
  simp only [set_sl]
  by_cases hx : some t = x.dst
  · by_cases hy : some t = y.dst
    · exact absurd hy.symm (a2 t hx.symm)
    · rw [if_neg hy, if_pos hx, if_pos hx]
  · by_cases hy : some t = y.dst
    · rw [if_pos hy, if_neg hx, if_pos hy]
    · rw [if_neg hy, if_neg hx, if_neg hx, if_neg hy]
end
end Go.Bw
