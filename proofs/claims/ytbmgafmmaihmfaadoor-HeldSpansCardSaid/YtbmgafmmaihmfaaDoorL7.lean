/- The evaluator's single operations against the machine's: rows told by value; rows out of parts. No statement of a law is proved here. -/
import Derived.Test.YtbmgafmmaihmfaaDoorL6
set_option linter.unusedVariables false
set_option linter.unusedSimpArgs false
namespace Go.Bw
open Go.RowKit M

/-! ### what is told by value isn't written any more -/
theorem rset_self {ρ : Rho} {id : Nat} {r : Value} (h : ρ id = some r) : rset ρ id r = ρ := by
  funext j
  by_cases hj : j = id
  · subst hj; rw [rset_same, h]
  · rw [rset_other _ _ _ hj]
section
variable {base : Nat} {okx : Nat → Nat → Prop} {w0 : World} {ρ : Rho} {H : Heap} {w : World}
theorem snap_one {id e sz : Nat} {xs : List (List PV)} {s : Bool} (hw : WR base okx w0 w ρ H) (hid : H id = some (.sl e sz xs s)) :
    Evo (okF base okx H ρ) ρ H w (okF base okx (hset H id (.sl e sz xs true)) ρ) ρ (hset H id (.sl e sz xs true)) w ∧ WR base okx w0 w ρ (hset H id (.sl e sz xs true)) ∧
      ∀ r, ρ id = some r → PR w (okF base okx (hset H id (.sl e sz xs true)) ρ) r (.list sz xs) := by
  obtain ⟨r, hr, vs, hown, hrows⟩ := hw.obj id _ hid
  have he := evo_upd (w' := w) (r' := r) (o' := .sl e sz xs true) hw hid hr (fun k _ _ => rfl) (fun b off u hb hc hno => ⟨hc, fun hm => ?_⟩) (.inl rfl) ⟨rfl, rfl, Nat.le_refl _, fun _ => rfl⟩
  case refine_1 =>
    cases s with
    | true => exact hno hm
    | false => exact hno ⟨hb, fun h => by cases h⟩
  have hwr := wr_upd (w' := w) hw hid hr (fun k _ _ => rfl) (.inl rfl) he hw.below (Nat.le_refl _) ⟨vs, hown, hrows.evo he⟩
  rw [rset_self hr] at he hwr
  refine ⟨he, hwr, fun r' hr' => ?_⟩
  rw [hr] at hr'
  injection hr' with hr'
  subst hr'
  have hrows' := hrows.evo he
  obtain ⟨A, c, rfl, hc⟩ := ownsRow_slice hown
  by_cases hx : xs = []
  · subst hx; exact .nil _ _ _
  · have hpos : 0 < xs.length := List.length_pos_iff.2 hx
    rcases hown.2 with ⟨hnil, h0⟩ | ⟨g, cap, cur, hrv, hg, hh, hnc, hcm, hcs, htake⟩
    · omega
    · injection hrv with h1 h2 h3
      subst h1; subst h3
      refine .list _ _ sz xs (fun i j => vs.getD (i * sz + j) .nilFunc) hc hrows.1 hrows.2.1 (fun _ => ⟨g, 0, rfl, fun i j hi hj => ?_⟩) (fun i cs j c' e1 e2 => ?_)
      · have hlt : i * sz + j < vs.length := by
          rw [hown.1]
          have : (i + 1) * sz ≤ xs.length * sz := Nat.mul_le_mul_right _ hi
          rw [Nat.add_mul, Nat.one_mul] at this
          omega
        have hcell : w.cell? ⟨g, 0 + i * sz + j, none⟩ = some (vs.getD (i * sz + j) .nilFunc) := by
          rw [Nat.zero_add]
          exact ownsRow_cell hown rfl (by simp [List.getD, List.getElem?_eq_getElem hlt])
        refine ⟨hcell, fun hb => absurd hb (by omega), ?_⟩
        rintro ⟨id', r', ob, e1, e2, e3⟩
        by_cases hj' : id' = id
        · subst hj'
          rw [hset_same] at e2
          injection e2 with e2
          subst e2
          have := e3.2 rfl
          have h5 : (i + 1) * sz ≤ xs.length * sz := Nat.mul_le_mul_right _ hi
          rw [Nat.add_mul, Nat.one_mul] at h5
          omega
        · rw [hset_other _ _ _ hj'] at e2
          exact hw.apart id' id r' _ g hj' (by rw [e2]; simp) (by rw [hid]; simp) e1 hr (mutO_blk e3) rfl
      · obtain ⟨v, hv, hp⟩ := hrows'.2.2 i cs j c' e1 e2
        rw [show vs.getD (i * sz + j) .nilFunc = v by simp [List.getD, hv]]
        exact hp
def snap1 (H : Heap) (v : LV) : Heap := match v with
  | .osl id _ => match H id with
    | some (.sl e sz xs _) => hset H id (.sl e sz xs true)
    | _ => H
  | _ => H
theorem snapL_cons (H : Heap) (v : LV) (r : List LV) : snapL H (v :: r) = snapL (snap1 H v) r := by
  cases v <;> try rfl
  rename_i id len
  simp only [snapL, snap1]
  cases H id with
  | none => rfl
  | some o => cases o <;> rfl
theorem purify_snap (H : Heap) (u v : LV) : purify (snap1 H u) v = purify H v := by
  cases v <;> try rfl
  rename_i id len
  cases u <;> try rfl
  rename_i id' len'
  simp only [purify, snap1]
  cases hh : H id' with
  | none => rfl
  | some o =>
    cases o with
    | box => rfl
    | sl e sz xs s =>
      simp only
      by_cases hj : id = id'
      · subst hj; rw [hset_same, hh]
      · rw [hset_other _ _ _ hj]
theorem purifyL_snap (H : Heap) (u : LV) (r : List LV) : purifyL (snap1 H u) r = purifyL H r := by
  induction r with
  | nil => rfl
  | cons v r ih => simp only [purifyL, purify_snap, ih]
theorem purify_rel {lv : LV} {p : PV} (hw : WR base okx w0 w ρ H) (h : (purify H lv).Is p) {v : Value} (hl : LR w (okF base okx H ρ) ρ H v lv) :
    Evo (okF base okx H ρ) ρ H w (okF base okx (snap1 H lv) ρ) ρ (snap1 H lv) w ∧ WR base okx w0 w ρ (snap1 H lv) ∧ PR w (okF base okx (snap1 H lv) ρ) v p := by
  cases lv with
  | pv q =>
    simp only [purify, is_pure] at h
    subst h
    exact ⟨Evo.refl _ _ _ _, hw, hl.pvI⟩
  | osl id len =>
    simp only [purify] at h
    cases hh : H id with
    | none => simp [hh, is_fail] at h
    | some o =>
      cases o with
      | box => simp [hh, is_fail] at h
      | sl e sz xs s =>
        simp only [hh, is_ite, is_pure, is_fail, and_false, or_false, beq_iff_eq] at h
        obtain ⟨h1, rfl⟩ := h
        obtain ⟨e1, e2, e3⟩ := snap_one hw hh
        obtain ⟨r, hr, hs, _⟩ := hl.oslI
        have hv := (hs e sz xs s hh).2 h1.symm
        subst hv
        simp only [snap1, hh]
        exact ⟨e1, e2, e3 _ hr⟩
  | _ => simp [purify, is_fail] at h
theorem purifyL_rel : ∀ {ls : List LV} {ps : List PV} {H : Heap}, WR base okx w0 w ρ H → (purifyL H ls).Is ps → ∀ {vs : List Value}, vs.length = ls.length → (∀ (i : Nat) (v : Value) (l : LV), vs[i]? = some v → ls[i]? = some l → LR w (okF base okx H ρ) ρ H v l) →
    Evo (okF base okx H ρ) ρ H w (okF base okx (snapL H ls) ρ) ρ (snapL H ls) w ∧ WR base okx w0 w ρ (snapL H ls) ∧ ps.length = vs.length ∧ ∀ (i : Nat) (v : Value) (p : PV), vs[i]? = some v → ps[i]? = some p → PR w (okF base okx (snapL H ls) ρ) v p
  | [], ps, H, hw, h, vs, hl, hh => by
    simp only [purifyL, is_pure] at h
    subst h
    have : vs = [] := List.eq_nil_of_length_eq_zero hl
    subst this
    exact ⟨Evo.refl _ _ _ _, hw, rfl, by simp⟩
  | l :: ls, ps, H, hw, h, vs, hl, hh => by
    simp only [purifyL, is_bind, is_pure] at h
    obtain ⟨p, h1, ps', h2, rfl⟩ := h
    cases vs with
    | nil => simp at hl
    | cons v vs =>
      obtain ⟨e1, w1, p1⟩ := purify_rel hw h1 (hh 0 v l rfl rfl)
      rw [← purifyL_snap H l ls] at h2
      obtain ⟨e2, w2, l2, p2⟩ := purifyL_rel w1 h2 (vs := vs) (by simpa using hl) (fun i v' l' g1 g2 => (hh (i + 1) v' l' (by simpa using g1) (by simpa using g2)).evo e1)
      rw [snapL_cons]
      refine ⟨e1.trans e2, w2, by simp [l2], fun i v' p' g1 g2 => ?_⟩
      cases i with
      | zero => simp at g1 g2; subst g1; subst g2; exact p1.evo e2
      | succ i => exact p2 i v' p' (by simpa using g1) (by simpa using g2)
theorem purify_scal {l : LV} {p : PV} (h : (purify H l).Is p) (hs : l.scal = true) : p.scal = true := by
  cases l with
  | pv q => simp only [purify, is_pure] at h; subst h; exact hs
  | osl id len =>
    simp only [purify] at h
    cases hh : H id with
    | none => simp [hh, is_fail] at h
    | some o =>
      cases o with
      | box => simp [hh, is_fail] at h
      | sl e sz xs s =>
        simp only [hh, is_ite, is_pure, is_fail, and_false, or_false] at h
        obtain ⟨_, rfl⟩ := h
        rfl
  | _ => simp [purify, is_fail] at h
theorem purifyL_get : ∀ {ls : List LV} {ps : List PV}, (purifyL H ls).Is ps → ps.length = ls.length ∧ ∀ (i : Nat) (l : LV) (p : PV), ls[i]? = some l → ps[i]? = some p → (purify H l).Is p
  | [], ps, h => by simp only [purifyL, is_pure] at h; subst h; exact ⟨rfl, by simp⟩
  | l :: ls, ps, h => by
    simp only [purifyL, is_bind, is_pure] at h
    obtain ⟨p, h1, ps', h2, rfl⟩ := h
    obtain ⟨h3, h4⟩ := purifyL_get h2
    refine ⟨by simp [h3], fun i l' p' e1 e2 => ?_⟩
    cases i with
    | zero => simp at e1 e2; subst e1; subst e2; exact h1
    | succ i => exact h4 i l' p' (by simpa using e1) (by simpa using e2)
theorem snapL_one (H : Heap) (v : LV) : snapL H [v] = snap1 H v := by rw [snapL_cons]; rfl
theorem purifyL_snapL (r : List LV) : ∀ (us : List LV) (H : Heap), purifyL (snapL H us) r = purifyL H r
  | [], H => rfl
  | u :: us, H => by rw [snapL_cons, purifyL_snapL r us, purifyL_snap]
theorem purify_snapL (v : LV) : ∀ (us : List LV) (H : Heap), purify (snapL H us) v = purify H v
  | [], H => rfl
  | u :: us, H => by rw [snapL_cons, purify_snapL v us, purify_snap]
theorem purifyA_snap (H : Heap) (u v : LV) : purifyA (snapA H u) v = purifyA H v := by
  have key : ∀ us, purifyA (snapL H us) v = purifyA H v := by
    intro us
    cases v <;> simp only [purifyA] <;> first | rw [purifyL_snapL] | rw [purify_snapL]
  cases u <;> simp only [snapA] <;> exact key _
theorem purifyAL_snap (H : Heap) (u : LV) : ∀ (r : List LV), purifyAL (snapA H u) r = purifyAL H r
  | [] => rfl
  | v :: r => by simp only [purifyAL, purifyA_snap, purifyAL_snap H u r]
theorem purifyA_rel {lv : LV} {p : PV} (hw : WR base okx w0 w ρ H) (h : (purifyA H lv).Is p) {v : Value} (hl : LR w (okF base okx H ρ) ρ H v lv) :
    Evo (okF base okx H ρ) ρ H w (okF base okx (snapA H lv) ρ) ρ (snapA H lv) w ∧ WR base okx w0 w ρ (snapA H lv) ∧ PR w (okF base okx (snapA H lv) ρ) v p := by
  cases lv with
  | agg cs =>
    simp only [purifyA, is_bind, is_pure] at h
    obtain ⟨ps, h1, rfl⟩ := h
    obtain ⟨vs, rfl, hlen, hsc, hh⟩ := hl.aggI
    obtain ⟨e1, w1, l1, p1⟩ := purifyL_rel hw h1 hlen hh
    obtain ⟨g1, g2⟩ := purifyL_get h1
    refine ⟨e1, w1, .agg vs ps l1.symm (fun c hc => ?_) p1⟩
    obtain ⟨i, hi⟩ := List.mem_iff_getElem?.1 hc
    have hlt : i < cs.length := by rw [← g1]; exact (List.getElem?_eq_some_iff.1 hi).1
    exact purify_scal (g2 i cs[i] c (List.getElem?_eq_getElem hlt) hi) (hsc _ (List.getElem_mem hlt))
  | _ =>
    simp only [purifyA] at h
    have := purify_rel hw h hl
    rw [← snapL_one] at this
    exact this
theorem purifyAL_rel : ∀ {ls : List LV} {ps : List PV} {H : Heap}, WR base okx w0 w ρ H → (purifyAL H ls).Is ps → ∀ {vs : List Value}, vs.length = ls.length → (∀ (i : Nat) (v : Value) (l : LV), vs[i]? = some v → ls[i]? = some l → LR w (okF base okx H ρ) ρ H v l) →
    Evo (okF base okx H ρ) ρ H w (okF base okx (snapAL H ls) ρ) ρ (snapAL H ls) w ∧ WR base okx w0 w ρ (snapAL H ls) ∧ ps.length = vs.length ∧ ∀ (i : Nat) (v : Value) (p : PV), vs[i]? = some v → ps[i]? = some p → PR w (okF base okx (snapAL H ls) ρ) v p
  | [], ps, H, hw, h, vs, hl, hh => by
    simp only [purifyAL, is_pure] at h
    subst h
    have : vs = [] := List.eq_nil_of_length_eq_zero hl
    subst this
    exact ⟨Evo.refl _ _ _ _, hw, rfl, by simp⟩
  | l :: ls, ps, H, hw, h, vs, hl, hh => by
    simp only [purifyAL, is_bind, is_pure] at h
    obtain ⟨p, h1, ps', h2, rfl⟩ := h
    cases vs with
    | nil => simp at hl
    | cons v vs =>
      obtain ⟨e1, w1, p1⟩ := purifyA_rel hw h1 (hh 0 v l rfl rfl)
      rw [← purifyAL_snap H l ls] at h2
      obtain ⟨e2, w2, l2, p2⟩ := purifyAL_rel w1 h2 (vs := vs) (by simpa using hl) (fun i v' l' g1 g2 => (hh (i + 1) v' l' (by simpa using g1) (by simpa using g2)).evo e1)
      refine ⟨e1.trans e2, w2, by simp [l2], fun i v' p' g1 g2 => ?_⟩
      cases i with
      | zero => simp at g1 g2; subst g1; subst g2; exact p1.evo e2
      | succ i => exact p2 i v' p' (by simpa using g1) (by simpa using g2)
end
end Go.Bw
