/- Plain lemmas on tables of holdings: adding, getting. No program in sight. -/
import Derived.Test.YtbmgafmmaihmfaaDoorS1
set_option linter.unusedVariables false
set_option linter.unusedSimpArgs false
namespace Go.Bw

def Rising (l : List HeldV) : Prop := l.Pairwise fun a b => a.id < b.id
theorem right_rising {l : List HeldV} (h : rightT l = true) : Rising l := (rightT_iff.1 h).2.2.imp okPair_id
theorem tab_ext {l m : List HeldV} (hl : Rising l) (hm : Rising m) (h : ∀ x, x ∈ l ↔ x ∈ m) : l = m := by
  induction l generalizing m with
  | nil =>
    cases m with
    | nil => rfl
    | cons b m => exact absurd ((h b).2 List.mem_cons_self) (by simp)
  | cons a l ih =>
    cases m with
    | nil => exact absurd ((h a).1 List.mem_cons_self) (by simp)
    | cons b m =>
      obtain ⟨hl1, hl2⟩ := List.pairwise_cons.1 hl
      obtain ⟨hm1, hm2⟩ := List.pairwise_cons.1 hm
      have hab : a = b := by
        rcases List.mem_cons.1 ((h a).1 List.mem_cons_self) with e | e
        · exact e
        · rcases List.mem_cons.1 ((h b).2 List.mem_cons_self) with e' | e'
          · exact e'.symm
          · have := hm1 a e; have := hl1 b e'; omega
      subst hab
      rw [ih hl2 hm2 fun n => ?_]
      have := h n
      constructor
      · intro hn
        rcases List.mem_cons.1 (this.1 (List.mem_cons_of_mem _ hn)) with e | e
        · subst e; exact absurd (hl1 n hn) (by omega)
        · exact e
      · intro hn
        rcases List.mem_cons.1 (this.2 (List.mem_cons_of_mem _ hn)) with e | e
        · subst e; exact absurd (hm1 n hn) (by omega)
        · exact e
theorem mem_ins {l : List HeldV} {h x : HeldV} : x ∈ insT l h ↔ x = h ∨ x ∈ l := by
  unfold insT
  rw [List.mem_append, List.mem_cons]
  have := List.takeWhile_append_dropWhile (p := fun x : HeldV => decide (x.id < h.id)) (l := l)
  constructor
  · rintro (h1 | h1 | h1)
    · exact .inr (by rw [← this]; exact List.mem_append_left _ h1)
    · exact .inl h1
    · exact .inr (by rw [← this]; exact List.mem_append_right _ h1)
  · rintro (h1 | h1)
    · exact .inr (.inl h1)
    · rw [← this] at h1
      rcases List.mem_append.1 h1 with h1 | h1
      · exact .inl h1
      · exact .inr (.inr h1)
theorem ins_len (l : List HeldV) (h : HeldV) : (insT l h).length = l.length + 1 := by
  have := congrArg List.length (List.takeWhile_append_dropWhile (p := fun x : HeldV => decide (x.id < h.id)) (l := l))
  simp only [List.length_append] at this
  simp only [insT, List.length_append, List.length_cons]
  omega
theorem hasId_false {l : List HeldV} {id : Int} : hasId l id = false ↔ ∀ x, x ∈ l → x.id ≠ id := by
  simp [hasId]
theorem hasId_true {l : List HeldV} {id : Int} : hasId l id = true ↔ ∃ x, x ∈ l ∧ x.id = id := by
  simp [hasId]
theorem take_lt {l : List HeldV} {i : Int} {x : HeldV} (h : x ∈ l.takeWhile fun x => decide (x.id < i)) : x.id < i := by
  induction l with
  | nil => cases h
  | cons y l ih =>
    by_cases hy : y.id < i
    · rw [List.takeWhile_cons_of_pos (by simpa using hy)] at h
      rcases List.mem_cons.1 h with rfl | h
      · exact hy
      · exact ih h
    · rw [List.takeWhile_cons_of_neg (by simpa using hy)] at h
      cases h
theorem drop_ge {l : List HeldV} (hr : Rising l) {i : Int} : ∀ x, x ∈ (l.dropWhile fun x => decide (x.id < i)) → i ≤ x.id := by
  induction l with
  | nil => intro x hx; cases hx
  | cons y l ih =>
    obtain ⟨h1, h2⟩ := List.pairwise_cons.1 hr
    intro x hx
    by_cases hy : y.id < i
    · rw [List.dropWhile_cons_of_pos (by simpa using hy)] at hx
      exact ih h2 x hx
    · rw [List.dropWhile_cons_of_neg (by simpa using hy)] at hx
      rcases List.mem_cons.1 hx with rfl | hx
      · omega
      · have := h1 x hx; omega
theorem ins_right {l : List HeldV} {h : HeldV} (hl : rightT l = true) (hm : mayB h = true) (hi : hasId l h.id = false) (hc : (l.any fun x => clashB x h) = false) (hn : l.length < 256) : rightT (insT l h) = true := by
  obtain ⟨h1, h2, h3⟩ := rightT_iff.1 hl
  have hi := hasId_false.1 hi
  have hc : ∀ x, x ∈ l → clashB x h = false := by simpa using hc
  have happ := List.takeWhile_append_dropWhile (p := fun x : HeldV => decide (x.id < h.id)) (l := l)
  have m1 : ∀ x, x ∈ (l.takeWhile fun x => decide (x.id < h.id)) → x ∈ l := fun x hx => by rw [← happ]; exact List.mem_append_left _ hx
  have m2 : ∀ x, x ∈ (l.dropWhile fun x => decide (x.id < h.id)) → x ∈ l := fun x hx => by rw [← happ]; exact List.mem_append_right _ hx
  refine rightT_iff.2 ⟨by rw [ins_len]; omega, fun x hx => ?_, ?_⟩
  · rcases mem_ins.1 hx with rfl | hx
    · exact hm
    · exact h2 x hx
  · unfold insT
    rw [← happ, List.pairwise_append] at h3
    rw [List.pairwise_append, List.pairwise_cons]
    refine ⟨h3.1, ⟨fun x hx => ?_, h3.2.1⟩, fun x hx y hy => ?_⟩
    · have e1 := drop_ge (right_rising hl) x hx
      have e2 := hi x (m2 x hx)
      have e3 := hc x (m2 x hx)
      rw [clash_comm] at e3
      have : h.id < x.id := by omega
      simp [okPair, this, e3]
    · rcases List.mem_cons.1 hy with rfl | hy
      · simp [okPair, take_lt hx, hc x (m1 x hx)]
      · exact h3.2.2 x hx y hy
theorem getT_eq {l : List HeldV} (hr : Rising l) {h : HeldV} (hm : h ∈ l) : getT l h.id = some h := by
  unfold getT
  induction l with
  | nil => cases hm
  | cons y l ih =>
    obtain ⟨h1, h2⟩ := List.pairwise_cons.1 hr
    rcases List.mem_cons.1 hm with rfl | hm
    · simp
    · have := h1 h hm
      rw [List.find?_cons_of_neg (by simp; omega)]
      exact ih h2 hm
theorem getT_some {l : List HeldV} {id : Int} {h : HeldV} (hg : getT l id = some h) : h ∈ l ∧ h.id = id :=
  ⟨List.mem_of_find?_eq_some hg, by simpa using List.find?_some hg⟩
theorem getT_none {l : List HeldV} {id : Int} : getT l id = none ↔ hasId l id = false := by
  unfold getT
  rw [List.find?_eq_none, hasId_false]
  simp
theorem ins_get {l : List HeldV} {h : HeldV} (hr : rightT (insT l h) = true) {x : HeldV} (hx : x = h ∨ x ∈ l) : getR (insT l h) x.id = some x := by
  unfold getR
  rw [if_pos hr]
  exact getT_eq (right_rising hr) (mem_ins.2 hx)
theorem add_ok {l x : List HeldV} {h : HeldV} : addT l h = (x, 0) ↔ rightT l = true ∧ mayB h = true ∧ hasId l h.id = false ∧ l.length ≠ 256 ∧ (l.any fun x => clashB x h) = false ∧ x = insT l h := by
  unfold addT
  cases h1 : rightT l <;> cases h2 : mayB h <;> simp
  cases h3 : hasId l h.id <;> simp
  by_cases h4 : l.length = 256 ∨ ∃ x, x ∈ l ∧ clashB x h = true
  · rw [if_pos h4]
    simp only [Prod.mk.injEq, Int.reduceEq, and_false, false_iff, not_and]
    intro h5 h6
    rcases h4 with h4 | ⟨y, h4, h7⟩
    · exact absurd h4 h5
    · rw [h6 y h4] at h7; cases h7
  · rw [if_neg h4]
    simp only [not_or, not_exists, not_and, Bool.not_eq_true] at h4
    simp only [Prod.mk.injEq, and_true]
    exact ⟨fun h => ⟨h4.1, h4.2, h.symm⟩, fun h => h.2.2.symm⟩
theorem add_no {l x : List HeldV} {h : HeldV} {e : Int} (h1 : addT l h = (x, e)) (h2 : e ≠ 0) : x = l := by
  unfold addT at h1
  split at h1
  · injection h1 with h1; exact h1.symm
  · split at h1
    · injection h1 with h1; exact h1.symm
    · split at h1
      · injection h1 with h1; exact h1.symm
      · injection h1 with _ h1; exact absurd h1.symm h2
theorem add_right {l x : List HeldV} {h : HeldV} (ha : addT l h = (x, 0)) : rightT x = true := by
  obtain ⟨h1, h2, h3, h4, h5, rfl⟩ := add_ok.1 ha
  exact ins_right h1 h2 h3 h5 (by have := (rightT_iff.1 h1).1; omega)
theorem rising_ins {l : List HeldV} {h : HeldV} (hr : Rising l) (hi : hasId l h.id = false) : Rising (insT l h) := by
  have hi := hasId_false.1 hi
  have happ := List.takeWhile_append_dropWhile (p := fun x : HeldV => decide (x.id < h.id)) (l := l)
  have m2 : ∀ x, x ∈ (l.dropWhile fun x => decide (x.id < h.id)) → x ∈ l := fun x hx => by rw [← happ]; exact List.mem_append_right _ hx
  have hd := drop_ge hr (i := h.id)
  unfold Rising at hr ⊢
  rw [← happ, List.pairwise_append] at hr
  unfold insT
  rw [List.pairwise_append, List.pairwise_cons]
  refine ⟨hr.1, ⟨fun x hx => ?_, hr.2.1⟩, fun x hx y hy => ?_⟩
  · have e1 := hd x hx
    have e2 := hi x (m2 x hx)
    omega
  · rcases List.mem_cons.1 hy with rfl | hy
    · exact take_lt hx
    · exact hr.2.2 x hx y hy
theorem hasId_ins {l : List HeldV} {h : HeldV} {id : Int} : hasId (insT l h) id = (h.id == id || hasId l id) := by
  rw [Bool.eq_iff_iff, hasId_true, Bool.or_eq_true, hasId_true, beq_iff_eq]
  constructor
  · rintro ⟨x, hx, rfl⟩
    rcases mem_ins.1 hx with rfl | hx
    · exact .inl rfl
    · exact .inr ⟨x, hx, rfl⟩
  · rintro (h1 | ⟨x, hx, h1⟩)
    · exact ⟨h, mem_ins.2 (.inl rfl), h1⟩
    · exact ⟨x, mem_ins.2 (.inr hx), h1⟩
theorem any_ins {l : List HeldV} {h : HeldV} {p : HeldV → Bool} : (insT l h).any p = (p h || l.any p) := by
  rw [Bool.eq_iff_iff, Bool.or_eq_true, List.any_eq_true, List.any_eq_true]
  constructor
  · rintro ⟨x, hx, h1⟩
    rcases mem_ins.1 hx with rfl | hx
    · exact .inl h1
    · exact .inr ⟨x, hx, h1⟩
  · rintro (h1 | ⟨x, hx, h1⟩)
    · exact ⟨h, mem_ins.2 (.inl rfl), h1⟩
    · exact ⟨x, mem_ins.2 (.inr hx), h1⟩
theorem ins_comm {l : List HeldV} {a b : HeldV} (hr : Rising l) (ha : hasId l a.id = false) (hb : hasId l b.id = false) (hab : a.id ≠ b.id) : insT (insT l a) b = insT (insT l b) a := by
  refine tab_ext (rising_ins (rising_ins hr ha) ?_) (rising_ins (rising_ins hr hb) ?_) fun x => ?_
  · rw [hasId_ins, hb]; simpa using hab
  · rw [hasId_ins, ha]; simpa using fun h => hab h.symm
  · simp only [mem_ins]
    constructor
    · rintro (h | h | h)
      · exact .inr (.inl h)
      · exact .inl h
      · exact .inr (.inr h)
    · rintro (h | h | h)
      · exact .inr (.inl h)
      · exact .inl h
      · exact .inr (.inr h)
/-- In whatever order two are added. -/
theorem add_two {l x y z w : List HeldV} {a b : HeldV} {f g k : Int} (ha : addT l a = (x, 0)) (hy : addT x b = (y, f)) (hz : addT l b = (z, g)) (hw : addT z a = (w, k)) :
    (f = 0 ↔ g = 0 ∧ k = 0) ∧ (f = 0 → y = w) := by
  have hx := add_right ha
  obtain ⟨h1, h2, h3, h4, h5, rfl⟩ := add_ok.1 ha
  have key : f = 0 → g = 0 ∧ k = 0 ∧ y = w := by
    rintro rfl
    obtain ⟨_, g2, g3, g4, g5, rfl⟩ := add_ok.1 hy
    rw [hasId_ins, Bool.or_eq_false_iff] at g3
    rw [any_ins, Bool.or_eq_false_iff] at g5
    have hz' : addT l b = (insT l b, 0) := add_ok.2 ⟨h1, g2, g3.2, h4, g5.2, rfl⟩
    rw [hz'] at hz
    injection hz with e1 e2
    subst e1; subst e2
    have hab : a.id ≠ b.id := by simpa using g3.1
    have hw' : addT (insT l b) a = (insT (insT l b) a, 0) := add_ok.2 ⟨add_right hz', h2, by rw [hasId_ins, h3]; simpa using fun h => hab h.symm, by rw [ins_len] at g4 ⊢; exact g4, by rw [any_ins, h5, clash_comm, g5.1]; rfl, rfl⟩
    rw [hw'] at hw
    injection hw with e1 e2
    subst e1; subst e2
    exact ⟨rfl, rfl, ins_comm (right_rising h1) h3 g3.2 hab⟩
  refine ⟨⟨fun h => ⟨(key h).1, (key h).2.1⟩, ?_⟩, fun h => (key h).2.2⟩
  rintro ⟨rfl, rfl⟩
  obtain ⟨_, q2, q3, q4, q5, rfl⟩ := add_ok.1 hz
  obtain ⟨r1, _, r3, r4, r5, rfl⟩ := add_ok.1 hw
  rw [hasId_ins, Bool.or_eq_false_iff] at r3
  rw [any_ins, Bool.or_eq_false_iff] at r5
  have hab : b.id ≠ a.id := by simpa using r3.1
  have : addT (insT l a) b = (insT (insT l a) b, 0) := add_ok.2 ⟨hx, q2, by rw [hasId_ins, q3]; simpa using fun h => hab h.symm, by rw [ins_len] at r4 ⊢; exact r4, by rw [any_ins, q5, clash_comm, r5.1]; rfl, rfl⟩
  rw [this] at hy
  injection hy with _ e
  exact e.symm
end Go.Bw
