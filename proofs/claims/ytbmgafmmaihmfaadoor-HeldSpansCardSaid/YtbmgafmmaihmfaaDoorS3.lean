/- Plain lemmas on tables of holdings: spans, what is over, what is cut short. No program in sight. -/
import Derived.Test.YtbmgafmmaihmfaaDoorS2
set_option linter.unusedVariables false
set_option linter.unusedSimpArgs false
namespace Go.Bw

theorem right_filter {l : List HeldV} (p : HeldV → Bool) (h : rightT l = true) : rightT (l.filter p) = true := by
  obtain ⟨h1, h2, h3⟩ := rightT_iff.1 h
  exact rightT_iff.2 ⟨Nat.le_trans (List.length_filter_le p l) h1, fun x hx => h2 x (List.mem_filter.1 hx).1, h3.filter p⟩
theorem over_over {l : List HeldV} {a b : Int} (hab : a ≤ b) : (overT (overT l a).1 b).1 = (overT l b).1 := by
  unfold overT
  by_cases h : rightT l = true
  · simp only [h, if_true]
    rw [if_pos (right_filter _ h), List.filter_filter]
    refine List.filter_congr fun x _ => ?_
    rw [Bool.eq_iff_iff]
    simp only [Bool.and_eq_true, decide_eq_true_eq]
    omega
  · simp only [h, if_false, Bool.false_eq_true]
theorem busyT_fl {l : List HeldV} (h : rightT l = true) (f t : Int) : busyT l f t = fl fun n => l.any fun h => meetsB h.fr h.to f t && h.things.contains n := by
  unfold busyT
  rw [if_pos h]
  exact busyG_fl (right_set h) f t
theorem busyT_set (l : List HeldV) (f t : Int) : setR (busyT l f t) = true := by
  by_cases h : rightT l = true
  · rw [busyT_fl h]; exact fl_set _
  · unfold busyT; rw [if_neg h]; rfl
theorem busy_part {l : List HeldV} {a b c : Int} (hab : a ≤ b) (hbc : b ≤ c) : partS (busyT l a b) (busyT l a c) = true := by
  unfold partS
  rw [busyT_set, busyT_set]
  simp only [Bool.and_self, Bool.true_and, List.all_eq_true]
  by_cases h : rightT l = true
  · intro n hn
    rw [busyT_fl h] at hn ⊢
    rw [List.contains_iff_mem, mem_fl]
    rw [mem_fl] at hn
    refine ⟨hn.1, ?_⟩
    obtain ⟨x, hx, h2⟩ := List.any_eq_true.1 hn.2
    refine List.any_eq_true.2 ⟨x, hx, ?_⟩
    simp only [Bool.and_eq_true, meetsB, decide_eq_true_eq] at h2 ⊢
    exact ⟨by omega, h2.2⟩
  · intro n hn
    unfold busyT at hn
    rw [if_neg h] at hn
    cases hn
theorem busy_join {l : List HeldV} {a b c : Int} (hab : a < b) (hbc : b < c) : joinS (busyT l a b) (busyT l b c) = busyT l a c := by
  by_cases h : rightT l = true
  · unfold joinS
    rw [busyT_set, busyT_set]
    rw [busyT_fl h, busyT_fl h, busyT_fl h]
    refine fl_ext fun n h0 h1 => ?_
    rw [contains_fl, contains_fl]
    simp only [h0, h1, decide_true, Bool.true_and]
    rw [Bool.eq_iff_iff, Bool.or_eq_true, List.any_eq_true, List.any_eq_true, List.any_eq_true]
    constructor
    · rintro (⟨x, hx, h2⟩ | ⟨x, hx, h2⟩)
      · refine ⟨x, hx, ?_⟩
        simp only [Bool.and_eq_true, meetsB, decide_eq_true_eq] at h2 ⊢
        exact ⟨by omega, h2.2⟩
      · refine ⟨x, hx, ?_⟩
        simp only [Bool.and_eq_true, meetsB, decide_eq_true_eq] at h2 ⊢
        exact ⟨by omega, h2.2⟩
    · rintro ⟨x, hx, h2⟩
      simp only [Bool.and_eq_true, meetsB, decide_eq_true_eq] at h2
      by_cases hh : x.fr < b
      · exact .inl ⟨x, hx, by simp only [Bool.and_eq_true, meetsB, decide_eq_true_eq]; exact ⟨by omega, h2.2⟩⟩
      · exact .inr ⟨x, hx, by simp only [Bool.and_eq_true, meetsB, decide_eq_true_eq]; exact ⟨by omega, h2.2⟩⟩
  · unfold joinS
    rw [busyT_set, busyT_set]
    unfold busyT
    rw [if_neg h, if_neg h, if_neg h]
    simp [fl]

/-! ### ends -/
def insI (n : Int) : List Int → List Int
  | [] => [n]
  | m :: r => if n < m then n :: m :: r else if n = m then m :: r else m :: insI n r
def endsT (l : List HeldV) (f : Int) : List Int := if rightT l then (l.filter fun h => decide (f < h.to)).foldr (fun h o => insI h.to o) [] else []
theorem mem_insI {n x : Int} {l : List Int} : x ∈ insI n l ↔ x = n ∨ x ∈ l := by
  induction l with
  | nil => simp [insI]
  | cons m r ih =>
    unfold insI
    split
    · simp
    · split
      · rename_i h1 h2; subst h2; simp
      · rw [List.mem_cons, ih, List.mem_cons]
        constructor
        · rintro (h | h | h) <;> simp [h]
        · rintro (h | h | h) <;> simp [h]
theorem insI_pair {n : Int} {l : List Int} (h : l.Pairwise (· < ·)) : (insI n l).Pairwise (· < ·) := by
  induction l with
  | nil => simp [insI]
  | cons m r ih =>
    obtain ⟨h1, h2⟩ := List.pairwise_cons.1 h
    unfold insI
    split
    · rename_i hlt
      refine List.pairwise_cons.2 ⟨fun x hx => ?_, h⟩
      rcases List.mem_cons.1 hx with rfl | hx
      · exact hlt
      · have := h1 x hx; omega
    · split
      · exact h
      · rename_i a b
        refine List.pairwise_cons.2 ⟨fun x hx => ?_, ih h2⟩
        rcases mem_insI.1 hx with rfl | hx
        · omega
        · exact h1 x hx
theorem foldr_insI (l : List HeldV) : ((l.foldr (fun h o => insI h.to o) []).Pairwise (· < ·)) ∧ ∀ n, n ∈ l.foldr (fun h o => insI h.to o) [] ↔ ∃ h, h ∈ l ∧ h.to = n := by
  induction l with
  | nil => simp
  | cons x r ih =>
    rw [List.foldr_cons]
    refine ⟨insI_pair ih.1, fun n => ?_⟩
    rw [mem_insI, ih.2]
    simp only [List.mem_cons, exists_eq_or_imp]
    exact ⟨fun h => h.imp Eq.symm id, fun h => h.imp Eq.symm id⟩
theorem ends_eq {l : List HeldV} (h : rightT l = true) {f : Int} {es : List Int} (h1 : es.Pairwise (· < ·)) (h2 : ∀ n, n ∈ es ↔ ∃ x, x ∈ l ∧ x.to = n ∧ f < n) : es = endsT l f := by
  unfold endsT
  rw [if_pos h]
  obtain ⟨g1, g2⟩ := foldr_insI (l.filter fun h => decide (f < h.to))
  refine pair_ext h1 g1 fun n => ?_
  rw [h2, g2]
  constructor
  · rintro ⟨x, hx, rfl, hf⟩; exact ⟨x, List.mem_filter.2 ⟨hx, by simpa using hf⟩, rfl⟩
  · rintro ⟨x, hx, rfl⟩
    have := List.mem_filter.1 hx
    exact ⟨x, this.1, rfl, by simpa using this.2⟩

/-! ### dropped, cut short -/
theorem ins_filter {l : List HeldV} {h : HeldV} (hr : Rising l) (hi : hasId l h.id = false) : (insT l h).filter (fun x => x.id != h.id) = l := by
  refine tab_ext ((rising_ins hr hi).filter _) hr fun x => ?_
  rw [List.mem_filter, mem_ins]
  have := hasId_false.1 hi
  constructor
  · rintro ⟨rfl | hx, h2⟩
    · simp at h2
    · exact hx
  · intro hx
    exact ⟨.inr hx, by simpa using this x hx⟩
theorem drop_back {l x : List HeldV} {h : HeldV} (ha : addT l h = (x, 0)) : dropT x h.id = (l, h, 0) := by
  have hx := add_right ha
  obtain ⟨h1, h2, h3, h4, h5, rfl⟩ := add_ok.1 ha
  unfold dropT
  rw [hx]
  simp only [Bool.not_true, Bool.false_eq_true, if_false]
  rw [getT_eq (right_rising hx) (mem_ins.2 (.inl rfl))]
  simp only [ins_filter (right_rising h1) h3]
theorem meets_less {a b b' c d : Int} (h : meetsB a b' c d = true) (hb : b' ≤ b) : meetsB a b c d = true := by
  simp only [meetsB, Bool.and_eq_true, decide_eq_true_eq] at h ⊢; omega
theorem cut_right {l : List HeldV} (h : rightT l = true) {id to : Int} (hc : ∀ x, x ∈ l → x.id = id → x.fr < to ∧ to ≤ x.to) : rightT (l.map fun x => if x.id == id then { x with to := to } else x) = true := by
  obtain ⟨h1, h2, h3⟩ := rightT_iff.1 h
  have clash : ∀ a b : HeldV, (a.id = id → a.fr < to ∧ to ≤ a.to) → (b.id = id → b.fr < to ∧ to ≤ b.to) → okPair a b = true →
      okPair (if a.id == id then { a with to := to } else a) (if b.id == id then { b with to := to } else b) = true := by
    intro a b ha hb hab
    have e1 := okPair_id hab
    have e2 := okPair_clash hab
    have half : ∀ x y : HeldV, (x.id = id → x.fr < to ∧ to ≤ x.to) → clashB x y = false → clashB (if x.id == id then { x with to := to } else x) y = false := by
      intro x y hx hxy
      by_cases e : x.id = id
      · simp only [e, beq_self_eq_true, if_true]
        unfold clashB at hxy ⊢
        rw [Bool.and_eq_false_iff] at hxy ⊢
        rcases hxy with hxy | hxy
        · left
          rw [Bool.eq_false_iff] at hxy ⊢
          exact fun hm => hxy (meets_less hm (hx e).2)
        · exact .inr hxy
      · simp only [beq_iff_eq, e, if_false]; exact hxy
    have g1 := half a b ha e2
    rw [clash_comm] at g1
    have g2 := half b _ hb g1
    rw [clash_comm] at g2
    have i1 : (if a.id == id then { a with to := to } else a).id = a.id := by split <;> rfl
    have i2 : (if b.id == id then { b with to := to } else b).id = b.id := by split <;> rfl
    unfold okPair
    rw [i1, i2, g2]
    simpa using e1
  refine rightT_iff.2 ⟨by simpa using h1, fun x hx => ?_, ?_⟩
  · obtain ⟨y, hy, rfl⟩ := List.mem_map.1 hx
    have hm := h2 y hy
    by_cases e : y.id = id
    · have := hc y hy e
      simp only [e, beq_self_eq_true, if_true]
      simp only [mayB, whenR, Bool.and_eq_true, decide_eq_true_eq] at hm ⊢
      simp only [hm.1.1.1.1, hm.1.1.1.2, true_and]
      omega
    · simp only [beq_iff_eq, e, if_false]; exact hm
  · rw [List.pairwise_map]
    exact List.Pairwise.imp_of_mem (fun {a b} ha hb hab => clash a b (hc a ha) (hc b hb) hab) h3
theorem part_len (l : List HeldV) (t : Int) : (l.filter fun h => decide (t < h.to)).length + (l.filter fun h => decide (h.to ≤ t)).length = l.length := by
  have e : (fun h : HeldV => decide (h.to ≤ t)) = fun h => !decide (t < h.to) := by
    funext h; rw [Bool.eq_iff_iff]; simp
  rw [e]
  induction l with
  | nil => rfl
  | cons x r ih =>
    simp only [List.filter_cons]
    cases decide (t < x.to) <;> simp <;> omega
/-- What is cut short is over by then. -/
theorem cut_back {l x c : List HeldV} {h : HeldV} {to g : Int} (ha : addT l h = (x, 0)) (hg : cutT x h.id to = (c, g)) :
    (g ≠ 0 → (to ≤ h.fr ∨ h.to < to)) ∧ (g = 0 → rightT c = true ∧ getR (overT c to).1 h.id = none ∧ (overT c to).1.length + (overT c to).2.length = x.length) := by
  have hx := add_right ha
  obtain ⟨h1, h2, h3, h4, h5, rfl⟩ := add_ok.1 ha
  have hrise := right_rising hx
  have hm : h ∈ insT l h := mem_ins.2 (.inl rfl)
  unfold cutT at hg
  rw [hx] at hg
  simp only [Bool.not_true, Bool.false_eq_true, if_false, getT_eq hrise hm] at hg
  by_cases ht : to ≤ h.fr ∨ h.to < to
  · refine ⟨fun _ => ht, ?_⟩
    rintro rfl
    rw [if_pos (by simpa using ht)] at hg
    cases hg
  · rw [if_neg (by simpa using ht)] at hg
    injection hg with e1 e2
    subst e2
    refine ⟨fun h => absurd rfl h, fun _ => ?_⟩
    have hone : ∀ y, y ∈ insT l h → y.id = h.id → y = h := by
      intro y hy e
      have g1 := getT_eq hrise hy
      rw [e, getT_eq hrise hm] at g1
      exact (Option.some.inj g1).symm
    have hr : rightT c = true := by
      rw [← e1]
      refine cut_right hx fun y hy e => ?_
      rw [hone y hy e]
      omega
    refine ⟨hr, ?_, ?_⟩
    · unfold overT
      rw [if_pos hr]
      unfold getR
      split
      · rw [getT_none, hasId_false]
        intro y hy e
        obtain ⟨hy, hlt⟩ := List.mem_filter.1 hy
        rw [← e1] at hy
        obtain ⟨z, hz, rfl⟩ := List.mem_map.1 hy
        by_cases ez : z.id = h.id
        · simp [ez] at hlt
        · simp only [beq_iff_eq, ez, if_false] at e
      · rfl
    · unfold overT
      rw [if_pos hr]
      simp only [part_len, ← e1, List.length_map]
end Go.Bw
