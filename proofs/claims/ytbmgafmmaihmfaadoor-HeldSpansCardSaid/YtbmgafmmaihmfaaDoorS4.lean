/- Plain lemmas on words of bits: no program in sight. -/
import Derived.Test.YtbmgafmmaihmfaaDoorS0
import Derived.Lib.TrailingZeros
set_option linter.unusedVariables false
set_option linter.unusedSimpArgs false
namespace Go.Bw

/-- The places of the bits of a word, from the least on. -/
def wbits (x : Nat) : List Nat := (List.range 64).filter fun i => x.testBit i
theorem ctz_form {x : Nat} (h0 : x ≠ 0) (h : x < 2 ^ 64) : ∃ m, x = 2 ^ Lib.ctz 64 x * (2 * m + 1) ∧ Lib.ctz 64 x < 64 := by
  obtain ⟨m, h1, h2⟩ := Lib.ctzFrom_spec 64 x (by omega) h
  refine ⟨m, ?_⟩
  simp only [Lib.ctz, h0, if_false]
  exact ⟨h1, h2⟩
theorem form_bit (k m i : Nat) : (2 ^ k * (2 * m + 1)).testBit i = (decide (i = k) || (decide (k < i) && m.testBit (i - k - 1))) := by
  rw [Nat.mul_comm, Nat.testBit_mul_two_pow]
  by_cases h : k ≤ i
  · by_cases e : i = k
    · subst e; simp
    · obtain ⟨j, rfl⟩ : ∃ j, i = k + (j + 1) := ⟨i - k - 1, by omega⟩
      rw [show k + (j + 1) - k = j + 1 by omega, show j + 1 - 1 = j by omega, Nat.testBit_succ, show (2 * m + 1) / 2 = m by omega]
      simp
  · have e1 : ¬ k < i := by omega
    have e2 : ¬ i = k := by omega
    simp [h, e1, e2]
theorem form_pred (k m i : Nat) : (2 ^ k * (2 * m + 1) - 1).testBit i = (decide (i < k) || (decide (k < i) && m.testBit (i - k - 1))) := by
  have e : 2 ^ k * (2 * m + 1) - 1 = 2 ^ k * (2 * m) + (2 ^ k - 1) := by
    have := Nat.two_pow_pos k
    rw [Nat.mul_add, Nat.mul_one]
    omega
  rw [e, Nat.testBit_two_pow_mul_add _ (by have := Nat.two_pow_pos k; omega)]
  by_cases h : i < k
  · rw [if_pos h]
    have := Nat.testBit_two_pow_sub_one k i
    rw [this]; simp [h]
  · rw [if_neg h]
    by_cases e : i = k
    · subst e
      simp
    · obtain ⟨j, rfl⟩ : ∃ j, i = k + (j + 1) := ⟨i - k - 1, by omega⟩
      rw [show k + (j + 1) - k = j + 1 by omega, show j + 1 - 1 = j by omega, Nat.testBit_succ, show (2 * m) / 2 = m by omega]
      have e1 : ¬ k + (j + 1) < k := by omega
      have e2 : k < k + (j + 1) := by omega
      simp only [e1, e2, decide_true, decide_false, Bool.true_and, Bool.false_or]
theorem low_off {x : Nat} (h0 : x ≠ 0) (h : x < 2 ^ 64) (i : Nat) : (x &&& (x - 1)).testBit i = (x.testBit i && decide (i ≠ Lib.ctz 64 x)) := by
  obtain ⟨m, h1, h2⟩ := ctz_form h0 h
  generalize Lib.ctz 64 x = k at h1 h2 ⊢
  subst h1
  rw [Nat.testBit_and, form_bit, form_pred]
  by_cases e : i = k
  · subst e; simp
  · by_cases hlt : k < i
    · have : ¬ i < k := by omega
      simp [e, hlt, this]
    · simp [e, hlt]
theorem wbits_zero : wbits 0 = [] := by simp [wbits]
theorem range_split {k n : Nat} (h : k < n) : List.range n = List.range k ++ k :: (List.range (n - k - 1)).map (k + 1 + ·) := by
  conv => lhs; rw [show n = k + (1 + (n - k - 1)) by omega]
  rw [List.range_add, List.range_add]
  simp [List.range_succ, Nat.add_assoc]
theorem wbits_step {x : Nat} (h0 : x ≠ 0) (h : x < 2 ^ 64) : wbits x = Lib.ctz 64 x :: wbits (x &&& (x - 1)) := by
  have hoff := low_off h0 h
  obtain ⟨m, h1, h2⟩ := ctz_form h0 h
  generalize Lib.ctz 64 x = k at h1 h2 hoff ⊢
  have hb : ∀ i, x.testBit i = (decide (i = k) || (decide (k < i) && m.testBit (i - k - 1))) := fun i => by rw [h1]; exact form_bit k m i
  unfold wbits
  rw [range_split h2, List.filter_append, List.filter_append]
  have e1 : (List.range k).filter (fun i => x.testBit i) = [] := by
    rw [List.filter_eq_nil_iff]
    intro i hi
    rw [List.mem_range] at hi
    rw [hb]
    have : ¬ i = k := by omega
    have : ¬ k < i := by omega
    simp [*]
  have e2 : (List.range k).filter (fun i => (x &&& (x - 1)).testBit i) = [] := by
    rw [List.filter_eq_nil_iff]
    intro i hi
    have := List.filter_eq_nil_iff.1 e1 i hi
    rw [hoff]
    simp only [Bool.and_eq_true, not_and]
    exact fun h => absurd h this
  have e3 : x.testBit k = true := by rw [hb]; simp
  have e4 : (x &&& (x - 1)).testBit k = false := by rw [hoff]; simp
  rw [e1, e2, List.filter_cons_of_pos (by simpa using e3), List.filter_cons_of_neg (by simpa using e4), List.nil_append, List.nil_append]
  congr 1
  refine List.filter_congr fun i hi => ?_
  obtain ⟨j, _, rfl⟩ := List.mem_map.1 hi
  rw [hoff]
  have : k + 1 + j ≠ k := by omega
  simp [this]
theorem and_lt {x : Nat} (h : x < 2 ^ 64) : x &&& (x - 1) < 2 ^ 64 := Nat.lt_of_le_of_lt Nat.and_le_left h
theorem and_less {x : Nat} (h0 : x ≠ 0) : x &&& (x - 1) < x := by
  have := Nat.and_le_right (n := x) (m := x - 1)
  omega

/-! ### four words -/
def word (m i : Nat) : Nat := m / 2 ^ (64 * i) % 2 ^ 64
theorem word_lt (m i : Nat) : word m i < 2 ^ 64 := Nat.mod_lt _ (Nat.two_pow_pos 64)
theorem word_bit (m i j : Nat) (h : j < 64) : (word m i).testBit j = m.testBit (64 * i + j) := by
  unfold word
  rw [Nat.testBit_mod_two_pow, Nat.testBit_div_two_pow]
  simp [h, Nat.add_comm]
theorem word_ext {m n : Nat} (i : Nat) (h : ∀ j, j < 64 → m.testBit (64 * i + j) = n.testBit j) (hn : n < 2 ^ 64) : word m i = n := by
  apply Nat.eq_of_testBit_eq
  intro j
  by_cases hj : j < 64
  · rw [word_bit _ _ _ hj, h j hj]
  · rw [Nat.testBit_lt_two_pow (Nat.lt_of_lt_of_le (word_lt m i) (Nat.pow_le_pow_right (by decide) (by omega))), Nat.testBit_lt_two_pow (Nat.lt_of_lt_of_le hn (Nat.pow_le_pow_right (by decide) (by omega)))]
theorem word_or (a b i : Nat) : word (a ||| b) i = word a i ||| word b i := by
  refine word_ext i (fun j hj => ?_) (Nat.or_lt_two_pow (word_lt _ _) (word_lt _ _))
  rw [Nat.testBit_or, Nat.testBit_or, word_bit _ _ _ hj, word_bit _ _ _ hj]
theorem word_and (a b i : Nat) : word (a &&& b) i = word a i &&& word b i := by
  refine word_ext i (fun j hj => ?_) (Nat.lt_of_le_of_lt Nat.and_le_left (word_lt _ _))
  rw [Nat.testBit_and, Nat.testBit_and, word_bit _ _ _ hj, word_bit _ _ _ hj]
theorem word_pow (n i : Nat) : word (2 ^ n) i = if n / 64 = i then 2 ^ (n % 64) else 0 := by
  refine word_ext i (fun j hj => ?_) ?_
  · rw [Nat.testBit_two_pow]
    split
    · rw [Nat.testBit_two_pow]
      rw [Bool.eq_iff_iff, decide_eq_true_eq, decide_eq_true_eq]; omega
    · rw [Nat.zero_testBit, decide_eq_false_iff_not]; omega
  · split
    · exact Nat.pow_lt_pow_right (by decide) (Nat.mod_lt _ (by decide))
    · exact Nat.two_pow_pos 64
theorem range256 : List.range 256 = (List.range 64) ++ (List.range 64).map (64 + ·) ++ (List.range 64).map (128 + ·) ++ (List.range 64).map (192 + ·) := by
  rw [show (256 : Nat) = 64 + (64 + (64 + 64)) from rfl]
  simp only [List.range_add, List.map_append, List.map_map, List.append_assoc]
  rfl
/-- The bits of four words, one behind the other. -/
theorem bitsOf_words (m : Nat) : bitsOf m = ((wbits (word m 0)).map fun i => ((0 + i : Nat) : Int)) ++ ((wbits (word m 1)).map fun i => ((64 + i : Nat) : Int)) ++ ((wbits (word m 2)).map fun i => ((128 + i : Nat) : Int)) ++ ((wbits (word m 3)).map fun i => ((192 + i : Nat) : Int)) := by
  have key : ∀ (k i : Nat), k = 64 * i → (((List.range 64).map (k + ·)).map Int.ofNat).filter (fun n => m.testBit n.toNat) = (wbits (word m i)).map fun j => ((k + j : Nat) : Int) := by
    rintro k i rfl
    unfold wbits
    rw [List.map_map, List.filter_map]
    have : (List.range 64).filter ((fun n : Int => m.testBit n.toNat) ∘ Int.ofNat ∘ fun x => 64 * i + x) = (List.range 64).filter fun j => (word m i).testBit j := by
      refine List.filter_congr fun j hj => ?_
      rw [word_bit _ _ _ (List.mem_range.1 hj)]
      rfl
    rw [this]
    rfl
  unfold bitsOf fl
  rw [range256]
  simp only [List.map_append, List.filter_append]
  rw [key 64 1 rfl, key 128 2 rfl, key 192 3 rfl]
  have := key 0 0 rfl
  simp only [Nat.zero_add, List.map_id'] at this ⊢
  rw [this]
end Go.Bw
