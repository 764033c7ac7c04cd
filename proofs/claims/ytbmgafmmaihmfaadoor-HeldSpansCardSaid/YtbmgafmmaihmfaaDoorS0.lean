/- Plain lemmas on sets of numbers below 256: no program in sight. -/
set_option linter.unusedVariables false
set_option linter.unusedSimpArgs false
namespace Go.Bw

/-- Rising from behind a number on, below 256. -/
def asc : Int → List Int → Bool
  | _, [] => true
  | last, n :: r => decide (last < n) && decide (n < 256) && asc n r
/-- A set: rising, from 0 to 255. -/
def setR (l : List Int) : Bool := asc (-1) l
/-- The numbers from 0 to 255 that are so. -/
def fl (p : Int → Bool) : List Int := ((List.range 256).map Int.ofNat).filter p

theorem asc_weak {a b : Int} {l : List Int} (h : asc a l = true) (hab : b ≤ a) : asc b l = true := by
  cases l with
  | nil => rfl
  | cons n r =>
    simp only [asc, Bool.and_eq_true, decide_eq_true_eq] at h ⊢
    exact ⟨⟨by omega, h.1.2⟩, h.2⟩
theorem asc_mem {a : Int} {l : List Int} (h : asc a l = true) : ∀ n, n ∈ l → a < n ∧ n < 256 := by
  induction l generalizing a with
  | nil => intro n hn; cases hn
  | cons m r ih =>
    simp only [asc, Bool.and_eq_true, decide_eq_true_eq] at h
    intro n hn
    rcases List.mem_cons.1 hn with rfl | hn
    · exact h.1
    · have := ih h.2 n hn
      exact ⟨by omega, this.2⟩
theorem asc_pair {a : Int} {l : List Int} (h : asc a l = true) : l.Pairwise (· < ·) := by
  induction l generalizing a with
  | nil => exact .nil
  | cons m r ih =>
    simp only [asc, Bool.and_eq_true, decide_eq_true_eq] at h
    exact .cons (fun n hn => (asc_mem h.2 n hn).1) (ih h.2)
theorem asc_of {a : Int} {l : List Int} (h : l.Pairwise (· < ·)) (hm : ∀ n, n ∈ l → a < n ∧ n < 256) : asc a l = true := by
  induction l generalizing a with
  | nil => rfl
  | cons m r ih =>
    cases h with
    | cons h1 h2 =>
      simp only [asc, Bool.and_eq_true, decide_eq_true_eq]
      exact ⟨hm m List.mem_cons_self, ih h2 fun n hn => ⟨h1 n hn, (hm n (List.mem_cons_of_mem _ hn)).2⟩⟩
theorem setR_iff {l : List Int} : setR l = true ↔ l.Pairwise (· < ·) ∧ ∀ n, n ∈ l → 0 ≤ n ∧ n < 256 :=
  ⟨fun h => ⟨asc_pair h, fun n hn => by have := asc_mem h n hn; omega⟩, fun h => asc_of h.1 fun n hn => by have := h.2 n hn; omega⟩

theorem pair_range (n : Nat) : ((List.range n).map Int.ofNat).Pairwise (· < ·) := by
  rw [List.pairwise_map]
  exact List.pairwise_lt_range.imp fun h => by simpa using h
theorem mem_fl {p : Int → Bool} {n : Int} : n ∈ fl p ↔ (0 ≤ n ∧ n < 256) ∧ p n = true := by
  unfold fl
  rw [List.mem_filter, List.mem_map]
  constructor
  · rintro ⟨⟨k, hk, rfl⟩, h⟩
    rw [List.mem_range] at hk
    exact ⟨⟨by simp, by simp; omega⟩, h⟩
  · rintro ⟨⟨h1, h2⟩, h⟩
    exact ⟨⟨n.toNat, List.mem_range.2 (by omega), by simpa using Int.toNat_of_nonneg h1⟩, h⟩
theorem fl_set (p : Int → Bool) : setR (fl p) = true :=
  setR_iff.2 ⟨(pair_range 256).filter _, fun n hn => (mem_fl.1 hn).1⟩
theorem pair_ext {l m : List Int} (hl : l.Pairwise (· < ·)) (hm : m.Pairwise (· < ·)) (h : ∀ n, n ∈ l ↔ n ∈ m) : l = m := by
  induction l generalizing m with
  | nil =>
    cases m with
    | nil => rfl
    | cons b m => exact absurd ((h b).2 List.mem_cons_self) (by simp)
  | cons a l ih =>
    cases m with
    | nil => exact absurd ((h a).1 List.mem_cons_self) (by simp)
    | cons b m =>
      cases hl with
      | cons hl1 hl2 =>
      cases hm with
      | cons hm1 hm2 =>
        have hab : a = b := by
          rcases List.mem_cons.1 ((h a).1 List.mem_cons_self) with e | e
          · exact e
          · rcases List.mem_cons.1 ((h b).2 List.mem_cons_self) with e' | e'
            · exact e'.symm
            · have := hm1 a e; have := hl1 b e'; omega
        subst hab
        rw [ih hl2 hm2 fun n => ?_]
        have := h n
        constructor
        · intro hn
          rcases List.mem_cons.1 (this.1 (List.mem_cons_of_mem _ hn)) with e | e
          · subst e; exact absurd (hl1 n hn) (by omega)
          · exact e
        · intro hn
          rcases List.mem_cons.1 (this.2 (List.mem_cons_of_mem _ hn)) with e | e
          · subst e; exact absurd (hm1 n hn) (by omega)
          · exact e
theorem set_ext {l m : List Int} (hl : setR l = true) (hm : setR m = true) (h : ∀ n, n ∈ l ↔ n ∈ m) : l = m := pair_ext (setR_iff.1 hl).1 (setR_iff.1 hm).1 h
theorem fl_ext {p q : Int → Bool} (h : ∀ n, 0 ≤ n → n < 256 → p n = q n) : fl p = fl q :=
  set_ext (fl_set p) (fl_set q) fun n => by
    rw [mem_fl, mem_fl]
    constructor
    · rintro ⟨⟨h1, h2⟩, h3⟩; exact ⟨⟨h1, h2⟩, by rw [← h n h1 h2]; exact h3⟩
    · rintro ⟨⟨h1, h2⟩, h3⟩; exact ⟨⟨h1, h2⟩, by rw [h n h1 h2]; exact h3⟩
/-- A set is those that are in it. -/
theorem set_fl {l : List Int} (h : setR l = true) : l = fl fun n => l.contains n :=
  set_ext h (fl_set _) fun n => by
    rw [mem_fl, List.contains_iff_mem]
    exact ⟨fun hn => ⟨(setR_iff.1 h).2 n hn, hn⟩, fun hn => hn.2⟩
theorem contains_fl {p : Int → Bool} {n : Int} : (fl p).contains n = (decide (0 ≤ n) && decide (n < 256) && p n) := by
  rw [Bool.eq_iff_iff, List.contains_iff_mem, mem_fl]; simp

/-! ### the operations -/
def joinS (a b : List Int) : List Int := if setR a && setR b then fl fun n => a.contains n || b.contains n else []
def meetS (a b : List Int) : List Int := if setR a && setR b then fl fun n => a.contains n && b.contains n else []
def lessS (a b : List Int) : List Int := if setR a && setR b then fl fun n => a.contains n && !b.contains n else []
def hasS (a : List Int) (n : Int) : Bool := setR a && a.contains n
def partS (a b : List Int) : Bool := setR a && setR b && a.all fun n => b.contains n
def apartS (a b : List Int) : Bool := setR a && setR b && a.all fun n => !b.contains n

/-! ### sets as numbers: one bit each -/
def mask (l : List Int) : Nat := l.foldr (fun n m => 2 ^ n.toNat ||| m) 0
def bitsOf (m : Nat) : List Int := fl fun n => m.testBit n.toNat
theorem mask_bit {l : List Int} (h : ∀ n, n ∈ l → 0 ≤ n) (i : Nat) : (mask l).testBit i = l.contains (i : Int) := by
  induction l with
  | nil => simp [mask]
  | cons n r ih =>
    have hn := h n List.mem_cons_self
    have ih := ih fun k hk => h k (List.mem_cons_of_mem _ hk)
    have e : mask (n :: r) = 2 ^ n.toNat ||| mask r := rfl
    rw [e, Nat.testBit_or, ih, Nat.testBit_two_pow, List.contains_cons]
    congr 1
    rw [Bool.eq_iff_iff]
    simp only [decide_eq_true_eq, beq_iff_eq]
    omega
theorem bits_mask {l : List Int} (h : setR l = true) : bitsOf (mask l) = l := by
  have hm := (setR_iff.1 h).2
  conv => rhs; rw [set_fl h]
  refine fl_ext fun n h0 h1 => ?_
  rw [mask_bit fun n hn => (hm n hn).1, Int.toNat_of_nonneg h0]
theorem mask_lt {l : List Int} (h : ∀ n, n ∈ l → n < 256) : mask l < 2 ^ 256 := by
  induction l with
  | nil => exact Nat.two_pow_pos 256
  | cons n r ih =>
    have hn := h n List.mem_cons_self
    have ih := ih fun k hk => h k (List.mem_cons_of_mem _ hk)
    exact Nat.or_lt_two_pow (Nat.pow_lt_pow_right (by decide) (by omega)) ih
theorem bits_or {a b : List Int} (ha : setR a = true) (hb : setR b = true) : bitsOf (mask a ||| mask b) = joinS a b := by
  have h1 := (setR_iff.1 ha).2
  have h2 := (setR_iff.1 hb).2
  unfold joinS
  rw [ha, hb]
  refine fl_ext fun n h0 _ => ?_
  rw [Nat.testBit_or, mask_bit fun n hn => (h1 n hn).1, mask_bit fun n hn => (h2 n hn).1, Int.toNat_of_nonneg h0]
theorem bits_and {a b : List Int} (ha : setR a = true) (hb : setR b = true) : bitsOf (mask a &&& mask b) = meetS a b := by
  have h1 := (setR_iff.1 ha).2
  have h2 := (setR_iff.1 hb).2
  unfold meetS
  rw [ha, hb]
  refine fl_ext fun n h0 _ => ?_
  rw [Nat.testBit_and, mask_bit fun n hn => (h1 n hn).1, mask_bit fun n hn => (h2 n hn).1, Int.toNat_of_nonneg h0]
end Go.Bw
