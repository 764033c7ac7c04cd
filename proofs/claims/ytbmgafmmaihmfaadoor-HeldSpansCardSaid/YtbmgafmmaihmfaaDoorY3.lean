/- What finding, adding, getting and comparing answer. No statement of a law is proved here. -/
import Derived.Test.YtbmgafmmaihmfaaDoorY2
set_option linter.unusedVariables false
set_option linter.unusedSimpArgs false
namespace Go.Bw
theorem rising_lt {l : List HeldV} (h : Rising l) {i j : Nat} {x y : HeldV} (hij : i < j) (hx : l[i]? = some x) (hy : l[j]? = some y) : x.id < y.id := by
  obtain ⟨hi, rfl⟩ := List.getElem?_eq_some_iff.1 hx
  obtain ⟨hj, rfl⟩ := List.getElem?_eq_some_iff.1 hy
  exact List.pairwise_iff_getElem.1 h i j hi hj hij
/-- None has more than 60 things, and there are 30 at most. -/
def shortT (l : List HeldV) : Bool := decide (l.length ≤ 30) && l.all fun h => decide (h.things.length ≤ 60)
theorem short_sm {l : List HeldV} (h : shortT l = true) : Sm l := by
  simp only [shortT, Bool.and_eq_true, decide_eq_true_eq, List.all_eq_true] at h
  exact ⟨by omega, fun x hx => Nat.le_trans (h.2 x hx) (by decide)⟩
theorem may_small {h : HeldV} (hm : mayB h = true) : Sm1 h := by
  have h1 := may_set hm
  unfold Sm1
  have : h.things.length ≤ 256 := by
    rw [set_fl h1]
    unfold fl
    refine Nat.le_trans (List.length_filter_le _ _) ?_
    simp
  omega
theorem fl_len (p : Int → Bool) : (fl p).length ≤ 256 := by
  unfold fl
  exact Nat.le_trans (List.length_filter_le _ _) (by simp)
theorem join_len (a b : List Int) : (joinS a b).length ≤ 256 := by
  unfold joinS
  split
  · exact fl_len _
  · simp
/-- A sorted list, each once. -/
theorem compact_sorted {l : List Int} (h : l.Pairwise (· ≤ ·)) : (Lib.compact l).Pairwise (· < ·) ∧ ∀ n, n ∈ Lib.compact l ↔ n ∈ l := by
  have hget : ∀ i, i < l.length → l.toArray[i]! = l[i]! := fun i hi => by simp [hi]
  have hle : ∀ i j, i ≤ j → j < l.length → l.toArray[i]! ≤ l.toArray[j]! := fun i j hij hj => by
    rcases Nat.lt_or_eq_of_le hij with h1 | rfl
    · have := List.pairwise_iff_getElem.1 h i j (by omega) hj h1
      simpa [hj, show i < l.length by omega] using this
    · exact Int.le_refl _
  unfold Lib.compact Lib.compactUpTo
  constructor
  · rw [List.pairwise_map]
    have hr : (List.range l.length).Pairwise (fun i j => i < j ∧ j < l.length) := by
      rw [List.pairwise_iff_getElem]
      intro i j hi hj hij
      simp at hi hj ⊢
      omega
    rw [List.pairwise_filter]
    refine hr.imp fun {i j} hij hi hj => ?_
    have h1 := hle i (j - 1) (by omega) (by omega)
    have h2 := hle (j - 1) j (by omega) (by omega)
    have h3 : ¬ l.toArray[j]! = l.toArray[j - 1]! := fun e => by
      rw [Lib.keeps_neg (by omega) e] at hj
      cases hj
    omega
  · intro n
    simp only [List.mem_map, List.mem_filter, List.mem_range]
    constructor
    · rintro ⟨i, ⟨hi, _⟩, rfl⟩
      rw [hget i hi, List.getElem!_eq_getElem?_getD, List.getElem?_eq_getElem hi]
      exact List.getElem_mem hi
    · intro hn
      have key : ∀ i, i < l.length → l.toArray[i]! = n → ∃ j, j < l.length ∧ Lib.keeps l.toArray j = true ∧ l.toArray[j]! = n := by
        intro i
        induction i with
        | zero => exact fun hi he => ⟨0, hi, Lib.keeps_lt_one _ 0 (by omega), he⟩
        | succ i ih =>
          intro hi he
          by_cases hp : l.toArray[i + 1]! = l.toArray[i]!
          · exact ih (by omega) (by rw [← hp]; exact he)
          · exact ⟨i + 1, hi, Lib.keeps_pos (by simpa using hp), he⟩
      obtain ⟨i, hi, rfl⟩ := List.getElem_of_mem hn
      obtain ⟨j, h1, h2, h3⟩ := key i hi (by simp [hi])
      exact ⟨j, ⟨h1, h2⟩, h3⟩
theorem lsort_rows {l : List Int} (h : l.length ≤ 1000000) : lsort (intRows l) = some (intRows (l.mergeSort fun x y => decide (x ≤ y))) := by
  unfold lsort
  rw [rowInts_rows]
  show (if l.length ≤ LIM then _ else _) = _
  rw [if_pos (by unfold LIM; omega)]
theorem lcompact_rows {l : List Int} (h : l.length ≤ 1000000) : lcompact (intRows l) = some (intRows (Lib.compact l)) := by
  unfold lcompact
  rw [rowInts_rows]
  show (if l.length ≤ LIM then _ else _) = _
  rw [if_pos (by unfold LIM; omega)]
theorem ends_are {l : List HeldV} (hr : rightT l = true) (f : Int) : Lib.compact (((l.filter fun h => decide (f < h.to)).map HeldV.to).mergeSort fun x y => decide (x ≤ y)) = endsT l f := by
  have hs : (((l.filter fun h => decide (f < h.to)).map HeldV.to).mergeSort fun x y => decide (x ≤ y)).Pairwise (· ≤ ·) := by
    have := List.pairwise_mergeSort (le := fun x y : Int => decide (x ≤ y)) (by intro a b c; simp; omega) (by intro a b; simp; omega) ((l.filter fun h => decide (f < h.to)).map HeldV.to)
    exact this.imp fun h => by simpa using h
  obtain ⟨h1, h2⟩ := compact_sorted hs
  refine ends_eq hr h1 fun n => ?_
  rw [h2, List.mem_mergeSort, List.mem_map]
  constructor
  · rintro ⟨x, hx, rfl⟩
    obtain ⟨h3, h4⟩ := List.mem_filter.1 hx
    exact ⟨x, h3, rfl, by simpa using h4⟩
  · rintro ⟨x, h3, rfl, h4⟩
    exact ⟨x, List.mem_filter.2 ⟨h3, by simpa using h4⟩, rfl⟩
theorem cmp_zero (a t : Int) : ((if a < t then (-1 : Int) else if t < a then 1 else 0) == 0) = (a == t) := by
  rw [Bool.eq_iff_iff, beq_iff_eq, beq_iff_eq]
  split
  · constructor
    · intro h; cases h
    · intro h; omega
  · split
    · constructor
      · intro h; cases h
      · intro h; omega
    · constructor
      · intro _; omega
      · intro _; rfl
theorem int_beq (a b : Int) : (a == b) = decide (a = b) := by rw [Bool.eq_iff_iff, beq_iff_eq, decide_eq_true_eq]
theorem int_bne (a b : Int) : (a != b) = !decide (a = b) := by rw [bne, int_beq]
theorem pi64_i (n : Int) : pi64 (.int .i64 n) = some n := rfl
theorem hp_zero : hp zeroH = .agg [.int .i64 0, .list 1 [], .int .i64 0, .int .i64 0] := rfl
theorem ins_sm {l : List HeldV} {h : HeldV} (hl : Sm l) (hh : Sm1 h) (h1 : l.length ≤ 999) : Sm (insT l h) := by
  refine ⟨by rw [ins_len]; omega, fun x hx => ?_⟩
  rcases mem_ins.1 hx with rfl | hx
  · exact hh
  · exact hl.2 x hx
theorem add_sm {l : List HeldV} {h : HeldV} (hl : Sm l) (hh : Sm1 h) (h1 : l.length ≤ 999) : Sm (addT l h).1 := by
  unfold addT
  split
  · exact hl
  · split
    · exact hl
    · split
      · exact hl
      · exact ins_sm hl hh h1
theorem add_len (l : List HeldV) (h : HeldV) : (addT l h).1.length ≤ l.length + 1 := by
  unfold addT
  split
  · simp
  · split
    · simp
    · split
      · simp
      · rw [ins_len]
        exact Nat.le_refl _
end Go.Bw
namespace Go.Bw.A
open Go.Proofs Go.Bw

theorem P93_is (a b : Int) : P93 [.int .i64 a, .int .i64 b] = some (.int .i64 (if a < b then -1 else if b < a then 1 else 0)) := by
  have h : ∀ x : Int, P117 [.int .i64 x] = some (.bool false) := fun x => by
    show some (PV.bool (x != x)) = _
    simp
  show F93 a b = _
  unfold F93
  rw [h, h]
  by_cases h1 : a < b
  · simp [h1, obind, pbool_b]
  · by_cases h2 : b < a <;> simp [h1, h2, obind, pbool_b]
theorem P92_is (h : HeldV) (t : Int) : P92 [hp h, .int .i64 t] = some (.int .i64 (if h.id < t then -1 else if t < h.id then 1 else 0)) := by
  show (P93 [.int .i64 h.id, .int .i64 t]).bind _ = _
  rw [P93_is]; rfl
theorem f91c92_loop (k0 : List (List PV) → Int → Int → PV → Option PV) (l : List HeldV) (t x8 : Int) (hr : Rising l) (hl : l.length ≤ 1000) : ∀ (n i j : Nat), i ≤ j → j ≤ l.length → (∀ k x, k < i → l[k]? = some x → x.id < t) → (∀ k x, j ≤ k → l[k]? = some x → t ≤ x.id) → j - i < n →
    f91c92_l3 k0 n (hrows l) t x8 (.int .i64 (i : Nat)) (.int .i64 (j : Nat)) = k0 (hrows l) t x8 (.int .i64 (posT l t : Nat))
  | 0, i, j, _, _, _, _, h => by omega
  | n + 1, i, j, hij, hj, h1, h2, h => by
    simp only [f91c92_l3, pb_lss, obind, pbool_b]
    by_cases hlt : i < j
    · have e0 : decide (((i : Nat) : Int) < (j : Nat)) = true := by rw [decide_eq_true_eq]; omega
      have e1 : IntKind.i64.wrap (((i : Nat) : Int) + (j : Nat)) = ((i + j : Nat) : Int) := by rw [wrap_in] <;> omega
      have e2 : pconv T 119 (.int .i64 ((i + j : Nat) : Int)) = some (.int .u64 ((i + j : Nat) : Int)) := by
        have : pconv T 119 (.int .i64 ((i + j : Nat) : Int)) = some (.int .u64 (IntKind.u64.wrap ((i + j : Nat) : Int))) := by kernel_rfl
        rw [this, uwrap_in (by omega)]
      have e3 : pbin .shr (.int .u64 ((i + j : Nat) : Int)) (.int .u64 1) = some (.int .u64 (((i + j) / 2 : Nat) : Int)) := by
        show some (PV.int .u64 (((i + j : Nat) : Int).fdiv 2)) = _
        rw [Int.fdiv_eq_ediv_of_nonneg _ (by decide)]
        simp
      have e4 : pconv T 3 (.int .u64 (((i + j) / 2 : Nat) : Int)) = some (.int .i64 (((i + j) / 2 : Nat) : Int)) := by
        have : pconv T 3 (.int .u64 (((i + j) / 2 : Nat) : Int)) = some (.int .i64 (IntKind.i64.wrap (((i + j) / 2 : Nat) : Int))) := by kernel_rfl
        rw [this, wrap_in] <;> omega
      have hm : (i + j) / 2 < l.length := by omega
      generalize hmid : (i + j) / 2 = m at e3 e4 hm
      obtain ⟨y, hy⟩ : ∃ y, l[m]? = some y := ⟨l[m], List.getElem?_eq_getElem hm⟩
      have e5 : IntKind.i64.wrap (((m : Nat) : Int) + 1) = ((m + 1 : Nat) : Int) := wrap_step (by omega)
      simp only [e0, cond_true, pb_add, obind, e1, e2, e3, e4, pint_i, hget_at hy, hv_pext, P92_is, pb_lss, pbool_b, e5]
      by_cases hc : y.id < t
      · simp only [hc, if_true, show decide ((-1 : Int) < 0) = true from rfl, cond_true]
        refine f91c92_loop k0 l t x8 hr hl n (m + 1) j (by omega) hj (fun k x hk hx => ?_) h2 (by omega)
        rcases Nat.lt_or_eq_of_le (show k ≤ m by omega) with hk | rfl
        · have := rising_lt hr hk hx hy; omega
        · rw [hy] at hx; injection hx with hx; subst hx; exact hc
      · have : decide ((if y.id < t then (-1 : Int) else if t < y.id then 1 else 0) < 0) = false := by
          rw [if_neg hc]; split <;> rfl
        simp only [this, cond_false]
        refine f91c92_loop k0 l t x8 hr hl n i m (by omega) (by omega) h1 (fun k x hk hx => ?_) (by omega)
        rcases Nat.lt_or_eq_of_le hk with hk | rfl
        · have := rising_lt hr hk hy hx; omega
        · rw [hy] at hx; injection hx with hx; subst hx; omega
    · have e0 : decide (((i : Nat) : Int) < (j : Nat)) = false := by rw [decide_eq_false_iff_not]; omega
      have : i = j := by omega
      subst this
      simp only [e0, cond_false]
      rw [posT_at l t i hj h1 h2]
theorem P59_is {l : List HeldV} (hr : Rising l) (hl : l.length ≤ 1000) (t : Int) : P59 [.list 4 (hrows l), .int .i64 t] = some (.tup [.int .i64 (posT l t : Nat), .bool (hasId l t)]) := by
  have e : P91c92 [.pv (.list 4 (hrows l)), .pv (.int .i64 t), .clo 92 []] = some (.tup [.int .i64 (posT l t : Nat), .bool (hasId l t)]) := by
    show F91c92 (hrows l) t = _
    unfold F91c92
    rw [hrows_len]
    refine Eq.trans (f91c92_loop _ l t _ hr hl FU 0 l.length (by omega) (Nat.le_refl _) (fun k x hk _ => by omega) (fun k x hk hx => ?_) (by exact FU_big (by omega))) ?_
    · rw [List.getElem?_eq_none hk] at hx; cases hx
    · have hh := has_pos hr t
      have hp := posT_le l t
      simp only [pb_lss, obind, pbool_b]
      cases hy : l[posT l t]? with
      | none =>
        rw [hy] at hh
        have : decide (((posT l t : Nat) : Int) < (l.length : Nat)) = false := by
          rw [List.getElem?_eq_none_iff] at hy
          rw [decide_eq_false_iff_not]; omega
        simp only [this, cond_false, obind, pnth0, pnth1, hh]
      | some y =>
        rw [hy] at hh
        have : decide (((posT l t : Nat) : Int) < (l.length : Nat)) = true := by
          obtain ⟨h, _⟩ := List.getElem?_eq_some_iff.1 hy
          rw [decide_eq_true_eq]; omega
        simp only [this, cond_true, pint_i, obind, hget_at hy, hv_pext, P92_is, pb_eql, pnth0, pnth1, hh]
        rw [cmp_zero]
  show (P91c92 [.pv (.list 4 (hrows l)), .pv (.int .i64 t), .clo 92 []]).bind _ = _
  rw [e]
  rfl
theorem P20_is {l : List HeldV} {h : HeldV} (hl : Sm l) (hh : Sm1 h) : P20 [.list 4 (hrows l), hp h] = some (.tup [.list 4 (hrows (addT l h).1), .int .i64 (addT l h).2]) := by
  show F20 (hrows l) h.id (intRows h.things) h.fr h.to = _
  have h64 : P64 [.agg [.int .i64 h.id, .list 1 (intRows h.things), .int .i64 h.fr, .int .i64 h.to]] = some (hp h) := P64_is hh
  have h58 : P58 [.agg [.int .i64 h.id, .list 1 (intRows h.things), .int .i64 h.fr, .int .i64 h.to]] = some (.bool (mayB h)) := P58_is hh
  have h60 : P60c61 [.pv (.list 4 (hrows l)), .clo 61 [.eptr [.int .i64 h.id, .list 1 (intRows h.things), .int .i64 h.fr, .int .i64 h.to] 0]] = some (.bool (l.any fun x => clashG x h)) := P60c61_is hl hh
  unfold F20 addT
  rw [P57_is hl, P40_is hl, h58, h60, h64]
  simp only [obind, pun_not, pbool_b, hrows_len]
  cases hr : rightT l with
  | false => simp [obind, pbool_b]
  | true =>
    cases hm : mayB h with
    | false => simp [obind, pbool_b]
    | true =>
      rw [P59_is (right_rising hr) hl.1]
      have hcl : (l.any fun y => clashG y h) = l.any fun y => clashB y h := by
        have hms := (rightT_iff.1 hr).2.1
        rw [Bool.eq_iff_iff, List.any_eq_true, List.any_eq_true]
        exact ⟨fun ⟨y, h1, h2⟩ => ⟨y, h1, by rw [← clashG_eq (hms y h1) hm]; exact h2⟩, fun ⟨y, h1, h2⟩ => ⟨y, h1, by rw [clashG_eq (hms y h1) hm]; exact h2⟩⟩
      have e256 : (((l.length : Nat) : Int) == 256) = (l.length == 256) := by rw [Bool.eq_iff_iff, beq_iff_eq, beq_iff_eq]; omega
      have hins := linsert_is (h := h) hl.1
      rw [hcl]
      simp only [obind, pnth0, pnth1, pbool_b, Bool.not_true, cond_false, Bool.and_self, Bool.false_eq_true, if_false, e256, beq_self_eq_true, cond_true, flat_b, hp_pcells, pi64_i, hins]
      cases hasId l h.id with
      | true => simp
      | false =>
        cases l.length == 256 with
        | true => simp [obind, pbool_b]
        | false =>
          cases (l.any fun y => clashB y h) with
          | true => simp [obind, pbool_b]
          | false => simp [obind, pbool_b]
theorem P21_is {l : List HeldV} (hl : Sm l) (t : Int) : P21 [.list 4 (hrows l), .int .i64 t] = some (.tup [hp ((getR l t).getD zeroH), .bool (getR l t).isSome]) := by
  show F21 (hrows l) t = _
  unfold F21 getR
  rw [P40_is hl]
  cases hr : rightT l with
  | false => rfl
  | true =>
    rw [P59_is (right_rising hr) hl.1]
    simp only [obind, pun_not, pbool_b, pnth0, pnth1, pint_i, Bool.not_true, cond_false, if_true]
    cases hh : hasId l t with
    | false =>
      rw [getT_none.2 hh]
      rfl
    | true =>
      obtain ⟨y, h1, h2⟩ := getT_pos (right_rising hr) hh
      have hy := hl.2 y (List.mem_of_getElem? h1)
      simp only [hget_at h1, h2, obind, hv_pext, P64_is hy, hp_pcells, hv_pputs, Bool.not_true, cond_false]
      rfl
theorem f26_loop (k0 : Option PV) (kr : Bool → Option PV) : ∀ (r q pre qre : List Int) (n : Nat), r.length < n → (pre ++ r).length ≤ 1000000 → pre.length = qre.length → r.length = q.length →
    f26_l4 k0 kr n (intRows (pre ++ r)) (intRows (qre ++ q)) (pre.length : Nat) = if r = q then k0 else kr false
  | [], [], pre, qre, n, hn, hl, h1, h2 => by
    obtain ⟨n, rfl⟩ : ∃ k, n = k + 1 := ⟨n - 1, by omega⟩
    simp [f26_l4, intRows_len]
  | x :: r, y :: q, pre, qre, n, hn, hl, h1, h2 => by
    obtain ⟨n, rfl⟩ : ∃ k, n = k + 1 := ⟨n - 1, by omega⟩
    have hlt : decide (((pre.length : Nat) : Int) < ((pre ++ x :: r).length : Nat)) = true := by simp; omega
    have hl' : pre.length ≤ 1000000 := by simp at hl; omega
    have hy : lget (intRows (qre ++ y :: q)) (pre.length : Nat) = some [.int .i64 y] := by rw [h1]; exact iget qre y q
    have ih := f26_loop k0 kr r q (pre ++ [x]) (qre ++ [y]) n (by simp at hn; omega) (by simpa using hl) (by simp [h1]) (by simpa using h2)
    simp only [f26_l4, intRows_len, hlt, cond_true, iget, hy, obind, iv0, pb_neq, pbool_b, wrap_step hl', int_bne]
    by_cases e : x = y
    · subst e
      simpa using ih
    · simp [e]
  | [], _ :: _, _, _, _, _, _, _, h2 => by simp at h2
  | _ :: _, [], _, _, _, _, _, _, h2 => by simp at h2
theorem P26_is {a b : List Int} (ha : a.length ≤ 1000000) : P26 [.list 1 (intRows a), .list 1 (intRows b)] = some (.bool (decide (a = b))) := by
  show F26 (intRows a) (intRows b) = _
  unfold F26
  rw [intRows_len, intRows_len]
  by_cases h : a.length = b.length
  · have e : (((a.length : Nat) : Int) != (b.length : Nat)) = false := by simp [h]
    rw [e, cond_false]
    have := f26_loop (some (.bool true)) (fun (y1 : Bool) => some (.bool y1)) a b [] [] FU (FU_big ha |> fun h => by exact h) (by simpa using ha) rfl h
    refine Eq.trans this ?_
    by_cases hab : a = b <;> simp [hab]
  · have e : (((a.length : Nat) : Int) != (b.length : Nat)) = true := by simp; omega
    have : ¬ a = b := fun h2 => h (by rw [h2])
    rw [e]
    simp [this]
theorem P22_is {a b : HeldV} (ha : Sm1 a) : P22 [hp a, hp b] = some (.bool (decide (a = b))) := by
  show F22 a.id (intRows a.things) a.fr a.to b.id (intRows b.things) b.fr b.to = _
  unfold F22
  rw [P26_is ha]
  obtain ⟨i, th, f, t⟩ := a
  obtain ⟨i', th', f', t'⟩ := b
  simp only [HeldV.mk.injEq, int_beq]
  by_cases h1 : i = i' <;> by_cases h2 : f = f' <;> by_cases h3 : t = t' <;> by_cases h4 : th = th' <;> simp [h1, h2, h3, h4, obind]
theorem f23_loop (k0 : Option PV) (kr : Bool → Option PV) : ∀ (r q pre qre : List HeldV) (n : Nat), r.length < n → (pre ++ r).length ≤ 1000 → (∀ h, h ∈ r → Sm1 h) → pre.length = qre.length → r.length = q.length →
    f23_l4 k0 kr n (hrows (pre ++ r)) (hrows (qre ++ q)) (pre.length : Nat) = if r = q then k0 else kr false
  | [], [], pre, qre, n, hn, hl, hs, h1, h2 => by
    obtain ⟨n, rfl⟩ : ∃ k, n = k + 1 := ⟨n - 1, by omega⟩
    simp [f23_l4, hrows_len]
  | x :: r, y :: q, pre, qre, n, hn, hl, hs, h1, h2 => by
    obtain ⟨n, rfl⟩ : ∃ k, n = k + 1 := ⟨n - 1, by omega⟩
    have hlt : decide (((pre.length : Nat) : Int) < ((pre ++ x :: r).length : Nat)) = true := by simp; omega
    have hl' : pre.length ≤ 1000000 := by simp at hl; omega
    have hy : lget (hrows (qre ++ y :: q)) (pre.length : Nat) = some (hv y) := by rw [h1]; exact hget qre y q
    have ih := f23_loop k0 kr r q (pre ++ [x]) (qre ++ [y]) n (by simp at hn; omega) (by simpa using hl) (fun h hh => hs h (List.mem_cons_of_mem _ hh)) (by simp [h1]) (by simpa using h2)
    simp only [f23_l4, hrows_len, hlt, cond_true, hget, hy, obind, hv_pext, P22_is (hs x List.mem_cons_self), pun_not, pbool_b, wrap_step hl']
    by_cases e : x = y
    · subst e
      simpa using ih
    · simp [e]
  | [], _ :: _, _, _, _, _, _, _, _, h2 => by simp at h2
  | _ :: _, [], _, _, _, _, _, _, _, h2 => by simp at h2
theorem P23_is {a b : List HeldV} (ha : Sm a) : P23 [.list 4 (hrows a), .list 4 (hrows b)] = some (.bool (decide (a = b))) := by
  show F23 (hrows a) (hrows b) = _
  unfold F23
  rw [hrows_len, hrows_len]
  by_cases h : a.length = b.length
  · have e : (((a.length : Nat) : Int) != (b.length : Nat)) = false := by simp [h]
    rw [e, cond_false]
    have := f23_loop (some (.bool true)) (fun (y1 : Bool) => some (.bool y1)) a b [] [] FU (FU_big (by have := ha.1; omega)) (by simpa using ha.1) ha.2 rfl h
    refine Eq.trans this ?_
    by_cases hab : a = b <;> simp [hab]
  · have e : (((a.length : Nat) : Int) != (b.length : Nat)) = true := by simp; omega
    have : ¬ a = b := fun h2 => h (by rw [h2])
    rw [e]
    simp [this]
theorem f19_loop (k0 : Option PV) (kr : Bool → Option PV) : ∀ (r pre : List HeldV) (n : Nat), r.length < n → (pre ++ r).length ≤ 1000 →
    f19_l4 k0 kr n (hrows (pre ++ r)) (pre.length : Nat) = if (r.all fun h => decide (h.things.length ≤ 60)) = true then k0 else kr false
  | [], pre, n, hn, hl => by
    obtain ⟨n, rfl⟩ : ∃ k, n = k + 1 := ⟨n - 1, by omega⟩
    simp [f19_l4, hrows_len]
  | x :: r, pre, n, hn, hl => by
    obtain ⟨n, rfl⟩ : ∃ k, n = k + 1 := ⟨n - 1, by omega⟩
    have hlt : decide (((pre.length : Nat) : Int) < ((pre ++ x :: r).length : Nat)) = true := by simp; omega
    have hl' : pre.length ≤ 1000000 := by simp at hl; omega
    have ih := f19_loop k0 kr r (pre ++ [x]) n (by simp at hn; omega) (by simpa using hl)
    simp only [f19_l4, hrows_len, hlt, cond_true, hget, obind, hv1, plist_l, intRows_len, wrap_step hl', List.all_cons]
    by_cases e : x.things.length ≤ 60
    · have e1 : decide (((x.things.length : Nat) : Int) > 60) = false := by rw [decide_eq_false_iff_not]; omega
      simp only [e1, e, decide_true, Bool.true_and, cond_false]
      simpa using ih
    · have e1 : decide (((x.things.length : Nat) : Int) > 60) = true := by rw [decide_eq_true_eq]; omega
      simp only [e1, e, decide_false, Bool.false_and, cond_true, Bool.false_eq_true, if_false]
theorem P19_is (l : List HeldV) : P19 [.list 4 (hrows l)] = some (.bool (shortT l)) := by
  show F19 (hrows l) = _
  unfold F19 shortT
  rw [hrows_len]
  by_cases h : l.length ≤ 30
  · have e : decide (((l.length : Nat) : Int) > 30) = false := by rw [decide_eq_false_iff_not]; omega
    rw [e, cond_false]
    refine Eq.trans (f19_loop (some (.bool true)) (fun (y1 : Bool) => some (.bool y1)) l [] FU (FU_big (by omega)) (by simp; omega)) ?_
    rw [show decide (l.length ≤ 30) = true by simpa using h, Bool.true_and]
    cases l.all fun h => decide (h.things.length ≤ 60) <;> rfl
  · have e : decide (((l.length : Nat) : Int) > 30) = true := by rw [decide_eq_true_eq]; omega
    rw [e, show decide (l.length ≤ 30) = false by simpa using h]
    rfl
theorem f27_loop (k0 : PV → Option PV) (a b : Int) : ∀ (r pre : List HeldV) (n : Nat) (o : List Int), r.length < n → (pre ++ r).length ≤ 1000 → (∀ h, h ∈ r → Sm1 h) → o.length ≤ 256 →
    f27_l5 k0 n a b (.list 1 (intRows o)) (hrows (pre ++ r)) ((pre ++ r).length : Nat) (pre.length : Nat) = k0 (.list 1 (intRows (r.foldl (fun o h => if meetsB h.fr h.to a b then joinS o h.things else o) o)))
  | [], pre, n, o, hn, hl, hs, ho => by
    obtain ⟨n, rfl⟩ : ∃ k, n = k + 1 := ⟨n - 1, by omega⟩
    simp [f27_l5]
  | x :: r, pre, n, o, hn, hl, hs, ho => by
    obtain ⟨n, rfl⟩ : ∃ k, n = k + 1 := ⟨n - 1, by omega⟩
    have hlt : decide (((pre.length : Nat) : Int) < ((pre ++ x :: r).length : Nat)) = true := by simp; omega
    have hl' : pre.length ≤ 1000000 := by simp at hl; omega
    have hx := hs x List.mem_cons_self
    have hj := P33_is o x.things (by omega) (Nat.le_trans hx (by decide))
    simp only [f27_l5, hlt, cond_true, hget, obind, hv_pext, hp_pcells, hv_pputs, hv2, hv3, hv1, P65_is, pbool_b, hj, wrap_step hl', List.foldl_cons]
    have ih := fun o' ho' => f27_loop k0 a b r (pre ++ [x]) n o' (by simp at hn; omega) (by simpa using hl) (fun h hh => hs h (List.mem_cons_of_mem _ hh)) ho'
    cases meetsB x.fr x.to a b with
    | true => simpa using ih _ (join_len o x.things)
    | false => simpa using ih o ho
theorem P27_is {l : List HeldV} (hl : Sm l) (a b : Int) : P27 [.list 4 (hrows l), .int .i64 a, .int .i64 b] = some (.list 1 (intRows (busyT l a b))) := by
  show F27 (hrows l) a b = _
  unfold F27 busyT busyG
  rw [P40_is hl, hrows_len]
  cases hr : rightT l with
  | false => rfl
  | true =>
    exact f27_loop (fun (y4 : PV) => some y4) a b l [] FU [] (FU_big (by have := hl.1; omega)) (by simpa using hl.1) hl.2 (by simp)
theorem f30_loop (k0 : List (List PV) → Nat → Option PV) (a : Int) : ∀ (r pre : List HeldV) (n : Nat) (o : List Int), r.length < n → (pre ++ r).length ≤ 1000 → o.length + r.length ≤ 1000 →
    f30_l5 k0 n (intRows o) a o.length (hrows (pre ++ r)) ((pre ++ r).length : Nat) (pre.length : Nat) = k0 (intRows (o ++ (r.filter fun h => decide (a < h.to)).map HeldV.to)) (o ++ (r.filter fun h => decide (a < h.to)).map HeldV.to).length
  | [], pre, n, o, hn, hl, ho => by
    obtain ⟨n, rfl⟩ : ∃ k, n = k + 1 := ⟨n - 1, by omega⟩
    simp [f30_l5]
  | x :: r, pre, n, o, hn, hl, ho => by
    obtain ⟨n, rfl⟩ : ∃ k, n = k + 1 := ⟨n - 1, by omega⟩
    have hlt : decide (((pre.length : Nat) : Int) < ((pre ++ x :: r).length : Nat)) = true := by simp; omega
    have hl' : pre.length ≤ 1000000 := by simp at hl; omega
    have h1 : (o.length == o.length) = true := by simp
    have h2 : decide (o.length + ([[PV.int .i64 x.to]] : List (List PV)).length ≤ LIM) = true := lim_ok (by simp at ho ⊢; omega)
    have h3 : intRows o ++ [[PV.int .i64 x.to]] = intRows (o ++ [x.to]) := by rw [intRows_app]; rfl
    simp only [f30_l5, hlt, cond_true, hget, obind, hv_pext, hp_pcells, hv_pputs, hv3, pb_gtr, pbool_b, pscal_int, intRows_len, h1, h2, h3, wrap_step hl']
    by_cases hc : a < x.to
    · have ih := f30_loop k0 a r (pre ++ [x]) n (o ++ [x.to]) (by simp at hn; omega) (by simpa using hl) (by simp at ho ⊢; omega)
      rw [List.filter_cons_of_pos (by simpa using hc), show decide (a < x.to) = true by simpa using hc]
      simpa using ih
    · have ih := f30_loop k0 a r (pre ++ [x]) n o (by simp at hn; omega) (by simpa using hl) (by simp at ho ⊢; omega)
      rw [List.filter_cons_of_neg (by simpa using hc), show decide (a < x.to) = false by simpa using hc]
      simpa using ih
theorem P30_is {l : List HeldV} (hl : Sm l) (a : Int) : P30 [.list 4 (hrows l), .int .i64 a] = some (.list 1 (intRows (endsT l a))) := by
  show F30 (hrows l) a = _
  unfold F30
  rw [P40_is hl, hrows_len]
  cases hr : rightT l with
  | false =>
    unfold endsT
    rw [hr]; rfl
  | true =>
    have hlen : ((l.filter fun h => decide (a < h.to)).map HeldV.to).length ≤ 1000000 := by
      rw [List.length_map]
      have := List.length_filter_le (fun h : HeldV => decide (a < h.to)) l
      have := hl.1
      omega
    refine Eq.trans (f30_loop _ a l [] FU [] (FU_big (by have := hl.1; omega)) (by simpa using hl.1) (by simpa using hl.1)) ?_
    rw [List.nil_append, intRows_len, lsort_rows hlen]
    simp only [beq_self_eq_true, cond_true, obind, intRows_len, List.length_mergeSort]
    rw [lcompact_rows (by rw [List.length_mergeSort]; exact hlen), ends_are hr]
    rfl
end Go.Bw.A
