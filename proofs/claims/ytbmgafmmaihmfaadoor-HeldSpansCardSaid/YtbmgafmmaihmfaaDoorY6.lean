/- What is busy, over and ends, as the document says: the laws by their summaries. No statement of a law is proved here. -/
import Derived.Test.YtbmgafmmaihmfaaDoorY5
set_option linter.unusedVariables false
set_option linter.unusedSimpArgs false
namespace Go.Bw
theorem range_step {k m : Nat} : List.range' k (m + 1) = k :: List.range' (k + 1) m := rfl
/-- The least end behind a time; -1 where there is none. -/
def leastEnd (t : Int) (l : List HeldV) (best : Int) : Int := l.foldl (fun b h => if t < h.to ∧ (b < 0 ∨ h.to < b) then h.to else b) best
theorem leastEnd_spec (t : Int) : ∀ (l : List HeldV) (best : Int), (∀ h, h ∈ l → 0 ≤ h.to) → (best = -1 ∨ (0 ≤ best ∧ t < best)) →
    ((leastEnd t l best = -1 ∧ best = -1 ∧ ∀ h, h ∈ l → h.to ≤ t) ∨ (0 ≤ leastEnd t l best ∧ t < leastEnd t l best ∧ (leastEnd t l best = best ∨ ∃ h, h ∈ l ∧ h.to = leastEnd t l best) ∧ (best = -1 ∨ leastEnd t l best ≤ best) ∧ ∀ h, h ∈ l → t < h.to → leastEnd t l best ≤ h.to))
  | [], best, hp, hb => by
    rcases hb with rfl | hb
    · exact .inl ⟨rfl, rfl, fun h hh => by cases hh⟩
    · exact .inr ⟨hb.1, hb.2, .inl rfl, .inr (Int.le_refl _), fun h hh => by cases hh⟩
  | x :: l, best, hp, hb => by
    have hx0 := hp x List.mem_cons_self
    have ih := leastEnd_spec t l (if t < x.to ∧ (best < 0 ∨ x.to < best) then x.to else best) (fun h hh => hp h (List.mem_cons_of_mem _ hh)) (by
      split
      · rename_i h; exact .inr ⟨hx0, h.1⟩
      · exact hb)
    have e : leastEnd t (x :: l) best = leastEnd t l (if t < x.to ∧ (best < 0 ∨ x.to < best) then x.to else best) := rfl
    rw [← e] at ih
    generalize leastEnd t (x :: l) best = z at ih ⊢
    by_cases hc : t < x.to ∧ (best < 0 ∨ x.to < best)
    · rw [if_pos hc] at ih
      rcases ih with ⟨_, h1, _⟩ | ⟨h0, h1, h2, h3, h4⟩
      · omega
      · refine .inr ⟨h0, h1, .inr ?_, ?_, fun h hh hlt => ?_⟩
        · rcases h2 with h2 | ⟨h, h2, h5⟩
          · exact ⟨x, List.mem_cons_self, h2.symm⟩
          · exact ⟨h, List.mem_cons_of_mem _ h2, h5⟩
        · rcases hb with hb | hb
          · exact .inl hb
          · right
            rcases hc.2 with h | h <;> rcases h3 with h3 | h3 <;> omega
        · rcases List.mem_cons.1 hh with rfl | hh
          · rcases h3 with h3 | h3 <;> omega
          · exact h4 h hh hlt
    · rw [if_neg hc] at ih
      rcases ih with ⟨h1, h2, h3⟩ | ⟨h0, h1, h2, h3, h4⟩
      · refine .inl ⟨h1, h2, fun h hh => ?_⟩
        rcases List.mem_cons.1 hh with rfl | hh
        · by_cases hx : t < h.to
          · exact absurd ⟨hx, .inl (by omega)⟩ hc
          · omega
        · exact h3 h hh
      · refine .inr ⟨h0, h1, ?_, h3, fun h hh hlt => ?_⟩
        · rcases h2 with h2 | ⟨h, h2, h5⟩
          · exact .inl h2
          · exact .inr ⟨h, List.mem_cons_of_mem _ h2, h5⟩
        · rcases List.mem_cons.1 hh with rfl | hh
          · by_cases hx : best < 0
            · exact absurd ⟨hlt, .inl hx⟩ hc
            · by_cases hy : h.to < best
              · exact absurd ⟨hlt, .inr hy⟩ hc
              · rcases h3 with h3 | h3 <;> omega
          · exact h4 h hh hlt
theorem andNot_words {a b : Nat} (ha : a < 2 ^ 64) (hb : b < 2 ^ 64) : ∃ c : Nat, pbin .andNot (.int .u64 a) (.int .u64 b) = some (.int .u64 (c : Nat)) ∧ (c = 0 ↔ ∀ i, i < 64 → a.testBit i = true → b.testBit i = true) := by
  refine ⟨((BitVec.ofInt 64 (a : Int) &&& ~~~ BitVec.ofInt 64 (b : Int)).toNat), ?_, ?_⟩
  · show some (PV.int .u64 (IntKind.u64.wrap (((BitVec.ofInt 64 (a : Int) &&& ~~~ BitVec.ofInt 64 (b : Int)).toNat : Nat) : Int))) = _
    rw [uwrap_in (BitVec.isLt _)]
  · have h1 : (BitVec.ofInt 64 (a : Int)).toNat = a := by simp [Nat.mod_eq_of_lt ha]
    have h2 : (BitVec.ofInt 64 (b : Int)).toNat = b := by simp [Nat.mod_eq_of_lt hb]
    have hbit : ∀ i, (BitVec.ofInt 64 (a : Int) &&& ~~~ BitVec.ofInt 64 (b : Int)).toNat.testBit i = (a.testBit i && (decide (i < 64) && !b.testBit i)) := fun i => by
      rw [BitVec.toNat_and, Nat.testBit_and, h1, BitVec.testBit_toNat, BitVec.getLsbD_not, ← BitVec.testBit_toNat, h2]
    constructor
    · intro h i hi ht
      have := hbit i
      rw [h, Nat.zero_testBit, ht] at this
      cases hb2 : b.testBit i
      · rw [hb2] at this; simp [hi] at this
      · rfl
    · intro h
      apply Nat.eq_of_testBit_eq
      intro i
      rw [hbit, Nat.zero_testBit]
      by_cases hi : i < 64
      · cases ht : a.testBit i
        · rfl
        · rw [h i hi ht]; simp
      · simp [hi]
theorem words_part {a b : List Int} (ha : setR a = true) (hb : setR b = true) : (∀ k, k < 4 → ∀ i, i < 64 → (word (mask a) k).testBit i = true → (word (mask b) k).testBit i = true) ↔ partS a b = true := by
  have h1 := (setR_iff.1 ha).2
  have h2 := (setR_iff.1 hb).2
  unfold partS
  rw [ha, hb]
  simp only [Bool.true_and, List.all_eq_true]
  constructor
  · intro h n hn
    obtain ⟨h3, h4⟩ := h1 n hn
    have := h (n.toNat / 64) (by omega) (n.toNat % 64) (by omega)
    rw [word_bit _ _ _ (by omega), word_bit _ _ _ (by omega), mask_bit fun n hn => (h1 n hn).1, mask_bit fun n hn => (h2 n hn).1, show (((64 * (n.toNat / 64) + n.toNat % 64 : Nat)) : Int) = n by omega] at this
    exact this (List.contains_iff_mem.2 hn)
  · intro h k hk i hi
    rw [word_bit _ _ _ hi, word_bit _ _ _ hi, mask_bit fun n hn => (h1 n hn).1, mask_bit fun n hn => (h2 n hn).1]
    intro hc
    exact h _ (List.contains_iff_mem.1 hc)
end Go.Bw
namespace Go.Bw.A
open Go.Proofs Go.Bw

theorem f67_loop (k0 : List (List PV) → Nat → Option PV) (a b : List Int) (x2 : Int) (ha : a.length ≤ 1000000) (hb : b.length ≤ 1000000) (hm : x2 = 0 ∨ x2 = 1 ∨ x2 = 2) : ∀ (m k n : Nat) (o : List Int), m < n → k + m = 256 → o.length + m ≤ 1000 →
    f67_l5 k0 n (intRows o) (intRows a) (intRows b) x2 o.length (k : Nat) = k0 (intRows (o ++ ((List.range' k m).map Int.ofNat).filter (whichB x2 a b))) (o ++ ((List.range' k m).map Int.ofNat).filter (whichB x2 a b)).length
  | 0, k, n, o, hn, hk, ho => by
    obtain ⟨n, rfl⟩ : ∃ k, n = k + 1 := ⟨n - 1, by omega⟩
    have : ¬ ((k : Nat) : Int) < 256 := by omega
    simp [f67_l5, this]
  | m + 1, k, n, o, hn, hk, ho => by
    obtain ⟨n, rfl⟩ : ∃ k, n = k + 1 := ⟨n - 1, by omega⟩
    have hlt : decide (((k : Nat) : Int) < 256) = true := by rw [decide_eq_true_eq]; omega
    have hw : IntKind.i64.wrap (((k : Nat) : Int) + 1) = ((k + 1 : Nat) : Int) := wrap_step (by omega)
    have e1 : (o.length == o.length) = true := by simp
    have e2 : decide (o.length + ([[PV.int .i64 ((k : Nat) : Int)]] : List (List PV)).length ≤ LIM) = true := lim_ok (by simp at ho ⊢; omega)
    have e3 : intRows o ++ [[PV.int .i64 ((k : Nat) : Int)]] = intRows (o ++ [((k : Nat) : Int)]) := by rw [intRows_app]; rfl
    have key : f67_l5 k0 (n + 1) (intRows o) (intRows a) (intRows b) x2 o.length (k : Nat) = bif whichB x2 a b (k : Nat) then f67_l5 k0 n (intRows (o ++ [((k : Nat) : Int)])) (intRows a) (intRows b) x2 (o ++ [((k : Nat) : Int)]).length ((k + 1 : Nat) : Int) else f67_l5 k0 n (intRows o) (intRows a) (intRows b) x2 o.length ((k + 1 : Nat) : Int) := by
      simp only [f67_l5, hlt, cond_true, P98_is ha, P98_is hb, obind, pbool_b, pun_not, intRows_len, e1, e2, e3, hw]
      unfold whichB
      rcases hm with rfl | rfl | rfl <;> cases a.contains ((k : Nat) : Int) <;> cases b.contains ((k : Nat) : Int) <;> simp [obind, pbool_b]
    rw [key, range_step, List.map_cons]
    show (bif whichB x2 a b (k : Nat) then _ else _) = _
    cases hw : whichB x2 a b ((k : Nat) : Int) with
    | true =>
      rw [List.filter_cons_of_pos (by simpa using hw)]
      have ih := f67_loop k0 a b x2 ha hb hm m (k + 1) n (o ++ [((k : Nat) : Int)]) (by omega) (by omega) (by simp; omega)
      simpa using ih
    | false =>
      rw [List.filter_cons_of_neg (by simpa using hw)]
      exact f67_loop k0 a b x2 ha hb hm m (k + 1) n o (by omega) (by omega) (by omega)
theorem P67_is {a b : List Int} {x2 : Int} (ha : a.length ≤ 1000000) (hb : b.length ≤ 1000000) (hm : x2 = 0 ∨ x2 = 1 ∨ x2 = 2) : P67 [.list 1 (intRows a), .list 1 (intRows b), .int .i64 x2] = some (.list 1 (intRows (whichS x2 a b))) := by
  show F67 (intRows a) (intRows b) x2 = _
  unfold F67 whichS
  rw [P80_is ha, P80_is hb]
  cases setR a <;> cases setR b
  · rfl
  · rfl
  · rfl
  · simp only [obind, pun_not, pbool_b, Bool.not_true, cond_false, Bool.and_self, if_true]
    refine Eq.trans (f67_loop _ a b x2 ha hb hm 256 0 FU [] (FU_big (by omega)) (by omega) (by simp)) ?_
    rw [fl_from, intRows_len]
    simp
theorem f28_loop (k0 : PV → Option PV) (a b : Int) : ∀ (r pre : List HeldV) (n : Nat) (o : List Int), r.length < n → (pre ++ r).length ≤ 1000 → (∀ h, h ∈ r → Sm1 h) → o.length ≤ 256 →
    f28_l5 k0 n (hrows (pre ++ r)) a b (.list 1 (intRows o)) (pre.length : Nat) = k0 (.list 1 (intRows (r.foldl (fun o h => if meetsB h.fr h.to a b then joinS o h.things else o) o)))
  | [], pre, n, o, hn, hl, hs, ho => by
    obtain ⟨n, rfl⟩ : ∃ k, n = k + 1 := ⟨n - 1, by omega⟩
    simp [f28_l5, hrows_len]
  | x :: r, pre, n, o, hn, hl, hs, ho => by
    obtain ⟨n, rfl⟩ : ∃ k, n = k + 1 := ⟨n - 1, by omega⟩
    have hlt : decide (((pre.length : Nat) : Int) < ((pre ++ x :: r).length : Nat)) = true := by simp; omega
    have hl' : pre.length ≤ 1000000 := by simp at hl; omega
    have hx := hs x List.mem_cons_self
    have hj : P67 [.list 1 (intRows o), .list 1 (intRows x.things), .int .i64 0] = some (.list 1 (intRows (joinS o x.things))) := P67_is (x2 := 0) (by omega) hx (.inl rfl)
    simp only [f28_l5, hrows_len, hlt, cond_true, hget, obind, hv2, hv3, hv1, P66_is, pbool_b, hj, wrap_step hl', List.foldl_cons]
    have ih := fun o' ho' => f28_loop k0 a b r (pre ++ [x]) n o' (by simp at hn; omega) (by simpa using hl) (fun h hh => hs h (List.mem_cons_of_mem _ hh)) ho'
    cases meetsB x.fr x.to a b with
    | true => simpa using ih _ (join_len o x.things)
    | false => simpa using ih o ho
theorem P28_is {l : List HeldV} (hl : Sm l) (a b : Int) : P28 [.list 4 (hrows l), .int .i64 a, .int .i64 b] = some (.list 1 (intRows (busyT l a b))) := by
  show F28 (hrows l) a b = _
  unfold F28 busyT busyG
  rw [P41_is hl]
  cases hr : rightT l with
  | false => rfl
  | true => exact f28_loop (fun (y4 : PV) => some y4) a b l [] FU [] (FU_big (by have := hl.1; omega)) (by simpa using hl.1) hl.2 (by simp)
theorem f31_inner (k2 : List (List PV) → List (List PV) → Nat → PV → Option PV) (t : Int) (o : List (List PV)) (x5 : Nat) : ∀ (r pre : List HeldV) (n : Nat) (best : Int), r.length < n → (pre ++ r).length ≤ 1000 →
    f31_l6 k2 n o (hrows (pre ++ r)) (.int .i64 t) x5 (.int .i64 best) (pre.length : Nat) = k2 o (hrows (pre ++ r)) x5 (.int .i64 (leastEnd t r best))
  | [], pre, n, best, hn, hl => by
    obtain ⟨n, rfl⟩ : ∃ k, n = k + 1 := ⟨n - 1, by omega⟩
    simp [f31_l6, hrows_len, leastEnd]
  | x :: r, pre, n, best, hn, hl => by
    obtain ⟨n, rfl⟩ : ∃ k, n = k + 1 := ⟨n - 1, by omega⟩
    have hlt : decide (((pre.length : Nat) : Int) < ((pre ++ x :: r).length : Nat)) = true := by simp; omega
    have hl' : pre.length ≤ 1000000 := by simp at hl; omega
    have ih := fun b => f31_inner k2 t o x5 r (pre ++ [x]) n b (by simp at hn; omega) (by simpa using hl)
    simp only [f31_l6, hrows_len, hlt, cond_true, hget, obind, hv3, pb_gtr, pb_lss, pbool_b, wrap_step hl']
    have e : leastEnd t (x :: r) best = leastEnd t r (if t < x.to ∧ (best < 0 ∨ x.to < best) then x.to else best) := rfl
    rw [e]
    by_cases h1 : t < x.to
    · by_cases h2 : best < 0
      · rw [if_pos ⟨h1, .inl h2⟩]
        simp only [h1, h2, decide_true, cond_true, obind, pbool_b]
        simpa using ih x.to
      · by_cases h3 : x.to < best
        · rw [if_pos ⟨h1, .inr h3⟩]
          simp only [h1, h2, h3, decide_true, decide_false, cond_true, cond_false, obind, pbool_b]
          simpa using ih x.to
        · rw [if_neg (by omega)]
          simp only [h1, h2, h3, decide_true, decide_false, cond_true, cond_false, obind, pbool_b]
          simpa using ih best
    · rw [if_neg (by omega)]
      simp only [h1, decide_false, cond_false, obind, pbool_b]
      simpa using ih best
theorem f31_loop (kr : List (List PV) → Nat → Option PV) (l : List HeldV) (hl : l.length ≤ 1000) (hp : ∀ h, h ∈ l → 0 ≤ h.to) : ∀ (c n : Nat) (t : Int) (o : List Int), (l.filter fun h => decide (t < h.to)).length ≤ c → c < n → o.length + c ≤ 1000 →
    ∃ es, es.Pairwise (· < ·) ∧ (∀ v, v ∈ es ↔ ∃ x, x ∈ l ∧ x.to = v ∧ t < v) ∧ f31_l4 kr n (intRows o) (hrows l) (.int .i64 t) o.length = kr (intRows (o ++ es)) (o ++ es).length
  | c, 0, t, o, _, hn, _ => by omega
  | c, n + 1, t, o, hc, hn, ho => by
    have inner := fun k2 => f31_inner k2 t (intRows o) o.length l [] FU (-1) (FU_big (by omega)) (by simpa using hl)
    have inner : ∀ k2, f31_l6 k2 FU (intRows o) (hrows l) (.int .i64 t) o.length (.int .i64 (-1)) 0 = k2 (intRows o) (hrows l) o.length (.int .i64 (leastEnd t l (-1))) := inner
    have hs := leastEnd_spec t l (-1) hp (.inl rfl)
    generalize hz : leastEnd t l (-1) = z at hs inner
    rcases hs with ⟨rfl, _, h3⟩ | ⟨h0, h1, h2, _, h4⟩
    · refine ⟨[], .nil, fun v => ⟨fun h => by simp at h, fun ⟨x, hx, he, hv⟩ => ?_⟩, ?_⟩
      · have := h3 x hx
        omega
      · simp only [f31_l4, inner, pb_lss, obind, pbool_b]
        simp
    · obtain ⟨y, hy, hye⟩ : ∃ h, h ∈ l ∧ h.to = z := by
        rcases h2 with h2 | h2
        · omega
        · exact h2
      have hsub : (l.filter fun h => decide (z < h.to)).length < (l.filter fun h => decide (t < h.to)).length := by
        have e : (l.filter fun h => decide (z < h.to)) = (l.filter fun h => decide (t < h.to)).filter fun h => decide (z < h.to) := by
          rw [List.filter_filter]
          refine List.filter_congr fun x hx => ?_
          by_cases hzx : z < x.to
          · have : t < x.to := by omega
            simp [hzx, this]
          · simp [hzx]
        rw [e]
        refine Nat.lt_of_le_of_ne (List.length_filter_le _ _) fun h => ?_
        have := List.length_filter_eq_length_iff.1 h y (List.mem_filter.2 ⟨hy, by simp; omega⟩)
        simp at this
        omega
      have e0 : ¬ z < 0 := by omega
      have e1 : (o.length == o.length) = true := by simp
      have e2 : decide (o.length + ([[PV.int .i64 z]] : List (List PV)).length ≤ LIM) = true := lim_ok (by simp; omega)
      have e3 : intRows o ++ [[PV.int .i64 z]] = intRows (o ++ [z]) := by rw [intRows_app]; rfl
      obtain ⟨es, g1, g2, g3⟩ := f31_loop kr l hl hp (c - 1) n z (o ++ [z]) (by omega) (by omega) (by simp; omega)
      refine ⟨z :: es, List.pairwise_cons.2 ⟨fun v hv => ?_, g1⟩, fun v => ?_, ?_⟩
      · obtain ⟨_, _, _, h⟩ := (g2 v).1 hv
        exact h
      · rw [List.mem_cons, g2]
        constructor
        · rintro (rfl | ⟨x, hx, he, hv⟩)
          · exact ⟨y, hy, hye, h1⟩
          · exact ⟨x, hx, he, by omega⟩
        · rintro ⟨x, hx, rfl, hv⟩
          have := h4 x hx hv
          by_cases hzx : x.to = z
          · exact .inl hzx
          · exact .inr ⟨x, hx, rfl, by omega⟩
      · simp only [f31_l4, inner, pb_lss, obind, pbool_b, e0, decide_false, cond_false, pscal_int, intRows_len, e1, e2, e3, cond_true]
        simpa using g3
theorem right_pos {l : List HeldV} (h : rightT l = true) : ∀ x, x ∈ l → 0 ≤ x.to := fun x hx => by
  have := (rightT_iff.1 h).2.1 x hx
  simp [mayB, whenR] at this
  omega
theorem P31_is {l : List HeldV} (hl : Sm l) (t : Int) : P31 [.list 4 (hrows l), .int .i64 t] = some (.list 1 (intRows (endsT l t))) := by
  show F31 (hrows l) t = _
  unfold F31
  rw [P41_is hl]
  cases hr : rightT l with
  | false =>
    unfold endsT
    rw [hr]; rfl
  | true =>
    obtain ⟨es, h1, h2, h3⟩ := f31_loop (fun (y4 : List (List PV)) (y5 : Nat) => bif y4.length == y5 then (some (.list 1 y4)) else none) l hl.1 (right_pos hr) l.length FU t [] (List.length_filter_le _ _) (FU_big (by have := hl.1; omega)) (by simpa using hl.1)
    rw [← ends_eq hr h1 h2]
    simp only [obind, pun_not, pbool_b, Bool.not_true, cond_false]
    refine Eq.trans h3 ?_
    simp [intRows_len]
theorem f29_loop (k0 : Option PV) (kr : Bool → Option PV) : ∀ (r q pre qre : List Int) (n : Nat), r.length < n → (pre ++ r).length ≤ 1000000 → pre.length = qre.length → r.length = q.length →
    f29_l4 k0 kr n (intRows (pre ++ r)) (intRows (qre ++ q)) (pre.length : Nat) = if r = q then k0 else kr false
  | [], [], pre, qre, n, hn, hl, h1, h2 => by
    obtain ⟨n, rfl⟩ : ∃ k, n = k + 1 := ⟨n - 1, by omega⟩
    simp [f29_l4, intRows_len]
  | x :: r, y :: q, pre, qre, n, hn, hl, h1, h2 => by
    obtain ⟨n, rfl⟩ : ∃ k, n = k + 1 := ⟨n - 1, by omega⟩
    have hlt : decide (((pre.length : Nat) : Int) < ((pre ++ x :: r).length : Nat)) = true := by simp; omega
    have hl' : pre.length ≤ 1000000 := by simp at hl; omega
    have hy : lget (intRows (qre ++ y :: q)) (pre.length : Nat) = some [.int .i64 y] := by rw [h1]; exact iget qre y q
    have ih := f29_loop k0 kr r q (pre ++ [x]) (qre ++ [y]) n (by simp at hn; omega) (by simpa using hl) (by simp [h1]) (by simpa using h2)
    simp only [f29_l4, intRows_len, hlt, cond_true, iget, hy, obind, iv0, pb_neq, pbool_b, wrap_step hl', int_bne]
    by_cases e : x = y
    · subst e
      simpa using ih
    · simp [e]
  | [], _ :: _, _, _, _, _, _, _, h2 => by simp at h2
  | _ :: _, [], _, _, _, _, _, _, h2 => by simp at h2
theorem P29_is {a b : List Int} (ha : a.length ≤ 1000000) : P29 [.list 1 (intRows a), .list 1 (intRows b)] = some (.bool (decide (a = b))) := by
  show F29 (intRows a) (intRows b) = _
  unfold F29
  rw [intRows_len, intRows_len]
  by_cases h : a.length = b.length
  · have e : (((a.length : Nat) : Int) != (b.length : Nat)) = false := by simp [h]
    rw [e, cond_false]
    refine Eq.trans (f29_loop (some (.bool true)) (fun (y1 : Bool) => some (.bool y1)) a b [] [] FU (by rw [FU_eq]; unfold LIM; omega) (by simpa using ha) rfl h) ?_
    by_cases hab : a = b <;> simp [hab]
  · have e : (((a.length : Nat) : Int) != (b.length : Nat)) = true := by simp; omega
    have : ¬ a = b := fun h2 => h (by rw [h2])
    rw [e]
    simp [this]
theorem ends_len {l : List HeldV} (hl : Sm l) (t : Int) : (endsT l t).length ≤ 1000000 := by
  have key : ∀ m : List HeldV, (m.foldr (fun h o => insI h.to o) []).length ≤ m.length := by
    intro m
    induction m with
    | nil => simp
    | cons x m ih =>
      have hi : ∀ (n : Int) (o : List Int), (insI n o).length ≤ o.length + 1 := by
        intro n o
        induction o with
        | nil => simp [insI]
        | cons y o ih2 =>
          unfold insI
          split
          · simp
          · split
            · simp
            · simp; omega
      rw [List.foldr_cons, List.length_cons]
      exact Nat.le_trans (hi _ _) (by omega)
  unfold endsT
  split
  · have h1 := key (l.filter fun h => decide (t < h.to))
    have h2 := List.length_filter_le (fun h : HeldV => decide (t < h.to)) l
    have := hl.1
    omega
  · simp
theorem law4 (l : List HeldV) (a b : Int) : P4 [.list 4 (hrows l), .int .i64 a, .int .i64 b] = some (.bool true) := by
  show F4 (hrows l) a b = _
  unfold F4
  rw [P18_is, P19_is]
  simp only [obind, pun_not, pbool_b, Bool.not_true, cond_false]
  cases hs : shortT l with
  | false => rfl
  | true =>
    have hl := short_sm hs
    obtain ⟨h1, h2⟩ := over_sm hl a
    simp only [Bool.not_true, cond_false, P24_is hl, P25_is hl, obind, pnth0, pnth1, P27_is hl, P28_is hl, P26_is (Nat.le_trans (busy_len l a b) (by decide)), P23_is h1, P23_is h2, P30_is hl, P31_is hl, P29_is (ends_len hl a), decide_true, pbool_b, cond_true]
theorem P32_is {a b : List Int} (ha : a.length ≤ 1000000) (hb : b.length ≤ 1000000) : P32 [.list 1 (intRows a), .list 1 (intRows b)] = some (.bool (partS a b)) := by
  obtain ⟨m, n, h1, h2, h3⟩ := P70_is a b (Nat.le_trans ha (by decide)) (Nat.le_trans hb (by decide))
  show F32 (intRows a) (intRows b) = _
  unfold F32
  rw [h3]
  obtain ⟨k, hk⟩ := FU_six
  rw [hk]
  obtain ⟨c0, e0, z0⟩ := andNot_words (word_lt m 0) (word_lt n 0)
  obtain ⟨c1, e1, z1⟩ := andNot_words (word_lt m 1) (word_lt n 1)
  obtain ⟨c2, e2, z2⟩ := andNot_words (word_lt m 2) (word_lt n 2)
  obtain ⟨c3, e3, z3⟩ := andNot_words (word_lt m 3) (word_lt n 3)
  have s1 : IntKind.i64.wrap 1 = 1 := by decide
  have s2 : IntKind.i64.wrap 2 = 2 := by decide
  have s3 : IntKind.i64.wrap 3 = 3 := by decide
  have s4 : IntKind.i64.wrap 4 = 4 := by decide
  cases hs : setR a && setR b
  · have : partS a b = false := by unfold partS; rw [hs]; rfl
    simp [this, obind, pnth0, pnth1, pnth2, wcells, pcells4, pputs4, f32_l3, pbool_b, s1, s2, s3, s4]
  · obtain ⟨hsa, hsb⟩ := Bool.and_eq_true_iff.1 hs
    have hz := words_part hsa hsb
    rw [← h1 hsa, ← h2 hsb] at hz
    have hz2 : (c0 = 0 ∧ c1 = 0 ∧ c2 = 0 ∧ c3 = 0) ↔ partS a b = true := by
      rw [← hz, z0, z1, z2, z3]
      constructor
      · rintro ⟨g0, g1, g2, g3⟩ k hk
        have : k = 0 ∨ k = 1 ∨ k = 2 ∨ k = 3 := by omega
        rcases this with rfl | rfl | rfl | rfl
        · exact g0
        · exact g1
        · exact g2
        · exact g3
      · intro g
        exact ⟨g 0 (by omega), g 1 (by omega), g 2 (by omega), g 3 (by omega)⟩
    simp only [obind, pnth0, pnth1, pnth2, wcells, pcells4, pputs4, f32_l3, pbool_b]
    by_cases q0 : c0 = 0 <;> by_cases q1 : c1 = 0 <;> by_cases q2 : c2 = 0 <;> by_cases q3 : c3 = 0 <;>
      simp only [q0, q1, q2, q3, true_and, and_true, and_false, false_and, false_iff, true_iff, Bool.not_eq_true] at hz2 <;>
      simp [hz2, s1, s2, s3, s4, e0, e1, e2, e3, obind, pb_eql, pbool_b, int_beq0, q0, q1, q2, q3]
theorem law5 (l : List HeldV) (a b c : Int) : P5 [.list 4 (hrows l), .int .i64 a, .int .i64 b, .int .i64 c] = some (.bool true) := by
  show F5 (hrows l) a b c = _
  unfold F5
  rw [P18_is, P19_is]
  simp only [obind, pun_not, pbool_b, Bool.not_true, cond_false]
  cases hs : shortT l with
  | false => rfl
  | true =>
    by_cases h1 : b < a
    · simp [h1, obind, pbool_b]
    by_cases h2 : c < b
    · simp [h1, h2, obind, pbool_b]
    have hl := short_sm hs
    obtain ⟨g1, g2⟩ := over_sm hl a
    obtain ⟨g3, g4⟩ := over_sm hl b
    have hab : a ≤ b := by omega
    have hbc : b ≤ c := by omega
    have blen : ∀ x y, (busyT l x y).length ≤ 1000000 := fun x y => Nat.le_trans (busy_len l x y) (by decide)
    have p33 : ∀ x y z w, P33 [.list 1 (intRows (busyT l x y)), .list 1 (intRows (busyT l z w))] = some (.list 1 (intRows (joinS (busyT l x y) (busyT l z w)))) := fun x y z w => P33_is _ _ (Nat.le_trans (blen x y) (by decide)) (Nat.le_trans (blen z w) (by decide))
    have i1 : decide (a > b) = false := by rw [decide_eq_false_iff_not]; omega
    have i2 : decide (b > c) = false := by rw [decide_eq_false_iff_not]; omega
    simp only [Bool.not_true, cond_false, i1, i2, P24_is hl, P24_is g1, obind, pnth0, pnth1, P23_is g3, over_over hab, decide_true, pbool_b, cond_true, P27_is hl, P32_is (blen _ _) (blen _ _), busy_part hab hbc, p33, P26_is (Nat.le_trans (join_len _ _) (by decide : 256 ≤ 1000000))]
    by_cases h3 : a = b
    · simp [h3, obind]
    by_cases h4 : b = c
    · simp [h4, obind]
    have h5 : (a == b) = false := by simpa using h3
    have h6 : (b == c) = false := by simpa using h4
    rw [h5, h6, busy_join (by omega) (by omega)]
    simp [obind]
end Go.Bw.A
