/- What the functions on sets answer. No statement of a law is proved here. -/
import Derived.Test.YtbmgafmmaihmfaaDoorY0
import Derived.Test.YtbmgafmmaihmfaaDoorG3
set_option linter.unusedVariables false
set_option linter.unusedSimpArgs false
namespace Go.Bw.A
open Go.Proofs Go.Bw

theorem f73_loop (k0 : Int → Int → Int → Int → List PV → Option PV) (kr : List PV → Bool → Option PV) (z0 z1 z2 z3 : Int) : ∀ (r pre : List Int) (n m : Nat) (last : Int), r.length < n → (pre ++ r).length ≤ 549755813880 → -1 ≤ last →
    ∃ m', (asc last r = true → m' = m ||| mask r) ∧ f73_l4 k0 kr n z0 z1 z2 z3 (wcells m) (.int .i64 last) (intRows (pre ++ r)) ((pre ++ r).length : Nat) (pre.length : Nat) = if asc last r = true then k0 z0 z1 z2 z3 (wcells m') else kr (wcells m') false
  | [], pre, n, m, last, hn, hl, h1 => by
    obtain ⟨n, rfl⟩ : ∃ k, n = k + 1 := ⟨n - 1, by omega⟩
    refine ⟨m, fun _ => by simp [mask], ?_⟩
    simp [f73_l4, asc]
  | x :: r, pre, n, m, last, hn, hl, h1 => by
    obtain ⟨n, rfl⟩ : ∃ k, n = k + 1 := ⟨n - 1, by simp at hn; omega⟩
    have hlt : decide (((pre.length : Nat) : Int) < ((pre ++ x :: r).length : Nat)) = true := by simp; omega
    simp only [f73_l4, hlt, cond_true, iget, obind, iv0, pb_leq, pbool_b]
    by_cases hx : x ≤ last
    · refine ⟨m, fun h => ?_, ?_⟩
      · simp only [asc, Bool.and_eq_true, decide_eq_true_eq] at h; omega
      · have : ¬ last < x := by omega
        simp [hx, asc, this, obind, pbool_b]
        rfl
    · simp only [hx, decide_false, cond_false, obind, pb_geq, pbool_b]
      by_cases hy : 256 ≤ x
      · refine ⟨m, fun h => ?_, ?_⟩
        · simp only [asc, Bool.and_eq_true, decide_eq_true_eq] at h; omega
        · have : ¬ x < 256 := by omega
          simp [hy, asc, this, obind, pbool_b]
          rfl
      · obtain ⟨k, rfl⟩ : ∃ k : Nat, x = (k : Int) := ⟨x.toNat, by omega⟩
        have hk : k < 256 := by omega
        have hb : (decide (0 ≤ ((k / 64 : Nat) : Int)) && decide (((k / 64 : Nat) : Int) < (4 : Nat))) = true := by
          simp only [Bool.and_eq_true, decide_eq_true_eq]; omega
        obtain ⟨e1, e2⟩ := wcells_or m k hk
        have hor := or_words (word_lt m (k / 64)) (Nat.pow_lt_pow_right (a := 2) (by decide) (Nat.mod_lt k (y := 64) (by decide)))
        simp only [hy, decide_false, cond_false, quo64 hk, obind, pint_i, hb, cond_true, Int.toNat_natCast, e1, rem64, shl1 (Nat.mod_lt k (y := 64) (by decide)), hor, pscal_int, e2]
        have hw : IntKind.i64.wrap ((pre.length : Int) + 1) = (((pre ++ [(k : Int)]).length : Nat) : Int) := by
          rw [wrap_in]
          · simp
          · omega
          · simp at hl; omega
        rw [hw, show pre ++ (k : Int) :: r = (pre ++ [(k : Int)]) ++ r by simp]
        obtain ⟨m', h2, h3⟩ := f73_loop k0 kr z0 z1 z2 z3 r (pre ++ [(k : Int)]) n (m ||| 2 ^ k) k (by simp at hn; omega) (by simpa using hl) (by omega)
        refine ⟨m', fun h => ?_, ?_⟩
        · simp only [asc, Bool.and_eq_true, decide_eq_true_eq] at h
          rw [h2 h.2, Nat.or_assoc]
          rfl
        · rw [h3]
          have : last < (k : Int) ∧ (k : Int) < 256 := by omega
          simp only [asc, this.1, this.2, decide_true, Bool.true_and]
theorem P73_is (l : List Int) (hl : l.length ≤ 549755813880) : ∃ m, (setR l = true → m = mask l) ∧ P73 [.list 1 (intRows l)] = some (.tup [.agg (wcells m), .bool (setR l)]) := by
  obtain ⟨m, h1, h2⟩ := f73_loop (fun (y1 : Int) (y2 : Int) (y3 : Int) (y4 : Int) (y5 : List PV) => (pext y5 0 4).bind fun p6 => (pcells 4 p6).bind fun cs7 => (pputs [.int .u64 y1, .int .u64 y2, .int .u64 y3, .int .u64 y4] 0 cs7).bind fun cs8 => (pext cs8 0 4).bind fun p9 => some (.tup [p9, .bool true])) (fun (y10 : List PV) (y11 : Bool) => (pext y10 0 4).bind fun p12 => some (.tup [p12, .bool y11])) 0 0 0 0 l [] FU 0 (-1) (by rw [FU_eq]; unfold LIM; omega) (by simpa using hl) (by omega)
  refine ⟨m, fun h => by rw [h1 h]; simp, ?_⟩
  show F73 (intRows l) = _
  unfold F73
  rw [intRows_len]
  refine Eq.trans h2 ?_
  show (if setR l = true then _ else _) = _
  cases hs : setR l
  · rfl
  · rfl
theorem P36_is (l : List Int) (hl : l.length ≤ 549755813880) : P36 [.list 1 (intRows l)] = some (.bool (setR l)) := by
  obtain ⟨m, _, h⟩ := P73_is l hl
  show F36 (intRows l) = _
  unfold F36
  rw [h]
  rfl
theorem P70_is (a b : List Int) (ha : a.length ≤ 549755813880) (hb : b.length ≤ 549755813880) : ∃ m n, (setR a = true → m = mask a) ∧ (setR b = true → n = mask b) ∧ P70 [.list 1 (intRows a), .list 1 (intRows b)] = some (.tup [.agg (wcells m), .agg (wcells n), .bool (setR a && setR b)]) := by
  obtain ⟨m, h1, h2⟩ := P73_is a ha
  obtain ⟨n, h3, h4⟩ := P73_is b hb
  refine ⟨m, n, h1, h3, ?_⟩
  show F70 (intRows a) (intRows b) = _
  unfold F70
  rw [h2, h4]
  cases setR a <;> rfl
theorem P54_is (a b : List Int) (ha : a.length ≤ 549755813880) (hb : b.length ≤ 549755813880) : P54 [.list 1 (intRows a), .list 1 (intRows b)] = some (.bool (apartS a b)) := by
  obtain ⟨m, n, h1, h2, h3⟩ := P70_is a b ha hb
  show F54 (intRows a) (intRows b) = _
  unfold F54
  rw [h3]
  obtain ⟨k, hk⟩ := FU_six
  rw [hk]
  have e0 := and_words (word_lt m 0) (word_lt n 0)
  have e1 := and_words (word_lt m 1) (word_lt n 1)
  have e2 := and_words (word_lt m 2) (word_lt n 2)
  have e3 := and_words (word_lt m 3) (word_lt n 3)
  have s1 : IntKind.i64.wrap 1 = 1 := by decide
  have s2 : IntKind.i64.wrap 2 = 2 := by decide
  have s3 : IntKind.i64.wrap 3 = 3 := by decide
  have s4 : IntKind.i64.wrap 4 = 4 := by decide
  have z0 : ((0 : Int).toNat) = 0 := rfl
  have z1 : ((1 : Int).toNat) = 1 := rfl
  have z2 : ((2 : Int).toNat) = 2 := rfl
  have z3 : ((3 : Int).toNat) = 3 := rfl
  cases hs : setR a && setR b
  · have : apartS a b = false := by unfold apartS; rw [hs]; rfl
    simp [this, obind, pnth0, pnth1, pnth2, wcells, pcells4, pputs4, f54_l3, pbool_b, s1, s2, s3, s4]
  · obtain ⟨hsa, hsb⟩ := Bool.and_eq_true_iff.1 hs
    have hz := words_zero hsa hsb
    rw [← h1 hsa, ← h2 hsb] at hz
    simp only [obind, pnth0, pnth1, pnth2, wcells, pcells4, pputs4, f54_l3, pbool_b]
    by_cases q0 : word m 0 &&& word n 0 = 0 <;> by_cases q1 : word m 1 &&& word n 1 = 0 <;> by_cases q2 : word m 2 &&& word n 2 = 0 <;> by_cases q3 : word m 3 &&& word n 3 = 0 <;>
      simp only [q0, q1, q2, q3, true_and, and_true, and_false, false_and, false_iff, true_iff, Bool.not_eq_true] at hz <;>
      simp [hz, s1, s2, s3, s4, e0, e1, e2, e3, obind, pb_eql, pbool_b, int_beq0, q0, q1, q2, q3]
theorem f101_bits (k2 : List (List PV) → Nat → Int → Int → Int → Int → Int → Option PV) (x4 : Nat) (z0 z1 z2 z3 z7 : Int) (h4 : x4 < 4) : ∀ (l : List Nat) (x : Nat) (o : List Int) (n : Nat), x < 2 ^ 64 → wbits x = l → l.length < n → o.length + l.length ≤ 1000000 →
    f101_l5 k2 n (intRows o) o.length (x4 : Nat) (.int .u64 (x : Nat)) z0 z1 z2 z3 z7 = k2 (intRows (o ++ l.map fun i => ((64 * x4 + i : Nat) : Int))) (o ++ l.map fun i => ((64 * x4 + i : Nat) : Int)).length z0 z1 z2 z3 z7
  | [], x, o, n, hx, he, hn, ho => by
    obtain ⟨n, rfl⟩ : ∃ k, n = k + 1 := ⟨n - 1, by omega⟩
    have : x = 0 := Classical.byContradiction fun h => by rw [wbits_step h hx] at he; cases he
    subst this
    simp [f101_l5, pb_neq, obind, pbool_b]
  | i :: l, x, o, n, hx, he, hn, ho => by
    obtain ⟨n, rfl⟩ : ∃ k, n = k + 1 := ⟨n - 1, by omega⟩
    have h0 : x ≠ 0 := fun h => by subst h; rw [wbits_zero] at he; cases he
    have hs := wbits_step h0 hx
    rw [he] at hs
    injection hs with hi hr
    have hctz : Lib.ctz 64 x < 64 := (ctz_form h0 hx).choose_spec.2
    have hP : P130 [.int .u64 (x : Nat)] = some (.int .i64 (i : Nat)) := by
      rw [hi]
      show (if 0 ≤ ((x : Nat) : Int) ∧ ((x : Nat) : Int) < 18446744073709551616 then some (PV.int .i64 (Lib.ctz 64 ((x : Nat) : Int).toNat : Nat)) else none) = _
      rw [if_pos ⟨by omega, by omega⟩, Int.toNat_natCast]
    have hne : ((x : Nat) : Int) != 0 := by simp; omega
    have w1 : IntKind.i64.wrap (64 * ((x4 : Nat) : Int)) = ((64 * x4 : Nat) : Int) := by rw [wrap_in] <;> omega
    have w2 : IntKind.i64.wrap (((64 * x4 : Nat) : Int) + (i : Nat)) = ((64 * x4 + i : Nat) : Int) := by rw [wrap_in] <;> omega
    have w3 : IntKind.u64.wrap (((x : Nat) : Int) - 1) = ((x - 1 : Nat) : Int) := by
      rw [show ((x : Nat) : Int) - 1 = ((x - 1 : Nat) : Int) by omega, uwrap_in (by omega)]
    have hlen : (o.length == o.length) = true := by simp
    have hlim : decide (o.length + ([[PV.int .i64 ((64 * x4 + i : Nat) : Int)]] : List (List PV)).length ≤ LIM) = true := by
      exact lim_ok (by simp at ho ⊢; omega)
    have happ : intRows o ++ [[PV.int .i64 ((64 * x4 + i : Nat) : Int)]] = intRows (o ++ [((64 * x4 + i : Nat) : Int)]) := by rw [intRows_app]; rfl
    simp only [f101_l5, pb_neq, obind, pbool_b, hne, cond_true, hP, w1, pb_add, w2, pscal_int, hlen, hlim, pb_sub, w3, and_words hx (show x - 1 < 2 ^ 64 by omega), happ, intRows_len]
    rw [f101_bits k2 x4 z0 z1 z2 z3 z7 h4 l (x &&& (x - 1)) _ n (and_lt hx) hr.symm (by simp at hn; omega) (by simp at ho ⊢; omega)]
    simp
theorem wbits_len (x : Nat) : (wbits x).length ≤ 64 := by
  unfold wbits
  exact Nat.le_trans (List.length_filter_le _ _) (by simp)
theorem P101_is (m : Nat) : P101 [.agg (wcells m)] = some (.list 1 (intRows (bitsOf m))) := by
  show F101 _ _ _ _ = _
  unfold F101
  obtain ⟨k, hk⟩ := FU_six
  have s1 : IntKind.i64.wrap (0 + 1) = 1 := by decide
  have s2 : IntKind.i64.wrap (1 + 1) = 2 := by decide
  have s3 : IntKind.i64.wrap (2 + 1) = 3 := by decide
  have s4 : IntKind.i64.wrap (3 + 1) = 4 := by decide
  have b0 := wbits_len (word m 0)
  have b1 := wbits_len (word m 1)
  have b2 := wbits_len (word m 2)
  have b3 := wbits_len (word m 3)
  have hF : ∀ i, (wbits (word m i)).length < FU := fun i => FU_big (Nat.le_trans (wbits_len _) (by decide))
  have r0 := fun k2 z0 z1 z2 z3 z7 o ho => f101_bits k2 0 z0 z1 z2 z3 z7 (by decide) _ (word m 0) o FU (word_lt _ _) rfl (hF 0) ho
  have r1 := fun k2 z0 z1 z2 z3 z7 o ho => f101_bits k2 1 z0 z1 z2 z3 z7 (by decide) _ (word m 1) o FU (word_lt _ _) rfl (hF 1) ho
  have r2 := fun k2 z0 z1 z2 z3 z7 o ho => f101_bits k2 2 z0 z1 z2 z3 z7 (by decide) _ (word m 2) o FU (word_lt _ _) rfl (hF 2) ho
  have r3 := fun k2 z0 z1 z2 z3 z7 o ho => f101_bits k2 3 z0 z1 z2 z3 z7 (by decide) _ (word m 3) o FU (word_lt _ _) rfl (hF 3) ho
  have step : ∀ (k0 : List (List PV) → Nat → Option PV) (n : Nat) (o : List (List PV)) (x3 : Nat), f101_l3 k0 (n + 6) o x3 (word m 0 : Nat) (word m 1 : Nat) (word m 2 : Nat) (word m 3 : Nat) 0 =
      f101_l5 (fun y2 y3 y4 y5 y6 y7 y8 => f101_l3 k0 (n + 5) y2 y3 y4 y5 y6 y7 (IntKind.i64.wrap (y8 + 1))) FU o x3 0 (.int .u64 (word m 0 : Nat)) (word m 0 : Nat) (word m 1 : Nat) (word m 2 : Nat) (word m 3 : Nat) 0 := fun _ _ _ _ => rfl
  have step1 : ∀ (k0 : List (List PV) → Nat → Option PV) (n : Nat) (o : List (List PV)) (x3 : Nat), f101_l3 k0 (n + 5) o x3 (word m 0 : Nat) (word m 1 : Nat) (word m 2 : Nat) (word m 3 : Nat) 1 =
      f101_l5 (fun y2 y3 y4 y5 y6 y7 y8 => f101_l3 k0 (n + 4) y2 y3 y4 y5 y6 y7 (IntKind.i64.wrap (y8 + 1))) FU o x3 1 (.int .u64 (word m 1 : Nat)) (word m 0 : Nat) (word m 1 : Nat) (word m 2 : Nat) (word m 3 : Nat) 1 := fun _ _ _ _ => rfl
  have step2 : ∀ (k0 : List (List PV) → Nat → Option PV) (n : Nat) (o : List (List PV)) (x3 : Nat), f101_l3 k0 (n + 4) o x3 (word m 0 : Nat) (word m 1 : Nat) (word m 2 : Nat) (word m 3 : Nat) 2 =
      f101_l5 (fun y2 y3 y4 y5 y6 y7 y8 => f101_l3 k0 (n + 3) y2 y3 y4 y5 y6 y7 (IntKind.i64.wrap (y8 + 1))) FU o x3 2 (.int .u64 (word m 2 : Nat)) (word m 0 : Nat) (word m 1 : Nat) (word m 2 : Nat) (word m 3 : Nat) 2 := fun _ _ _ _ => rfl
  have step3 : ∀ (k0 : List (List PV) → Nat → Option PV) (n : Nat) (o : List (List PV)) (x3 : Nat), f101_l3 k0 (n + 3) o x3 (word m 0 : Nat) (word m 1 : Nat) (word m 2 : Nat) (word m 3 : Nat) 3 =
      f101_l5 (fun y2 y3 y4 y5 y6 y7 y8 => f101_l3 k0 (n + 2) y2 y3 y4 y5 y6 y7 (IntKind.i64.wrap (y8 + 1))) FU o x3 3 (.int .u64 (word m 3 : Nat)) (word m 0 : Nat) (word m 1 : Nat) (word m 2 : Nat) (word m 3 : Nat) 3 := fun _ _ _ _ => rfl
  have step4 : ∀ (k0 : List (List PV) → Nat → Option PV) (n : Nat) (o : List (List PV)) (x3 : Nat), f101_l3 k0 (n + 2) o x3 (word m 0 : Nat) (word m 1 : Nat) (word m 2 : Nat) (word m 3 : Nat) 4 = k0 o x3 := fun _ _ _ _ => rfl
  conv => lhs; rw [show (f101_l3 _ FU) = f101_l3 _ (k + 6) from by rw [← hk]]
  rw [step]
  have r0' := r0 (fun y2 y3 y4 y5 y6 y7 y8 => f101_l3 (fun (y1 : List (List PV)) (y2 : Nat) => bif y1.length == y2 then (some (.list 1 y1)) else none) (k + 5) y2 y3 y4 y5 y6 y7 (IntKind.i64.wrap (y8 + 1))) (word m 0 : Nat) (word m 1 : Nat) (word m 2 : Nat) (word m 3 : Nat) 0 [] (by simp; omega)
  refine Eq.trans r0' ?_
  simp only [s1]
  rw [step1]
  refine Eq.trans (r1 _ _ _ _ _ _ _ (by simp; omega)) ?_
  simp only [s2]
  rw [step2]
  refine Eq.trans (r2 _ _ _ _ _ _ _ (by simp; omega)) ?_
  simp only [s3]
  rw [step3]
  refine Eq.trans (r3 _ _ _ _ _ _ _ (by simp; omega)) ?_
  simp only [s4]
  rw [step4, bitsOf_words m, intRows_len]
  simp
theorem P71c72_is (a b : List Int) (ha : a.length ≤ 549755813880) (hb : b.length ≤ 549755813880) : P71c72 [.pv (.list 1 (intRows a)), .pv (.list 1 (intRows b)), .clo 72 []] = some (.list 1 (intRows (joinS a b))) := by
  obtain ⟨m, n, h1, h2, h3⟩ := P70_is a b ha hb
  show F71c72 (intRows a) (intRows b) = _
  unfold F71c72
  rw [h3]
  cases hs : setR a && setR b
  · have : joinS a b = [] := by unfold joinS; rw [hs]; rfl
    rw [this]
    rfl
  · obtain ⟨hsa, hsb⟩ := Bool.and_eq_true_iff.1 hs
    obtain ⟨k, hk⟩ := FU_six
    rw [← bits_or hsa hsb, ← h1 hsa, ← h2 hsb, ← P101_is, hk]
    have e0 := or_words (word_lt m 0) (word_lt n 0)
    have e1 := or_words (word_lt m 1) (word_lt n 1)
    have e2 := or_words (word_lt m 2) (word_lt n 2)
    have e3 := or_words (word_lt m 3) (word_lt n 3)
    have hP : ∀ x y : Int, P72 [.int .u64 x, .int .u64 y] = (pbin .or (.int .u64 x) (.int .u64 y)).bind fun r => some r := fun _ _ => rfl
    have s1 : IntKind.i64.wrap 1 = 1 := by decide
    have s2 : IntKind.i64.wrap 2 = 2 := by decide
    have s3 : IntKind.i64.wrap 3 = 3 := by decide
    have s4 : IntKind.i64.wrap 4 = 4 := by decide
    simp [obind, pnth0, pnth1, pnth2, wcells, pcells4, pputs4, f71c72_l5, pbool_b, pun_not, hP, e0, e1, e2, e3, pscal_int, psetc, pext4, word_or, s1, s2, s3, s4]
theorem P33_is (a b : List Int) (ha : a.length ≤ 549755813880) (hb : b.length ≤ 549755813880) : P33 [.list 1 (intRows a), .list 1 (intRows b)] = some (.list 1 (intRows (joinS a b))) := by
  show F33 (intRows a) (intRows b) = _
  unfold F33
  rw [P71c72_is a b ha hb]
  rfl
end Go.Bw.A
