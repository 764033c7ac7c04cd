/- What the summaries' own words answer on told values. No statement of a law is proved here. -/
import Derived.Test.YtbmgafmmaihmfaaDoorH0
import Derived.Test.YtbmgafmmaihmfaaDoorS3
import Derived.Test.YtbmgafmmaihmfaaDoorS4
set_option linter.unusedVariables false
set_option linter.unusedSimpArgs false
namespace Go.Bw

theorem FU_big {n : Nat} (h : n ≤ 1000000) : n < FU := by rw [FU_eq]; unfold LIM; omega
theorem FU_six : ∃ n, FU = n + 6 := ⟨LIM - 6, by rw [FU_eq]; unfold LIM; omega⟩
theorem lim_ok {n : Nat} (h : n ≤ 1000000) : decide (n ≤ LIM) = true := by rw [decide_eq_true_eq]; unfold LIM; omega
theorem wrap_in {n : Int} (h1 : -9223372036854775808 ≤ n) (h2 : n < 9223372036854775808) : IntKind.i64.wrap n = n := by
  simp only [IntKind.wrap, IntKind.signed, IntKind.bits]
  simp
  omega
theorem wrap_step {n : Nat} (h : n ≤ 1000000) : IntKind.i64.wrap ((n : Int) + 1) = ((n + 1 : Nat) : Int) := by
  rw [wrap_in] <;> omega
theorem uwrap_in {n : Nat} (h : n < 2 ^ 64) : IntKind.u64.wrap (n : Int) = (n : Int) := by
  simp only [IntKind.wrap, IntKind.signed, IntKind.bits]
  simp
  omega
theorem int_lt {a b : Nat} : decide ((a : Int) < (b : Int)) = decide (a < b) := by rw [Bool.eq_iff_iff, decide_eq_true_eq, decide_eq_true_eq]; omega

theorem int_beq0 (n : Nat) : (((n : Nat) : Int) == 0) = decide (n = 0) := by rw [Bool.eq_iff_iff, beq_iff_eq, decide_eq_true_eq]; omega
theorem pb_eql (k : IntKind) (a b : Int) : pbin .eql (.int k a) (.int k b) = some (.bool (a == b)) := by simp [pbin, isShift, ibin]
theorem pb_neq (k : IntKind) (a b : Int) : pbin .neq (.int k a) (.int k b) = some (.bool (a != b)) := by simp [pbin, isShift, ibin]
theorem pb_lss (k : IntKind) (a b : Int) : pbin .lss (.int k a) (.int k b) = some (.bool (decide (a < b))) := by simp [pbin, isShift, ibin]
theorem pb_leq (k : IntKind) (a b : Int) : pbin .leq (.int k a) (.int k b) = some (.bool (decide (a ≤ b))) := by simp [pbin, isShift, ibin]
theorem pb_gtr (k : IntKind) (a b : Int) : pbin .gtr (.int k a) (.int k b) = some (.bool (decide (b < a))) := by simp [pbin, isShift, ibin]
theorem pb_geq (k : IntKind) (a b : Int) : pbin .geq (.int k a) (.int k b) = some (.bool (decide (b ≤ a))) := by simp [pbin, isShift, ibin]
theorem pb_add (k : IntKind) (a b : Int) : pbin .add (.int k a) (.int k b) = some (.int k (k.wrap (a + b))) := by simp [pbin, isShift, ibin]
theorem pb_sub (k : IntKind) (a b : Int) : pbin .sub (.int k a) (.int k b) = some (.int k (k.wrap (a - b))) := by simp [pbin, isShift, ibin]
theorem pun_not (b : Bool) : pun .not (.bool b) = some (.bool (!b)) := rfl
theorem pbool_b (b : Bool) : pbool (.bool b) = some b := rfl
theorem pint_i (k : IntKind) (n : Int) : pint (.int k n) = some n := rfl
theorem plist_l (n : Nat) (xs : List (List PV)) : plist (.list n xs) = some xs := rfl
theorem pscal_int (k : IntKind) (n : Int) : pscal (.int k n) = some (.int k n) := rfl
theorem pscal_list (k : Nat) (n : List (List PV)) : pscal (.list k n) = some (.list k n) := rfl
theorem pnth0 (a : PV) (r : List PV) : pnth (.tup (a :: r)) 0 = some a := rfl
theorem pnth1 (a b : PV) (r : List PV) : pnth (.tup (a :: b :: r)) 1 = some b := rfl
theorem pnth2 (a b c : PV) (r : List PV) : pnth (.tup (a :: b :: c :: r)) 2 = some c := rfl
theorem obind {α β : Type} (a : α) (f : α → Option β) : (some a).bind f = f a := rfl
theorem pext4 (a b c d : PV) : pext [a, b, c, d] 0 4 = some (.agg [a, b, c, d]) := rfl
theorem pcells4 (a b c d : PV) : pcells 4 (.agg [a, b, c, d]) = some [a, b, c, d] := rfl
theorem pputs4 (a b c d e f g h : PV) : pputs [a, b, c, d] 0 [e, f, g, h] = some [e, f, g, h] := rfl
theorem flat_b (b : Bool) : PV.flat (.bool b) = true := rfl

/-! ### rows -/
def hv (h : HeldV) : List PV := [.int .i64 h.id, .list 1 (intRows h.things), .int .i64 h.fr, .int .i64 h.to]
def hp (h : HeldV) : PV := .agg (hv h)
def hrows (l : List HeldV) : List (List PV) := l.map hv
theorem hv_pext (h : HeldV) : pext (hv h) 0 4 = some (hp h) := rfl
theorem hp_pcells (h : HeldV) : pcells 4 (hp h) = some (hv h) := rfl
theorem hv_pputs (h : HeldV) (a b c d : PV) : pputs [a, b, c, d] 0 (hv h) = some (hv h) := rfl
theorem hv0 (h : HeldV) : (hv h)[0]? = some (.int .i64 h.id) := rfl
theorem hv1 (h : HeldV) : (hv h)[1]? = some (.list 1 (intRows h.things)) := rfl
theorem hv2 (h : HeldV) : (hv h)[2]? = some (.int .i64 h.fr) := rfl
theorem hv3 (h : HeldV) : (hv h)[3]? = some (.int .i64 h.to) := rfl
theorem iv0 (n : Int) : ([PV.int .i64 n] : List PV)[0]? = some (.int .i64 n) := rfl
theorem hrows_len (l : List HeldV) : (hrows l).length = l.length := List.length_map ..
theorem intRows_len (l : List Int) : (intRows l).length = l.length := List.length_map ..
theorem hrows_app (l m : List HeldV) : hrows (l ++ m) = hrows l ++ hrows m := List.map_append
theorem intRows_app (l m : List Int) : intRows (l ++ m) = intRows l ++ intRows m := List.map_append
theorem lget_mid {α : Type} (f : α → List PV) (pre : List α) (x : α) (r : List α) : lget ((pre ++ x :: r).map f) (pre.length : Int) = some (f x) := by
  unfold lget; rw [if_pos (by omega)]; simp
theorem hget (pre : List HeldV) (x : HeldV) (r : List HeldV) : lget (hrows (pre ++ x :: r)) (pre.length : Int) = some (hv x) := lget_mid hv pre x r
theorem iget (pre : List Int) (x : Int) (r : List Int) : lget (intRows (pre ++ x :: r)) (pre.length : Int) = some [.int .i64 x] := lget_mid (fun n => [.int .i64 n]) pre x r
theorem hget_at {l : List HeldV} {i : Nat} {x : HeldV} (h : l[i]? = some x) : lget (hrows l) (i : Int) = some (hv x) := by
  unfold lget hrows; rw [if_pos (by omega)]; simp [h]
theorem iget_at {l : List Int} {i : Nat} {x : Int} (h : l[i]? = some x) : lget (intRows l) (i : Int) = some [.int .i64 x] := by
  unfold lget intRows; rw [if_pos (by omega)]; simp [h]
theorem intRows_inj {a b : List Int} (h : intRows a = intRows b) : a = b := by
  induction a generalizing b with
  | nil => cases b with
    | nil => rfl
    | cons y b => cases h
  | cons x a ih => cases b with
    | nil => cases h
    | cons y b =>
      simp only [intRows, List.map_cons, List.cons.injEq, PV.int.injEq, true_and, and_true] at h
      rw [h.1, ih h.2]
theorem hslice (pre r : List HeldV) : pslice (hrows (pre ++ r)) 0 (pre.length : Int) = some (hrows pre) := by
  unfold pslice
  rw [if_pos ⟨by omega, by omega, by rw [hrows_len, List.length_append]; omega⟩, hrows_app]
  simp [hrows]
theorem rowInts_rows (l : List Int) : rowInts (intRows l) = some l := by
  induction l with
  | nil => rfl
  | cons x l ih =>
    show (rowInts (intRows l)).map (x :: ·) = _
    rw [ih]; rfl

/-! ### words -/
def wcells (m : Nat) : List PV := [.int .u64 (word m 0), .int .u64 (word m 1), .int .u64 (word m 2), .int .u64 (word m 3)]
theorem or_words {a b : Nat} (ha : a < 2 ^ 64) (hb : b < 2 ^ 64) : pbin .or (.int .u64 a) (.int .u64 b) = some (.int .u64 ((a ||| b : Nat) : Int)) := by
  show some (PV.int .u64 (IntKind.u64.wrap (((BitVec.ofInt 64 (a : Int) ||| BitVec.ofInt 64 (b : Int)).toNat : Nat) : Int))) = _
  have h1 : (BitVec.ofInt 64 (a : Int)).toNat = a := by simp [Nat.mod_eq_of_lt ha]
  have h2 : (BitVec.ofInt 64 (b : Int)).toNat = b := by simp [Nat.mod_eq_of_lt hb]
  rw [BitVec.toNat_or, h1, h2, uwrap_in (Nat.or_lt_two_pow ha hb)]
theorem and_words {a b : Nat} (ha : a < 2 ^ 64) (hb : b < 2 ^ 64) : pbin .and (.int .u64 a) (.int .u64 b) = some (.int .u64 ((a &&& b : Nat) : Int)) := by
  show some (PV.int .u64 (IntKind.u64.wrap (((BitVec.ofInt 64 (a : Int) &&& BitVec.ofInt 64 (b : Int)).toNat : Nat) : Int))) = _
  have h1 : (BitVec.ofInt 64 (a : Int)).toNat = a := by simp [Nat.mod_eq_of_lt ha]
  have h2 : (BitVec.ofInt 64 (b : Int)).toNat = b := by simp [Nat.mod_eq_of_lt hb]
  rw [BitVec.toNat_and, h1, h2, uwrap_in (Nat.lt_of_le_of_lt Nat.and_le_left ha)]
theorem quo64 {n : Nat} (h : n < 256) : pbin .quo (.int .i64 (n : Int)) (.int .i64 64) = some (.int .i64 ((n / 64 : Nat) : Int)) := by
  simp only [pbin, isShift, ibin, cond_false, if_true]
  rw [if_neg (by decide), wrap_in]
  · rfl
  · rw [Int.tdiv_eq_ediv_of_nonneg (by omega)]; omega
  · rw [Int.tdiv_eq_ediv_of_nonneg (by omega)]; omega
theorem rem64 {n : Nat} : pbin .rem (.int .i64 (n : Int)) (.int .i64 64) = some (.int .i64 ((n % 64 : Nat) : Int)) := by
  simp only [pbin, isShift, ibin, cond_false, if_true]
  rw [if_neg (by decide)]
  rfl
theorem shl1 {n : Nat} (h : n < 64) : pbin .shl (.int .u64 1) (.int .i64 (n : Int)) = some (.int .u64 ((2 ^ n : Nat) : Int)) := by
  simp only [pbin, isShift, ishift, cond_true]
  rw [if_neg (by omega)]
  have e : min (n : Int).toNat IntKind.u64.bits = n := by simp [IntKind.bits]; omega
  have := uwrap_in (n := 2 ^ n) (Nat.pow_lt_pow_right (by decide) h)
  rw [e, Int.one_mul]
  rw [← this]
  simp
theorem wcells_or (m k : Nat) (h : k < 256) : (wcells m)[0 + k / 64 * 1]? = some (.int .u64 (word m (k / 64))) ∧ psetc (wcells m) (0 + k / 64 * 1) (.int .u64 ((word m (k / 64) ||| 2 ^ (k % 64) : Nat) : Int)) = some (wcells (m ||| 2 ^ k)) := by
  have e : ∀ i, word (m ||| 2 ^ k) i = word m i ||| (if k / 64 = i then 2 ^ (k % 64) else 0) := fun i => by rw [word_or, word_pow]
  have : k / 64 = 0 ∨ k / 64 = 1 ∨ k / 64 = 2 ∨ k / 64 = 3 := by omega
  rcases this with h | h | h | h <;> simp [wcells, e, h, psetc]
theorem words_zero {a b : List Int} (ha : setR a = true) (hb : setR b = true) : (word (mask a) 0 &&& word (mask b) 0 = 0 ∧ word (mask a) 1 &&& word (mask b) 1 = 0 ∧ word (mask a) 2 &&& word (mask b) 2 = 0 ∧ word (mask a) 3 &&& word (mask b) 3 = 0) ↔ apartS a b = true := by
  rw [← word_and, ← word_and, ← word_and, ← word_and]
  have hw := bitsOf_words (mask a &&& mask b)
  rw [bits_and ha hb] at hw
  have hz : ∀ i, word (mask a &&& mask b) i = 0 ↔ wbits (word (mask a &&& mask b) i) = [] := fun i => by
    constructor
    · intro h; rw [h]; exact wbits_zero
    · intro h
      apply Classical.byContradiction
      intro hn
      rw [wbits_step hn (word_lt _ _)] at h
      cases h
  rw [hz 0, hz 1, hz 2, hz 3]
  have hm : meetS a b = [] ↔ apartS a b = true := by
    unfold meetS apartS
    rw [ha, hb]
    simp only [Bool.true_and, Bool.and_self, if_true, List.all_eq_true, Bool.not_eq_true']
    rw [List.eq_nil_iff_forall_not_mem]
    constructor
    · intro h n hn
      have h1 := h n
      rw [mem_fl] at h1
      cases hc : b.contains n with
      | false => rfl
      | true => exact absurd ⟨(setR_iff.1 ha).2 n hn, by rw [hc, Bool.and_true, List.contains_iff_mem]; exact hn⟩ h1
    · intro h n hn
      rw [mem_fl, Bool.and_eq_true, List.contains_iff_mem] at hn
      have := h n hn.2.1
      rw [this] at hn
      exact absurd hn.2.2 (by simp)
  rw [← hm, hw]
  simp
end Go.Bw
