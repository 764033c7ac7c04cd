/- What is added is got as it was: the law by its summary. No statement of a law is proved here. -/
import Derived.Test.YtbmgafmmaihmfaaDoorY3
set_option linter.unusedVariables false
set_option linter.unusedSimpArgs false
namespace Go.Bw.A
open Go.Proofs Go.Bw

def w1 : HeldV := ⟨1, [2, 3], 0, 5⟩
def w2 : HeldV := ⟨2, [3], 4, 9⟩
def w3 : HeldV := ⟨2, [3], 5, 9⟩
theorem P18_is : P18 [] = some (.bool true) := by
  have s0 : Sm [] := ⟨by decide, fun h hh => by cases hh⟩
  have s1 : Sm1 w1 := by unfold Sm1 w1; decide
  have s2 : Sm1 w2 := by unfold Sm1 w2; decide
  have s3 : Sm1 w3 := by unfold Sm1 w3; decide
  have t1 : Sm [w1] := ⟨by decide, fun h hh => by rw [List.mem_singleton.1 hh]; exact s1⟩
  have t2 : Sm [w1, w3] := ⟨by decide, fun h hh => by
    rcases List.mem_cons.1 hh with rfl | hh
    · exact s1
    · rw [List.mem_singleton.1 hh]; exact s3⟩
  have a1 : addT [] w1 = ([w1], 0) := by decide
  have a2 : addT [w1] w2 = ([w1], 5) := by decide
  have a3 : addT [w1] w3 = ([w1, w3], 0) := by decide
  have r1 : rightT [w1, w3] = true := by decide
  have b1 : (busyT [w1, w3] 0 9).length = 2 := by kernel_rfl
  have b2 : (endsT [w1, w3] 0).length = 2 := by kernel_rfl
  have e1 : P20 [.list 4 [], .agg [.int .i64 1, .list 1 [[.int .i64 2], [.int .i64 3]], .int .i64 0, .int .i64 5]] = some (.tup [.list 4 (hrows [w1]), .int .i64 0]) := by
    have := P20_is s0 s1
    rw [a1] at this
    exact this
  have e2 : P20 [.list 4 (hrows [w1]), .agg [.int .i64 2, .list 1 [[.int .i64 3]], .int .i64 4, .int .i64 9]] = some (.tup [.list 4 (hrows [w1]), .int .i64 5]) := by
    have := P20_is t1 s2
    rw [a2] at this
    exact this
  have e3 : P20 [.list 4 (hrows [w1]), .agg [.int .i64 2, .list 1 [[.int .i64 3]], .int .i64 5, .int .i64 9]] = some (.tup [.list 4 (hrows [w1, w3]), .int .i64 0]) := by
    have := P20_is t1 s3
    rw [a3] at this
    exact this
  show F18 = _
  unfold F18
  simp only [e1, e2, e3, obind, pnth0, pnth1, pb_eql, pbool_b, plist_l, P27_is t2, P30_is t2, hrows_len, intRows_len, b1, b2]
  rfl
theorem f3_loop (k0 : Int → (List (List PV)) → Int → Int → Int → (List (List PV)) → Int → Int → (List (List PV)) → PV → Option PV) (kr : Bool → Option PV) (c0 c2 c3 d0 d2 d3 : Int) (c1 d1 : List (List PV)) (x : List HeldV) (hx : Sm x) :
    ∀ (r pre : List HeldV) (n : Nat), r.length < n → (pre ++ r).length ≤ 1000 → (∀ h, h ∈ r → getR x h.id = some h) →
    f3_l12 k0 kr n c0 c1 c2 c3 d0 d1 d2 d3 (hrows (pre ++ r)) (.list 4 (hrows x)) (pre.length : Nat) = k0 c0 c1 c2 c3 d0 d1 d2 d3 (hrows (pre ++ r)) (.list 4 (hrows x))
  | [], pre, n, hn, hl, hg => by
    obtain ⟨n, rfl⟩ : ∃ k, n = k + 1 := ⟨n - 1, by omega⟩
    simp [f3_l12, hrows_len]
  | y :: r, pre, n, hn, hl, hg => by
    obtain ⟨n, rfl⟩ : ∃ k, n = k + 1 := ⟨n - 1, by omega⟩
    have hlt : decide (((pre.length : Nat) : Int) < ((pre ++ y :: r).length : Nat)) = true := by simp; omega
    have hl' : pre.length ≤ 1000000 := by simp at hl; omega
    have ih := f3_loop k0 kr c0 c2 c3 d0 d2 d3 c1 d1 x hx r (pre ++ [y]) n (by simp at hn; omega) (by simpa using hl) fun h hh => hg h (List.mem_cons_of_mem _ hh)
    have h1 := hg y List.mem_cons_self
    have hy : Sm1 y := by
      unfold getR at h1
      split at h1
      · exact hx.2 y (getT_some h1).1
      · cases h1
    simp only [f3_l12, hrows_len, hlt, cond_true, hget, obind, hv0, P21_is hx, h1, pnth0, pnth1, Option.getD_some, Option.isSome_some, hp_pcells, hv_pputs, pun_not, Bool.not_true, pbool_b, cond_false, hv_pext, P22_is hy, decide_true, wrap_step hl']
    simpa using ih
theorem law3 (l : List HeldV) (a b : HeldV) : P3 [.list 4 (hrows l), hp a, hp b] = some (.bool true) := by
  show F3 (hrows l) a.id (intRows a.things) a.fr a.to b.id (intRows b.things) b.fr b.to = _
  unfold F3
  rw [P18_is, P19_is]
  simp only [obind, pun_not, pbool_b, Bool.not_true, cond_false, hrows_len, intRows_len]
  cases hs : shortT l with
  | false => simp [obind, pbool_b]
  | true =>
    by_cases h1 : a.things.length ≤ 60
    rotate_left
    · have : decide (((a.things.length : Nat) : Int) > 60) = true := by rw [decide_eq_true_eq]; omega
      simp only [Bool.not_true, cond_false, this, cond_true, obind, pbool_b]
    by_cases h2 : b.things.length ≤ 60
    rotate_left
    · have g1 : decide (((a.things.length : Nat) : Int) > 60) = false := by rw [decide_eq_false_iff_not]; omega
      have : decide (((b.things.length : Nat) : Int) > 60) = true := by rw [decide_eq_true_eq]; omega
      simp only [Bool.not_true, cond_false, g1, this, cond_true, obind, pbool_b]
    have g1 : decide (((a.things.length : Nat) : Int) > 60) = false := by rw [decide_eq_false_iff_not]; omega
    have g2 : decide (((b.things.length : Nat) : Int) > 60) = false := by rw [decide_eq_false_iff_not]; omega
    have hl := short_sm hs
    have hl30 : l.length ≤ 30 := by
      simp only [shortT, Bool.and_eq_true, decide_eq_true_eq] at hs
      exact hs.1
    have ha : Sm1 a := Nat.le_trans h1 (by decide)
    have hb : Sm1 b := Nat.le_trans h2 (by decide)
    have pa : P20 [.list 4 (hrows l), .agg [.int .i64 a.id, .list 1 (intRows a.things), .int .i64 a.fr, .int .i64 a.to]] = _ := P20_is hl ha
    simp only [Bool.not_true, cond_false, g1, g2, obind, pbool_b, pa, pnth0, pnth1, pb_neq, int_bne]
    cases hx : addT l a with
    | mk x e =>
      by_cases he : e = 0
      rotate_left
      · simp [he]
      subst he
      have hxs : Sm x := by
        have := add_sm hl ha (by omega)
        rwa [hx] at this
      obtain ⟨q1, q2, q3, q4, q5, q6⟩ := add_ok.1 hx
      have hxl : x.length = l.length + 1 := by rw [q6, ins_len]
      have hxr := add_right hx
      have hgets : ∀ y, y = a ∨ y ∈ l → getR x y.id = some y := fun y hy => by
        rw [q6] at hxr ⊢
        exact ins_get hxr hy
      have hga := hgets a (.inl rfl)
      have p22 : P22 [hp a, .agg [.int .i64 a.id, .list 1 (intRows a.things), .int .i64 a.fr, .int .i64 a.to]] = some (.bool (decide (a = a))) := P22_is ha
      have hlen : IntKind.i64.wrap (((l.length : Nat) : Int) + 1) = ((x.length : Nat) : Int) := by
        rw [wrap_step (by omega), hxl]
      simp only [decide_true, Bool.not_true, cond_false, P21_is hxs, hga, obind, pnth0, pnth1, Option.getD_some, Option.isSome_some, hp_pcells, hv_pputs, pun_not, pbool_b, hv_pext, p22, plist_l, hrows_len, hlen, eq_self_iff_true]
      refine Eq.trans (f3_loop _ _ a.id a.fr a.to b.id b.fr b.to (intRows a.things) (intRows b.things) x hxs l [] FU (FU_big (by omega)) (by simpa using hl.1) fun h hh => hgets h (.inr hh)) ?_
      have pb1 : P20 [.list 4 (hrows x), .agg [.int .i64 b.id, .list 1 (intRows b.things), .int .i64 b.fr, .int .i64 b.to]] = _ := P20_is hxs hb
      have pb2 : P20 [.list 4 (hrows l), .agg [.int .i64 b.id, .list 1 (intRows b.things), .int .i64 b.fr, .int .i64 b.to]] = _ := P20_is hl hb
      have hz := add_sm hl hb (by omega)
      have pa2 : P20 [.list 4 (hrows (addT l b).1), .agg [.int .i64 a.id, .list 1 (intRows a.things), .int .i64 a.fr, .int .i64 a.to]] = _ := P20_is hz ha
      have hy := add_sm hxs hb (by omega)
      have two := add_two hx (y := (addT x b).1) (f := (addT x b).2) (z := (addT l b).1) (g := (addT l b).2) (w := (addT (addT l b).1 a).1) (k := (addT (addT l b).1 a).2) rfl rfl rfl
      have hpeq : ∀ u v : Bool, peq T 4 false (.bool u) (.bool v) = some (.bool (u == v)) := fun u v => by kernel_rfl
      simp only [List.nil_append, pb1, pb2, pa2, obind, pnth0, pnth1, pb_eql, pbool_b, pb_neq, int_bne, int_beq, hpeq, P23_is hy]
      by_cases f0 : (addT x b).2 = 0
      · obtain ⟨z0, k0⟩ := two.1.1 f0
        have := two.2 f0
        simp [f0, z0, k0, obind, pbool_b, this]
      · by_cases z0 : (addT l b).2 = 0
        · have k0 : ¬ (addT (addT l b).1 a).2 = 0 := fun k0 => f0 (two.1.2 ⟨z0, k0⟩)
          simp [f0, z0, k0, obind, pbool_b]
        · simp [f0, z0, obind, pbool_b]
end Go.Bw.A
