/- What the document's own answers on tables are. No statement of a law is proved here. -/
import Derived.Test.YtbmgafmmaihmfaaDoorY4
set_option linter.unusedVariables false
set_option linter.unusedSimpArgs false
namespace Go.Bw
theorem touch_skip_left {x y : Int} {ra rb : List Int} (hxy : x < y) (hb : (y :: rb).Pairwise (· < ·)) : touchB (x :: ra) (y :: rb) = touchB ra (y :: rb) := by
  have : (y :: rb).contains x = false := by
    rw [Bool.eq_false_iff]
    intro h
    rw [List.contains_iff_mem] at h
    rcases List.mem_cons.1 h with h | h
    · omega
    · have := (List.pairwise_cons.1 hb).1 x h; omega
  unfold touchB
  rw [List.any_cons, this, Bool.false_or]
theorem touch_skip_right {x y : Int} {ra rb : List Int} (hxy : y < x) (ha : (x :: ra).Pairwise (· < ·)) : touchB (x :: ra) (y :: rb) = touchB (x :: ra) rb := by
  rw [touch_comm, touch_skip_left hxy ha, touch_comm]
theorem over_sm {l : List HeldV} (h : Sm l) (t : Int) : Sm (overT l t).1 ∧ Sm (overT l t).2 := by
  have key : ∀ p : HeldV → Bool, Sm (l.filter p) := fun p => ⟨Nat.le_trans (List.length_filter_le _ _) h.1, fun x hx => h.2 x (List.mem_filter.1 hx).1⟩
  unfold overT
  split
  · exact ⟨key _, key _⟩
  · exact ⟨h, ⟨by simp, fun x hx => by cases hx⟩⟩
theorem busy_len (l : List HeldV) (f t : Int) : (busyT l f t).length ≤ 256 := by
  rw [set_fl (busyT_set l f t)]
  exact fl_len _
/-- Which of 0 to 255 are in both, in one of the two, in the first alone. -/
def whichB (m : Int) (a b : List Int) (n : Int) : Bool := if m = 0 then a.contains n || b.contains n else if m = 1 then a.contains n && b.contains n else if m = 2 then a.contains n && !b.contains n else false
def whichS (m : Int) (a b : List Int) : List Int := if setR a && setR b then fl (whichB m a b) else []
theorem which_join (a b : List Int) : whichS 0 a b = joinS a b := rfl
theorem fl_from (p : Int → Bool) : fl p = ((List.range' 0 256).map Int.ofNat).filter p := by
  unfold fl
  rw [List.range_eq_range']
end Go.Bw
namespace Go.Bw.A
open Go.Proofs Go.Bw

theorem f24_loop (k0 : List (List PV) → List (List PV) → Nat → Nat → Option PV) (t : Int) : ∀ (r pre o q : List HeldV) (n : Nat), r.length < n → (pre ++ r).length ≤ 1000 → o.length + r.length ≤ 1000 → q.length + r.length ≤ 1000 →
    f24_l5 k0 n (hrows o) (hrows q) (hrows (pre ++ r)) t o.length q.length (pre ++ r).length ((pre ++ r).length : Nat) (pre.length : Nat) =
      k0 (hrows (o ++ r.filter fun h => decide (t < h.to))) (hrows (q ++ r.filter fun h => decide (h.to ≤ t))) (o ++ r.filter fun h => decide (t < h.to)).length (q ++ r.filter fun h => decide (h.to ≤ t)).length
  | [], pre, o, q, n, hn, hl, ho, hq => by
    obtain ⟨n, rfl⟩ : ∃ k, n = k + 1 := ⟨n - 1, by omega⟩
    simp [f24_l5]
  | x :: r, pre, o, q, n, hn, hl, ho, hq => by
    obtain ⟨n, rfl⟩ : ∃ k, n = k + 1 := ⟨n - 1, by omega⟩
    have hlt : decide (((pre.length : Nat) : Int) < ((pre ++ x :: r).length : Nat)) = true := by simp; omega
    have hlt2 : (decide (0 ≤ ((pre.length : Nat) : Int)) && decide (((pre.length : Nat) : Int) < ((pre ++ x :: r).length : Nat))) = true := by
      rw [hlt, Bool.and_true, decide_eq_true_eq]; omega
    have hl' : pre.length ≤ 1000000 := by simp at hl; omega
    have hg : (hrows (pre ++ x :: r))[((pre.length : Nat) : Int).toNat]? = some (hv x) := by
      rw [Int.toNat_natCast]
      simp [hrows]
    have e0 : ((pre ++ x :: r).length == (pre ++ x :: r).length) = true := by simp
    have e1 : (o.length == o.length) = true := by simp
    have e2 : (q.length == q.length) = true := by simp
    have e3 : decide (o.length + ([hv x] : List (List PV)).length ≤ LIM) = true := lim_ok (by simp at ho ⊢; omega)
    have e4 : decide (q.length + ([hv x] : List (List PV)).length ≤ LIM) = true := lim_ok (by simp at hq ⊢; omega)
    have e5 : hrows o ++ [hv x] = hrows (o ++ [x]) := by rw [hrows_app]; rfl
    have e6 : hrows q ++ [hv x] = hrows (q ++ [x]) := by rw [hrows_app]; rfl
    simp only [f24_l5, hlt, hlt2, cond_true, hrows_len, e0, hg, obind, hv_pext, hp_pcells, hv_pputs, hv3, pb_leq, pbool_b, e1, e2, e3, e4, e5, e6, wrap_step hl']
    by_cases hc : x.to ≤ t
    · have ih := f24_loop k0 t r (pre ++ [x]) o (q ++ [x]) n (by simp at hn; omega) (by simpa using hl) (by simp at ho; omega) (by simp at hq ⊢; omega)
      have hc2 : ¬ t < x.to := by omega
      rw [List.filter_cons_of_neg (by simpa using hc), List.filter_cons_of_pos (by simpa using hc)]
      simp only [hc, decide_true, cond_true]
      simpa using ih
    · have ih := f24_loop k0 t r (pre ++ [x]) (o ++ [x]) q n (by simp at hn; omega) (by simpa using hl) (by simp at ho ⊢; omega) (by simp at hq; omega)
      have hc2 : t < x.to := by omega
      rw [List.filter_cons_of_pos (by simpa using hc2), List.filter_cons_of_neg (by simpa using hc)]
      simp only [hc, decide_false, cond_false]
      simpa using ih
theorem P24_is {l : List HeldV} (hl : Sm l) (t : Int) : P24 [.list 4 (hrows l), .int .i64 t] = some (.tup [.list 4 (hrows (overT l t).1), .list 4 (hrows (overT l t).2)]) := by
  show F24 (hrows l) t = _
  unfold F24 overT
  rw [P40_is hl, P57_is hl]
  cases hr : rightT l with
  | false => simp [obind, pun_not, pbool_b]; rfl
  | true =>
    simp only [obind, pun_not, pbool_b, Bool.not_true, cond_false, hrows_len, if_true]
    refine Eq.trans (f24_loop _ t l [] [] [] FU (FU_big (by have := hl.1; omega)) (by simpa using hl.1) (by simpa using hl.1) (by simpa using hl.1)) ?_
    simp [hrows_len]
theorem f80_loop (k0 : Option PV) (kr : Bool → Option PV) : ∀ (r pre : List Int) (n : Nat) (last : Int), r.length < n → (pre ++ r).length ≤ 1000000 → ((pre = [] ∧ last = -1) ∨ ∃ ys, pre = ys ++ [last] ∧ 0 ≤ last) →
    f80_l2 k0 kr n (intRows (pre ++ r)) (pre.length : Nat) = if asc last r = true then k0 else kr false
  | [], pre, n, last, hn, hl, hp => by
    obtain ⟨n, rfl⟩ : ∃ k, n = k + 1 := ⟨n - 1, by omega⟩
    simp [f80_l2, asc, intRows_len]
  | x :: r, pre, n, last, hn, hl, hp => by
    obtain ⟨n, rfl⟩ : ∃ k, n = k + 1 := ⟨n - 1, by omega⟩
    have hlt : decide (((pre.length : Nat) : Int) < ((pre ++ x :: r).length : Nat)) = true := by simp; omega
    have hl' : pre.length ≤ 1000000 := by simp at hl; omega
    simp only [f80_l2, intRows_len, hlt, cond_true, iget, obind, iv0, pb_lss, pb_gtr, pb_leq, pbool_b, wrap_step hl', asc]
    by_cases h1 : x < 0
    · have : ¬ (last < x) := by
        rcases hp with ⟨_, h⟩ | ⟨_, _, h⟩ <;> omega
      simp [h1, this, obind, pbool_b]
    by_cases h2 : 255 < x
    · have : ¬ (x < 256) := by omega
      simp [h1, h2, this, obind, pbool_b]
    have h3 : x < 256 := by omega
    have ih := f80_loop k0 kr r (pre ++ [x]) n x (by simp at hn; omega) (by simpa using hl) (.inr ⟨pre, rfl, by omega⟩)
    rcases hp with ⟨rfl, rfl⟩ | ⟨ys, rfl, h0⟩
    · have h4 : -1 < x := by omega
      simp only [h1, h2, h3, h4, decide_false, decide_true, cond_false, List.length_nil, obind, pbool_b, Bool.and_self, Bool.true_and]
      simpa [obind, pbool_b] using ih
    · have e0 : decide ((((ys ++ [last]).length : Nat) : Int) > 0) = true := by rw [decide_eq_true_eq, List.length_append]; simp
      have e1 : IntKind.i64.wrap ((((ys ++ [last]).length : Nat) : Int) - 1) = (ys.length : Nat) := by
        rw [wrap_in] <;> simp at hl ⊢ <;> omega
      have e2 : lget (intRows (ys ++ [last] ++ x :: r)) (ys.length : Nat) = some [.int .i64 last] := by
        rw [List.append_assoc]; exact iget ys last _
      simp only [h1, h2, h3, decide_false, decide_true, cond_false, cond_true, e0, e1, e2, obind, iv0, pb_leq, pbool_b, Bool.and_true]
      by_cases h5 : x ≤ last
      · have : ¬ last < x := by omega
        simp [h5, this]
      · have : last < x := by omega
        simp only [h5, this, decide_false, decide_true, cond_false, Bool.true_and]
        rw [show ys ++ [last] ++ x :: r = (ys ++ [last] ++ [x]) ++ r by simp, show (ys ++ [last]).length + 1 = (ys ++ [last] ++ [x]).length by simp]
        exact ih
theorem P80_is {l : List Int} (hl : l.length ≤ 1000000) : P80 [.list 1 (intRows l)] = some (.bool (setR l)) := by
  show F80 (intRows l) = _
  unfold F80
  refine Eq.trans (f80_loop (some (.bool true)) (fun (y1 : Bool) => some (.bool y1)) l [] FU (-1) (by rw [FU_eq]; unfold LIM; omega) (by simpa using hl) (.inl ⟨rfl, rfl⟩)) ?_
  unfold setR
  cases asc (-1) l <;> rfl
theorem P75_is {h : HeldV} (hh : Sm1 h) : P75 [hp h] = some (.bool (mayB h)) := by
  show F75 h.id (intRows h.things) h.fr h.to = _
  unfold F75 mayB whenR NEV
  rw [intRows_len, P80_is hh]
  have e : decide (((h.things.length : Nat) : Int) > 0) = decide (0 < h.things.length) := by rw [Bool.eq_iff_iff, decide_eq_true_eq, decide_eq_true_eq]; omega
  rw [e]
  cases decide (0 < h.things.length) <;> cases setR h.things <;> simp only [obind, pbool_b, cond_true, cond_false, Bool.false_and, Bool.true_and]
  by_cases h1 : 0 ≤ h.fr
  · by_cases h2 : h.fr < h.to
    · have h3 : 0 ≤ h.to := by omega
      by_cases h4 : h.to ≤ 4611686018427387904
      · have h5 : h.fr ≤ 4611686018427387904 := by omega
        simp [h1, h2, h3, h4, h5, obind]
      · simp [h1, h2, h3, h4, obind]
    · simp [h1, h2, obind]
  · simp [h1, obind]
theorem P66_is (a b c d : Int) : P66 [.int .i64 a, .int .i64 b, .int .i64 c, .int .i64 d] = some (.bool (meetsB a b c d)) := by
  show F66 a b c d = _
  unfold F66 meetsB
  by_cases h1 : c > a
  · by_cases h2 : c < b
    · by_cases h3 : c < d
      · have h4 : a < b := by omega
        have h5 : a < d := by omega
        have h6 : c ≥ a := by omega
        simp [h1, h2, h3, h4, h5, h6, obind]
      · have h6 : c ≥ a := by omega
        simp [h1, h2, h3, h6, obind]
    · have h6 : c ≥ a := by omega
      simp [h1, h2, h6, obind]
  · by_cases h2 : a < b
    · have h6 : a ≥ c := by omega
      by_cases h3 : a < d
      · have h4 : c < b := by omega
        have h5 : c < d := by omega
        simp [h1, h2, h3, h4, h5, h6, obind]
      · simp [h1, h2, h3, h6, obind]
    · simp [h1, h2, obind]
theorem f104_loop (k0 : Option PV) (kr : Bool → Option PV) : ∀ (n : Nat) (ra rb pa pb : List Int), ra.length + rb.length < n → (pa ++ ra).length ≤ 1000000 → (pb ++ rb).length ≤ 1000000 → ra.Pairwise (· < ·) → rb.Pairwise (· < ·) →
    f104_l2 k0 kr n (intRows (pa ++ ra)) (intRows (pb ++ rb)) (pa.length : Nat) (pb.length : Nat) = if touchB ra rb = true then kr true else k0
  | 0, ra, rb, pa, pb, hn, _, _, _, _ => by omega
  | n + 1, [], rb, pa, pb, hn, ha, hb, hp, hq => by simp [f104_l2, touchB, intRows_len, obind, pbool_b]
  | n + 1, x :: ra, [], pa, pb, hn, ha, hb, hp, hq => by
    have h1 : decide (((pa.length : Nat) : Int) < ((pa ++ x :: ra).length : Nat)) = true := by simp; omega
    simp [f104_l2, touchB, intRows_len, obind, pbool_b]
  | n + 1, x :: ra, y :: rb, pa, pb, hn, ha, hb, hp, hq => by
    have h1 : decide (((pa.length : Nat) : Int) < ((pa ++ x :: ra).length : Nat)) = true := by simp; omega
    have h2 : decide (((pb.length : Nat) : Int) < ((pb ++ y :: rb).length : Nat)) = true := by simp; omega
    have ha' : pa.length ≤ 1000000 := by simp at ha; omega
    have hb' : pb.length ≤ 1000000 := by simp at hb; omega
    simp only [f104_l2, intRows_len, h1, h2, cond_true, obind, pbool_b, iget, iv0, pb_eql, pb_lss, wrap_step ha', wrap_step hb', int_beq]
    by_cases e : x = y
    · subst e
      have : touchB (x :: ra) (x :: rb) = true := by simp [touchB]
      simp [this]
    · by_cases hlt : x < y
      · have ih := f104_loop k0 kr n ra (y :: rb) (pa ++ [x]) pb (by simp at hn ⊢; omega) (by simpa using ha) hb (List.pairwise_cons.1 hp).2 hq
        rw [touch_skip_left hlt hq]
        simp only [e, hlt, decide_false, decide_true, cond_false, cond_true]
        simpa using ih
      · have hgt : y < x := by omega
        have ih := f104_loop k0 kr n (x :: ra) rb pa (pb ++ [y]) (by simp at hn ⊢; omega) ha (by simpa using hb) hp (List.pairwise_cons.1 hq).2
        rw [touch_skip_right hgt hp]
        simp only [e, hlt, decide_false, cond_false]
        simpa using ih
theorem P104_is {a b : List Int} (ha : setR a = true) (hb : setR b = true) (hla : a.length ≤ 256) (hlb : b.length ≤ 256) : P104 [.list 1 (intRows a), .list 1 (intRows b)] = some (.bool (touchB a b)) := by
  show F104 (intRows a) (intRows b) = _
  unfold F104
  refine Eq.trans (f104_loop (some (.bool false)) (fun (y1 : Bool) => some (.bool y1)) FU a b [] [] (FU_big (by omega)) (by simp; omega) (by simp; omega) (setR_iff.1 ha).1 (setR_iff.1 hb).1) ?_
  cases touchB a b <;> rfl
theorem may_len {h : HeldV} (hm : mayB h = true) : h.things.length ≤ 256 := by
  rw [set_fl (may_set hm)]
  exact fl_len _
theorem P77_is {a b : HeldV} (ha : mayB a = true) (hb : mayB b = true) : P77 [hp a, hp b] = some (.bool (clashB a b)) := by
  show F77 a.id (intRows a.things) a.fr a.to b.id (intRows b.things) b.fr b.to = _
  unfold F77 clashB
  rw [P66_is, P104_is (may_set ha) (may_set hb) (may_len ha) (may_len hb)]
  cases meetsB a.fr a.to b.fr b.to <;> simp [obind, pbool_b]
theorem f41_inner (k2 : List (List PV) → Int → Option PV) (kr : Bool → Option PV) (x : HeldV) (r : List HeldV) (hx : mayB x = true) : ∀ (q p : List HeldV) (n : Nat), q.length < n → (p ++ q ++ x :: r).length ≤ 1000 → (∀ h, h ∈ q → mayB h = true) →
    f41_l9 k2 kr n (hrows (p ++ q ++ x :: r)) ((p ++ q).length : Nat) (p.length : Nat) = if (q.any fun y => clashB y x) = true then kr false else k2 (hrows (p ++ q ++ x :: r)) ((p ++ q).length : Nat)
  | [], p, n, hn, hl, hm => by
    obtain ⟨n, rfl⟩ : ∃ k, n = k + 1 := ⟨n - 1, by omega⟩
    simp [f41_l9]
  | y :: q, p, n, hn, hl, hm => by
    obtain ⟨n, rfl⟩ : ∃ k, n = k + 1 := ⟨n - 1, by omega⟩
    have hlt : decide (((p.length : Nat) : Int) < ((p ++ y :: q).length : Nat)) = true := by simp; omega
    have hl' : p.length ≤ 1000000 := by simp at hl; omega
    have h1 : lget (hrows (p ++ y :: q ++ x :: r)) (p.length : Nat) = some (hv y) := by
      rw [List.append_assoc]; exact hget p y (q ++ x :: r)
    have h2 : lget (hrows (p ++ y :: q ++ x :: r)) ((p ++ y :: q).length : Nat) = some (hv x) := hget (p ++ y :: q) x r
    have ih := f41_inner k2 kr x r hx q (p ++ [y]) n (by simp at hn; omega) (by simpa using hl) fun h hh => hm h (List.mem_cons_of_mem _ hh)
    simp only [f41_l9, hlt, cond_true, h1, h2, obind, hv_pext, P77_is (hm y List.mem_cons_self) hx, pbool_b, wrap_step hl', List.any_cons]
    rcases Bool.eq_false_or_eq_true (clashB y x) with hc | hc
    · simp [hc]
    · simp only [hc, cond_false, Bool.false_or]
      simpa using ih
theorem f41_loop (k0 : Option PV) (kr : Bool → Option PV) : ∀ (r pre : List HeldV) (n : Nat), r.length < n → (pre ++ r).length ≤ 1000 → (∀ h, h ∈ pre ++ r → Sm1 h) → (∀ h, h ∈ pre → mayB h = true) →
    f41_l4 k0 kr n (hrows (pre ++ r)) (pre.length : Nat) = if rightGo pre r = true then k0 else kr false
  | [], pre, n, hn, hl, hs, hm => by
    obtain ⟨n, rfl⟩ : ∃ k, n = k + 1 := ⟨n - 1, by omega⟩
    simp [f41_l4, rightGo, hrows_len]
  | x :: r, pre, n, hn, hl, hs, hm => by
    obtain ⟨n, rfl⟩ : ∃ k, n = k + 1 := ⟨n - 1, by omega⟩
    have hlt : decide (((pre.length : Nat) : Int) < ((pre ++ x :: r).length : Nat)) = true := by simp; omega
    have hl' : pre.length ≤ 1000000 := by simp at hl; omega
    have hx : Sm1 x := hs x (by simp)
    simp only [f41_l4, hrows_len, hlt, cond_true, hget, obind, hv_pext, P75_is hx, pun_not, pbool_b, rightGo, hv0, pb_leq]
    rcases Bool.eq_false_or_eq_true (mayB x) with hmx | hmx
    rotate_left
    · simp [hmx, obind, pbool_b]
    · have ih := f41_loop k0 kr r (pre ++ [x]) n (by simp at hn; omega) (by simpa using hl) (by simpa using hs) (fun h hh => by
        rcases List.mem_append.1 hh with hh | hh
        · exact hm h hh
        · rw [List.mem_singleton.1 hh]; exact hmx)
      have ih : f41_l4 k0 kr n (hrows (pre ++ x :: r)) (((pre.length + 1 : Nat)) : Int) = if rightGo (pre ++ [x]) r = true then k0 else kr false := by simpa using ih
      have inner := f41_inner (fun (y13 : List (List PV)) (y14 : Int) => f41_l4 k0 kr n y13 (IntKind.i64.wrap (y14 + 1))) (fun (y15 : Bool) => kr y15) x r hmx pre [] FU (FU_big (by simp at hl; omega)) (by simpa using hl) hm
      have inner : f41_l9 (fun (y13 : List (List PV)) (y14 : Int) => f41_l4 k0 kr n y13 (IntKind.i64.wrap (y14 + 1))) (fun (y15 : Bool) => kr y15) FU (hrows (pre ++ x :: r)) (pre.length : Nat) 0 = if (pre.any fun y => clashB y x) = true then kr false else f41_l4 k0 kr n (hrows (pre ++ x :: r)) (IntKind.i64.wrap ((pre.length : Nat) + 1)) := inner
      rw [wrap_step hl', ih] at inner
      rcases List.eq_nil_or_concat pre with rfl | ⟨ys, y, rfl⟩
      · have e0 : decide (((([] : List HeldV).length : Nat) : Int) > 0) = false := rfl
        simp only [hmx, Bool.not_true, cond_false, e0, obind, pbool_b, inner, List.getLast?_nil, Bool.true_and, List.any_nil, Bool.not_false, Bool.false_eq_true, if_false]
      · simp only [List.concat_eq_append] at *
        have e0 : decide ((((ys ++ [y]).length : Nat) : Int) > 0) = true := by rw [decide_eq_true_eq, List.length_append]; simp
        have e1 : IntKind.i64.wrap ((((ys ++ [y]).length : Nat) : Int) - 1) = (ys.length : Nat) := by
          rw [wrap_in] <;> simp at hl ⊢ <;> omega
        have e2 : lget (hrows (ys ++ [y] ++ x :: r)) (ys.length : Nat) = some (hv y) := by
          rw [List.append_assoc]; exact hget ys y _
        simp only [hmx, Bool.not_true, cond_false, e0, cond_true, obind, e1, e2, hv0, pb_leq, pbool_b, inner, List.getLast?_append, List.getLast?_singleton, Option.some_or, Bool.true_and]
        by_cases hyx : y.id < x.id
        · have h5 : ¬ x.id ≤ y.id := by omega
          simp only [hyx, h5, decide_true, decide_false, cond_false, Bool.true_and]
          cases ((ys ++ [y]).any fun z => clashB z x) <;> simp
        · have h5 : x.id ≤ y.id := by omega
          simp [hyx, h5]
theorem P41_is {l : List HeldV} (hl : Sm l) : P41 [.list 4 (hrows l)] = some (.bool (rightT l)) := by
  show F41 (hrows l) = _
  unfold F41
  rw [hrows_len]
  by_cases h : l.length ≤ 256
  · have e : decide (((l.length : Nat) : Int) > 256) = false := by rw [decide_eq_false_iff_not]; omega
    rw [e, cond_false]
    refine Eq.trans (f41_loop (some (.bool true)) (fun (y1 : Bool) => some (.bool y1)) l [] FU (FU_big (by omega)) (by simpa using hl.1) hl.2 (by simp)) ?_
    rw [rightGo_nil]
    unfold rightT
    rw [show decide (l.length ≤ 256) = true by simpa using h, Bool.true_and]
    cases l.all mayB && pairB l <;> rfl
  · have e : decide (((l.length : Nat) : Int) > 256) = true := by rw [decide_eq_true_eq]; omega
    have e2 : rightT l = false := by unfold rightT; rw [show decide (l.length ≤ 256) = false by simpa using h]; rfl
    rw [e, e2]; rfl
theorem f25_loop (k0 : List (List PV) → List (List PV) → Nat → Nat → Option PV) (t : Int) : ∀ (r pre o q : List HeldV) (n : Nat), r.length < n → (pre ++ r).length ≤ 1000 → o.length + r.length ≤ 1000 → q.length + r.length ≤ 1000 →
    f25_l5 k0 n (hrows o) (hrows q) (hrows (pre ++ r)) t o.length q.length (pre.length : Nat) =
      k0 (hrows (o ++ r.filter fun h => decide (t < h.to))) (hrows (q ++ r.filter fun h => decide (h.to ≤ t))) (o ++ r.filter fun h => decide (t < h.to)).length (q ++ r.filter fun h => decide (h.to ≤ t)).length
  | [], pre, o, q, n, hn, hl, ho, hq => by
    obtain ⟨n, rfl⟩ : ∃ k, n = k + 1 := ⟨n - 1, by omega⟩
    simp [f25_l5, hrows_len]
  | x :: r, pre, o, q, n, hn, hl, ho, hq => by
    obtain ⟨n, rfl⟩ : ∃ k, n = k + 1 := ⟨n - 1, by omega⟩
    have hlt : decide (((pre.length : Nat) : Int) < ((pre ++ x :: r).length : Nat)) = true := by simp; omega
    have hl' : pre.length ≤ 1000000 := by simp at hl; omega
    have e1 : (o.length == o.length) = true := by simp
    have e2 : (q.length == q.length) = true := by simp
    have e3 : decide (o.length + ([hv x] : List (List PV)).length ≤ LIM) = true := lim_ok (by simp at ho ⊢; omega)
    have e4 : decide (q.length + ([hv x] : List (List PV)).length ≤ LIM) = true := lim_ok (by simp at hq ⊢; omega)
    have e5 : hrows o ++ [hv x] = hrows (o ++ [x]) := by rw [hrows_app]; rfl
    have e6 : hrows q ++ [hv x] = hrows (q ++ [x]) := by rw [hrows_app]; rfl
    simp only [f25_l5, hrows_len, hlt, cond_true, hget, obind, hv_pext, hp_pcells, hv3, pb_gtr, pbool_b, e1, e2, e3, e4, e5, e6, wrap_step hl']
    by_cases hc : x.to ≤ t
    · have ih := f25_loop k0 t r (pre ++ [x]) o (q ++ [x]) n (by simp at hn; omega) (by simpa using hl) (by simp at ho; omega) (by simp at hq ⊢; omega)
      have hc2 : ¬ t < x.to := by omega
      rw [List.filter_cons_of_neg (by simpa using hc), List.filter_cons_of_pos (by simpa using hc)]
      simp only [hc2, decide_false, cond_false]
      simpa using ih
    · have ih := f25_loop k0 t r (pre ++ [x]) (o ++ [x]) q n (by simp at hn; omega) (by simpa using hl) (by simp at ho ⊢; omega) (by simp at hq; omega)
      have hc2 : t < x.to := by omega
      rw [List.filter_cons_of_pos (by simpa using hc2), List.filter_cons_of_neg (by simpa using hc)]
      simp only [hc2, decide_true, cond_true]
      simpa using ih
theorem P25_is {l : List HeldV} (hl : Sm l) (t : Int) : P25 [.list 4 (hrows l), .int .i64 t] = some (.tup [.list 4 (hrows (overT l t).1), .list 4 (hrows (overT l t).2)]) := by
  show F25 (hrows l) t = _
  unfold F25 overT
  rw [P41_is hl]
  cases hr : rightT l with
  | false => rfl
  | true =>
    simp only [obind, pun_not, pbool_b, Bool.not_true, cond_false, if_true]
    refine Eq.trans (f25_loop _ t l [] [] [] FU (FU_big (by have := hl.1; omega)) (by simpa using hl.1) (by simpa using hl.1) (by simpa using hl.1)) ?_
    simp [hrows_len]
theorem f98_loop (k0 : Option PV) (kr : Bool → Option PV) (v : Int) : ∀ (r pre : List Int) (n : Nat), r.length < n → (pre ++ r).length ≤ 1000000 →
    f98_l2 k0 kr n (intRows (pre ++ r)) v (pre.length : Nat) = if r.contains v = true then kr true else k0
  | [], pre, n, hn, hl => by
    obtain ⟨n, rfl⟩ : ∃ k, n = k + 1 := ⟨n - 1, by omega⟩
    simp [f98_l2, intRows_len]
  | x :: r, pre, n, hn, hl => by
    obtain ⟨n, rfl⟩ : ∃ k, n = k + 1 := ⟨n - 1, by omega⟩
    have hlt : decide (((pre.length : Nat) : Int) < ((pre ++ x :: r).length : Nat)) = true := by simp; omega
    have hl' : pre.length ≤ 1000000 := by simp at hl; omega
    have ih := f98_loop k0 kr v r (pre ++ [x]) n (by simp at hn; omega) (by simpa using hl)
    simp only [f98_l2, intRows_len, hlt, cond_true, iget, obind, iv0, pb_eql, pbool_b, wrap_step hl', int_beq]
    by_cases e : x = v
    · subst e; simp
    · have e' : ¬ v = x := fun h => e h.symm
      have hc : (x :: r).contains v = r.contains v := by rw [List.contains_cons]; simp [e']
      simp only [e, decide_false, cond_false, hc]
      simpa using ih
theorem P98_is {l : List Int} (hl : l.length ≤ 1000000) (v : Int) : P98 [.list 1 (intRows l), .int .i64 v] = some (.bool (l.contains v)) := by
  show F98 (intRows l) v = _
  unfold F98
  refine Eq.trans (f98_loop (some (.bool false)) (fun (y1 : Bool) => some (.bool y1)) v l [] FU (by rw [FU_eq]; unfold LIM; omega) (by simpa using hl)) ?_
  cases l.contains v <;> rfl
end Go.Bw.A
