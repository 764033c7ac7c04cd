/- What the functions on tables of holdings answer. No statement of a law is proved here. -/
import Derived.Test.YtbmgafmmaihmfaaDoorY1
set_option linter.unusedVariables false
set_option linter.unusedSimpArgs false
namespace Go.Bw
def Sm1 (h : HeldV) : Prop := h.things.length ≤ 1000000
def Sm (l : List HeldV) : Prop := l.length ≤ 1000 ∧ ∀ h, h ∈ l → Sm1 h
/-- As the texts have it. -/
def clashG (a b : HeldV) : Bool := meetsB a.fr a.to b.fr b.to && !apartS a.things b.things
theorem clashG_eq {a b : HeldV} (ha : mayB a = true) (hb : mayB b = true) : clashG a b = clashB a b := by
  unfold clashG clashB
  rw [apart_touch (may_set ha) (may_set hb), Bool.not_not]
theorem posT_split (l : List HeldV) (t : Int) : l = (l.takeWhile fun h => decide (h.id < t)) ++ (l.dropWhile fun h => decide (h.id < t)) := List.takeWhile_append_dropWhile.symm
theorem posT_le (l : List HeldV) (t : Int) : posT l t ≤ l.length := by
  have := congrArg List.length (posT_split l t)
  rw [List.length_append] at this
  unfold posT; omega
theorem posT_at : ∀ (l : List HeldV) (t : Int) (i : Nat), i ≤ l.length → (∀ k x, k < i → l[k]? = some x → x.id < t) → (∀ k x, i ≤ k → l[k]? = some x → t ≤ x.id) → posT l t = i
  | [], t, i, hi, _, _ => by simp at hi; subst hi; rfl
  | y :: l, t, 0, hi, h1, h2 => by
    have := h2 0 y (Nat.le_refl _) rfl
    unfold posT
    rw [List.takeWhile_cons_of_neg (by simp; omega)]
    rfl
  | y :: l, t, i + 1, hi, h1, h2 => by
    have h0 := h1 0 y (by omega) rfl
    have := posT_at l t i (by simpa using hi) (fun k x hk hx => h1 (k + 1) x (by omega) (by simpa using hx)) (fun k x hk hx => h2 (k + 1) x (by omega) (by simpa using hx))
    unfold posT at this ⊢
    rw [List.takeWhile_cons_of_pos (by simpa using h0), List.length_cons, this]
theorem posT_get (l : List HeldV) (t : Int) : l[posT l t]? = (l.dropWhile fun h => decide (h.id < t)).head? := by
  conv => lhs; rw [posT_split l t]
  unfold posT
  rw [List.getElem?_append_right (by rw [← posT_split l t]; exact Nat.le_refl _)]
  rw [← posT_split l t]
  simp [List.head?_eq_getElem?]
theorem has_pos {l : List HeldV} (hr : Rising l) (t : Int) : hasId l t = (match l[posT l t]? with | some y => y.id == t | none => false) := by
  rw [posT_get]
  have hd := drop_ge hr (i := t)
  have hsp := posT_split l t
  have h1 : hasId l t = hasId (l.dropWhile fun h => decide (h.id < t)) t := by
    conv => lhs; rw [hsp]
    unfold hasId
    rw [List.any_append]
    have : ((l.takeWhile fun h => decide (h.id < t)).any fun h => h.id == t) = false := by
      rw [List.any_eq_false]
      intro x hx
      have := take_lt hx
      simp; omega
    rw [this, Bool.false_or]
  rw [h1]
  have hr2 : Rising (l.dropWhile fun h => decide (h.id < t)) := by
    have := hr
    unfold Rising at this ⊢
    rw [hsp, List.pairwise_append] at this
    exact this.2.1
  revert hd hr2
  cases hdw : l.dropWhile fun h => decide (h.id < t) with
  | nil => intro _ _; rfl
  | cons y m =>
    intro hd hr2
    obtain ⟨h3, _⟩ := List.pairwise_cons.1 hr2
    show (y.id == t || m.any fun h => h.id == t) = (y.id == t)
    cases he : y.id == t
    · rw [Bool.false_or, List.any_eq_false]
      intro x hx
      have h4 := h3 x hx
      have h5 := hd y List.mem_cons_self
      simp at he ⊢
      omega
    · rfl
theorem getT_pos {l : List HeldV} (hr : Rising l) {t : Int} (h : hasId l t = true) : ∃ y, l[posT l t]? = some y ∧ getT l t = some y := by
  have := has_pos hr t
  rw [h] at this
  cases hy : l[posT l t]? with
  | none => rw [hy] at this; cases this
  | some y =>
    rw [hy] at this
    have he : y.id = t := by simpa using this.symm
    refine ⟨y, rfl, ?_⟩
    have hm : y ∈ l := List.mem_of_getElem? hy
    rw [← he]
    exact getT_eq hr hm
theorem take_pos (l : List HeldV) (t : Int) : l.take (posT l t) = (l.takeWhile fun h => decide (h.id < t)) ∧ l.drop (posT l t) = (l.dropWhile fun h => decide (h.id < t)) := by
  have hsp := posT_split l t
  constructor
  · conv => lhs; arg 2; rw [hsp]
    exact List.take_left' rfl
  · conv => lhs; arg 2; rw [hsp]
    exact List.drop_left' rfl
theorem meets_form (a b c d : Int) : decide ((if c > a then c else a) < (if d < b then d else b)) = meetsB a b c d := by
  rw [Bool.eq_iff_iff]
  simp only [meetsB, Bool.and_eq_true, decide_eq_true_eq]
  split <;> split <;> omega
theorem linsert_is {l : List HeldV} {h : HeldV} (hl : l.length ≤ 1000) : linsert (hrows l) (posT l h.id : Nat) [hv h] = some (hrows (insT l h)) := by
  have h1 := posT_le l h.id
  obtain ⟨h2, h3⟩ := take_pos l h.id
  unfold linsert
  rw [if_pos ⟨by omega, by rw [hrows_len]; omega, by simp, by rw [hrows_len]; unfold LIM; simp; omega⟩]
  unfold insT hrows
  rw [Int.toNat_natCast, ← List.map_take, ← List.map_drop, h2, h3]
  simp
end Go.Bw
namespace Go.Bw.A
open Go.Proofs Go.Bw

theorem P97_is (l : List Int) (hl : l.length ≤ 1000000) : P97 [.list 1 (intRows l)] = some (.list 1 (intRows l)) := by
  show (if 1 = 1 ∧ (intRows l).length ≤ LIM then some (PV.list 1 (intRows l)) else none) = _
  rw [if_pos ⟨rfl, by rw [intRows_len]; unfold LIM; omega⟩]
theorem P64_is {h : HeldV} (hh : Sm1 h) : P64 [hp h] = some (hp h) := by
  show F64 h.id (intRows h.things) h.fr h.to = _
  unfold F64
  rw [P97_is _ hh]
  rfl
theorem f57_loop (k0 : List (List PV) → Nat → Option PV) : ∀ (r pre : List HeldV) (n : Nat), r.length < n → (pre ++ r).length ≤ 1000 → (∀ h, h ∈ r → Sm1 h) →
    f57_l3 k0 n (hrows pre) pre.length (hrows (pre ++ r)) ((pre ++ r).length : Nat) (pre.length : Nat) = k0 (hrows (pre ++ r)) (pre ++ r).length
  | [], pre, n, hn, hl, hs => by
    obtain ⟨n, rfl⟩ : ∃ k, n = k + 1 := ⟨n - 1, by omega⟩
    simp [f57_l3]
  | x :: r, pre, n, hn, hl, hs => by
    obtain ⟨n, rfl⟩ : ∃ k, n = k + 1 := ⟨n - 1, by omega⟩
    have hlt : decide (((pre.length : Nat) : Int) < ((pre ++ x :: r).length : Nat)) = true := by simp; omega
    have hl' : pre.length ≤ 1000000 := by simp at hl; omega
    have h1 : (pre.length == pre.length) = true := by simp
    have h2 : decide (pre.length + ([hv x] : List (List PV)).length ≤ LIM) = true := lim_ok (by simp at hl ⊢; omega)
    have h3 : hrows pre ++ [hv x] = hrows (pre ++ [x]) := by rw [hrows_app]; rfl
    simp only [f57_l3, hlt, cond_true, hget, obind, hv_pext, hp_pcells, hv_pputs, P64_is (hs x List.mem_cons_self), h1, h2, h3, hrows_len, wrap_step hl']
    have := f57_loop k0 r (pre ++ [x]) n (by simp at hn; omega) (by simpa using hl) fun h hh => hs h (List.mem_cons_of_mem _ hh)
    simpa using this
theorem P57_is {l : List HeldV} (hl : Sm l) : P57 [.list 4 (hrows l)] = some (hrows l) := by
  show (F57 (hrows l)).bind (plistX 4) = _
  unfold F57
  rw [hrows_len]
  have := f57_loop (fun (y1 : List (List PV)) (y2 : Nat) => bif y1.length == y2 then (some (.list 4 y1)) else none) l [] FU (FU_big (by have := hl.1; omega)) (by simpa using hl.1) hl.2
  rw [show (f57_l3 _ FU [] 0 (hrows l) ((l.length : Nat) : Int) 0) = _ from this]
  simp [hrows_len, plistX]
theorem P90_is (t : Int) : P90 [.int .i64 t] = some (.bool (whenR t)) := by
  show F90 t = _
  unfold F90 whenR NEV
  by_cases h : 0 ≤ t <;> simp [h, obind]
theorem P58_is {h : HeldV} (hh : Sm1 h) : P58 [hp h] = some (.bool (mayB h)) := by
  show F58 h.id (intRows h.things) h.fr h.to = _
  unfold F58 mayB
  have hp : P36 [.list 1 (intRows h.things)] = some (.bool (setR h.things)) := P36_is _ (Nat.le_trans hh (by decide))
  rw [intRows_len, hp, P90_is, P90_is]
  have e : decide (((h.things.length : Nat) : Int) > 0) = decide (0 < h.things.length) := by rw [Bool.eq_iff_iff, decide_eq_true_eq, decide_eq_true_eq]; omega
  rw [e]
  cases decide (0 < h.things.length) <;> cases setR h.things <;> cases whenR h.fr <;> cases whenR h.to <;> simp [obind, pbool_b]
theorem P65_is (a b c d : Int) : P65 [.int .i64 a, .int .i64 b, .int .i64 c, .int .i64 d] = some (.bool (meetsB a b c d)) := by
  show F65 a b c d = _
  unfold F65
  rw [meets_form]
theorem P62_is {a b : HeldV} (ha : Sm1 a) (hb : Sm1 b) : P62 [hp a, hp b] = some (.bool (clashG a b)) := by
  show F62 a.id (intRows a.things) a.fr a.to b.id (intRows b.things) b.fr b.to = _
  unfold F62 clashG
  rw [P65_is, P54_is _ _ (Nat.le_trans ha (by decide)) (Nat.le_trans hb (by decide))]
  cases meetsB a.fr a.to b.fr b.to <;> simp [obind, pbool_b, pun_not]
theorem P61_is {a b : HeldV} (ha : Sm1 a) (hb : Sm1 b) : P61 [.pv (hp a), .eptr (hv b) 0] = some (.bool (clashG a b)) := by
  show (P62 [hp a, hp b]).bind _ = _
  rw [P62_is ha hb]; rfl
theorem P78_is {a b : HeldV} (ha : Sm1 a) (hb : Sm1 b) : P78 [.pv (hp a), .eptr (hv b) 0] = some (.bool (clashG a b)) := by
  show (P62 [hp a, hp b]).bind _ = _
  rw [P62_is ha hb]; rfl
theorem f94c61_loop (k0 : Option PV) (kr : Int → Option PV) (b : HeldV) (hb : Sm1 b) : ∀ (r pre : List HeldV) (n : Nat), r.length < n → (pre ++ r).length ≤ 1000 → (∀ h, h ∈ r → Sm1 h) →
    ((r.any fun x => clashG x b) = false → f94c61_l2 k0 kr n (hrows (pre ++ r)) b.id (intRows b.things) b.fr b.to ((pre ++ r).length : Nat) (pre.length : Nat) = k0) ∧
    ((r.any fun x => clashG x b) = true → ∃ i : Nat, f94c61_l2 k0 kr n (hrows (pre ++ r)) b.id (intRows b.things) b.fr b.to ((pre ++ r).length : Nat) (pre.length : Nat) = kr i)
  | [], pre, n, hn, hl, hs => by
    obtain ⟨n, rfl⟩ : ∃ k, n = k + 1 := ⟨n - 1, by omega⟩
    simp [f94c61_l2]
  | x :: r, pre, n, hn, hl, hs => by
    obtain ⟨n, rfl⟩ : ∃ k, n = k + 1 := ⟨n - 1, by omega⟩
    have hlt : decide (((pre.length : Nat) : Int) < ((pre ++ x :: r).length : Nat)) = true := by simp; omega
    have hl' : pre.length ≤ 1000000 := by simp at hl; omega
    have hP : P61 [.pv (hp x), .eptr [.int .i64 b.id, .list 1 (intRows b.things), .int .i64 b.fr, .int .i64 b.to] 0] = some (.bool (clashG x b)) := P61_is (hs x List.mem_cons_self) hb
    have ih := f94c61_loop k0 kr b hb r (pre ++ [x]) n (by simp at hn; omega) (by simpa using hl) fun h hh => hs h (List.mem_cons_of_mem _ hh)
    simp only [f94c61_l2, hlt, cond_true, hget, obind, hv_pext, hP, pbool_b, wrap_step hl', List.any_cons]
    cases clashG x b
    · simpa using ih
    · simp only [Bool.true_or, cond_true, Bool.true_eq_false, false_implies, true_and]
      exact fun _ => ⟨pre.length, rfl⟩
theorem f94c78_loop (k0 : Option PV) (kr : Int → Option PV) (b : HeldV) (hb : Sm1 b) : ∀ (r pre : List HeldV) (n : Nat), r.length < n → (pre ++ r).length ≤ 1000 → (∀ h, h ∈ r → Sm1 h) →
    ((r.any fun x => clashG x b) = false → f94c78_l2 k0 kr n (hrows (pre ++ r)) b.id (intRows b.things) b.fr b.to ((pre ++ r).length : Nat) (pre.length : Nat) = k0) ∧
    ((r.any fun x => clashG x b) = true → ∃ i : Nat, f94c78_l2 k0 kr n (hrows (pre ++ r)) b.id (intRows b.things) b.fr b.to ((pre ++ r).length : Nat) (pre.length : Nat) = kr i)
  | [], pre, n, hn, hl, hs => by
    obtain ⟨n, rfl⟩ : ∃ k, n = k + 1 := ⟨n - 1, by omega⟩
    simp [f94c78_l2]
  | x :: r, pre, n, hn, hl, hs => by
    obtain ⟨n, rfl⟩ : ∃ k, n = k + 1 := ⟨n - 1, by omega⟩
    have hlt : decide (((pre.length : Nat) : Int) < ((pre ++ x :: r).length : Nat)) = true := by simp; omega
    have hl' : pre.length ≤ 1000000 := by simp at hl; omega
    have hP : P78 [.pv (hp x), .eptr [.int .i64 b.id, .list 1 (intRows b.things), .int .i64 b.fr, .int .i64 b.to] 0] = some (.bool (clashG x b)) := P78_is (hs x List.mem_cons_self) hb
    have ih := f94c78_loop k0 kr b hb r (pre ++ [x]) n (by simp at hn; omega) (by simpa using hl) fun h hh => hs h (List.mem_cons_of_mem _ hh)
    simp only [f94c78_l2, hlt, cond_true, hget, obind, hv_pext, hP, pbool_b, wrap_step hl', List.any_cons]
    cases clashG x b
    · simpa using ih
    · simp only [Bool.true_or, cond_true, Bool.true_eq_false, false_implies, true_and]
      exact fun _ => ⟨pre.length, rfl⟩
theorem P60c61_is {l : List HeldV} {b : HeldV} (hl : Sm l) (hb : Sm1 b) : P60c61 [.pv (.list 4 (hrows l)), .clo 61 [.eptr (hv b) 0]] = some (.bool (l.any fun x => clashG x b)) := by
  have := f94c61_loop (some (.int .i64 (-1))) (fun (y1 : Int) => some (.int .i64 y1)) b hb l [] FU (FU_big (by have := hl.1; omega)) (by simpa using hl.1) hl.2
  have e : P94c61 [.pv (.list 4 (hrows l)), .clo 61 [.eptr (hv b) 0]] = f94c61_l2 (some (.int .i64 (-1))) (fun (y1 : Int) => some (.int .i64 y1)) FU (hrows ([] ++ l)) b.id (intRows b.things) b.fr b.to (([] ++ l).length : Nat) (([] : List HeldV).length : Nat) := by
    show f94c61_l2 (some (.int .i64 (-1))) (fun (y1 : Int) => some (.int .i64 y1)) FU (hrows l) b.id (intRows b.things) b.fr b.to ((hrows l).length : Int) 0 = _
    rw [hrows_len]; rfl
  show (P94c61 [.pv (.list 4 (hrows l)), .clo 61 [.eptr (hv b) 0]]).bind _ = _
  rw [e]
  cases ha : l.any fun x => clashG x b
  · rw [this.1 ha]
    rfl
  · obtain ⟨i, hi⟩ := this.2 ha
    rw [hi]
    simp [obind, pb_geq]
theorem P60c78_is {l : List HeldV} {b : HeldV} (hl : Sm l) (hb : Sm1 b) : P60c78 [.pv (.list 4 (hrows l)), .clo 78 [.eptr (hv b) 0]] = some (.bool (l.any fun x => clashG x b)) := by
  have := f94c78_loop (some (.int .i64 (-1))) (fun (y1 : Int) => some (.int .i64 y1)) b hb l [] FU (FU_big (by have := hl.1; omega)) (by simpa using hl.1) hl.2
  have e : P94c78 [.pv (.list 4 (hrows l)), .clo 78 [.eptr (hv b) 0]] = f94c78_l2 (some (.int .i64 (-1))) (fun (y1 : Int) => some (.int .i64 y1)) FU (hrows ([] ++ l)) b.id (intRows b.things) b.fr b.to (([] ++ l).length : Nat) (([] : List HeldV).length : Nat) := by
    show f94c78_l2 (some (.int .i64 (-1))) (fun (y1 : Int) => some (.int .i64 y1)) FU (hrows l) b.id (intRows b.things) b.fr b.to ((hrows l).length : Int) 0 = _
    rw [hrows_len]; rfl
  show (P94c78 [.pv (.list 4 (hrows l)), .clo 78 [.eptr (hv b) 0]]).bind _ = _
  rw [e]
  cases ha : l.any fun x => clashG x b
  · rw [this.1 ha]
    rfl
  · obtain ⟨i, hi⟩ := this.2 ha
    rw [hi]
    simp [obind, pb_geq]
theorem f40_loop (k0 : Option PV) (kr : Bool → Option PV) : ∀ (r pre : List HeldV) (n : Nat), r.length < n → (pre ++ r).length ≤ 1000 → (∀ h, h ∈ pre ++ r → Sm1 h) → (∀ h, h ∈ pre → mayB h = true) →
    f40_l4 k0 kr n (hrows (pre ++ r)) (hrows (pre ++ r)) ((pre ++ r).length : Nat) (pre.length : Nat) = if rightGo pre r = true then k0 else kr false
  | [], pre, n, hn, hl, hs, hm => by
    obtain ⟨n, rfl⟩ : ∃ k, n = k + 1 := ⟨n - 1, by omega⟩
    simp [f40_l4, rightGo]
  | x :: r, pre, n, hn, hl, hs, hm => by
    obtain ⟨n, rfl⟩ : ∃ k, n = k + 1 := ⟨n - 1, by omega⟩
    have hlt : decide (((pre.length : Nat) : Int) < ((pre ++ x :: r).length : Nat)) = true := by simp; omega
    have hl' : pre.length ≤ 1000000 := by simp at hl; omega
    have hx : Sm1 x := hs x (by simp)
    have hpre : Sm pre := ⟨by simp at hl; omega, fun h hh => hs h (List.mem_append_left _ hh)⟩
    have hsl : pslice (hrows (pre ++ x :: r)) 0 (pre.length : Nat) = some (hrows pre) := hslice pre (x :: r)
    have h60 := P60c78_is hpre hx
    simp only [f40_l4, hlt, cond_true, hget, obind, hv_pext, hp_pcells, hv_pputs, P58_is hx, pun_not, pbool_b, rightGo]
    rcases Bool.eq_false_or_eq_true (mayB x) with hmx | hmx
    rotate_left
    · simp [hmx, obind, pbool_b]
    · have hcl : (pre.any fun y => clashG y x) = pre.any fun y => clashB y x := by
        rw [Bool.eq_iff_iff, List.any_eq_true, List.any_eq_true]
        exact ⟨fun ⟨y, h1, h2⟩ => ⟨y, h1, by rw [← clashG_eq (hm y h1) hmx]; exact h2⟩, fun ⟨y, h1, h2⟩ => ⟨y, h1, by rw [clashG_eq (hm y h1) hmx]; exact h2⟩⟩
      rw [hcl] at h60
      have ih := f40_loop k0 kr r (pre ++ [x]) n (by simp at hn; omega) (by simpa using hl) (by simpa using hs) (fun h hh => by
        rcases List.mem_append.1 hh with hh | hh
        · exact hm h hh
        · rw [List.mem_singleton.1 hh]; exact hmx)
      rw [List.append_assoc] at ih
      have ih : f40_l4 k0 kr n (hrows (pre ++ x :: r)) (hrows (pre ++ x :: r)) ((pre ++ x :: r).length : Nat) (((pre.length + 1 : Nat)) : Int) = if rightGo (pre ++ [x]) r = true then k0 else kr false := by simpa using ih
      rcases List.eq_nil_or_concat pre with rfl | ⟨ys, y, rfl⟩
      · have e0 : decide (((([] : List HeldV).length : Nat) : Int) > 0) = false := rfl
        simp only [hmx, Bool.not_true, cond_false, e0, hsl, obind, h60, flat_b, cond_true, pbool_b, wrap_step hl', ih, List.getLast?_nil, Bool.true_and, List.any_nil, Bool.not_false]
      · simp only [List.concat_eq_append] at *
        have e0 : decide ((((ys ++ [y]).length : Nat) : Int) > 0) = true := by rw [decide_eq_true_eq, List.length_append]; simp
        have e1 : IntKind.i64.wrap ((((ys ++ [y]).length : Nat) : Int) - 1) = (ys.length : Nat) := by
          rw [wrap_in] <;> simp at hl ⊢ <;> omega
        have e2 : lget (hrows (ys ++ [y] ++ x :: r)) (ys.length : Nat) = some (hv y) := by
          rw [List.append_assoc]; exact hget ys y _
        simp only [hmx, Bool.not_true, cond_false, e0, cond_true, hv0, obind, e1, e2, pb_leq, pbool_b, hsl, h60, flat_b, wrap_step hl', ih, List.getLast?_append, List.getLast?_singleton, Option.some_or, Bool.true_and]
        by_cases hyx : y.id < x.id
        · have h5 : ¬ x.id ≤ y.id := by omega
          simp only [hyx, h5, decide_true, decide_false, cond_false, obind, pbool_b, Bool.true_and]
          cases ((ys ++ [y]).any fun z => clashB z x) <;> simp
        · have h5 : x.id ≤ y.id := by omega
          simp [hyx, h5, obind, pbool_b]
theorem P40_is {l : List HeldV} (hl : Sm l) : P40 [.list 4 (hrows l)] = some (.bool (rightT l)) := by
  show F40 (hrows l) = _
  unfold F40
  rw [hrows_len]
  by_cases h : l.length ≤ 256
  · have e : decide (((l.length : Nat) : Int) > 256) = false := by rw [decide_eq_false_iff_not]; omega
    rw [e, cond_false]
    have := f40_loop (some (.bool true)) (fun (y1 : Bool) => some (.bool y1)) l [] FU (FU_big (by omega)) (by simpa using hl.1) hl.2 (by simp)
    refine Eq.trans this ?_
    rw [rightGo_nil]
    unfold rightT
    rw [show decide (l.length ≤ 256) = true by simpa using h, Bool.true_and]
    cases l.all mayB && pairB l <;> rfl
  · have e : decide (((l.length : Nat) : Int) > 256) = true := by rw [decide_eq_true_eq]; omega
    have e2 : rightT l = false := by unfold rightT; rw [show decide (l.length ≤ 256) = false by simpa using h]; rfl
    rw [e, e2]; rfl
end Go.Bw.A
