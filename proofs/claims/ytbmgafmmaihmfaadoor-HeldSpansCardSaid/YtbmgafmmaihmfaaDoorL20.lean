/- A region's operations, in the text's order and in any. No statement of a law is proved here. -/
import Derived.Test.YtbmgafmmaihmfaaDoorL19
set_option linter.unusedVariables false
set_option linter.unusedSimpArgs false
namespace Go.Bw
open Go.RowKit M

section
variable {T : Nat → TI} {G : Nat → Option Given} {ops : Array Oper} {S S' S1 S2 : LS} {l : List (Nat × Fp)}
theorem lrun_nil : (lrun T G ops [] S).Is (S', l) ↔ S' = S ∧ l = [] := by
  simp only [lrun, is_pure, Prod.mk.injEq]
  exact ⟨fun h => ⟨h.1.symm, h.2.symm⟩, fun h => ⟨h.1.symm, h.2.symm⟩⟩
theorem lrun_cons {i : Nat} {r : List Nat} : (lrun T G ops (i :: r) S).Is (S', l) ↔ ∃ o S1 f l', ops[i]? = some o ∧ (lstepG T G ops o (S.nx + i) S).Is (S1, f) ∧ (lrun T G ops r S1).Is (S', l') ∧ l = (i, f) :: l' := by
  simp only [lrun]
  cases ho : ops[i]? with
  | none => simp [is_fail]
  | some o =>
    simp only [is_bind, is_pure, Prod.mk.injEq]
    constructor
    · rintro ⟨⟨S1, f⟩, h1, ⟨S2, l'⟩, h2, rfl, rfl⟩
      exact ⟨o, S1, f, l', rfl, h1, h2, rfl⟩
    · rintro ⟨o', S1, f, l', h0, h1, h2, rfl⟩
      injection h0 with h0
      subst h0
      exact ⟨(S1, f), h1, (S', l'), h2, rfl, rfl⟩
theorem lrun_nx : ∀ {r : List Nat} {S : LS} {l : List (Nat × Fp)}, (lrun T G ops r S).Is (S', l) → S'.nx = S.nx ∧ S'.lim = S.lim ∧ l.map (·.1) = r
  | [], S, l, h => by obtain ⟨rfl, rfl⟩ := lrun_nil.1 h; exact ⟨rfl, rfl, rfl⟩
  | i :: r, S, l, h => by
    obtain ⟨o, S1, f, l', h0, h1, h2, rfl⟩ := lrun_cons.1 h
    obtain ⟨e1, e2⟩ := lstepG_nx h1
    obtain ⟨e3, e4, e5⟩ := lrun_nx h2
    exact ⟨e3.trans e1, e4.trans e2, by simp [e5]⟩
/-- What comes later may come first, if the order doesn't matter. -/
theorem bubble {ms : List Nat} {i : Nat} {post : List Nat} : ∀ {pre : List Nat} {S : LS} {l : List (Nat × Fp)}, (lrun T G ops (pre ++ i :: post) S).Is (S', l) → l.Pairwise (fun p q => pairOk ops ms p q = true) → (∀ p, p ∈ pre → (ms.getD i 0).testBit p = false) →
    ∃ f lpre lpost, l = lpre ++ (i, f) :: lpost ∧ (lrun T G ops (i :: (pre ++ post)) S).Is (S', (i, f) :: (lpre ++ lpost))
  | [], S, l, h, hp, hb => by
    obtain ⟨o, S1, f, l', h0, h1, h2, rfl⟩ := lrun_cons.1 h
    exact ⟨f, [], l', rfl, h⟩
  | p :: pre, S, l, h, hp, hb => by
    rw [List.cons_append] at h
    obtain ⟨x, S1, f, l', h0, h1, h2, rfl⟩ := lrun_cons.1 h
    obtain ⟨hp1, hp2⟩ := List.pairwise_cons.1 hp
    obtain ⟨g, lpre, lpost, rfl, k1⟩ := bubble h2 hp2 fun q hq => hb q (List.mem_cons_of_mem _ hq)
    obtain ⟨y, S2, g', l3, e0, e1, e2, e3⟩ := lrun_cons.1 k1
    injection e3 with e3 e4
    injection e3 with _ e3
    subst e3; subst e4
    have hpair := hp1 (i, g) (by simp)
    simp only [pairOk, h0, e0, Bool.or_eq_true, Bool.and_eq_true] at hpair
    rw [hb p List.mem_cons_self] at hpair
    obtain ⟨ha, hf⟩ := hpair.resolve_left (by simp)
    have hnx := lstepG_nx h1
    rw [hnx.1] at e1
    obtain ⟨S1', s1, s2⟩ := swap h1 e1 ha hf
    have hnx' := lstepG_nx s1
    refine ⟨g, (p, f) :: lpre, lpost, rfl, lrun_cons.2 ⟨y, S1', g, _, e0, s1, ?_, rfl⟩⟩
    rw [List.cons_append, List.cons_append]
    exact lrun_cons.2 ⟨x, S2, f, _, h0, by rw [hnx'.1]; exact s2, e2, rfl⟩
end

/-! ### which come ahead -/
theorem masks_append : ∀ (l : List Oper) (acc : List Nat), ∃ r, masks l acc = acc ++ r ∧ r.length = l.length
  | [], acc => ⟨[], by simp [masks], rfl⟩
  | o :: l, acc => by
    obtain ⟨r, h1, h2⟩ := masks_append l (acc ++ [maskOf o acc])
    exact ⟨maskOf o acc :: r, by simp only [masks, h1, List.append_assoc, List.singleton_append], by simp [h2]⟩
theorem masks_get (l : List Oper) : ∀ (acc : List Nat) (j : Nat) (o : Oper), l[j]? = some o → (masks l acc).getD (acc.length + j) 0 = maskOf o ((masks l acc).take (acc.length + j)) := by
  induction l with
  | nil => intro acc j o h; simp at h
  | cons o' l ih =>
    intro acc j o h
    cases j with
    | zero =>
      simp only [List.getElem?_cons_zero, Option.some.injEq] at h
      subst h
      obtain ⟨r, h1, _⟩ := masks_append l (acc ++ [maskOf o' acc])
      simp only [masks, h1, Nat.add_zero, List.append_assoc, List.singleton_append]
      simp [List.getD]
    | succ j =>
      have := ih (acc ++ [maskOf o' acc]) j o (by simpa using h)
      simp only [List.length_append, List.length_singleton] at this
      simp only [masks]
      rw [show acc.length + (j + 1) = acc.length + 1 + j by omega]
      exact this
theorem maskOf_bit {o : Oper} {acc : List Nat} {p : Nat} (h : (maskOf o acc).testBit p = true) : ∃ e, e ∈ o.after.toList ∧ Region.binds .any e = true ∧ (e.on = p ∨ (acc.getD e.on 0).testBit p = true) := by
  unfold maskOf at h
  generalize o.after.toList = es at h ⊢
  induction es with
  | nil => simp at h
  | cons e es ih =>
    simp only [List.foldr_cons] at h
    cases hb : Region.binds .any e with
    | false =>
      simp only [hb, cond_false] at h
      obtain ⟨e', h1, h2⟩ := ih h
      exact ⟨e', List.mem_cons_of_mem _ h1, h2⟩
    | true =>
      simp only [hb, cond_true] at h
      have h' : (es.foldr (fun e m => bif Region.binds .any e then Nat.lor m (Nat.lor (Nat.shiftLeft 1 e.on) (acc.getD e.on 0)) else m) 0 ||| (1 <<< e.on ||| acc.getD e.on 0)).testBit p = true := h
      rw [Nat.testBit_or, Nat.testBit_or, Bool.or_eq_true, Bool.or_eq_true] at h'
      rcases h' with h' | h' | h'
      · obtain ⟨e', h1, h2⟩ := ih h'
        exact ⟨e', List.mem_cons_of_mem _ h1, h2⟩
      · refine ⟨e, List.mem_cons_self, hb, .inl ?_⟩
        rw [Nat.testBit_shiftLeft] at h'
        simp only [Bool.and_eq_true, decide_eq_true_eq] at h'
        obtain ⟨h1, h2⟩ := h'
        rw [Nat.testBit_one_eq_true_iff_self_eq_zero] at h2
        omega
      · exact ⟨e, List.mem_cons_self, hb, .inr h'⟩
/-- Listed ones have their edges listed. -/
def Closed (ops : Array Oper) (listed : Array Bool) : Prop := ∀ j o e, listed.getD j false = true → ops[j]? = some o → e ∈ o.after.toList → Region.binds .any e = true → listed.getD e.on false = true
theorem mask_listed {ops : Array Oper} {listed : Array Bool} (hc : Closed ops listed) (hs : listed.size = ops.size) : ∀ (k j p : Nat) (o : Oper), j ≤ k → ops[j]? = some o → (∀ e, e ∈ o.after.toList → Region.binds .any e = true → listed.getD e.on false = true) →
    ((masks ops.toList []).getD j 0).testBit p = true → listed.getD p false = true := by
  intro k
  induction k with
  | zero =>
    intro j p o hj ho hl hb
    have := masks_get ops.toList [] j o (by simpa using ho)
    simp only [List.length_nil, Nat.zero_add] at this
    rw [this] at hb
    obtain ⟨e, h1, h2, h3⟩ := maskOf_bit hb
    have hz : j = 0 := by omega
    subst hz
    rcases h3 with h3 | h3
    · rw [← h3]; exact hl e h1 h2
    · simp at h3
  | succ k ih =>
    intro j p o hj ho hl hb
    have := masks_get ops.toList [] j o (by simpa using ho)
    simp only [List.length_nil, Nat.zero_add] at this
    rw [this] at hb
    obtain ⟨e, h1, h2, h3⟩ := maskOf_bit hb
    rcases h3 with h3 | h3
    · rw [← h3]; exact hl e h1 h2
    · have hle := hl e h1 h2
      by_cases hlt : e.on < j
      · have hsz : e.on < ops.size := by
          have : j < ops.size := (Array.getElem?_eq_some_iff.1 ho).1
          omega
        have hget : ((masks ops.toList []).take j).getD e.on 0 = (masks ops.toList []).getD e.on 0 := by
          simp only [List.getD, List.getElem?_take]
          rw [if_pos hlt]
        rw [hget] at h3
        exact ih e.on p ops[e.on] (by omega) (Array.getElem?_eq_getElem hsz) (fun e' g1 g2 => hc e.on _ e' hle (Array.getElem?_eq_getElem hsz) g1 g2) h3
      · have : ((masks ops.toList []).take j).getD e.on 0 = 0 := by
          simp only [List.getD, List.getElem?_take]
          rw [if_neg hlt]; rfl
        rw [this] at h3
        simp at h3
theorem edgesOk_get (l : List Oper) : ∀ {k j : Nat} {o : Oper} {e : Edge}, edgesOk l k = true → l[j]? = some o → e ∈ o.after.toList → Region.binds .any e = true → e.on < k + j := by
  induction l with
  | nil => intro k j o e h ho; simp at ho
  | cons o' l ih =>
    intro k j o e h ho he hb
    simp only [edgesOk, Bool.and_eq_true, List.all_eq_true] at h
    cases j with
    | zero =>
      simp only [List.getElem?_cons_zero, Option.some.injEq] at ho
      subst ho
      have := h.1 e he
      simp only [hb, Bool.not_true, Bool.false_or] at this
      have : e.on + 1 ≤ k := Nat.le_of_ble_eq_true this
      omega
    | succ j =>
      have := ih h.2 (j := j) (by simpa using ho) he hb
      omega
theorem raceOk_pair {ops : Array Oper} {ms : List Nat} : ∀ {l : List (Nat × Fp)}, raceOk ops ms l = true → l.Pairwise (fun p q => pairOk ops ms p q = true)
  | [], _ => List.Pairwise.nil
  | p :: l, h => by
    simp only [raceOk, Bool.and_eq_true, List.all_eq_true] at h
    exact List.pairwise_cons.2 ⟨fun q hq => h.1 q hq, raceOk_pair h.2⟩
end Go.Bw
