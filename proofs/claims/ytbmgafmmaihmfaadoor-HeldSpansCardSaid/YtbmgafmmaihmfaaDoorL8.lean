/- The evaluator's single operations against the machine's: rows and structs out of parts. No statement of a law is proved here. -/
import Derived.Test.YtbmgafmmaihmfaaDoorL7
set_option linter.unusedVariables false
set_option linter.unusedSimpArgs false
namespace Go.Bw
open Go.RowKit M

theorem splice_splice {α : Type} (cs ys zs : List α) (off : Nat) (h : off + ys.length + zs.length ≤ cs.length) : splice (splice cs off ys) (off + ys.length) zs = splice cs off (ys ++ zs) := by
  apply List.ext_getElem?
  intro i
  have l1 := splice_length cs ys off (by omega)
  rw [splice_get _ _ _ _ (by omega), splice_get _ _ _ _ (by omega), splice_get _ _ _ _ (by simp; omega), List.getElem?_append]
  simp only [List.length_append]
  by_cases h1 : i < off
  · rw [if_pos (by omega), if_pos h1, if_pos h1]
  · by_cases h2 : i < off + ys.length
    · rw [if_pos h2, if_neg h1, if_pos h2, if_neg h1, if_pos (by omega), if_pos (by omega)]
    · by_cases h3 : i < off + ys.length + zs.length
      · rw [if_neg h2, if_pos h3, if_neg h1, if_pos (by omega), if_neg (by omega)]
        congr 1; omega
      · rw [if_neg h2, if_neg h3, if_neg h1, if_neg h2, if_neg h1, if_neg (by omega)]
theorem splice_nil {α : Type} (cs : List α) (off : Nat) : splice cs off [] = cs := by simp [splice]
theorem splice_all {α : Type} (cs ys : List α) (h : ys.length = cs.length) : splice cs 0 ys = ys := by simp [splice, h]

section
variable {base : Nat} {okx : Nat → Nat → Prop} {w0 : World} {P : Program} {T : Nat → TI} {o : Oper} {a : Act} {ρ : Rho} {H : Heap} {w : World} {nid lim : Nat}
/-- Elements' cells, one behind the other. -/
theorem elems_rel {e : Nat} {ev : Operand → LV} (hev : ∀ x, LR w (okF base okx H ρ) ρ H (a.eval x) (ev x)) (hsz : (T e).agg = false → (T e).size = 1) :
    ∀ {parts : List (Nat × Operand)} {cs : List Cells}, (elemsOf T e ev parts).Is cs → ∀ (k : Nat), parts.map (·.1) = (List.range' k parts.length) →
      ∃ vss : List (List Value), vss.length = parts.length ∧ cs.length = parts.length ∧ (∀ vs, vs ∈ vss → vs.length = (T e).size) ∧
        (∀ (i : Nat) (vs : List Value) (c : Cells), vss[i]? = some vs → cs[i]? = some c → CellsR w (okF base okx H ρ) ρ H vs c) ∧
        ∀ cells : List Value, k * (T e).size + parts.length * (T e).size ≤ cells.length →
          Instr.fill (fun i => some (i * (T e).size, (T e).size)) cells.toArray (parts.map fun p => (p.1, a.eval p.2)) = some (splice cells (k * (T e).size) vss.flatten).toArray
  | [], cs, h, k, hk => by
    simp only [elemsOf, is_pure] at h
    subst h
    exact ⟨[], rfl, rfl, by simp, by simp, fun cells _ => by simp [Instr.fill, splice_nil]⟩
  | (i, x) :: parts, cs, h, k, hk => by
    simp only [elemsOf, is_bind, is_pure] at h
    obtain ⟨c, h1, cs', h2, rfl⟩ := h
    simp only [List.map_cons, List.length_cons, List.range'_succ, List.cons.injEq] at hk
    obtain ⟨rfl, hk⟩ := hk
    obtain ⟨vs, hv, hc, hl⟩ := cellsOf_rel h1 (hev x)
    have hl' : vs.length = (T e).size := by
      cases ha : (T e).agg with
      | true => simpa [ha] using hl
      | false => rw [hsz ha]; simpa [ha] using hl
    obtain ⟨vss, g1, g2, g3, g4, g5⟩ := elems_rel hev hsz h2 (i + 1) hk
    have hfl : vss.flatten.length = parts.length * (T e).size := by
      have : ∀ (l : List (List Value)), (∀ vs, vs ∈ l → vs.length = (T e).size) → l.flatten.length = l.length * (T e).size := by
        intro l hl
        induction l with
        | nil => simp
        | cons q l ih =>
          simp only [List.flatten_cons, List.length_append, List.length_cons]
          rw [hl q List.mem_cons_self, ih (fun vs hvs => hl vs (List.mem_cons_of_mem _ hvs)), Nat.add_mul]
          omega
      rw [this vss g3, g1]
    refine ⟨vs :: vss, by simp [g1], by simp [g2], fun q hq => ?_, fun j q c' e1 e2 => ?_, fun cells hle => ?_⟩
    · rcases List.mem_cons.1 hq with rfl | hq
      · exact hl'
      · exact g3 q hq
    · cases j with
      | zero => simp at e1 e2; subst e1; subst e2; exact hc
      | succ j => exact g4 j q c' (by simpa using e1) (by simpa using e2)
    · simp only [List.length_cons, Nat.add_mul, Nat.one_mul] at hle
      simp only [List.map_cons, List.flatten_cons]
      rw [fill_cons _ rfl hv hl' (by omega)]
      rw [g5 (splice cells (i * (T e).size) vs) (by rw [splice_length _ _ _ (by omega)]; simp only [Nat.add_mul, Nat.one_mul]; omega)]
      congr 2
      have : (i + 1) * (T e).size = i * (T e).size + vs.length := by rw [Nat.add_mul, Nat.one_mul, hl']
      rw [this, splice_splice _ _ _ _ (by omega)]
theorem flatten_get {α : Type} {sz : Nat} : ∀ {vss : List (List α)}, (∀ vs, vs ∈ vss → vs.length = sz) → ∀ {i j : Nat} {vs : List α}, vss[i]? = some vs → j < sz → vss.flatten[i * sz + j]? = vs[j]?
  | [], _, i, j, vs, h, _ => by simp at h
  | q :: vss, hl, i, j, vs, h, hj => by
    have hq := hl q List.mem_cons_self
    rw [List.flatten_cons, List.getElem?_append, hq]
    cases i with
    | zero =>
      simp at h; subst h
      rw [if_pos (by omega)]; simp
    | succ i =>
      rw [if_neg (by rw [Nat.add_mul]; omega), show (i + 1) * sz + j - sz = i * sz + j by rw [Nat.add_mul]; omega]
      exact flatten_get (fun vs hvs => hl vs (List.mem_cons_of_mem _ hvs)) (by simpa using h) hj
theorem pureRows_some : ∀ {cs : List Cells} {xs : List (List PV)}, pureRows cs = some xs → cs = xs.map Cells.pure
  | [], xs, h => by simp [pureRows] at h; subst h; rfl
  | .pure c :: cs, xs, h => by
    simp only [pureRows, Option.map_eq_some_iff] at h
    obtain ⟨ys, h1, rfl⟩ := h
    rw [pureRows_some h1]; rfl
  | .mix c :: cs, xs, h => by simp [pureRows] at h
theorem rows_of_cells {sz : Nat} {vss : List (List Value)} {xs : List (List PV)} {ok : Nat → Nat → Prop} (hl : vss.length = xs.length) (h1 : ∀ vs, vs ∈ vss → vs.length = sz)
    (h2 : ∀ (i : Nat) (vs : List Value) (c : List PV), vss[i]? = some vs → xs[i]? = some c → vs.length = c.length ∧ (∀ p, p ∈ c → p.scal = true) ∧ ∀ (j : Nat) (v : Value) (p : PV), vs[j]? = some v → c[j]? = some p → PR w ok v p) : RowsR w ok sz vss.flatten xs := by
  refine ⟨fun c hc => ?_, fun c hc => ?_, fun i c j p e1 e2 => ?_⟩
  · obtain ⟨i, hi⟩ := List.mem_iff_getElem?.1 hc
    have hlt : i < vss.length := by rw [hl]; exact (List.getElem?_eq_some_iff.1 hi).1
    rw [← (h2 i vss[i] c (List.getElem?_eq_getElem hlt) hi).1]
    exact h1 _ (List.getElem_mem hlt)
  · obtain ⟨i, hi⟩ := List.mem_iff_getElem?.1 hc
    have hlt : i < vss.length := by rw [hl]; exact (List.getElem?_eq_some_iff.1 hi).1
    exact (h2 i vss[i] c (List.getElem?_eq_getElem hlt) hi).2.1
  · have hlt : i < vss.length := by rw [hl]; exact (List.getElem?_eq_some_iff.1 e1).1
    obtain ⟨g1, _, g3⟩ := h2 i vss[i] c (List.getElem?_eq_getElem hlt) e1
    have hj : j < vss[i].length := by rw [g1]; exact (List.getElem?_eq_some_iff.1 e2).1
    have hsz := h1 _ (List.getElem_mem hlt)
    exact ⟨vss[i][j], by rw [flatten_get h1 (List.getElem?_eq_getElem hlt) (by omega)]; exact List.getElem?_eq_getElem hj, g3 j _ p (List.getElem?_eq_getElem hj) e2⟩
theorem flatten_len {sz : Nat} {vss : List (List Value)} (h : ∀ vs, vs ∈ vss → vs.length = sz) : vss.flatten.length = vss.length * sz := by
  induction vss with
  | nil => simp
  | cons q l ih =>
    simp only [List.flatten_cons, List.length_append, List.length_cons]
    rw [h q List.mem_cons_self, ih (fun vs hvs => h vs (List.mem_cons_of_mem _ hvs)), Nat.add_mul]
    omega
/-- Rows that lead to what is told by value now. -/
theorem rowsL_rel : ∀ {cs : List Cells} {xs : List (List PV)} {H : Heap}, WR base okx w0 w ρ H → (rowsL H cs).Is xs → ∀ {vss : List (List Value)}, vss.length = cs.length →
    (∀ (i : Nat) (vs : List Value) (c : Cells), vss[i]? = some vs → cs[i]? = some c → CellsR w (okF base okx H ρ) ρ H vs c) →
    Evo (okF base okx H ρ) ρ H w (okF base okx (rowsSnap H cs) ρ) ρ (rowsSnap H cs) w ∧ WR base okx w0 w ρ (rowsSnap H cs) ∧ xs.length = cs.length ∧
      ∀ (i : Nat) (vs : List Value) (c : List PV), vss[i]? = some vs → xs[i]? = some c → vs.length = c.length ∧ (∀ p, p ∈ c → p.scal = true) ∧ ∀ (j : Nat) (v : Value) (p : PV), vs[j]? = some v → c[j]? = some p → PR w (okF base okx (rowsSnap H cs) ρ) v p
  | [], xs, H, hw, h, vss, hl, hh => by
    simp only [rowsL, is_pure] at h
    subst h
    exact ⟨Evo.refl _ _ _ _, hw, rfl, by simp⟩
  | .pure c :: cs, xs, H, hw, h, vss, hl, hh => by
    simp only [rowsL, is_bind, is_pure] at h
    obtain ⟨rs, h1, rfl⟩ := h
    cases vss with
    | nil => simp at hl
    | cons q vss =>
      obtain ⟨e1, w1, l1, p1⟩ := rowsL_rel hw h1 (vss := vss) (by simpa using hl) (fun i vs c' g1 g2 => hh (i + 1) vs c' (by simpa using g1) (by simpa using g2))
      have hc := (hh 0 q (.pure c) rfl rfl).evo e1
      refine ⟨e1, w1, by simp [l1], fun i vs c' g1 g2 => ?_⟩
      cases i with
      | zero => simp at g1 g2; subst g1; subst g2; exact ⟨hc.1, hc.2.1, hc.2.2⟩
      | succ i => exact p1 i vs c' (by simpa using g1) (by simpa using g2)
  | .mix ls :: cs, xs, H, hw, h, vss, hl, hh => by
    simp only [rowsL, is_bind, is_pure] at h
    obtain ⟨ps, h0, rs, h1, rfl⟩ := h
    cases vss with
    | nil => simp at hl
    | cons q vss =>
      have hc0 := hh 0 q (.mix ls) rfl rfl
      obtain ⟨e0, w0', l0, p0⟩ := purifyL_rel hw h0 hc0.1 hc0.2.2
      have hinv : ∀ (cs : List Cells) (ls : List LV) (H : Heap), rowsL (snapL H ls) cs = rowsL H cs := by
        intro cs ls
        have inner : ∀ (ls : List LV) (H : Heap) (ms : List LV), purifyL (snapL H ls) ms = purifyL H ms := by
          intro ls
          induction ls with
          | nil => intro H ms; rfl
          | cons l ls ih => intro H ms; rw [snapL_cons, ih, purifyL_snap]
        intro H
        induction cs with
        | nil => rfl
        | cons c cs ih => cases c <;> simp only [rowsL, ih, inner]
      rw [← hinv cs ls H] at h1
      obtain ⟨e1, w1, l1, p1⟩ := rowsL_rel w0' h1 (vss := vss) (by simpa using hl) (fun i vs c' g1 g2 => (hh (i + 1) vs c' (by simpa using g1) (by simpa using g2)).evo e0)
      refine ⟨e0.trans e1, w1, by simp [l1], fun i vs c' g1 g2 => ?_⟩
      cases i with
      | zero =>
        simp at g1 g2; subst g1; subst g2
        refine ⟨l0.symm, fun p hp => ?_, fun j v p e1' e2' => (p0 j v p e1' e2').evo e1⟩
        obtain ⟨j, hj⟩ := List.mem_iff_getElem?.1 hp
        have hlt : j < ps.length := (List.getElem?_eq_some_iff.1 hj).1
        have hls : j < ls.length := by rw [← hc0.1, ← l0]; exact hlt
        -- what is told of a place of one cell is of one cell
        have key : ∀ {ls : List LV} {ps : List PV} {H : Heap}, (purifyL H ls).Is ps → (∀ c, c ∈ ls → c.scal = true) → ∀ p, p ∈ ps → p.scal = true := by
          intro ls
          induction ls with
          | nil => intro ps H h _ p hp; simp only [purifyL, is_pure] at h; subst h; simp at hp
          | cons l ls ih =>
            intro ps H h hs p hp
            simp only [purifyL, is_bind, is_pure] at h
            obtain ⟨p0, g1, ps0, g2, rfl⟩ := h
            rcases List.mem_cons.1 hp with rfl | hp
            · have hsl := hs l List.mem_cons_self
              cases l with
              | pv r => simp only [purify, is_pure] at g1; subst g1; exact hsl
              | osl id len =>
                simp only [purify] at g1
                cases hh : H id with
                | none => simp [hh, is_fail] at g1
                | some ob =>
                  cases ob with
                  | box => simp [hh, is_fail] at g1
                  | sl e sz xs s =>
                    simp only [hh, is_ite, is_pure, is_fail, and_false, or_false] at g1
                    rw [← g1.2]; rfl
              | _ => simp [purify, is_fail] at g1
            · exact ih g2 (fun c hc => hs c (List.mem_cons_of_mem _ hc)) p hp
        exact key h0 hc0.2.1 p hp
      | succ i => exact p1 i vs c' (by simpa using g1) (by simpa using g2)
end
end Go.Bw
