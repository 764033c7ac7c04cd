/- The evaluator's single operations against the machine's: structs built. No statement of a law is proved here. -/
import Derived.Test.YtbmgafmmaihmfaaDoorL9
set_option linter.unusedVariables false
set_option linter.unusedSimpArgs false
namespace Go.Bw
open Go.RowKit M

theorem mapM_run {α β : Type} {P : Program} {w : World} {f : α → Sem β} {g : α → β} : ∀ {l : List α}, (∀ x, x ∈ l → (f x).run P w = .ok (g x) w) → (l.mapM f).run P w = .ok (l.map g) w
  | [], _ => rfl
  | x :: l, h => by
    rw [List.mapM_cons]
    simp only [Sem.run_bind, h x List.mem_cons_self, Result.andThen_ok, mapM_run (fun y hy => h y (List.mem_cons_of_mem _ hy)), Sem.run_pure, List.map_cons]
theorem amapM_run {α β : Type} {P : Program} {w : World} {f : α → Sem β} {g : α → β} {l : Array α} (h : ∀ x, x ∈ l.toList → (f x).run P w = .ok (g x) w) : (l.mapM f).run P w = .ok (l.map g) w := by
  rw [Array.mapM_eq_mapM_toList]
  simp only [Sem.run_map, mapM_run h, Result.andThen_ok]
  congr 1
  apply Array.ext'
  simp
section
variable {base : Nat} {okx : Nat → Nat → Prop} {w0 : World} {P : Program} {T : Nat → TI} {o : Oper} {a : Act} {ρ : Rho} {H : Heap} {w : World} {nid lim : Nat} {ok : Nat → Nat → Prop}
theorem build_fill {t : Nat} {ev : Operand → LV} (hT : TOk P T) (hev : ∀ x, LR w ok ρ H (a.eval x) (ev x)) {place : Nat → Option (Nat × Nat)} (hpl : ∀ i off ft, partAt T t i = some (off, ft) → place i = some (off, (T ft).size) ∧ ((T ft).agg = false → (T ft).size = 1)) :
    ∀ {parts : List (Nat × Operand)} {ps : List (Nat × Nat × LV)} {cs : List (Bool × Nat × Cells)} {c c' : Cells} {vs : List Value}, buildParts T t ev parts = some ps → (partsOf T ps).Is cs → (fillC c cs).Is c' → CellsR w ok ρ H vs c →
      ∃ vs' : List Value, Instr.fill place vs.toArray (parts.map fun p => (p.1, a.eval p.2)) = some vs'.toArray ∧ CellsR w ok ρ H vs' c' ∧ c'.len = c.len
  | [], ps, cs, c, c', vs, h1, h2, h3, h4 => by
    have hps : ps = [] := by
      unfold buildParts at h1
      split at h1
      · rename_i fs _
        cases hb : fs.all (fun f => nz T f.1) <;> rw [hb] at h1
        · cases h1
        · injection h1 with h1; exact h1.symm
      · rename_i n e _
        cases hb : nz T e <;> rw [hb] at h1
        · cases h1
        · injection h1 with h1; exact h1.symm
      · cases h1
    subst hps
    simp only [partsOf, is_pure] at h2
    subst h2
    simp only [fillC, is_pure] at h3
    subst h3
    exact ⟨vs, rfl, h4, rfl⟩
  | (i, x) :: parts, ps, cs, c, c', vs, h1, h2, h3, h4 => by
    unfold buildParts at h1
    cases hp : partAt T t i with
    | none => rw [hp] at h1; cases h1
    | some q =>
      obtain ⟨off, ft⟩ := q
      rw [hp] at h1
      simp only [Option.map_eq_some_iff] at h1
      obtain ⟨ps', h1, rfl⟩ := h1
      simp only [partsOf, is_bind, is_pure] at h2
      obtain ⟨d, hd, cs', h2, rfl⟩ := h2
      simp only [fillC, is_bind] at h3
      obtain ⟨c2, hc2, h3⟩ := h3
      obtain ⟨hpl1, hone⟩ := hpl i off ft hp
      obtain ⟨ds, e1, e2, e3⟩ := cellsOf_rel hd (hev x)
      have hl : ds.length = (T ft).size := by
        cases ha : (T ft).agg with
        | true => simpa [ha] using e3
        | false => rw [hone ha]; simpa [ha] using e3
      obtain ⟨hle, hcr, hln⟩ := storeTo_rel hc2 h4 e2
      obtain ⟨vs', g1, g2, g3⟩ := build_fill hT hev hpl h1 h2 h3 hcr
      refine ⟨vs', ?_, g2, g3.trans hln⟩
      simp only [List.map_cons]
      rw [fill_cons _ hpl1 e1 hl (by omega)]
      exact g1
theorem val_rel {c : Cells} {vs : List Value} (h : CellsR w ok ρ H vs c) : LR w ok ρ H (.agg vs.toArray) c.val := by
  cases c with
  | pure cs => exact .pv _ _ (.agg vs cs h.1 h.2.1 h.2.2)
  | mix cs => exact .agg vs cs h.1 h.2.1 h.2.2
theorem nz_of {t : Nat} (hT : TOk P T) (h : (T t).u ≠ .other) : ∃ i d z, TFact P t (T t) i d z := by
  rcases hT t with hd | hf
  · rw [hd] at h; exact absurd rfl h
  · exact hf
theorem build_does {G : Nat → Option Given} {t : Nat} {parts : Array (Nat × Operand)} (ho : o.op = .build t parts) (hT : TOk P T) (hw : WR base okx w0 w ρ H) {ev : Operand → LV} (hev : ∀ x, LR w (okF base okx H ρ) ρ H (a.eval x) (ev x))
    {s : LSem} (hs : (lop T G o ev nid).Is s) {v : LV} {H' : Heap} (hx : (exec s nid lim H).Is (v, H')) : Does base okx w0 P o a ρ H w nid v H' := by
  unfold lop at hs
  simp only [ho] at hs
  cases hn : nz T t with
  | false => simp [hn, is_fail] at hs
  | true =>
    obtain ⟨i, d, z, hf⟩ := nz_fact hT hn
    simp only [hn, Bool.not_true, cond_false] at hs
    cases hb : buildParts T t ev parts.toList with
    | none => simp [hb, is_fail] at hs
    | some ps =>
      simp only [hb, is_bind, is_pure] at hs
      obtain ⟨cs, h1, c, h2, rfl⟩ := hs
      simp only [exec, is_pure] at hx
      injection hx with e1 e2
      subst e1; subst e2
      have hz := zero_rel (w := w) (ρ := ρ) (H := H) hf (okF base okx H ρ)
      have one : ∀ {ft : Nat}, nz T ft = true → ((T ft).agg = false → (T ft).size = 1) := fun h ha => by
        obtain ⟨_, _, _, hf'⟩ := nz_fact hT h
        exact hf'.one ha
      -- the type is a struct's or an array's
      cases hu : (T t).u with
      | struct fs =>
        have hall : fs.all (fun f => nz T f.1) = true := by
          cases hb' : fs.all (fun f => nz T f.1) with
          | true => rfl
          | false =>
            cases hp : parts.toList with
            | nil => simp [buildParts, hp, hu, hb'] at hb
            | cons q r => simp [buildParts, hp, partAt, hu, hb'] at hb
        have htur := hf.tur
        rw [hu] at htur
        cases d <;> simp only [turB, Bool.false_eq_true, beq_iff_eq] at htur
        rename_i fields
        have hsz : ∀ f, f ∈ fields.toList → (sizeOf f.type).run P w = .ok ((T f.type).size) w := by
          intro f hfm
          have : (f.type, f.offset) ∈ fs := by rw [← htur]; exact List.mem_map.2 ⟨f, hfm, rfl⟩
          obtain ⟨i', _, _, hf'⟩ := nz_fact hT (List.all_eq_true.1 hall _ this)
          rw [run_sizeOf hf'.info, hf'.size]
        have hplaces := amapM_run (P := P) (w := w) (l := fields) (f := fun f => do pure (f.offset, ← sizeOf f.type)) (g := fun f => (f.offset, (T f.type).size)) (fun f hfm => by
          simp only [Sem.run_bind, hsz f hfm, Result.andThen_ok, Sem.run_pure])
        obtain ⟨vs', g1, g2, g3⟩ := build_fill (place := fun i => (fields.map fun f => (f.offset, (T f.type).size))[i]?) hT hev (fun i off ft hp => by
          unfold partAt at hp
          simp only [hu, hall, cond_true] at hp
          cases hfi : fs[i]? with
          | none => rw [hfi] at hp; cases hp
          | some q =>
            rw [hfi] at hp
            simp only [Option.some.injEq, Prod.mk.injEq] at hp
            obtain ⟨rfl, rfl⟩ := hp
            refine ⟨?_, one (List.all_eq_true.1 hall _ (List.mem_of_getElem? hfi))⟩
            rw [← htur, List.getElem?_map] at hfi
            cases hq : fields.toList[i]? with
            | none => rw [hq] at hfi; cases hfi
            | some f =>
              rw [hq] at hfi
              injection hfi with hfi
              rw [Array.getElem?_map, ← Array.getElem?_toList, hq]
              simp [← hfi]) hb h1 h2 hz
        refine does_val hw (val := .agg vs'.toArray) ?_ (val_rel g2)
        unfold execOp
        simp only [ho, Sem.run_bind, Instr.build, run_zeroValue hf, Result.andThen_ok, run_underlying hf.und, hplaces, Sem.run_pure]
        rw [Array.toArray_toList] at g1
        have : (parts.map fun p => (p.1, a.eval p.2)).toList = parts.toList.map fun p => (p.1, a.eval p.2) := by simp
        rw [this, g1]
        simp only [Sem.run_pure, Result.andThen_ok]
      | arr n e =>
        have hne : nz T e = true := by
          cases hb' : nz T e with
          | true => rfl
          | false =>
            cases hp : parts.toList with
            | nil => simp [buildParts, hp, hu, hb'] at hb
            | cons q r => simp [buildParts, hp, partAt, hu, hb'] at hb
        obtain ⟨ei, ed, ez, hfe⟩ := nz_fact hT hne
        have htur := hf.tur
        rw [hu] at htur
        cases d <;> simp only [turB, Bool.false_eq_true, Bool.and_eq_true, beq_iff_eq] at htur
        obtain ⟨rfl, rfl⟩ := htur
        rename_i len elem
        obtain ⟨vs', g1, g2, g3⟩ := build_fill (place := fun i => some (i * (T elem).size, (T elem).size)) hT hev (fun i off ft hp => by
          unfold partAt at hp
          simp only [hu, hne, cond_true] at hp
          split at hp
          · simp only [Option.some.injEq, Prod.mk.injEq] at hp
            obtain ⟨rfl, rfl⟩ := hp
            exact ⟨rfl, one hne⟩
          · cases hp) hb h1 h2 hz
        refine does_val hw (val := .agg vs'.toArray) ?_ (val_rel g2)
        unfold execOp
        simp only [ho, Sem.run_bind, Instr.build, run_zeroValue hf, Result.andThen_ok, run_underlying hf.und, run_sizeOf hfe.info, hfe.size, Sem.run_pure]
        rw [Array.toArray_toList] at g1
        have : (parts.map fun p => (p.1, a.eval p.2)).toList = parts.toList.map fun p => (p.1, a.eval p.2) := by simp
        rw [this, g1]
        simp only [Sem.run_pure, Result.andThen_ok]
      | _ =>
        cases hp : parts.toList with
        | nil => simp [buildParts, hp, hu] at hb
        | cons q r => simp [buildParts, hp, partAt, hu] at hb
end
end Go.Bw
