/- Go's slices.Sort and slices.Compact of whole numbers: what they do to a row. No statement of a law is proved here. -/
import Derived.Test.YtbmgafmmaihmfaaDoorH2
import Derived.Shelf.SlicesG.CompactI
import Derived.Shelf.SortM.Plain
import Derived.Shelf.SortM.SortNone
set_option linter.unusedVariables false
set_option linter.unusedSimpArgs false
set_option maxRecDepth 100000
namespace Go.Bw
open Go.Proofs Go.Shelf Go.RowKit M

theorem rowInts_some : ∀ {xs : List (List PV)} {l : List Int}, rowInts xs = some l → xs = intRows l
  | [], l, h => by simp only [rowInts, Option.some.injEq] at h; subst h; rfl
  | r :: xs, l, h => by
    unfold rowInts at h
    split at h
    · rename_i hr; cases hr
    · rename_i n r' hr
      injection hr with e1 e2
      subst e1; subst e2
      rw [Option.map_eq_some_iff] at h
      obtain ⟨l', h1, rfl⟩ := h
      rw [rowInts_some h1]
      rfl
    · cases h
theorem rowInts_intRows (l : List Int) : rowInts (intRows l) = some l := by
  induction l with
  | nil => rfl
  | cons n r ih =>
    show (rowInts (intRows r)).map (n :: ·) = _
    rw [ih]; rfl
theorem intRows_len (l : List Int) : (intRows l).length = l.length := by simp [intRows]
theorem intRows_get {l : List Int} {i : Nat} {cs : List PV} (h : (intRows l)[i]? = some cs) : ∃ n, l[i]? = some n ∧ cs = [.int .i64 n] := by
  unfold intRows at h
  rw [List.getElem?_map, Option.map_eq_some_iff] at h
  obtain ⟨n, h1, rfl⟩ := h
  exact ⟨n, h1, rfl⟩
theorem rowsR_ints {w : World} {ok : Nat → Nat → Prop} {l : List Int} : RowsR w ok 1 (l.map (Value.int .i64)) (intRows l) := by
  refine ⟨fun cs hc => ?_, fun cs hc c hcc => ?_, fun i cs j c h1 h2 => ?_⟩
  · obtain ⟨i, hi⟩ := List.mem_iff_getElem?.1 hc
    obtain ⟨n, _, rfl⟩ := intRows_get hi
    rfl
  · obtain ⟨i, hi⟩ := List.mem_iff_getElem?.1 hc
    obtain ⟨n, _, rfl⟩ := intRows_get hi
    rw [List.mem_singleton.1 hcc]; rfl
  · obtain ⟨n, h3, rfl⟩ := intRows_get h1
    cases j with
    | succ j => simp at h2
    | zero =>
      simp at h2
      subst h2
      exact ⟨.int .i64 n, by simp [h3], .int _ _⟩
theorem rowsR_cells {w : World} {ok : Nat → Nat → Prop} {sz : Nat} {us : List Value} {l : List Int} (h : RowsR w ok sz us (intRows l)) (hl : us.length = l.length * sz) (hne : l ≠ []) : sz = 1 ∧ us = l.map (Value.int .i64) := by
  have hs : sz = 1 := by
    cases l with
    | nil => exact absurd rfl hne
    | cons n r => exact (h.1 [.int .i64 n] List.mem_cons_self).symm
  subst hs
  refine ⟨rfl, List.ext_getElem? fun i => ?_⟩
  by_cases hi : i < l.length
  · obtain ⟨v, h1, h2⟩ := h.2.2 i [.int .i64 l[i]] 0 (.int .i64 l[i]) (by simp [intRows, hi]) rfl
    have := h2.intI
    subst this
    rw [Nat.mul_one, Nat.add_zero] at h1
    rw [h1]
    simp [hi]
  · rw [List.getElem?_eq_none (by omega), List.getElem?_eq_none (by simpa using hi)]
section
variable {P : Program} {ρ : Ren}
theorem putRow_heap {w : World} {g : Nat} {cur : Array Value} {e : TypeId} {fz : Nat × Nat} (h : w.heap[g]? = some (.cells cur e fz)) (l : List Int) : (Sort.putRow (Value.int .i64) w g 0 l.toArray).heap[g]? = some (.cells (Sort.putCells (Value.int .i64) 0 l.toArray cur) e fz) := by
  unfold Sort.putRow Sort.mapBlock
  simp only [Array.getElem?_modify, if_true]
  rw [h]
  rfl
theorem putRow_heap_other (w : World) (g k : Nat) (l : List Int) (h : k ≠ g) : (Sort.putRow (Value.int .i64) w g 0 l.toArray).heap[k]? = w.heap[k]? := by
  unfold Sort.putRow Sort.mapBlock
  simp only [Array.getElem?_modify]
  rw [if_neg fun e => h e.symm]
theorem grow_heap (w : World) (os : Array Obj) (k : Nat) (h : k < w.heap.size) : (Sort.grow w os).heap[k]? = w.heap[k]? := by
  unfold Sort.grow
  simp only
  rw [Array.getElem?_append_left h]
theorem putCells_size (l : List Int) (c : Array Value) : (Sort.putCells (Value.int .i64) 0 l.toArray c).size = c.size := by simp [Sort.putCells]
theorem putCells_take (l : List Int) (c : Array Value) (h : l.length ≤ c.size) : (Sort.putCells (Value.int .i64) 0 l.toArray c).toList.take l.length = l.map (Value.int .i64) := by
  apply List.ext_getElem?
  intro i
  rw [List.getElem?_take]
  by_cases hi : i < l.length
  · rw [if_pos hi]
    simp only [Sort.putCells, Array.getElem?_toList, Array.getElem?_mapIdx]
    rw [Array.getElem?_eq_getElem (by omega)]
    simp [hi, getElem!_pos]
  · rw [if_neg hi, List.getElem?_eq_none (by simpa using hi)]
/-- The row, sorted. -/
theorem sort_given (L : SlLaysM.n5 P ρ) (hc : CallOk P (ρ.f 5)) : GivenOk P (ρ.f 5) (.gcall ksort) := by
  refine ⟨hc, fun base okx w0 w ρ' H nid lim ls s lv H' vs hk hx hw hfree ha => ?_⟩
  unfold ksort at hk
  split at hk
  case h_2 => exact (is_fail.1 hk).elim
  case h_1 id n =>
  have hk := is_pure.1 hk
  subst hk
  obtain ⟨ob, ob', hid, hs, rfl⟩ := exec_mod hx
  clear hx
  split at hs
  case h_2 => exact (is_fail.1 hs).elim
  case h_1 e sz xs =>
  simp only [is_ite, is_fail, and_false, or_false, is_bind, is_lift, is_pure, beq_iff_eq, Prod.mk.injEq] at hs
  obtain ⟨hn, zs, hz, rfl, rfl⟩ := hs
  unfold lsort at hz
  rw [Option.bind_eq_some_iff] at hz
  obtain ⟨l, hl, hz⟩ := hz
  split at hz
  case isFalse => cases hz
  case isTrue hlim =>
  injection hz with hz
  have hxs := rowInts_some hl
  subst hxs
  rw [intRows_len] at hn
  obtain ⟨v, rfl⟩ := List.length_eq_one_iff.1 (show vs.length = 1 from ha.1)
  have hv := ha.2 0 v _ rfl rfl
  obtain ⟨r, hr, hsl, _⟩ := hv.oslI
  have hvr := (hsl _ _ _ _ hid).2 (by rw [intRows_len]; exact hn.symm)
  subst hvr
  obtain ⟨r', hr', us, hown, hrows⟩ := hw.obj id _ hid
  rw [hr] at hr'
  injection hr' with hr'
  subst hr'
  rw [intRows_len] at hown
  by_cases hne : l = []
  · subst hne
    have e0 : zs = [] := by rw [← hz, List.mergeSort_nil]; rfl
    subst e0
    obtain ⟨A, c, rfl, _⟩ := ownsRow_slice hown
    refine (AnyM.slices_Sort_int_none L A c w).mono ?_
    rintro e' w' ⟨rfl, rfl⟩
    have hself : hset H id (.sl e sz [] false) = H := by
      funext j
      by_cases hj : j = id
      · subst hj; rw [hset_same, hid]; rfl
      · rw [hset_other _ _ _ hj]
    rw [hself]
    exact ⟨_, rfl, ρ', Evo.refl _ _ _ _, hw, .any _, fun _ _ h => h⟩
  · obtain ⟨rfl, hus⟩ := rowsR_cells hrows hown.1 hne
    have hlen : 0 < l.length := List.length_pos_iff.2 hne
    rcases hown.2 with ⟨_, h0⟩ | ⟨g, cap, cur, rfl, hg, hh, hnc, hcm, hcs, htake⟩
    · omega
    · have hgl : g < w.heap.size := (Array.getElem?_eq_some_iff.1 hh).1
      have hcell : ∀ j, j < l.length → w.cell? ⟨g, j, none⟩ = some (.int .i64 l[j]!) := by
        intro j hj
        refine ownsRow_cell hown rfl ?_
        rw [hus]
        simp [hj, getElem!_pos]
      have hH : Sort.Holds (Value.int .i64) w g 0 l.toArray := by
        intro j hj
        rw [Nat.zero_add]
        refine ⟨?_, ?_⟩
        · rw [hcell j (by simpa using hj)]; simp
        · simp [World.frozen?, hh]
      refine (AnyM.slices_Sort_int L g 0 cap l w hH hgl (by have : l.length ≤ 549755813888 := hlim; omega)).mono ?_
      rintro e' w' ⟨rfl, q, os, rfl⟩
      have hsl : (l.mergeSort fun x y => decide (x ≤ y)).length = l.length := List.length_mergeSort _
      generalize l.mergeSort (fun x y => decide (x ≤ y)) = m at hz hsl
      have hzl : zs.length = l.length := by rw [← hz, intRows_len, hsl]
      have h1 : ∀ k, k < w.heap.size → (Sort.grow (Sort.putRow (Value.int .i64) (Sort.ahead w q) g 0 m.toArray) os).heap[k]? = (Sort.putRow (Value.int .i64) (Sort.ahead w q) g 0 m.toArray).heap[k]? := fun k hk => grow_heap _ _ _ (by simpa using hk)
      have hkeep : ∀ k, k < w.heap.size → some k ≠ blk (.slice (some ⟨g, 0, none⟩) l.length cap) → (Sort.grow (Sort.putRow (Value.int .i64) (Sort.ahead w q) g 0 m.toArray) os).heap[k]? = w.heap[k]? := by
        intro k hk hkg
        rw [h1 k hk, putRow_heap_other _ _ _ _ (fun e => hkg (by rw [e]; rfl))]
        rfl
      have hblk : (Sort.grow (Sort.putRow (Value.int .i64) (Sort.ahead w q) g 0 m.toArray) os).heap[g]? = some (.cells (Sort.putCells (Value.int .i64) 0 m.toArray cur) e (0, 0)) := by
        rw [h1 g hgl]
        exact putRow_heap (w := Sort.ahead w q) hh m
      have hsize : w.heap.size ≤ (Sort.grow (Sort.putRow (Value.int .i64) (Sort.ahead w q) g 0 m.toArray) os).heap.size := by
        unfold Sort.grow
        simp only [Array.size_append]
        have : (Sort.putRow (Value.int .i64) (Sort.ahead w q) g 0 m.toArray).heap.size = w.heap.size := by simp [Sort.ahead]
        omega
      have hbelow : Below base w0 (Sort.grow (Sort.putRow (Value.int .i64) (Sort.ahead w q) g 0 m.toArray) os) :=
        below_grown (row := some g) hw.below hw.size ⟨rfl, rfl, rfl, hsize, fun k hk hkg => hkeep k hk (by simpa [blk] using hkg)⟩ fun k hk => by injection hk with hk; rw [← hk]; exact hg
      have hown' : (Sort.grow (Sort.putRow (Value.int .i64) (Sort.ahead w q) g 0 m.toArray) os).ownsRow base e 1 (.slice (some ⟨g, 0, none⟩) l.length cap) zs.length (m.map (Value.int .i64)) := by
        refine ⟨by simp [hsl, hzl], .inr ⟨g, cap, _, by rw [hzl], hg, hblk, by rw [hzl]; exact hnc, hcm, by rw [putCells_size]; exact hcs, ?_⟩⟩
        rw [hzl, Nat.mul_one, ← hsl]
        exact putCells_take m cur (by rw [hsl]; omega)
      have he := evo_upd (o' := .sl e 1 zs false) (r' := .slice (some ⟨g, 0, none⟩) l.length cap) hw hid hr hkeep (fun b off u hb _ hno => absurd ⟨hb, fun h => by cases h⟩ hno) (.inl rfl) ⟨rfl, rfl, by rw [hzl, intRows_len]; exact Nat.le_refl _, fun _ => rfl⟩
      have hwr := wr_upd hw hid hr hkeep (.inl rfl) he hbelow hsize ⟨_, hown', by rw [← hz]; exact rowsR_ints⟩
      have hrs : rset ρ' id (.slice (some ⟨g, 0, none⟩) l.length cap) = ρ' := rset_self hr
      rw [hrs] at he hwr
      exact ⟨_, rfl, ρ', he, hwr, .any _, fun _ _ h => h⟩
/-- The row, one of each that stand side by side. -/
theorem compact_given (L : SlLaysN.n43 P ρ) (hc : CallOk P (ρ.f 43)) : GivenOk P (ρ.f 43) (.gcall kcompact) := by
  refine ⟨hc, fun base okx w0 w ρ' H nid lim ls s lv H' vs hk hx hw hfree ha => ?_⟩
  unfold kcompact at hk
  split at hk
  case h_2 => exact (is_fail.1 hk).elim
  case h_1 id n =>
  have hk := is_pure.1 hk
  subst hk
  obtain ⟨ob, hid, hs, rfl⟩ := exec_take hx
  clear hx
  split at hs
  case h_2 => exact (is_fail.1 hs).elim
  case h_1 e sz xs =>
  simp only [is_ite, is_fail, and_false, or_false, is_bind, is_lift, is_pure, beq_iff_eq] at hs
  obtain ⟨hn, zs, hz, rfl⟩ := hs
  unfold lcompact at hz
  rw [Option.bind_eq_some_iff] at hz
  obtain ⟨l, hl, hz⟩ := hz
  split at hz
  case isFalse => cases hz
  case isTrue hlim =>
  injection hz with hz
  have hxs := rowInts_some hl
  subst hxs
  rw [intRows_len] at hn
  obtain ⟨v, rfl⟩ := List.length_eq_one_iff.1 (show vs.length = 1 from ha.1)
  have hv := ha.2 0 v _ rfl rfl
  obtain ⟨r, hr, hsl, _⟩ := hv.oslI
  have hvr := (hsl _ _ _ _ hid).2 (by rw [intRows_len]; exact hn.symm)
  subst hvr
  obtain ⟨r', hr', us, hown, hrows⟩ := hw.obj id _ hid
  rw [hr] at hr'
  injection hr' with hr'
  subst hr'
  rw [intRows_len] at hown
  by_cases hne : l = []
  · subst hne
    have e0 : zs = [] := by rw [← hz]; rfl
    subst e0
    obtain ⟨A, c, rfl, _⟩ := ownsRow_slice hown
    refine (AnyG.slices_Compact_int_empty L A c w).mono ?_
    rintro e' w1 ⟨rfl, hw1⟩
    rw [hw1]
    obtain ⟨h1, h2, _⟩ := del_wr (w' := w) (v' := .slice A 0 c) hw hr hid ⟨rfl, rfl, rfl, Nat.le_refl _, fun _ _ _ => rfl⟩ fun b hb => .inl hb
    exact ⟨_, rfl, ρ', h1, h2, .pv _ _ (.nil _ _ _), fun _ _ h => h⟩
  · obtain ⟨rfl, hus⟩ := rowsR_cells hrows hown.1 hne
    have hlen : 0 < l.length := List.length_pos_iff.2 hne
    rcases hown.2 with ⟨_, h0⟩ | ⟨g, cap, cur, rfl, hg, hh, hnc, hcm, hcs, htake⟩
    · omega
    · have hgl : g < w.heap.size := (Array.getElem?_eq_some_iff.1 hh).1
      have hH : Sort.Holds (Value.int .i64) w g 0 l.toArray := by
        intro j hj
        have hj : j < l.length := by simpa using hj
        rw [Nat.zero_add]
        refine ⟨?_, ?_⟩
        · rw [ownsRow_cell hown (b := g) (j := j) (u := .int .i64 l[j]) rfl (by rw [hus]; simp [hj])]; simp [hj, getElem!_pos]
        · simp [World.frozen?, hh]
      have hcl : (Lib.compact l).length ≤ l.length := by
        unfold Lib.compact Lib.compactUpTo
        rw [List.length_map]
        exact Nat.le_trans (List.length_filter_le _ _) (by simp)
      refine (AnyG.slices_Compact_int L g 0 cap l w hH (by have : l.length ≤ 549755813888 := hlim; omega) hnc).mono ?_
      rintro e' w' ⟨rfl, q, rfl⟩
      generalize Lib.compact l = m at hz hcl
      generalize hk : m ++ List.replicate (l.length - m.length) 0 = k
      have hkl : k.length = l.length := by rw [← hk]; simp; omega
      have hzl : zs.length = m.length := by rw [← hz, intRows_len]
      have hkeep : ∀ j, j < w.heap.size → some j ≠ Value.ownBlock (.slice (some ⟨g, 0, none⟩) l.length cap) → (Sort.putRow (Value.int .i64) (Sort.ahead w q) g 0 k.toArray).heap[j]? = w.heap[j]? := by
        intro j hj hjg
        rw [putRow_heap_other _ _ _ _ (fun e => hjg (by rw [e]; rfl))]
        rfl
      have hsize : (Sort.putRow (Value.int .i64) (Sort.ahead w q) g 0 k.toArray).heap.size = w.heap.size := by simp [Sort.ahead]
      obtain ⟨h1, h2, h3⟩ := del_wr (w' := Sort.putRow (Value.int .i64) (Sort.ahead w q) g 0 k.toArray) (v' := .slice (some ⟨g, 0, none⟩) m.length cap) hw hr hid ⟨rfl, rfl, rfl, Nat.le_of_eq hsize.symm, hkeep⟩ fun b hb => .inl hb
      have hown' : (Sort.putRow (Value.int .i64) (Sort.ahead w q) g 0 k.toArray).ownsRow base e 1 (.slice (some ⟨g, 0, none⟩) m.length cap) zs.length (m.map (Value.int .i64)) := by
        refine ⟨by simp [hzl], .inr ⟨g, cap, _, by rw [hzl], hg, putRow_heap (w := Sort.ahead w q) hh k, by omega, hcm, by rw [putCells_size]; exact hcs, ?_⟩⟩
        rw [hzl, Nat.mul_one]
        have := putCells_take k cur (by rw [hkl]; omega)
        rw [hkl] at this
        have h4 := congrArg (List.take m.length) this
        rw [List.take_take, Nat.min_eq_left hcl, ← List.map_take] at h4
        rw [h4, ← hk, List.take_left']
        rfl
      have hp := row_pr hown' (by rw [← hz]; exact rowsR_ints) h3
      have hp : PR (Sort.putRow (Value.int .i64) (Sort.ahead w q) g 0 k.toArray) (okF base okx (hdel H id) ρ') (.slice (some ⟨g, 0, none⟩) m.length cap) (.list 1 zs) := hp
      exact ⟨_, rfl, ρ', h1, h2, .pv _ _ hp, fun _ _ h => h⟩
end
end Go.Bw
namespace Go.Bw.A
open Go.Proofs Go.Bw Go.Shelf Go.RowKit
def ren_sort : Ren := ⟨fun | 5 => 68 | 8 => 100 | 7 => 99 | 19 => 128 | 20 => 129 | 10 => 119 | 11 => 120 | 12 => 121 | 13 => 122 | 14 => 123 | 15 => 124 | 16 => 125 | 17 => 126 | 18 => 127 | 30 => 142 | 31 => 143 | 32 => 144 | 33 => 145 | 34 => 146 | 35 => 147 | 40 => 152 | n => n, fun | 23 => 41 | 25 => 2 | 3 => 3 | 32 => 119 | 22 => 41 | 0 => 0 | 44 => 49 | 46 => 92 | 4 => 4 | 36 => 135 | 35 => 134 | 41 => 83 | 5 => 5 | 9 => 9 | 53 => 153 | 57 => 157 | 63 => 164 | 64 => 165 | n => n, fun | n => n⟩
theorem lays_sort : SlLaysM.n5 Tryd.prog ren_sort := {
  mixed := mixed,
  f5 := ⟨Tryd.f68.name, by decide, by kernel_rfl⟩,
  f7 := ⟨Tryd.f99.name, by decide, by kernel_rfl⟩,
  f8 := by kernel_rfl,
  f10 := ⟨Tryd.f119.name, by decide, by kernel_rfl⟩,
  f11 := ⟨Tryd.f120.name, by decide, by kernel_rfl⟩,
  f12 := ⟨Tryd.f121.name, by decide, by kernel_rfl⟩,
  f13 := ⟨Tryd.f122.name, by decide, by kernel_rfl⟩,
  f14 := ⟨Tryd.f123.name, by decide, by kernel_rfl⟩,
  f15 := ⟨Tryd.f124.name, by decide, by kernel_rfl⟩,
  f16 := ⟨Tryd.f125.name, by decide, by kernel_rfl⟩,
  f17 := ⟨Tryd.f126.name, by decide, by kernel_rfl⟩,
  f18 := ⟨Tryd.f127.name, by decide, by kernel_rfl⟩,
  f19 := by kernel_rfl,
  f20 := by kernel_rfl,
  f30 := ⟨Tryd.f142.name, by decide, by kernel_rfl⟩,
  f31 := by kernel_rfl,
  f32 := by kernel_rfl,
  f33 := ⟨Tryd.f145.name, by decide, by kernel_rfl⟩,
  f34 := ⟨Tryd.f146.name, by decide, by kernel_rfl⟩,
  f35 := ⟨Tryd.f147.name, by decide, by kernel_rfl⟩,
  f40 := ⟨Tryd.f152.name, by decide, by kernel_rfl⟩,
  t0 := by kernel_rfl,
  a0 := fun _ => by kernel_rfl,
  z0 := fun _ => by kernel_rfl,
  v0 := fun _ => by kernel_rfl,
  t3 := by kernel_rfl,
  a3 := fun _ => by kernel_rfl,
  z3 := fun _ => by kernel_rfl,
  v3 := fun _ => by kernel_rfl,
  t4 := by kernel_rfl,
  a4 := fun _ => by kernel_rfl,
  z4 := fun _ => by kernel_rfl,
  v4 := fun _ => by kernel_rfl,
  t5 := by kernel_rfl,
  a5 := fun _ => by kernel_rfl,
  z5 := fun _ => by kernel_rfl,
  v5 := fun _ => by kernel_rfl,
  t9 := by kernel_rfl,
  a9 := fun _ => by kernel_rfl,
  z9 := fun _ => by kernel_rfl,
  v9 := fun _ => by kernel_rfl,
  t22 := by kernel_rfl,
  a22 := fun _ => by kernel_rfl,
  z22 := fun _ => by kernel_rfl,
  v22 := fun _ => by kernel_rfl,
  t23 := by kernel_rfl,
  a23 := fun _ => by kernel_rfl,
  z23 := fun _ => by kernel_rfl,
  v23 := fun _ => by kernel_rfl,
  t25 := by kernel_rfl,
  a25 := fun _ => by kernel_rfl,
  z25 := fun _ => by kernel_rfl,
  v25 := fun _ => by kernel_rfl,
  t32 := by kernel_rfl,
  a32 := fun _ => by kernel_rfl,
  z32 := fun _ => by kernel_rfl,
  v32 := fun _ => by kernel_rfl,
  t35 := by kernel_rfl,
  a35 := fun _ => by kernel_rfl,
  z35 := fun _ => by kernel_rfl,
  v35 := fun _ => by kernel_rfl,
  t36 := by kernel_rfl,
  a36 := fun _ => by kernel_rfl,
  z36 := fun _ => by kernel_rfl,
  v36 := fun _ => by kernel_rfl,
  t41 := by kernel_rfl,
  a41 := fun _ => by kernel_rfl,
  z41 := fun _ => by kernel_rfl,
  v41 := fun _ => by kernel_rfl,
  t44 := by kernel_rfl,
  a44 := fun _ => by kernel_rfl,
  z44 := fun _ => by kernel_rfl,
  v44 := fun _ => by kernel_rfl,
  t46 := by kernel_rfl,
  a46 := fun _ => by kernel_rfl,
  z46 := fun _ => by kernel_rfl,
  v46 := fun _ => by kernel_rfl,
  t53 := by kernel_rfl,
  a53 := fun _ => by kernel_rfl,
  z53 := fun _ => by kernel_rfl,
  v53 := fun _ => by kernel_rfl,
  t57 := by kernel_rfl,
  a57 := fun _ => by kernel_rfl,
  z57 := fun _ => by kernel_rfl,
  v57 := fun _ => by kernel_rfl,
  t63 := by kernel_rfl,
  a63 := fun _ => by kernel_rfl,
  z63 := fun _ => by kernel_rfl,
  v63 := fun _ => by kernel_rfl,
  t64 := by kernel_rfl,
  a64 := fun _ => by kernel_rfl,
  z64 := fun _ => by kernel_rfl,
  v64 := fun _ => by kernel_rfl }

def ren_compact : Ren := ⟨fun | 43 => 69 | n => n, fun | 22 => 41 | 23 => 2 | 3 => 3 | 4 => 4 | 0 => 0 | n => n, fun | n => n⟩
theorem lays_compact : SlLaysN.n43 Tryd.prog ren_compact := {
  mixed := mixed,
  f43 := ⟨Tryd.f69.name, by decide, by kernel_rfl⟩,
  t0 := by kernel_rfl,
  a0 := fun _ => by kernel_rfl,
  z0 := fun _ => by kernel_rfl,
  v0 := fun _ => by kernel_rfl,
  t3 := by kernel_rfl,
  a3 := fun _ => by kernel_rfl,
  z3 := fun _ => by kernel_rfl,
  v3 := fun _ => by kernel_rfl,
  t4 := by kernel_rfl,
  a4 := fun _ => by kernel_rfl,
  z4 := fun _ => by kernel_rfl,
  v4 := fun _ => by kernel_rfl,
  t22 := by kernel_rfl,
  a22 := fun _ => by kernel_rfl,
  z22 := fun _ => by kernel_rfl,
  v22 := fun _ => by kernel_rfl,
  t23 := by kernel_rfl,
  a23 := fun _ => by kernel_rfl,
  z23 := fun _ => by kernel_rfl,
  v23 := fun _ => by kernel_rfl,
  i23 := by kernel_rfl }

noncomputable def P68 : List LV → M LSem := ksort
theorem f68_ok : GivenOk Tryd.prog 68 (.gcall P68) := sort_given lays_sort (callOk_of Tryd.func68 rfl (by kernel_rfl))
noncomputable def P69 : List LV → M LSem := kcompact
theorem f69_ok : GivenOk Tryd.prog 69 (.gcall P69) := compact_given lays_compact (callOk_of Tryd.func69 rfl (by kernel_rfl))
end Go.Bw.A
