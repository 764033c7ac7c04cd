/- Go's slices.Insert: what it answers, by value. No statement of a law is proved here. -/
import Derived.Test.YtbmgafmmaihmfaaDoorH3
import Derived.Laws.CopyRow
import Derived.Lib.Overlaps
import Derived.Lib.AppendZerosOnto
import Derived.Shelf.Spec.SlicesInsert
set_option linter.unusedVariables false
set_option linter.unusedSimpArgs false
namespace Go.Bw
open Go.Proofs Go.Shelf Go.RowKit M
section
variable {P : Program}
theorem alloc_last (w : World) (o : Obj) : (w.alloc o).heap[w.heap.size]? = some o := by
  show (w.heap.push o)[w.heap.size]? = some o
  simp
theorem alloc_old (w : World) (o : Obj) (k : Nat) (h : k < w.heap.size) : (w.alloc o).heap[k]? = w.heap[k]? := by
  show (w.heap.push o)[k]? = _
  rw [Array.getElem?_push_lt h]
  simp [h]
/-- A copy of rows of any number of cells: all is read before anything is written. -/
theorem copy_rows (w : World) (dT sT ty elem : TypeId) (g o dLen dCap : Nat) (a : Addr) (sLen sCap : Nat) (cur : Array Value) (t : TypeId) (cs : List Value) (K : Nat)
    (hu : P.underlying dT = some (.slice elem)) (hs : (P.info? elem).map (·.size) = some K)
    (hg : w.heap[g]? = some (.cells cur t (0, 0))) (hn : cs.length = Nat.min sLen dLen * K)
    (hsrc : ∀ j v, cs[j]? = some v → w.cell? (a.add j) = some v) (hfit : o + cs.length ≤ cur.size) (h1 : ∀ v ∈ cs, v.oneCell' = true) :
    (Builtin.copy_ #[dT, sT] ty #[.slice (some ⟨g, o, none⟩) dLen dCap, .slice (some a) sLen sCap]).run P w =
      .ok (goInt (Nat.min sLen dLen)) (w.setRow g (cur.toList.take o ++ cs ++ cur.toList.drop (o + cs.length)).toArray) := by
  have hl := run_loadCells_list (P := P) w a cs hsrc
  have hst := run_storeCells_at P g o t cs 0 cur w hg (by simpa using hfit) h1
  cases hq : P.info? elem with
  | none => simp [hq] at hs
  | some i =>
    have hi : i.size = K := by simpa [hq] using hs
    simp [Builtin.copy_, run_underlying hu, Builtin.lenOf, Builtin.firstCells, sizeOf, typeInfo, hq, hi, ← hn, hl, hst]
theorem rows_take {w : World} {ok : Nat → Nat → Prop} {sz : Nat} {us : List Value} {xs : List (List PV)} (h : RowsR w ok sz us xs) (k : Nat) : RowsR w ok sz (us.take (k * sz)) (xs.take k) := by
  refine ⟨fun cs hm => h.1 cs (List.mem_of_mem_take hm), fun cs hm => h.2.1 cs (List.mem_of_mem_take hm), fun i cs j c h1 h2 => ?_⟩
  rw [List.getElem?_take] at h1
  split at h1
  · rename_i hi
    obtain ⟨v, h3, h4⟩ := h.2.2 i cs j c h1 h2
    refine ⟨v, ?_, h4⟩
    have hj : j < sz := by rw [← h.1 cs (List.mem_of_getElem? h1)]; exact (List.getElem?_eq_some_iff.1 h2).1
    have := Nat.mul_le_mul_right sz (show i + 1 ≤ k by omega)
    rw [Nat.add_mul] at this
    rw [List.getElem?_take, if_pos (by omega)]
    exact h3
  · cases h1
theorem rows_drop {w : World} {ok : Nat → Nat → Prop} {sz : Nat} {us : List Value} {xs : List (List PV)} (h : RowsR w ok sz us xs) (k : Nat) : RowsR w ok sz (us.drop (k * sz)) (xs.drop k) := by
  refine ⟨fun cs hm => h.1 cs (List.mem_of_mem_drop hm), fun cs hm => h.2.1 cs (List.mem_of_mem_drop hm), fun i cs j c h1 h2 => ?_⟩
  rw [List.getElem?_drop] at h1
  obtain ⟨v, h3, h4⟩ := h.2.2 _ cs j c h1 h2
  refine ⟨v, ?_, h4⟩
  rw [List.getElem?_drop, show k * sz + (i * sz + j) = (k + i) * sz + j by rw [Nat.add_mul]; omega]
  exact h3
theorem rows_one {w : World} {ok : Nat → Nat → Prop} {sz : Nat} {us : List Value} {xs : List (List PV)} (h : RowsR w ok sz us xs) (hl : us.length = xs.length * sz) : ∀ u, u ∈ us → u.oneCell' = true := by
  intro u hu
  obtain ⟨q, hq, rfl⟩ := List.getElem_of_mem hu
  have hsz : 0 < sz := by
    rcases Nat.eq_zero_or_pos sz with h0 | h0
    · rw [h0, Nat.mul_zero] at hl; omega
    · exact h0
  have hi : q / sz < xs.length := by rw [Nat.div_lt_iff_lt_mul hsz]; omega
  have hj : q % sz < (xs[q / sz]).length := by rw [h.1 _ (List.getElem_mem hi)]; exact Nat.mod_lt _ hsz
  obtain ⟨v, h3, h4⟩ := h.2.2 (q / sz) _ (q % sz) _ (List.getElem?_eq_getElem hi) (List.getElem?_eq_getElem hj)
  rw [Nat.div_add_mod' q sz, List.getElem?_eq_getElem hq] at h3
  injection h3 with h3
  rw [h3]
  exact h4.one (h.2.1 _ (List.getElem_mem hi) _ (List.getElem_mem hj))
end
end Go.Bw
namespace Go.Bw.A
open Go.Proofs Go.Bw Go.Shelf Go.RowKit
theorem under22 : Tryd.prog.underlying 22 = some (.slice 25) := by kernel_rfl
theorem size25 : (Tryd.prog.info? 25).map (·.size) = some 4 := by kernel_rfl
theorem heldSize (w : World) : (Go.sizeOf 25).run Tryd.prog w = .ok 4 w := by kernel_rfl
set_option maxHeartbeats 4000000 in
set_option maxRecDepth 100000 in
/-- There is room, and something stands behind: in place. -/
theorem insert_shift (g n c i g2 m c2 : Nat) (cur : Array Value) (us news : List Value) (w : World) (hi : i < n) (hm : 0 < m) (hroom : n + m ≤ c) (hc : c ≤ 9223372036854775807) (hne : g2 ≠ g) (e2 k2 : Nat)
    (hg : w.heap[g]? = some (.cells cur 25 (0, 0))) (hcs : cur.size = c * 4) (hus : us.length = n * 4) (htake : cur.toList.take (n * 4) = us) (hnews : news.length = m * 4)
    (hsrc : ∀ j v, news[j]? = some v → w.cell? ⟨g2, j, none⟩ = some v) (hsh : w.shape? g2 = some (e2, k2)) (hf1 : w.frozen? ⟨g2, 0, none⟩ = false) (hf2 : w.frozen? ⟨g2, k2, none⟩ = false)
    (h1 : ∀ u, u ∈ us → u.oneCell' = true) (h2 : ∀ u, u ∈ news → u.oneCell' = true) :
    Calls Tryd.prog 63 #[.slice (some ⟨g, 0, none⟩) n c, .int .i64 i, .slice (some ⟨g2, 0, none⟩) m c2] w fun e w' =>
      e = .returned (.slice (some ⟨g, 0, none⟩) (n + m) c) ∧ w' = ((w.drew.setRow g (cur.toList.take ((i + m) * 4) ++ us.drop (i * 4) ++ cur.toList.drop ((i + m) * 4 + (us.drop (i * 4)).length)).toArray).setRow g
        ((cur.toList.take ((i + m) * 4) ++ us.drop (i * 4) ++ cur.toList.drop ((i + m) * 4 + (us.drop (i * 4)).length)).take (i * 4) ++ news ++ (cur.toList.take ((i + m) * 4) ++ us.drop (i * 4) ++ cur.toList.drop ((i + m) * 4 + (us.drop (i * 4)).length)).drop (i * 4 + news.length)).toArray) := by
  have mixed : Tryd.prog.follows .mixedOrders = true := mixed
  have hz1 : ¬ ((m : Int) = 0) := by omega
  have hz2 : ¬ ((i : Int) = (n : Int)) := by omega
  have hsg : w.shape? g = some (25, cur.size) := by simp [World.shape?, hg]
  have hov : ∀ lb cb, (callFunc 95 #[.slice (some ⟨g2, 0, none⟩) m c2, .slice (some ⟨g, (i + m) * 4, none⟩) lb cb]).run Tryd.prog w = .ok (.value (.bool false)) w := fun lb cb => by
    rw [run_callFunc_extern Tryd.func95 (by kernel_rfl) (by kernel_rfl) (by kernel_rfl) (e := Extern.SlicesOverlaps.overlaps #[22, 22] #[4]) (by kernel_rfl),
      Lib.run_overlaps_apart w 22 4 25 under22 4 heldSize ⟨g2, 0, none⟩ ⟨g, (i + m) * 4, none⟩ m c2 lb cb hne e2 25 k2 cur.size hsh hsg (by omega) hf1 hf2]
    rfl
  have hw1 : IntKind.i64.wrap ((i : Int) + (m : Int)) = (i : Int) + (m : Int) := by rw [IntKind.wrap_i64]; omega
  have hw2 : IntKind.i64.wrap ((n : Int) + (m : Int)) = (n : Int) + (m : Int) := by rw [IntKind.wrap_i64]; omega
  have hb1 : (0 : Int) ≤ (i : Int) + (m : Int) := by omega
  have hin : i ≤ n := by omega
  have htn : ((i : Int) + (m : Int)).toNat = i + m := by omega
  have htn2 : ((n : Int) + (m : Int)).toNat = n + m := by omega
  have hb2 : ¬ (c = i + m) := by omega
  have hb3 : (i : Int) ≤ (n : Int) + (m : Int) := by omega
  have hb4 : ¬ (c = i) := by omega
  have hb5 : ¬ ((c : Int) < (n : Int) + (m : Int)) := by omega
  have hdl : (us.drop (i * 4)).length = (n - i) * 4 := by rw [List.length_drop, hus]; omega
  have hcell : ∀ j v, us[j]? = some v → w.cell? ⟨g, j, none⟩ = some v := fun j v hj => by
    rw [← htake, List.getElem?_take] at hj
    split at hj
    · rw [cell_of_row _ _ j cur 25 (0, 0) hg]; simpa using hj
    · cases hj
  have hcp1 : ∀ ty dc sc, (Builtin.copy_ #[22, 22] ty #[.slice (some ⟨g, (i + m) * 4, none⟩) (n + m - (i + m)) dc, .slice (some ⟨g, i * 4, none⟩) (n + m - i) sc]).run Tryd.prog w.drew = .ok (goInt ((n - i : Nat) : Int)) (w.drew.setRow g (cur.toList.take ((i + m) * 4) ++ us.drop (i * 4) ++ cur.toList.drop ((i + m) * 4 + (us.drop (i * 4)).length)).toArray) := fun ty dc sc => by
    have := copy_rows (P := Tryd.prog) w.drew 22 22 ty 25 g ((i + m) * 4) (n + m - (i + m)) dc ⟨g, i * 4, none⟩ (n + m - i) sc cur 25 (us.drop (i * 4)) 4 under22 size25 hg (by rw [hdl]; congr 1; simp only [Nat.min_def]; split <;> omega)
      (fun j v hj => by rw [Addr.add_lit]; exact hcell _ v (by rwa [List.getElem?_drop] at hj)) (by rw [hdl]; omega) (fun v hv => h1 v (List.mem_of_mem_drop hv))
    rw [show Nat.min (n + m - i) (n + m - (i + m)) = n - i by simp only [Nat.min_def]; split <;> omega] at this
    exact this
  obtain ⟨CUR, hCUR⟩ : ∃ CUR, CUR = cur.toList.take ((i + m) * 4) ++ us.drop (i * 4) ++ cur.toList.drop ((i + m) * 4 + (us.drop (i * 4)).length) := ⟨_, rfl⟩
  have hCl : CUR.length = c * 4 := by
    rw [hCUR]
    simp only [List.length_append, List.length_take, List.length_drop, Array.length_toList, hcs, hus]
    omega
  rw [← hCUR] at hcp1 ⊢
  have hset : (w.drew.setRow g CUR.toArray).heap[g]? = some (.cells CUR.toArray 25 (0, 0)) := setRow_heap _ _ _ _ _ _ hg
  have hcp2 : ∀ (W : World), (∀ x, W.cell? x = (w.drew.setRow g CUR.toArray).cell? x) → W.heap[g]? = some (.cells CUR.toArray 25 (0, 0)) → ∀ ty dc, (Builtin.copy_ #[22, 22] ty #[.slice (some ⟨g, i * 4, none⟩) (n + m - i) dc, .slice (some ⟨g2, 0, none⟩) m c2]).run Tryd.prog W = .ok (goInt m) (W.setRow g (CUR.take (i * 4) ++ news ++ CUR.drop (i * 4 + news.length)).toArray) := fun W hWc hWh ty dc => by
    have := copy_rows (P := Tryd.prog) W 22 22 ty 25 g (i * 4) (n + m - i) dc ⟨g2, 0, none⟩ m c2 CUR.toArray 25 news 4 under22 size25 hWh (by rw [hnews]; congr 1; simp only [Nat.min_def]; split <;> omega)
      (fun j v hj => by
        rw [Addr.add_lit, Nat.zero_add, hWc, cell_setRow_other _ _ _ _ hne]
        exact hsrc j v hj) (by rw [hnews]; simp only [List.size_toArray, hCl]; omega) h2
    rw [show Nat.min m (n + m - i) = m by simp only [Nat.min_def]; split <;> omega] at this
    exact this
  clear hCUR
  go_enter Tryd.func63, Tryd.ntmps63
  go_wp2_with (simp only [hov])
  go_region_law_o (refine step_copy_runI rfl _ _ 22 22 rfl _ _ (by simp [Act.eval, Act.put]) (by simp [Act.eval, Act.put]) (hcp1 _ _ _) ?_)
  go_wp2_with (at_builtin; refine wpList_copy_runI _ rfl _ _ 22 22 rfl _ _ rfl rfl (hcp2 _ (fun _ => rfl) hset _ _) ?_)
  go_ret
  exact ⟨rfl, by rw [hnews, List.append_assoc]⟩
set_option maxHeartbeats 4000000 in
set_option maxRecDepth 100000 in
/-- At the end. -/
theorem insert_end (base n m c2 : Nat) (A : Option Addr) (c : Nat) (g2 : Nat) (us news : List Value) (w : World) (hm : 0 < m) (hown : w.ownsRow base 25 4 (.slice A n c) n us) (hbase : base ≤ w.heap.size) (hnews : news.length = m * 4)
    (hsrc : ∀ j v, news[j]? = some v → w.cell? ⟨g2, j, none⟩ = some v) (h2 : ∀ u, u ∈ news → u.oneCell' = true) (hlim : n + m ≤ LIM) :
    Calls Tryd.prog 63 #[.slice A n c, .int .i64 n, .slice (some ⟨g2, 0, none⟩) m c2] w fun e w' =>
      ∃ v', e = .returned v' ∧ w'.ownsRow base 25 4 v' (n + m) (us ++ news) ∧ w.grownBy w' (Value.slice A n c).ownBlock ∧ (v'.ownBlock = (Value.slice A n c).ownBlock ∨ (∃ b, v'.ownBlock = some b ∧ w.heap.size ≤ b) ∧ w.grownBy w' none) := by
  have mixed : Tryd.prog.follows .mixedOrders = true := mixed
  have hz1 : ¬ ((m : Int) = 0) := by omega
  obtain ⟨i0, d, z, hf⟩ := fact (t := 25) (by intro h; cases h)
  have hs4 : (T 25).size = 4 := by kernel_rfl
  obtain ⟨v', w', hr, q1, q2, _, q4⟩ := append_own (P := Tryd.prog) (ty := 22) hf under22 (by rw [hs4]; exact hown) (A := some ⟨g2, 0, none⟩) (m := m) (c := c2) (news := news) (by rw [hs4]; exact hnews)
    (.inr ⟨_, rfl, fun j u hj => by rw [Addr.add_lit, Nat.zero_add]; exact hsrc j u hj⟩) h2 hlim hbase
  rw [hs4] at q1
  cases A with
  | none =>
    obtain ⟨rfl, rfl⟩ : n = 0 ∧ c = 0 := by
      rcases hown.2 with ⟨h1, h2⟩ | ⟨g, cap, cur, h1, _⟩
      · injection h1 with _ e1 e2
        exact ⟨e1, e2⟩
      · cases h1
    go_enter Tryd.func63, Tryd.ntmps63
    go_wp2_with (at_builtin; refine Lib.wpList_append_run _ rfl _ _ 22 22 rfl _ _ rfl rfl _ _ hr ?_)
    all_goals go_ret
    all_goals exact ⟨v', rfl, q1, q2, q4⟩
  | some ad =>
    have hnc : n ≤ c := by
      obtain ⟨_, _, h1, h2⟩ := ownsRow_slice hown
      injection h1 with _ _ e2
      omega
    go_enter Tryd.func63, Tryd.ntmps63
    go_wp2_with (at_builtin; refine Lib.wpList_append_run _ rfl _ _ 22 22 rfl _ _ rfl rfl _ _ hr ?_)
    all_goals go_ret
    all_goals exact ⟨v', rfl, q1, q2, q4⟩
set_option maxHeartbeats 4000000 in
set_option maxRecDepth 100000 in
/-- There is no room, and something stands behind: a new row. -/
theorem insert_grow (g n c i g2 m c2 : Nat) (us news : List Value) (w : World) (hi : i < n) (hm : 0 < m) (hnc : n ≤ c) (hroom : c < n + m) (hlim : n + m ≤ LIM) (hus : us.length = n * 4) (hnews : news.length = m * 4)
    (hcell : ∀ j v, us[j]? = some v → w.cell? ⟨g, j, none⟩ = some v) (hsrc : ∀ j v, news[j]? = some v → w.cell? ⟨g2, j, none⟩ = some v) (hgw : g < w.heap.size) (hgw2 : g2 < w.heap.size)
    (h1 : ∀ u, u ∈ us → u.oneCell' = true) (h2 : ∀ u, u ∈ news → u.oneCell' = true) :
    Calls Tryd.prog 63 #[.slice (some ⟨g, 0, none⟩) n c, .int .i64 i, .slice (some ⟨g2, 0, none⟩) m c2] w fun e w' =>
      ∃ (G : Nat) (X : List Value), e = .returned (.slice (some ⟨w.heap.size, 0, none⟩) (n + m) G) ∧ n + m ≤ G ∧ G ≤ maxLen ∧ X.length = G * 4 ∧ X.take ((n + m) * 4) = us.take (i * 4) ++ news ++ us.drop (i * 4) ∧
        w'.heap[w.heap.size]? = some (.cells X.toArray 25 (0, 0)) ∧ w.grownBy w' none := by
  have mixed : Tryd.prog.follows .mixedOrders = true := mixed
  have hLIM : n + m ≤ 549755813888 := hlim
  have hz1 : ¬ ((m : Int) = 0) := by omega
  have hz2 : ¬ ((i : Int) = (n : Int)) := by omega
  have hz3 : (c : Int) < (n : Int) + (m : Int) := by omega
  obtain ⟨i0, d, z, hf⟩ := fact (t := 25) (by intro h; cases h)
  have hs4 : (T 25).size = 4 := by kernel_rfl
  have hz4 : i0.size = 4 := hf.size.trans hs4
  have hzz : z.cells.size = 4 := hf.zsize.trans hs4
  have hby : (n + m) * i0.bytes ≤ 140737488355328 := by
    have h2 := Nat.mul_le_mul hLIM (hf.bytes ▸ hf.bmax : i0.bytes ≤ 256)
    simpa using h2
  have hbp : 0 < i0.bytes := hf.bytes ▸ hf.bpos
  have hkk : (n : Int) + (m : Int) - (i : Int) = ((n + m - i : Nat) : Int) := by omega
  have hik : i + (n + m - i) = n + m := by omega
  have hold : (Builtin.firstCells i0.size i (.slice (some ⟨g, 0, none⟩) i c)).run Tryd.prog w.drew = .ok (us.take (i * 4)).toArray w.drew := by
    rw [hz4]
    exact run_firstCells_some w.drew 4 i ⟨g, 0, none⟩ i c (us.take (i * 4)) (by rw [List.length_take]; omega) (fun j v hj => by
      rw [Addr.add_lit, Nat.zero_add]
      rw [List.getElem?_take] at hj
      split at hj
      · exact hcell j v hj
      · cases hj)
  have hrz : ∀ ty, (Builtin.append_ #[22, 3] ty #[.slice (some ⟨g, 0, none⟩) i c, .int .i64 ((n : Int) + (m : Int) - (i : Int))]).run Tryd.prog w =
      .ok (.slice (some ⟨w.heap.size, 0, none⟩) (n + m) (grownCap w (n + m) c 25)) (w.drew.alloc (.cells ((us.take (i * 4)).toArray ++ Builtin.zeroCells z.cells (n + m - i) ++ Builtin.zeroCells z.cells (grownCap w (n + m) c 25 - (n + m))) 25)) := fun ty => by
    have h := Lib.run_append_grow_zeros (P := Tryd.prog) w 22 3 ty 25 i0 z .i64 .i64 under22 (by kernel_rfl) hf.info hf.zero (some ⟨g, 0, none⟩) i c (us.take (i * 4)) hold (n + m - i) (by omega) (by omega) (by omega) (by omega) (by
      have : (n + m - i) * i0.bytes ≤ (n + m) * i0.bytes := Nat.mul_le_mul_right _ (by omega)
      omega) (by rw [hik]; exact growslice_fits hroom hby)
    rw [hik] at h
    rw [hkk]
    exact h
  have hGn : n + m ≤ grownCap w (n + m) c 25 := grownCap_ge w _ _ _
  have hGm : grownCap w (n + m) c 25 ≤ maxLen := grownCap_le_maxLen w (n + m) c 25 (by unfold maxLen; omega)
  obtain ⟨G, hG⟩ : ∃ G, G = grownCap w (n + m) c 25 := ⟨_, rfl⟩
  rw [← hG] at hrz hGn hGm
  obtain ⟨ROW, hROW⟩ : ∃ ROW : Array Value, ROW = (us.take (i * 4)).toArray ++ Builtin.zeroCells z.cells (n + m - i) ++ Builtin.zeroCells z.cells (G - (n + m)) := ⟨_, rfl⟩
  rw [← hROW] at hrz
  have hzl : ∀ k, (Builtin.zeroCells z.cells k).size = k * 4 := fun k => by
    rw [size_zeroCells, hzz]
  have hRl : ROW.size = G * 4 := by
    rw [hROW]
    simp only [Array.size_append, hzl, List.size_toArray, List.length_take, hus]
    omega
  have hRt : ROW.toList.take (i * 4) = us.take (i * 4) := by
    rw [hROW]
    simp only [Array.toList_append, List.append_assoc]
    rw [List.take_append_of_le_length (by simp [hus]; omega)]
    show List.take (i * 4) (List.take (i * 4) us) = List.take (i * 4) us
    rw [List.take_take, Nat.min_self]
  obtain ⟨R1, hR1⟩ : ∃ R1, R1 = ROW.toList.take (i * 4) ++ news ++ ROW.toList.drop (i * 4 + news.length) := ⟨_, rfl⟩
  have hR1l : R1.length = G * 4 := by
    rw [hR1]
    simp only [List.length_append, List.length_take, List.length_drop, Array.length_toList, hRl, hnews]
    omega
  obtain ⟨R2, hR2⟩ : ∃ R2, R2 = R1.take ((i + m) * 4) ++ us.drop (i * 4) ++ R1.drop ((i + m) * 4 + (us.drop (i * 4)).length) := ⟨_, rfl⟩
  have hdl : (us.drop (i * 4)).length = (n - i) * 4 := by rw [List.length_drop, hus]; omega
  have hR2l : R2.length = G * 4 := by
    rw [hR2]
    simp only [List.length_append, List.length_take, List.length_drop, hR1l, hus]
    omega
  have hR2t : R2.take ((n + m) * 4) = us.take (i * 4) ++ news ++ us.drop (i * 4) := by
    have e1 : R1.take ((i + m) * 4) = us.take (i * 4) ++ news := by
      rw [hR1, hRt]
      rw [List.take_append_of_le_length (by simp [hus, hnews]; omega)]
      rw [List.take_of_length_le (by simp [hus, hnews]; omega)]
    rw [hR2, e1]
    rw [List.take_append_of_le_length (by simp [hus, hnews]; omega)]
    rw [List.take_of_length_le (by simp [hus, hnews]; omega)]
  obtain ⟨W1, hW1⟩ : ∃ W1, W1 = w.drew.alloc (.cells ROW 25) := ⟨_, rfl⟩
  rw [← hW1] at hrz
  have hN : W1.heap[w.heap.size]? = some (.cells ROW 25 (0, 0)) := by rw [hW1]; exact alloc_last w.drew _
  have hO : ∀ k, k < w.heap.size → W1.heap[k]? = w.heap[k]? := fun k hk => by rw [hW1]; exact alloc_old w.drew _ k hk
  have hOc : ∀ b j, b < w.heap.size → W1.cell? ⟨b, j, none⟩ = w.cell? ⟨b, j, none⟩ := fun b j hb => by simp only [World.cell?, hO b hb]
  have hcpA : ∀ (W : World), (∀ x, W.cell? x = W1.cell? x) → W.heap[w.heap.size]? = some (.cells ROW 25 (0, 0)) → ∀ ty dc, (Builtin.copy_ #[22, 22] ty #[.slice (some ⟨w.heap.size, i * 4, none⟩) (n + m - i) dc, .slice (some ⟨g2, 0, none⟩) m c2]).run Tryd.prog W = .ok (goInt m) (W.setRow w.heap.size R1.toArray) := fun W hWc hWh ty dc => by
    have := copy_rows (P := Tryd.prog) W 22 22 ty 25 w.heap.size (i * 4) (n + m - i) dc ⟨g2, 0, none⟩ m c2 ROW 25 news 4 under22 size25 hWh (by rw [hnews]; congr 1; simp only [Nat.min_def]; split <;> omega)
      (fun j v hj => by rw [Addr.add_lit, Nat.zero_add, hWc, hOc _ _ hgw2]; exact hsrc j v hj) (by rw [hnews, hRl]; omega) h2
    rw [show Nat.min m (n + m - i) = m by simp only [Nat.min_def]; split <;> omega] at this
    rw [hR1]
    exact this
  have hcpB : ∀ (W : World), (∀ b j, b < w.heap.size → W.cell? ⟨b, j, none⟩ = w.cell? ⟨b, j, none⟩) → W.heap[w.heap.size]? = some (.cells R1.toArray 25 (0, 0)) → ∀ ty dc sc, (Builtin.copy_ #[22, 22] ty #[.slice (some ⟨w.heap.size, (i + m) * 4, none⟩) (n + m - (i + m)) dc, .slice (some ⟨g, i * 4, none⟩) (n - i) sc]).run Tryd.prog W = .ok (goInt ((n - i : Nat) : Int)) (W.setRow w.heap.size R2.toArray) := fun W hWc hWh ty dc sc => by
    have := copy_rows (P := Tryd.prog) W 22 22 ty 25 w.heap.size ((i + m) * 4) (n + m - (i + m)) dc ⟨g, i * 4, none⟩ (n - i) sc R1.toArray 25 (us.drop (i * 4)) 4 under22 size25 hWh (by rw [hdl]; congr 1; simp only [Nat.min_def]; split <;> omega)
      (fun j v hj => by rw [Addr.add_lit, hWc _ _ hgw]; exact hcell _ v (by rwa [List.getElem?_drop] at hj)) (by rw [hdl]; simp only [List.size_toArray, hR1l]; omega) (fun v hv => h1 v (List.mem_of_mem_drop hv))
    rw [show Nat.min (n - i) (n + m - (i + m)) = n - i by simp only [Nat.min_def]; split <;> omega] at this
    rw [hR2]
    exact this
  have hS1 : (W1.setRow w.heap.size R1.toArray).heap[w.heap.size]? = some (.cells R1.toArray 25 (0, 0)) := setRow_heap _ _ _ _ _ _ hN
  have hS1c : ∀ b j, b < w.heap.size → (W1.setRow w.heap.size R1.toArray).cell? ⟨b, j, none⟩ = w.cell? ⟨b, j, none⟩ := fun b j hb => by
    rw [cell_setRow_other _ _ _ _ (by show b ≠ w.heap.size; omega), hOc b j hb]
  have hS2 : ((W1.setRow w.heap.size R1.toArray).drew.setRow w.heap.size R2.toArray).heap[w.heap.size]? = some (.cells R2.toArray 25 (0, 0)) := setRow_heap _ _ _ _ _ _ hS1
  have hS2o : w.grownBy ((W1.setRow w.heap.size R1.toArray).drew.setRow w.heap.size R2.toArray) none := by
    refine ⟨by rw [hW1]; rfl, by rw [hW1]; rfl, by rw [hW1]; rfl, by rw [hW1]; simp, fun k hk _ => ?_⟩
    rw [setRow_other _ _ _ _ (by omega)]
    show (W1.setRow w.heap.size R1.toArray).heap[k]? = _
    rw [setRow_other _ _ _ _ (by omega), hO k hk]
  have hw1 : IntKind.i64.wrap ((i : Int) + (m : Int)) = (i : Int) + (m : Int) := by rw [IntKind.wrap_i64]; omega
  have hw2 : IntKind.i64.wrap ((n : Int) + (m : Int)) = (n : Int) + (m : Int) := by rw [IntKind.wrap_i64]; omega
  have hw3 : IntKind.i64.wrap ((n : Int) + (m : Int) - (i : Int)) = (n : Int) + (m : Int) - (i : Int) := by rw [IntKind.wrap_i64]; omega
  have hb1 : (0 : Int) ≤ (i : Int) + (m : Int) := by omega
  have hin : i ≤ n := by omega
  have htn : ((i : Int) + (m : Int)).toNat = i + m := by omega
  have hb3 : (i : Int) ≤ (n : Int) := by omega
  have hb4 : (i : Int) ≤ (n : Int) + (m : Int) := by omega
  have hGi : ¬ (G = i) := by omega
  have hGim : ¬ (G = i + m) := by omega
  have hci : ¬ (c = i) := by omega
  have hG63 : G ≤ 9223372036854775807 := by unfold maxLen at hGm; omega
  clear hkk hik hold hROW hG hRl hRt hR1 hR2 hW1 hcell hO hOc
  go_enter Tryd.func63, Tryd.ntmps63
  go_wp2_with (first
    | (at_builtin; refine Lib.wpList_append_run _ rfl _ _ _ _ rfl _ _ rfl rfl _ _ (hrz _) ?_)
    | (at_builtin; refine wpList_copy_runI _ rfl _ _ 22 22 rfl _ _ rfl rfl (hcpA _ (fun _ => rfl) hN _ _) ?_))
  go_region_law_o (refine step_copy_runI rfl _ _ 22 22 rfl (.slice (some ⟨w.heap.size, (i + m) * 4, none⟩) (n + m - (i + m)) (G - (i + m))) (.slice (some ⟨g, i * 4, none⟩) (n - i) (c - i)) (by simp [Act.eval, Act.put]) (by simp [Act.eval, Act.put]) (hcpB ((W1.setRow w.heap.size R1.toArray).drew) hS1c hS1 _ _ _) ?_)
  go_wp2
  go_ret
  exact ⟨G, R2, rfl, hGn, hGm, hR2l, hR2t, hS2, hS2o⟩
noncomputable def P63 : List LV → M LSem := kinsert 25 4
set_option maxHeartbeats 4000000 in
theorem f63_ok : GivenOk Tryd.prog 63 (.gcall P63) := by
  refine ⟨callOk_of Tryd.func63 rfl (by kernel_rfl), fun base okx w0 w ρ' H nid lim ls s lv H' vs hk hx hw hfree ha => ?_⟩
  unfold P63 kinsert at hk
  split at hk
  case h_2 => exact (M.is_fail.1 hk).elim
  case h_1 id n p id2 n2 =>
  simp only [M.is_bind, M.is_lift, M.is_pure] at hk
  obtain ⟨i, hi, rfl⟩ := hk
  obtain ⟨hne, o2, ob, hid2, hid, hs, rfl⟩ := exec_take2 hx
  clear hx
  split at hs
  case h_2 => exact (M.is_fail.1 hs).elim
  case h_1 e2 sz2 ys fz2 e sz xs =>
  cases hb : (Nat.beq sz2 4 && Nat.beq sz 4 && Nat.beq e 25) with
  | false =>
    rw [hb] at hs
    exact (M.is_fail.1 hs).elim
  | true =>
  rw [hb] at hs
  simp only [Bool.and_eq_true] at hb
  obtain ⟨⟨b1, b2⟩, b3⟩ := hb
  obtain rfl := Nat.eq_of_beq_eq_true b1
  obtain rfl := Nat.eq_of_beq_eq_true b2
  obtain rfl := Nat.eq_of_beq_eq_true b3
  simp only [Bool.not_true, cond_false, M.is_ite, M.is_fail, and_false, or_false, M.is_bind, M.is_lift, M.is_pure, beq_iff_eq] at hs
  obtain ⟨hn, hn2, zs, hz, rfl⟩ := hs
  unfold linsert at hz
  split at hz
  case isFalse => cases hz
  case isTrue hcond =>
  obtain ⟨hi0, hin, hm, hlim⟩ := hcond
  injection hz with hz
  obtain ⟨k, rfl⟩ : ∃ k : Nat, i = (k : Int) := ⟨i.toNat, by omega⟩
  rw [Int.toNat_natCast] at hz
  have hp : p = .int .i64 (k : Int) := by
    unfold pi64 at hi
    split at hi
    · injection hi with hi
      rw [hi]
    · cases hi
  subst hp
  match vs, ha with
  | [v0, v1, v2], ha =>
  have hv0 := ha.2 0 v0 _ rfl rfl
  have hv1 := (ha.2 1 v1 _ rfl rfl).pvI.intI
  have hv2 := ha.2 2 v2 _ rfl rfl
  subst hv1
  obtain ⟨r, hr, hsl, _⟩ := hv0.oslI
  have hvr := (hsl _ _ _ _ hid).2 hn.symm
  subst hvr
  obtain ⟨r2, hr2, hsl2, _⟩ := hv2.oslI
  have hvr2 := (hsl2 _ _ _ _ hid2).2 hn2.symm
  subst hvr2
  obtain ⟨r', hr', us, hown, hrows⟩ := hw.obj id _ hid
  rw [hr] at hr'
  injection hr' with hr'
  subst hr'
  obtain ⟨r', hr', news, hown2, hrows2⟩ := hw.obj id2 _ hid2
  rw [hr2] at hr'
  injection hr' with hr'
  subst hr'
  have hzl : zs.length = xs.length + ys.length := by
    rw [← hz]
    simp only [List.length_append, List.length_take, List.length_drop]
    omega
  have h1 := rows_one hrows hown.1
  have h2 := rows_one hrows2 hown2.1
  have hrz : RowsR w (okF base okx H ρ') 4 (us.take (k * 4) ++ news ++ us.drop (k * 4)) zs := by
    rw [← hz]
    exact rows_append (rows_append (rows_take hrows k) hrows2 (by rw [List.length_take, List.length_take, hown.1]; simp only [Nat.min_def]; split <;> split <;> omega)) (rows_drop hrows k) (by
      rw [List.length_append, List.length_append, List.length_take, List.length_take, hown.1, hown2.1, Nat.add_mul]; simp only [Nat.min_def]; split <;> split <;> omega)
  have hcl : (us.take (k * 4) ++ news ++ us.drop (k * 4)).length = zs.length * 4 := by
    rw [hzl]
    simp only [List.length_append, List.length_take, List.length_drop, hown.1, hown2.1]
    omega
  rcases hown2.2 with ⟨_, h0⟩ | ⟨g2, cap2, cur2, rfl, hg2, hh2, hnc2, hcm2, hcs2, htake2⟩
  · omega
  have hsrc : ∀ j v, news[j]? = some v → w.cell? ⟨g2, j, none⟩ = some v := fun j v hj => ownsRow_cell hown2 rfl hj
  have hgw2 : g2 < w.heap.size := (Array.getElem?_eq_some_iff.1 hh2).1
  by_cases hkn : k = xs.length
  · -- at the end
    subst hkn
    obtain ⟨A, c, rfl, hnc⟩ := ownsRow_slice hown
    have hl0 : us.take (xs.length * 4) ++ news ++ us.drop (xs.length * 4) = us ++ news := by
      rw [← hown.1, List.take_length, List.drop_length, List.append_nil]
    refine (insert_end base xs.length ys.length cap2 A c g2 us news w hm hown hw.size hown2.1 hsrc h2 hlim).mono ?_
    rintro e' w' ⟨v', rfl, q1, q2, q3⟩
    obtain ⟨h3, h4, h5⟩ := del_wr (w' := w') (v' := v') hw hr hid q2 fun b hb => by
      obtain ⟨A', c', rfl, _⟩ := ownsRow_slice q1
      rw [blk_own _ A' _ c' rfl] at hb
      rcases q3 with q3 | ⟨⟨b', q3, q4⟩, _⟩
      · left
        rw [q3] at hb
        rw [blk_own _ A _ c rfl]
        exact hb
      · right
        rw [q3] at hb
        injection hb with hb
        omega
    rw [hl0] at hrz
    have hpr := row_pr (by rw [hzl]; exact q1) (hrz.evo h3) h5
    exact ⟨_, rfl, ρ', h3, h4, .pv _ _ hpr, fun _ _ h => h⟩
  · have hkl : k < xs.length := by omega
    rcases hown.2 with ⟨_, h0⟩ | ⟨g, cap, cur, rfl, hg, hh, hnc, hcm, hcs, htake⟩
    · omega
    have hgw : g < w.heap.size := (Array.getElem?_eq_some_iff.1 hh).1
    have hgg : g2 ≠ g := fun h => hw.apart id2 id _ _ g2 hne (by rw [hid2]; simp) (by rw [hid]; simp) hr2 hr rfl (by rw [h]; rfl)
    have hcell : ∀ j v, us[j]? = some v → w.cell? ⟨g, j, none⟩ = some v := fun j v hj => ownsRow_cell hown rfl hj
    by_cases hroom : xs.length + ys.length ≤ cap
    · refine (insert_shift g xs.length cap k g2 ys.length cap2 cur us news w hkl hm hroom (by unfold maxLen at hcm; omega) hgg e2 cur2.size hh hcs hown.1 htake hown2.1 hsrc (by simp [World.shape?, hh2]) (by simp [World.frozen?, hh2]) (by simp [World.frozen?, hh2]) h1 h2).mono ?_
      rintro e' w' ⟨rfl, rfl⟩
      generalize hC : cur.toList.take ((k + ys.length) * 4) ++ us.drop (k * 4) ++ cur.toList.drop ((k + ys.length) * 4 + (us.drop (k * 4)).length) = CUR
      have hct : cur.toList.take (k * 4) = us.take (k * 4) := by
        have := congrArg (List.take (k * 4)) htake
        rw [List.take_take, Nat.min_eq_left (by omega)] at this
        exact this
      have hcl1 : cur.toList.length = cap * 4 := by simpa using hcs
      have hul := hown.1
      have hnl := hown2.1
      have hC1 : CUR.take (k * 4) = us.take (k * 4) := by
        rw [← hC, List.append_assoc, List.take_append_of_le_length (by rw [List.length_take, hcl1]; omega), List.take_take, Nat.min_eq_left (by omega), hct]
      have hC2 : (CUR.drop (k * 4 + news.length)).take (us.drop (k * 4)).length = us.drop (k * 4) := by
        rw [← hC, List.append_assoc, show k * 4 + news.length = (cur.toList.take ((k + ys.length) * 4)).length by rw [List.length_take, hcl1, hnl]; omega, List.drop_left', List.take_left']
        · rfl
        · rfl
      have hCl : CUR.length = cap * 4 := by
        rw [← hC]
        simp only [List.length_append, List.length_take, List.length_drop, hcl1, hul]
        omega
      have hheap : ((w.drew.setRow g CUR.toArray).setRow g (CUR.take (k * 4) ++ news ++ CUR.drop (k * 4 + news.length)).toArray).heap[g]? = some (.cells (CUR.take (k * 4) ++ news ++ CUR.drop (k * 4 + news.length)).toArray 25 (0, 0)) :=
        setRow_heap _ _ _ _ _ _ (setRow_heap w.drew _ _ _ _ _ hh)
      have hgr : w.grownBy ((w.drew.setRow g CUR.toArray).setRow g (CUR.take (k * 4) ++ news ++ CUR.drop (k * 4 + news.length)).toArray) (Value.slice (some ⟨g, 0, none⟩) xs.length cap).ownBlock := by
        refine ⟨rfl, rfl, rfl, by simp, fun j hj hjg => ?_⟩
        have hjg : j ≠ g := fun h => hjg (by rw [h]; rfl)
        rw [setRow_other _ _ _ _ hjg, setRow_other _ _ _ _ hjg]
        rfl
      obtain ⟨h3, h4, h5⟩ := del_wr (v' := .slice (some ⟨g, 0, none⟩) (xs.length + ys.length) cap) hw hr hid hgr fun b hb => .inl hb
      have hown' : ((w.drew.setRow g CUR.toArray).setRow g (CUR.take (k * 4) ++ news ++ CUR.drop (k * 4 + news.length)).toArray).ownsRow base 25 4 (.slice (some ⟨g, 0, none⟩) (xs.length + ys.length) cap) zs.length (us.take (k * 4) ++ news ++ us.drop (k * 4)) := by
        refine ⟨hcl, .inr ⟨g, cap, _, by rw [hzl], hg, hheap, by rw [hzl]; exact hroom, hcm, ?_, ?_⟩⟩
        · simp only [List.size_toArray, List.length_append, List.length_take, List.length_drop, hCl, hnl]
          omega
        · rw [← hcl, hC1]
          show List.take _ (us.take (k * 4) ++ news ++ CUR.drop (k * 4 + news.length)) = _
          rw [List.length_append, List.take_length_add_append, hC2]
      have hpr := row_pr hown' (hrz.evo h3) h5
      exact ⟨_, rfl, ρ', h3, h4, .pv _ _ hpr, fun _ _ h => h⟩
    · refine (insert_grow g xs.length cap k g2 ys.length cap2 us news w hkl hm hnc (by omega) hlim hown.1 hown2.1 hcell hsrc hgw hgw2 h1 h2).mono ?_
      rintro e' w' ⟨G, X, rfl, hGn, hGm, hXl, hXt, hheap, hgr⟩
      obtain ⟨h3, h4, h5⟩ := del_wr (w' := w') (v' := .slice (some ⟨w.heap.size, 0, none⟩) (xs.length + ys.length) G) hw hr hid ⟨hgr.1, hgr.2, hgr.3, hgr.4, fun j hj _ => hgr.5 j hj (by simp)⟩ fun b hb => by
        right
        have : w.heap.size = b := Option.some.inj hb
        omega
      have hown' : w'.ownsRow base 25 4 (.slice (some ⟨w.heap.size, 0, none⟩) (xs.length + ys.length) G) zs.length (us.take (k * 4) ++ news ++ us.drop (k * 4)) :=
        ⟨hcl, .inr ⟨w.heap.size, G, X.toArray, by rw [hzl], hw.size, hheap, by rw [hzl]; exact hGn, hGm, by simpa using hXl, by rw [hzl]; exact hXt⟩⟩
      have hpr := row_pr hown' (hrz.evo h3) h5
      exact ⟨_, rfl, ρ', h3, h4, .pv _ _ hpr, fun _ _ h => h⟩
end Go.Bw.A
