/- What a law's row asks of every law of this seat: the table that it lists, the world of its witness, and what the arguments are. No statement of a law is proved here. -/
import Derived.Test.YtbmgafmmaihmfaaDoorCards
import Derived.Test.YtbmgafmmaihmfaaDoorTie
import Derived.Test.YtbmgafmmaihmfaaDoorY0
import Derived.Test.YtbmgafmmaihmfaaDoorT0
import Derived.WalkKit
import Derived.ProofKit
import Derived.OpenShut
import Derived.Deep.DeepHandedRow
import Derived.Lib.LaidTab
set_option linter.unusedVariables false
set_option linter.unusedSimpArgs false
namespace Go.Bw
theorem asRows {xs : List (List PV)} (h : ∀ r, r ∈ xs → ∃ x, r = hv x) : ∃ l, xs = hrows l := by
  induction xs with
  | nil => exact ⟨[], rfl⟩
  | cons r xs ih =>
    obtain ⟨x, rfl⟩ := h r List.mem_cons_self
    obtain ⟨l, rfl⟩ := ih fun q hq => h q (List.mem_cons_of_mem _ hq)
    exact ⟨x :: l, rfl⟩
theorem asInts {xs : List (List PV)} (h : ∀ r, r ∈ xs → ∃ n, r = [.int .i64 n]) : ∃ l, xs = intRows l := by
  induction xs with
  | nil => exact ⟨[], rfl⟩
  | cons r xs ih =>
    obtain ⟨x, rfl⟩ := h r List.mem_cons_self
    obtain ⟨l, rfl⟩ := ih fun q hq => h q (List.mem_cons_of_mem _ hq)
    exact ⟨x :: l, rfl⟩
theorem wt_int {T : Nat → TI} {t : Nat} {qs : List PV} (h : WT T t qs) {k : IntKind} (hu : (T t).u = .int k) : ∃ n, qs = [.int k n] ∧ k.min ≤ n ∧ n ≤ k.max := by
  cases h with
  | int _ k' n h h1 h2 =>
    rw [hu] at h
    injection h with h
    subst h
    exact ⟨n, rfl, h1, h2⟩
  | flt _ _ _ h _ => rw [hu] at h; cases h
  | bool _ _ h => rw [hu] at h; cases h
  | str _ _ h _ => rw [hu] at h; cases h
  | slice _ _ _ h _ _ => rw [hu] at h; cases h
  | struct _ _ _ h _ _ => rw [hu] at h; cases h
theorem wt_bool {T : Nat → TI} {t : Nat} {qs : List PV} (h : WT T t qs) (hu : (T t).u = .bool) : ∃ b, qs = [.bool b] := by
  cases h with
  | bool _ b h => exact ⟨b, rfl⟩
  | int _ _ _ h _ _ => rw [hu] at h; cases h
  | flt _ _ _ h _ => rw [hu] at h; cases h
  | str _ _ h _ => rw [hu] at h; cases h
  | slice _ _ _ h _ _ => rw [hu] at h; cases h
  | struct _ _ _ h _ _ => rw [hu] at h; cases h
theorem wt_str {T : Nat → TI} {t : Nat} {qs : List PV} (h : WT T t qs) (hu : (T t).u = .str) : ∃ s, qs = [.str s] ∧ s.size ≤ maxLen := by
  cases h with
  | str _ s h h1 => exact ⟨s, rfl, h1⟩
  | bool _ b h => rw [hu] at h; cases h
  | int _ _ _ h _ _ => rw [hu] at h; cases h
  | flt _ _ _ h _ => rw [hu] at h; cases h
  | slice _ _ _ h _ _ => rw [hu] at h; cases h
  | struct _ _ _ h _ _ => rw [hu] at h; cases h
theorem wt_slice {T : Nat → TI} {t e : Nat} {qs : List PV} (h : WT T t qs) (hu : (T t).u = .slice e) : ∃ xs, qs = [.list (T e).size xs] ∧ xs.length ≤ maxLen ∧ ∀ r, r ∈ xs → WT T e r := by
  cases h with
  | slice _ e' xs h h1 h2 =>
    rw [hu] at h
    injection h with h
    subst h
    exact ⟨xs, rfl, h1, h2⟩
  | bool _ b h => rw [hu] at h; cases h
  | int _ _ _ h _ _ => rw [hu] at h; cases h
  | flt _ _ _ h _ => rw [hu] at h; cases h
  | str _ _ h _ => rw [hu] at h; cases h
  | struct _ _ _ h _ _ => rw [hu] at h; cases h
theorem wt_struct {T : Nat → TI} {t : Nat} {fs : List (Nat × Nat)} {qs : List PV} (h : WT T t qs) (hu : (T t).u = .struct fs) : ∃ css : List (List PV), qs = css.flatten ∧ css.length = fs.length ∧ ∀ (i : Nat) (f : Nat × Nat) (cs : List PV), fs[i]? = some f → css[i]? = some cs → WT T f.1 cs := by
  cases h with
  | struct _ fs' css h hl h1 =>
    rw [hu] at h
    injection h with h
    subst h
    exact ⟨css, rfl, hl, h1⟩
  | bool _ b h => rw [hu] at h; cases h
  | int _ _ _ h _ _ => rw [hu] at h; cases h
  | flt _ _ _ h _ => rw [hu] at h; cases h
  | str _ _ h _ => rw [hu] at h; cases h
  | slice _ _ _ h _ _ => rw [hu] at h; cases h
end Go.Bw
namespace Go.Bw.A
open Go.Proofs Go.Bw
theorem wt_num {t : Nat} {qs : List PV} (h : WT T t qs) (hu : (T t).u = .int .i64) : ∃ n, qs = [.int .i64 n] := by
  obtain ⟨n, rfl, _⟩ := wt_int h hu
  exact ⟨n, rfl⟩
theorem wt_ints {t e : Nat} {qs : List PV} (h : WT T t qs) (hu : (T t).u = .slice e) (he : (T e).u = .int .i64) (hs : (T e).size = 1) : ∃ l, qs = [.list 1 (intRows l)] := by
  obtain ⟨xs, rfl, _, h2⟩ := wt_slice h hu
  obtain ⟨l, rfl⟩ := asInts fun r hr => wt_num (h2 r hr) he
  exact ⟨l, by rw [hs]⟩
theorem wt_held {t : Nat} {qs : List PV} (h : WT T t qs) (hu : (T t).u = .struct [(3, 0), (23, 1), (2, 2), (2, 3)]) : ∃ x, qs = hv x := by
  obtain ⟨css, rfl, hl, hc⟩ := wt_struct h hu
  match css, hl, hc with
  | [c0, c1, c2, c3], _, hc =>
    obtain ⟨i, rfl⟩ := wt_num (hc 0 _ c0 rfl rfl) (by kernel_rfl)
    obtain ⟨l, rfl⟩ := wt_ints (e := 3) (hc 1 _ c1 rfl rfl) (by kernel_rfl) (by kernel_rfl) (by kernel_rfl)
    obtain ⟨f, rfl⟩ := wt_num (hc 2 _ c2 rfl rfl) (by kernel_rfl)
    obtain ⟨g, rfl⟩ := wt_num (hc 3 _ c3 rfl rfl) (by kernel_rfl)
    exact ⟨⟨i, l, f, g⟩, rfl⟩
theorem wt_table {t e : Nat} {qs : List PV} (h : WT T t qs) (hu : (T t).u = .slice e) (he : (T e).u = .struct [(3, 0), (23, 1), (2, 2), (2, 3)]) (hs : (T e).size = 4) : ∃ l, qs = [.list 4 (hrows l)] := by
  obtain ⟨xs, rfl, _, h2⟩ := wt_slice h hu
  obtain ⟨l, rfl⟩ := asRows fun r hr => wt_held (h2 r hr) he
  exact ⟨l, by rw [hs]⟩
/-- The arguments, each as it is. -/
theorem arg_num {q : PV} {t : Nat} (h : AW T t q) (ha : (T t).agg = false) (hu : (T t).u = .int .i64) : ∃ n, q = .int .i64 n := by
  unfold AW at h
  rw [ha] at h
  obtain ⟨n, h⟩ := wt_num h hu
  injection h with h
  exact ⟨n, h⟩
theorem arg_table {q : PV} (h : AW T 22 q) : ∃ l, q = .list 4 (hrows l) := by
  unfold AW at h
  rw [show (T 22).agg = false by kernel_rfl] at h
  obtain ⟨l, h⟩ := wt_table (e := 25) h (by kernel_rfl) (by kernel_rfl) (by kernel_rfl)
  injection h with h
  exact ⟨l, h⟩
theorem arg_held {q : PV} (h : AW T 25 q) : ∃ x, q = hp x := by
  unfold AW at h
  rw [show (T 25).agg = true by kernel_rfl] at h
  obtain ⟨cs, rfl, h⟩ := h
  obtain ⟨x, rfl⟩ := wt_held h (by kernel_rfl)
  exact ⟨x, rfl⟩
end Go.Bw.A
namespace Go.Proofs.YtbmgafmmaihmfaaDoor
open Go.ChangeShapes Go.WideShapes Go.ChangeAt Go.RowKit Go.Bw Go.Bw.A
theorem own : ownKnob Tryd.prog.godebug = none := by kernel_rfl
/-- The table that the rows list. -/
def debTab : List Int := [0, 1, 56, 2, 57, 49, 28, 3, 61, 58, 42, 50, 38, 29, 17, 4, 62, 47, 59, 36, 45, 43, 51, 22, 53, 39, 33, 30, 24, 18, 12, 5, 63, 55, 48, 27, 60, 41, 37, 16, 46, 35, 44, 21, 52, 32, 23, 11, 54, 26, 40, 15, 34, 20, 31, 10, 25, 14, 19, 9, 13, 8, 7, 6]
def debName : String := Rows.heldGetsRow.named.getD 0 ""
theorem gTab : Tryd.prog.globalNamed debName = some 0 := by kernel_rfl
theorem gTabType : (Tryd.prog.globals[0]?).map (·.type) = some 159 := by kernel_rfl
theorem underlying159 : Tryd.prog.underlying 159 = some (.array 64 5) := by kernel_rfl
theorem underlying5 : Tryd.prog.underlying 5 = some (.int .u8) := by kernel_rfl
theorem cells159 : Tryd.prog.cellsOf 159 = 64 := by kernel_rfl
theorem cells5 : Tryd.prog.cellsOf 5 = 1 := by kernel_rfl
theorem gl_of {W : World} (h : laidMetH Tryd.prog Rows.heldGetsRow.laid W) : Gl W := by
  have ht : Lib.TabIs Tryd.prog W debName .u8 debTab := Lib.tabIs_of_head (rest := []) gTab gTabType underlying159 underlying5 cells5 cells159 h
  intro p hp j u hj
  have e : globs = [(0, debTab.map fun n => Value.int .u8 n)] := by kernel_rfl
  rw [e] at hp
  have hp := List.mem_singleton.1 hp
  subst hp
  simp only [List.getElem?_map] at hj
  obtain ⟨n, hn, rfl⟩ := Option.map_eq_some_iff.1 hj
  obtain ⟨hlt, rfl⟩ := List.getElem?_eq_some_iff.1 hn
  have := ht.cell gTab j hlt
  rw [this]
  simp [List.getD, hlt]
/-- The world of a witness: the settled one, the table holding what its initialiser lays. -/
noncomputable def laidWorld (os : Os) : World :=
  { World.holding Tryd.prog os ⟨#[], #[], []⟩ with heap := (World.holding Tryd.prog os ⟨#[], #[], []⟩).heap.modify 0 fun
      | .cells _ t frozen => .cells (debTab.map fun n => Value.int .u8 n).toArray t frozen
      | o => o }
end Go.Proofs.YtbmgafmmaihmfaaDoor
