/- What values by value say of memory, and how that stays. Plain definitions and lemmas; no statement of a law is proved here. -/
import Derived.Test.YtbmgafmmaihmfaaDoorL0
import Derived.Below
import Derived.Laws.AppendOwn
set_option linter.unusedVariables false
namespace Go.Bw
open Go.RowKit

def PV.scal : PV → Bool | .agg _ => false | .tup _ => false | _ => true

/-- A value of memory is told by value; ok: which cells may be told of. -/
inductive PR (w : World) (ok : Nat → Nat → Prop) : Value → PV → Prop
  | int (k : IntKind) (n : Int) : PR w ok (.int k n) (.int k n)
  | bool (b : Bool) : PR w ok (.bool b) (.bool b)
  | str (s : ByteArray) : PR w ok (.string s) (.str s)
  | flt (k : FloatKind) (b : Nat) : PR w ok (.float k b) (.flt k b)
  | list (A : Option Addr) (cap sz : Nat) (xs : List (List PV)) (u : Nat → Nat → Value) (hcap : xs.length ≤ cap)
      (hsz : ∀ cs, cs ∈ xs → cs.length = sz) (hsc : ∀ cs, cs ∈ xs → ∀ c, c ∈ cs → c.scal = true)
      (hA : xs ≠ [] → ∃ b o, A = some ⟨b, o, none⟩ ∧ ∀ i j, i < xs.length → j < sz → w.cell? ⟨b, o + i * sz + j, none⟩ = some (u i j) ∧ ok b (o + i * sz + j))
      (hrel : ∀ (i : Nat) (cs : List PV) (j : Nat) (c : PV), xs[i]? = some cs → cs[j]? = some c → PR w ok (u i j) c) : PR w ok (.slice A xs.length cap) (.list sz xs)
  | nil (A : Option Addr) (cap sz : Nat) : PR w ok (.slice A 0 cap) (.list sz [])
  | agg (vs : List Value) (cs : List PV) (hl : vs.length = cs.length) (hsc : ∀ c, c ∈ cs → c.scal = true)
      (h : ∀ (i : Nat) (v : Value) (c : PV), vs[i]? = some v → cs[i]? = some c → PR w ok v c) : PR w ok (.agg vs.toArray) (.agg cs)
  | ifc (t : Nat) (v : Value) (p : PV) (h : PR w ok v p) : PR w ok (.iface t v) (.ifc t p)
  | nilI : PR w ok .nilIface .nilI
  | tup (vs : List Value) (cs : List PV) (hl : vs.length = cs.length)
      (h : ∀ (i : Nat) (v : Value) (c : PV), vs[i]? = some v → cs[i]? = some c → PR w ok v c) : PR w ok (.tuple vs.toArray) (.tup cs)

theorem PR.one {w : World} {ok : Nat → Nat → Prop} {v : Value} {p : PV} (h : PR w ok v p) (hs : p.scal = true) : v.oneCell' = true := by
  cases h <;> first | rfl | simp [PV.scal] at hs

/-- What is told stays where the cells stay. -/
theorem PR.imp {w w' : World} {ok ok' : Nat → Nat → Prop} {v : Value} {p : PV} (h : PR w ok v p)
    (hc : ∀ b o u, w.cell? ⟨b, o, none⟩ = some u → ok b o → w'.cell? ⟨b, o, none⟩ = some u ∧ ok' b o) : PR w' ok' v p := by
  induction h with
  | int k n => exact .int k n
  | bool b => exact .bool b
  | str s => exact .str s
  | flt k b => exact .flt k b
  | list A cap sz xs u hcap hsz hsc hA hrel ih =>
    refine .list A cap sz xs u hcap hsz hsc (fun hne => ?_) ih
    obtain ⟨b, o, e, hh⟩ := hA hne
    exact ⟨b, o, e, fun i j hi hj => hc _ _ _ (hh i j hi hj).1 (hh i j hi hj).2⟩
  | nil A cap sz => exact .nil A cap sz
  | agg vs cs hl hsc h ih => exact .agg vs cs hl hsc ih
  | ifc t v p h ih => exact .ifc t v p ih
  | nilI => exact .nilI
  | tup vs cs hl h ih => exact .tup vs cs hl ih

theorem PR.okmono {w : World} {ok ok' : Nat → Nat → Prop} {v : Value} {p : PV} (h : PR w ok v p)
    (hc : ∀ b o u, w.cell? ⟨b, o, none⟩ = some u → ok b o → ok' b o) : PR w ok' v p := h.imp fun b o u h1 h2 => ⟨h1, hc b o u h1 h2⟩

/-- The block that a header leads to. -/
def blk : Value → Option Nat
  | .pointer (some a) => some a.block
  | .slice (some a) _ _ => some a.block
  | _ => none

abbrev Rho := Nat → Option Value

/-- A cell that may be written yet, as a part of an object. -/
def mutO : HObj → Value → Nat → Nat → Prop
  | .box _, r, b, _ => blk r = some b
  | .sl _ sz xs s, r, b, o => blk r = some b ∧ (s = true → xs.length * sz ≤ o)
/-- A cell that may be written yet. -/
def MC (H : Heap) (ρ : Rho) (b o : Nat) : Prop := ∃ id r ob, ρ id = some r ∧ H id = some ob ∧ mutO ob r b o
/-- A cell that may be told of: none that may be written; below the base: as the caller lets. -/
def okF (base : Nat) (okx : Nat → Nat → Prop) (H : Heap) (ρ : Rho) (b o : Nat) : Prop := (b < base → okx b o) ∧ ¬ MC H ρ b o

def LV.scal : LV → Bool | .pv p => p.scal | .agg _ => false | .tup _ => false | .any => false | _ => true

inductive LR (w : World) (ok : Nat → Nat → Prop) (ρ : Rho) (H : Heap) : Value → LV → Prop
  | any (v : Value) : LR w ok ρ H v .any
  | pv (v : Value) (p : PV) (h : PR w ok v p) : LR w ok ρ H v (.pv p)
  | ptr (v : Value) (id off : Nat) (r : Value) (hr : ρ id = some r)
      (h : ∀ c, H id = some (.box c) → ∃ b, r = .pointer (some ⟨b, 0, none⟩) ∧ v = .pointer (some ⟨b, off, none⟩)) (ha : ∃ a, v = .pointer (some a)) : LR w ok ρ H v (.ptr id off)
  | eptr (b o : Nat) (cs : List PV) (off : Nat) (hs : ∀ c, c ∈ cs → c.scal = true)
      (h : ∀ j c, cs[j]? = some c → ∃ u, w.cell? ⟨b, o + j, none⟩ = some u ∧ ok b (o + j) ∧ PR w ok u c) : LR w ok ρ H (.pointer (some ⟨b, o + off, none⟩)) (.eptr cs off)
  | osl (v : Value) (id len : Nat) (r : Value) (hr : ρ id = some r)
      (h : ∀ e sz xs s, H id = some (.sl e sz xs s) → len ≤ xs.length ∧ (len = xs.length → v = r)) (ha : ∃ A c, v = .slice A len c ∧ (0 < len → A.isSome = true)) : LR w ok ρ H v (.osl id len)
  | optr (v : Value) (id len i off : Nat) (r : Value) (hr : ρ id = some r)
      (h : ∀ e sz xs s, H id = some (.sl e sz xs s) → len ≤ xs.length ∧ (len = xs.length → i < len → ∃ b, blk r = some b ∧ v = .pointer (some ⟨b, i * sz + off, none⟩))) (ha : ∃ a, v = .pointer (some a)) : LR w ok ρ H v (.optr id len i off)
  | agg (vs : List Value) (cs : List LV) (hl : vs.length = cs.length) (hsc : ∀ c, c ∈ cs → c.scal = true)
      (h : ∀ (i : Nat) (v : Value) (c : LV), vs[i]? = some v → cs[i]? = some c → LR w ok ρ H v c) : LR w ok ρ H (.agg vs.toArray) (.agg cs)
  | clo (f : Nat) (vs : List Value) (cs : List LV) (hl : vs.length = cs.length)
      (h : ∀ (i : Nat) (v : Value) (c : LV), vs[i]? = some v → cs[i]? = some c → LR w ok ρ H v c) : LR w ok ρ H (.func (.func f) #[] vs.toArray) (.clo f cs)
  | tup (vs : List Value) (cs : List LV) (hl : vs.length = cs.length)
      (h : ∀ (i : Nat) (v : Value) (c : LV), vs[i]? = some v → cs[i]? = some c → LR w ok ρ H v c) : LR w ok ρ H (.tuple vs.toArray) (.tup cs)

theorem LR.one {w : World} {ok : Nat → Nat → Prop} {ρ : Rho} {H : Heap} {v : Value} {l : LV} (h : LR w ok ρ H v l) (hs : l.scal = true) : v.oneCell' = true := by
  cases h <;> first
    | rfl
    | (rename_i h; exact PR.one h hs)
    | (rename_i ha; obtain ⟨a, rfl⟩ := ha; rfl)
    | (rename_i ha; obtain ⟨A, c, rfl, _⟩ := ha; rfl)
    | (simp [LV.scal] at hs)

/-- From one time to a later one. -/
structure Evo (ok : Nat → Nat → Prop) (ρ : Rho) (H : Heap) (w : World) (ok' : Nat → Nat → Prop) (ρ' : Rho) (H' : Heap) (w' : World) : Prop where
  cells : ∀ b o u, w.cell? ⟨b, o, none⟩ = some u → ok b o → w'.cell? ⟨b, o, none⟩ = some u ∧ ok' b o
  rho : ∀ id r, ρ id = some r → ∃ r', ρ' id = some r'
  box : ∀ id r c', ρ id = some r → H' id = some (.box c') → (∃ c, H id = some (.box c)) ∧ ρ' id = some r
  sl : ∀ id r e sz xs' s', ρ id = some r → H' id = some (.sl e sz xs' s') → ∃ xs s, H id = some (.sl e sz xs s) ∧ xs.length ≤ xs'.length ∧ (xs.length = xs'.length → ρ' id = some r)

theorem Evo.refl (ok : Nat → Nat → Prop) (ρ : Rho) (H : Heap) (w : World) : Evo ok ρ H w ok ρ H w :=
  ⟨fun b o u h1 h2 => ⟨h1, h2⟩, fun id r h => ⟨r, h⟩, fun id r c' h1 h2 => ⟨⟨c', h2⟩, h1⟩, fun id r e sz xs' s' h1 h2 => ⟨xs', s', h2, Nat.le_refl _, fun _ => h1⟩⟩
theorem Evo.trans {ok ok' ok'' : Nat → Nat → Prop} {ρ ρ' ρ'' : Rho} {H H' H'' : Heap} {w w' w'' : World}
    (h : Evo ok ρ H w ok' ρ' H' w') (k : Evo ok' ρ' H' w' ok'' ρ'' H'' w'') : Evo ok ρ H w ok'' ρ'' H'' w'' := by
  refine ⟨fun b o u h1 h2 => ?_, fun id r hr => ?_, fun id r c' hr hb => ?_, fun id r e sz xs' s' hr hs => ?_⟩
  · obtain ⟨h3, h4⟩ := h.cells b o u h1 h2
    exact k.cells b o u h3 h4
  · obtain ⟨r', hr'⟩ := h.rho id r hr
    exact k.rho id r' hr'
  · obtain ⟨r', hr'⟩ := h.rho id r hr
    obtain ⟨⟨c, hc⟩, e1⟩ := k.box id r' c' hr' hb
    obtain ⟨h1, e2⟩ := h.box id r c hr hc
    refine ⟨h1, ?_⟩
    rw [e2] at hr'
    injection hr' with hr'
    rw [e1, hr']
  · obtain ⟨r', hr'⟩ := h.rho id r hr
    obtain ⟨xs1, s1, h1, l1, e1⟩ := k.sl id r' e sz xs' s' hr' hs
    obtain ⟨xs2, s2, h2, l2, e2⟩ := h.sl id r e sz xs1 s1 hr h1
    refine ⟨xs2, s2, h2, Nat.le_trans l2 l1, fun he => ?_⟩
    have ha : xs2.length = xs1.length := by omega
    have hb : xs1.length = xs'.length := by omega
    have e3 := e2 ha
    rw [hr'] at e3
    injection e3 with e3
    rw [e1 hb, e3]

theorem PR.evo {ok ok' : Nat → Nat → Prop} {ρ ρ' : Rho} {H H' : Heap} {w w' : World} (h : Evo ok ρ H w ok' ρ' H' w') {v : Value} {p : PV} (hp : PR w ok v p) : PR w' ok' v p := hp.imp h.cells

theorem LR.evo {ok ok' : Nat → Nat → Prop} {ρ ρ' : Rho} {H H' : Heap} {w w' : World} (h : Evo ok ρ H w ok' ρ' H' w') {v : Value} {l : LV} (hl : LR w ok ρ H v l) : LR w' ok' ρ' H' v l := by
  induction hl with
  | any v => exact .any v
  | pv v p hp => exact .pv v p (hp.evo h)
  | ptr v id off r hr hh ha =>
    obtain ⟨r', hr'⟩ := h.rho id r hr
    refine .ptr v id off r' hr' (fun c hc => ?_) ha
    obtain ⟨⟨c1, h1⟩, e⟩ := h.box id r c hr hc
    rw [hr'] at e
    injection e with e
    rw [e]
    exact hh c1 h1
  | eptr b o cs off hs hh =>
    refine .eptr b o cs off hs (fun j c hj => ?_)
    obtain ⟨u, h1, h2, h3⟩ := hh j c hj
    obtain ⟨h4, h5⟩ := h.cells b _ u h1 h2
    exact ⟨u, h4, h5, h3.evo h⟩
  | osl v id len r hr hh ha =>
    obtain ⟨r', hr'⟩ := h.rho id r hr
    refine .osl v id len r' hr' (fun e sz xs s hs => ?_) ha
    obtain ⟨xs1, s1, h1, l1, e1⟩ := h.sl id r e sz xs s hr hs
    obtain ⟨h2, h3⟩ := hh e sz xs1 s1 h1
    refine ⟨by omega, fun he => ?_⟩
    have e2 := e1 (by omega)
    rw [hr'] at e2
    injection e2 with e2
    rw [e2]
    exact h3 (by omega)
  | optr v id len i off r hr hh ha =>
    obtain ⟨r', hr'⟩ := h.rho id r hr
    refine .optr v id len i off r' hr' (fun e sz xs s hs => ?_) ha
    obtain ⟨xs1, s1, h1, l1, e1⟩ := h.sl id r e sz xs s hr hs
    obtain ⟨h2, h3⟩ := hh e sz xs1 s1 h1
    refine ⟨by omega, fun he hi => ?_⟩
    have e2 := e1 (by omega)
    rw [hr'] at e2
    injection e2 with e2
    rw [e2]
    exact h3 (by omega) hi
  | agg vs cs hl hsc hh ih => exact .agg vs cs hl hsc ih
  | clo f vs cs hl hh ih => exact .clo f vs cs hl ih
  | tup vs cs hl hh ih => exact .tup vs cs hl ih

/-- Cells, told. -/
def CellsR (w : World) (ok : Nat → Nat → Prop) (ρ : Rho) (H : Heap) (vs : List Value) : Cells → Prop
  | .pure cs => vs.length = cs.length ∧ (∀ c, c ∈ cs → c.scal = true) ∧ ∀ (i : Nat) (v : Value) (c : PV), vs[i]? = some v → cs[i]? = some c → PR w ok v c
  | .mix cs => vs.length = cs.length ∧ (∀ c, c ∈ cs → c.scal = true) ∧ ∀ (i : Nat) (v : Value) (c : LV), vs[i]? = some v → cs[i]? = some c → LR w ok ρ H v c

theorem CellsR.evo {ok ok' : Nat → Nat → Prop} {ρ ρ' : Rho} {H H' : Heap} {w w' : World} (h : Evo ok ρ H w ok' ρ' H' w') {vs : List Value} {c : Cells} (hc : CellsR w ok ρ H vs c) : CellsR w' ok' ρ' H' vs c := by
  cases c with
  | pure cs => exact ⟨hc.1, hc.2.1, fun i v c h1 h2 => (hc.2.2 i v c h1 h2).evo h⟩
  | mix cs => exact ⟨hc.1, hc.2.1, fun i v c h1 h2 => (hc.2.2 i v c h1 h2).evo h⟩
theorem CellsR.len {w : World} {ok : Nat → Nat → Prop} {ρ : Rho} {H : Heap} {vs : List Value} {c : Cells} (h : CellsR w ok ρ H vs c) : vs.length = c.len := by
  cases c with
  | pure cs => exact h.1
  | mix cs => exact h.1
theorem CellsR.one {w : World} {ok : Nat → Nat → Prop} {ρ : Rho} {H : Heap} {vs : List Value} {c : Cells} (h : CellsR w ok ρ H vs c) : ∀ v, v ∈ vs → v.oneCell' = true := by
  intro v hv
  obtain ⟨i, hi⟩ := List.mem_iff_getElem?.1 hv
  have hlt : i < vs.length := (List.getElem?_eq_some_iff.1 hi).1
  cases c with
  | pure cs =>
    have hj : i < cs.length := by rw [← h.1]; exact hlt
    exact (h.2.2 i v cs[i] hi (List.getElem?_eq_getElem hj)).one (h.2.1 _ (List.getElem_mem hj))
  | mix cs =>
    have hj : i < cs.length := by rw [← h.1]; exact hlt
    exact (h.2.2 i v cs[i] hi (List.getElem?_eq_getElem hj)).one (h.2.1 _ (List.getElem_mem hj))

/-- Rows' elements, told. -/
def RowsR (w : World) (ok : Nat → Nat → Prop) (sz : Nat) (vs : List Value) (xs : List (List PV)) : Prop :=
  (∀ cs, cs ∈ xs → cs.length = sz) ∧ (∀ cs, cs ∈ xs → ∀ c, c ∈ cs → c.scal = true) ∧
  ∀ (i : Nat) (cs : List PV) (j : Nat) (c : PV), xs[i]? = some cs → cs[j]? = some c → ∃ v, vs[i * sz + j]? = some v ∧ PR w ok v c
theorem RowsR.evo {ok ok' : Nat → Nat → Prop} {ρ ρ' : Rho} {H H' : Heap} {w w' : World} (h : Evo ok ρ H w ok' ρ' H' w') {sz : Nat} {vs : List Value} {xs : List (List PV)} (hr : RowsR w ok sz vs xs) : RowsR w' ok' sz vs xs :=
  ⟨hr.1, hr.2.1, fun i cs j c h1 h2 => by obtain ⟨v, h3, h4⟩ := hr.2.2 i cs j c h1 h2; exact ⟨v, h3, h4.evo h⟩⟩

def ObjR (base : Nat) (w : World) (ok : Nat → Nat → Prop) (ρ : Rho) (H : Heap) (r : Value) : HObj → Prop
  | .box c => ∃ b vs e, r = .pointer (some ⟨b, 0, none⟩) ∧ base ≤ b ∧ w.heap[b]? = some (.cells vs.toArray e (0, 0)) ∧ CellsR w ok ρ H vs c
  | .sl e sz xs _ => ∃ vs, w.ownsRow base e sz r xs.length vs ∧ RowsR w ok sz vs xs

/-- The package's tables, where the world holds them: block and cells. -/
def globs : List (Nat × List Value) := [(0, [0, 1, 56, 2, 57, 49, 28, 3, 61, 58, 42, 50, 38, 29, 17, 4, 62, 47, 59, 36, 45, 43, 51, 22, 53, 39, 33, 30, 24, 18, 12, 5, 63, 55, 48, 27, 60, 41, 37, 16, 46, 35, 44, 21, 52, 32, 23, 11, 54, 26, 40, 15, 34, 20, 31, 10, 25, 14, 19, 9, 13, 8, 7, 6].map fun n => Value.int .u8 n)]
def Gl (w : World) : Prop := ∀ p, p ∈ globs → ∀ (j : Nat) (u : Value), p.2[j]? = some u → w.cell? ⟨p.1, j, none⟩ = some u
structure WR (base : Nat) (okx : Nat → Nat → Prop) (w0 w : World) (ρ : Rho) (H : Heap) : Prop where
  below : Below base w0 w
  size : base ≤ w.heap.size
  obj : ∀ id o, H id = some o → ∃ r, ρ id = some r ∧ ObjR base w (okF base okx H ρ) ρ H r o
  apart : ∀ id id' r r' b, id ≠ id' → H id ≠ none → H id' ≠ none → ρ id = some r → ρ id' = some r' → blk r = some b → blk r' ≠ some b
  gl : ∀ w', Below base w0 w' → Gl w'

theorem hset_same (H : Heap) (id : Nat) (o : HObj) : hset H id o id = some o := by simp [hset]
theorem hset_other (H : Heap) (id : Nat) (o : HObj) {j : Nat} (h : j ≠ id) : hset H id o j = H j := by
  have : Nat.beq j id = false := Bool.eq_false_iff.2 fun e => h (Nat.eq_of_beq_eq_true e)
  simp [hset, this]
def rset (ρ : Rho) (id : Nat) (r : Value) : Rho := fun j => if j = id then some r else ρ j
theorem rset_same (ρ : Rho) (id : Nat) (r : Value) : rset ρ id r id = some r := by simp [rset]
theorem rset_other (ρ : Rho) (id : Nat) (r : Value) {j : Nat} (h : j ≠ id) : rset ρ id r j = ρ j := by simp [rset, h]
theorem mutO_blk {o : HObj} {r : Value} {b i : Nat} (h : mutO o r b i) : blk r = some b := by
  cases o with
  | box c => exact h
  | sl e sz xs s => exact h.1

theorem blk_own (v : Value) (A : Option Addr) (n c : Nat) (h : v = .slice A n c) : blk v = v.ownBlock := by subst h; cases A <;> rfl
theorem cell_lt {w : World} {b o : Nat} {u : Value} (h : w.cell? ⟨b, o, none⟩ = some u) : b < w.heap.size := World.block_lt_of_cell? w ⟨b, o, none⟩ h
theorem cell_same {w w' : World} {b o : Nat} {u : Value} (hh : w'.heap[b]? = w.heap[b]?) (h : w.cell? ⟨b, o, none⟩ = some u) : w'.cell? ⟨b, o, none⟩ = some u :=
  (World.cell?_of_block (w := w) (w' := w') (a := ⟨b, o, none⟩) hh).trans h

theorem Gl.below {w w' : World} (h : Gl w) (hb : Below w.heap.size w w') : Gl w' := fun p hp j u hj => cell_same (hb.block p.1 (cell_lt (h p hp j u hj))) (h p hp j u hj)
theorem ownsRow_slice {w : World} {base : Nat} {e : TypeId} {sz n : Nat} {v : Value} {xs : List Value} (h : w.ownsRow base e sz v n xs) : ∃ A c, v = .slice A n c ∧ n ≤ c := by
  rcases h.2 with ⟨rfl, rfl⟩ | ⟨g, cap, cur, rfl, _, _, hn, _⟩
  · exact ⟨none, 0, rfl, Nat.le_refl _⟩
  · exact ⟨_, cap, rfl, hn⟩
theorem ownsRow_move {w w1 : World} {base : Nat} {e : TypeId} {size n : Nat} {v : Value} {xs : List Value} (h : w.ownsRow base e size v n xs) (hm : ∀ k, blk v = some k → w1.heap[k]? = w.heap[k]?) : w1.ownsRow base e size v n xs := by
  obtain ⟨h1, h2⟩ := h
  refine ⟨h1, ?_⟩
  rcases h2 with h2 | ⟨g, cap, cur, rfl, hg, hh, r⟩
  · exact .inl h2
  · exact .inr ⟨g, cap, cur, rfl, hg, (hm g (by simp [blk])).trans hh, r⟩
theorem ObjR.lt {base : Nat} {w : World} {ok : Nat → Nat → Prop} {ρ : Rho} {H : Heap} {r : Value} {o : HObj} (h : ObjR base w ok ρ H r o) {b : Nat} (hb : blk r = some b) : base ≤ b ∧ b < w.heap.size := by
  cases o with
  | box c =>
    obtain ⟨b', vs, e, rfl, h1, h2, _⟩ := h
    simp [blk] at hb
    subst hb
    exact ⟨h1, (Array.getElem?_eq_some_iff.1 h2).1⟩
  | sl e sz xs s =>
    obtain ⟨vs, ho, _⟩ := h
    obtain ⟨A, c, hs, _⟩ := ownsRow_slice ho
    exact ho.lt b (by rw [← blk_own r A _ c hs]; exact hb)
theorem ObjR.keep {base : Nat} {w w' : World} {ok ok' : Nat → Nat → Prop} {ρ ρ' : Rho} {H H' : Heap} {r : Value} {o : HObj} (h : ObjR base w ok ρ H r o)
    (he : Evo ok ρ H w ok' ρ' H' w') (hb : ∀ b, blk r = some b → w'.heap[b]? = w.heap[b]?) : ObjR base w' ok' ρ' H' r o := by
  cases o with
  | box c =>
    obtain ⟨b', vs, e, rfl, h1, h2, h3⟩ := h
    exact ⟨b', vs, e, rfl, h1, (hb b' rfl).trans h2, h3.evo he⟩
  | sl e sz xs s =>
    obtain ⟨vs, ho, hr⟩ := h
    exact ⟨vs, ownsRow_move ho hb, hr.evo he⟩
theorem WR.hnone {base : Nat} {okx : Nat → Nat → Prop} {w0 w : World} {ρ : Rho} {H : Heap} (h : WR base okx w0 w ρ H) {id : Nat} (hr : ρ id = none) : H id = none := by
  cases hh : H id with
  | none => rfl
  | some o =>
    obtain ⟨r, e, _⟩ := h.obj id o hh
    rw [hr] at e
    cases e

/-- What an object's turn lets stay. -/
def kindOk (r r' : Value) : HObj → HObj → Prop
  | .box _, .box _ => r' = r
  | .sl e sz xs _, .sl e' sz' xs' _ => e = e' ∧ sz = sz' ∧ xs.length ≤ xs'.length ∧ (xs.length = xs'.length → r' = r)
  | _, _ => False

theorem evo_upd {base : Nat} {okx : Nat → Nat → Prop} {w0 w w' : World} {ρ : Rho} {H : Heap} {id : Nat} {r r' : Value} {o o' : HObj} (hw : WR base okx w0 w ρ H) (hid : H id = some o) (hr : ρ id = some r)
    (hkeep : ∀ k, k < w.heap.size → some k ≠ blk r → w'.heap[k]? = w.heap[k]?)
    (hcells : ∀ b off u, blk r = some b → w.cell? ⟨b, off, none⟩ = some u → ¬ mutO o r b off → w'.cell? ⟨b, off, none⟩ = some u ∧ ¬ mutO o' r' b off)
    (hnew : blk r' = blk r ∨ ∃ b', blk r' = some b' ∧ w.heap.size ≤ b') (hk : kindOk r r' o o') :
    Evo (okF base okx H ρ) ρ H w (okF base okx (hset H id o') (rset ρ id r')) (rset ρ id r') (hset H id o') w' := by
  refine ⟨fun b off u hc hok => ?_, fun j q hq => ?_, fun j q c' hq hc => ?_, fun j q e sz xs' s' hq hs => ?_⟩
  · have hlt := cell_lt hc
    have hno : ¬ mutO o r b off := fun hm => hok.2 ⟨id, r, o, hr, hid, hm⟩
    have key : w'.cell? ⟨b, off, none⟩ = some u ∧ ¬ mutO o' r' b off := by
      by_cases hb : blk r = some b
      · exact hcells b off u hb hc hno
      · refine ⟨cell_same (hkeep b hlt fun e => hb e.symm) hc, fun hm => ?_⟩
        rcases hnew with h | ⟨b', h, hle⟩
        · exact hb (h ▸ mutO_blk hm)
        · have := mutO_blk hm
          rw [h] at this
          injection this with this
          omega
    refine ⟨key.1, hok.1, ?_⟩
    rintro ⟨j, q, ob, h1, h2, h3⟩
    by_cases hj : j = id
    · subst hj
      rw [rset_same] at h1
      rw [hset_same] at h2
      injection h1 with h1
      injection h2 with h2
      subst h1
      subst h2
      exact key.2 h3
    · rw [rset_other _ _ _ hj] at h1
      rw [hset_other _ _ _ hj] at h2
      exact hok.2 ⟨j, q, ob, h1, h2, h3⟩
  · by_cases hj : j = id
    · subst hj; exact ⟨r', rset_same _ _ _⟩
    · exact ⟨q, (rset_other _ _ _ hj).trans hq⟩
  · by_cases hj : j = id
    · subst hj
      rw [hset_same] at hc
      injection hc with hc
      subst hc
      rw [hr] at hq
      injection hq with hq
      subst hq
      cases o with
      | box c => exact ⟨⟨c, hid⟩, by rw [rset_same]; exact congrArg some hk⟩
      | sl => exact hk.elim
    · rw [hset_other _ _ _ hj] at hc
      exact ⟨⟨c', hc⟩, (rset_other _ _ _ hj).trans hq⟩
  · by_cases hj : j = id
    · subst hj
      rw [hset_same] at hs
      injection hs with hs
      subst hs
      rw [hr] at hq
      injection hq with hq
      subst hq
      cases o with
      | box c => exact hk.elim
      | sl e1 sz1 xs1 s1 =>
        obtain ⟨rfl, rfl, hl, hr'⟩ := hk
        exact ⟨xs1, s1, hid, hl, fun he => by rw [rset_same]; exact congrArg some (hr' he)⟩
    · rw [hset_other _ _ _ hj] at hs
      exact ⟨xs', s', hs, Nat.le_refl _, fun _ => (rset_other _ _ _ hj).trans hq⟩

theorem wr_upd {base : Nat} {okx : Nat → Nat → Prop} {w0 w w' : World} {ρ : Rho} {H : Heap} {id : Nat} {r r' : Value} {o o' : HObj} (hw : WR base okx w0 w ρ H) (hid : H id = some o) (hr : ρ id = some r)
    (hkeep : ∀ k, k < w.heap.size → some k ≠ blk r → w'.heap[k]? = w.heap[k]?)
    (hnew : blk r' = blk r ∨ ∃ b', blk r' = some b' ∧ w.heap.size ≤ b')
    (he : Evo (okF base okx H ρ) ρ H w (okF base okx (hset H id o') (rset ρ id r')) (rset ρ id r') (hset H id o') w')
    (hb : Below base w0 w') (hs : w.heap.size ≤ w'.heap.size)
    (ho : ObjR base w' (okF base okx (hset H id o') (rset ρ id r')) (rset ρ id r') (hset H id o') r' o') : WR base okx w0 w' (rset ρ id r') (hset H id o') := by
  refine ⟨hb, Nat.le_trans hw.size hs, fun j ob hj => ?_, fun j j' q q' b hne h1 h2 hq hq' hbq hbq' => ?_, hw.gl⟩
  · by_cases hji : j = id
    · subst hji
      rw [hset_same] at hj
      injection hj with hj
      subst hj
      exact ⟨r', rset_same _ _ _, ho⟩
    · rw [hset_other _ _ _ hji] at hj
      obtain ⟨q, hq, hob⟩ := hw.obj j ob hj
      refine ⟨q, (rset_other _ _ _ hji).trans hq, hob.keep he fun b hbq => hkeep b (hob.lt hbq).2 fun e => ?_⟩
      exact hw.apart j id q r b hji (by rw [hj]; simp) (by rw [hid]; simp) hq hr hbq e.symm
  · have old : ∀ j q, j ≠ id → hset H id o' j ≠ none → rset ρ id r' j = some q → ∀ b, blk q = some b → b < w.heap.size ∧ blk r ≠ some b := by
      intro j q hji hH hq b hbq
      rw [hset_other _ _ _ hji] at hH
      rw [rset_other _ _ _ hji] at hq
      cases hh : H j with
      | none => exact absurd hh hH
      | some ob =>
        obtain ⟨q1, hq1, hob⟩ := hw.obj j ob hh
        rw [hq] at hq1
        injection hq1 with hq1
        subst hq1
        exact ⟨(hob.lt hbq).2, fun e => hw.apart j id q r b hji hH (by rw [hid]; simp) hq hr hbq e⟩
    have new : ∀ j q, j ≠ id → hset H id o' j ≠ none → rset ρ id r' j = some q → ∀ b, blk q = some b → blk r' ≠ some b := by
      intro j q hji hH hq b hbq e
      obtain ⟨h1, h2⟩ := old j q hji hH hq b hbq
      rcases hnew with h | ⟨b', h, hle⟩
      · rw [h] at e; exact h2 e
      · rw [h] at e
        injection e with e
        omega
    by_cases hj : j = id
    · subst hj
      rw [rset_same] at hq
      injection hq with hq
      subst hq
      exact new j' q' (fun e => hne e.symm) h2 hq' b hbq' hbq
    · by_cases hj' : j' = id
      · subst hj'
        rw [rset_same] at hq'
        injection hq' with hq'
        subst hq'
        exact new j q hj h1 hq b hbq hbq'
      · rw [hset_other _ _ _ hj] at h1
        rw [hset_other _ _ _ hj'] at h2
        rw [rset_other _ _ _ hj] at hq
        rw [rset_other _ _ _ hj'] at hq'
        exact hw.apart j j' q q' b hne h1 h2 hq hq' hbq hbq'

/-- A new object, in a block of its own. -/
theorem evo_new {base : Nat} {okx : Nat → Nat → Prop} {w0 w w' : World} {ρ : Rho} {H : Heap} {id : Nat} {r : Value} {o : HObj} (hw : WR base okx w0 w ρ H) (hr : ρ id = none)
    (hkeep : ∀ k, k < w.heap.size → w'.heap[k]? = w.heap[k]?) (hnew : ∀ b, blk r = some b → w.heap.size ≤ b) :
    Evo (okF base okx H ρ) ρ H w (okF base okx (hset H id o) (rset ρ id r)) (rset ρ id r) (hset H id o) w' := by
  have hne : ∀ j q, ρ j = some q → j ≠ id := fun j q hq e => by subst e; rw [hr] at hq; cases hq
  refine ⟨fun b off u hc hok => ⟨cell_same (hkeep b (cell_lt hc)) hc, hok.1, ?_⟩, fun j q hq => ⟨q, (rset_other _ _ _ (hne j q hq)).trans hq⟩, fun j q c' hq hc => ?_, fun j q e sz xs' s' hq hs => ?_⟩
  · rintro ⟨j, q, ob, h1, h2, h3⟩
    by_cases hj : j = id
    · subst hj
      rw [rset_same] at h1
      injection h1 with h1
      subst h1
      have := hnew b (mutO_blk h3)
      have := cell_lt hc
      omega
    · rw [rset_other _ _ _ hj] at h1
      rw [hset_other _ _ _ hj] at h2
      exact hok.2 ⟨j, q, ob, h1, h2, h3⟩
  · rw [hset_other _ _ _ (hne j q hq)] at hc
    exact ⟨⟨c', hc⟩, (rset_other _ _ _ (hne j q hq)).trans hq⟩
  · rw [hset_other _ _ _ (hne j q hq)] at hs
    exact ⟨xs', s', hs, Nat.le_refl _, fun _ => (rset_other _ _ _ (hne j q hq)).trans hq⟩
theorem wr_new {base : Nat} {okx : Nat → Nat → Prop} {w0 w w' : World} {ρ : Rho} {H : Heap} {id : Nat} {r : Value} {o : HObj} (hw : WR base okx w0 w ρ H) (hr : ρ id = none)
    (hkeep : ∀ k, k < w.heap.size → w'.heap[k]? = w.heap[k]?) (hnew : ∀ b, blk r = some b → w.heap.size ≤ b) (hb : Below base w0 w') (hs : w.heap.size ≤ w'.heap.size)
    (ho : ObjR base w' (okF base okx (hset H id o) (rset ρ id r)) (rset ρ id r) (hset H id o) r o) : WR base okx w0 w' (rset ρ id r) (hset H id o) := by
  have he := evo_new (o := o) hw hr hkeep hnew
  have old : ∀ j q, j ≠ id → hset H id o j ≠ none → rset ρ id r j = some q → ∀ b, blk q = some b → b < w.heap.size := by
    intro j q hji hH hq b hbq
    rw [hset_other _ _ _ hji] at hH
    rw [rset_other _ _ _ hji] at hq
    cases hh : H j with
    | none => exact absurd hh hH
    | some ob =>
      obtain ⟨q1, hq1, hob⟩ := hw.obj j ob hh
      rw [hq] at hq1
      injection hq1 with hq1
      subst hq1
      exact (hob.lt hbq).2
  refine ⟨hb, Nat.le_trans hw.size hs, fun j ob hj => ?_, fun j j' q q' b hne h1 h2 hq hq' hbq hbq' => ?_, hw.gl⟩
  · by_cases hji : j = id
    · subst hji
      rw [hset_same] at hj
      injection hj with hj
      subst hj
      exact ⟨r, rset_same _ _ _, ho⟩
    · rw [hset_other _ _ _ hji] at hj
      obtain ⟨q, hq, hob⟩ := hw.obj j ob hj
      exact ⟨q, (rset_other _ _ _ hji).trans hq, hob.keep he fun b hbq => hkeep b (hob.lt hbq).2⟩
  · by_cases hj : j = id
    · subst hj
      rw [rset_same] at hq
      injection hq with hq
      subst hq
      have a1 := old j' q' (fun e => hne e.symm) h2 hq' b hbq'
      have a2 := hnew b hbq
      omega
    · by_cases hj' : j' = id
      · subst hj'
        rw [rset_same] at hq'
        injection hq' with hq'
        subst hq'
        have a1 := old j q hj h1 hq b hbq
        have a2 := hnew b hbq'
        omega
      · rw [hset_other _ _ _ hj] at h1
        rw [hset_other _ _ _ hj'] at h2
        rw [rset_other _ _ _ hj] at hq
        rw [rset_other _ _ _ hj'] at hq'
        exact hw.apart j j' q q' b hne h1 h2 hq hq' hbq hbq'
end Go.Bw
