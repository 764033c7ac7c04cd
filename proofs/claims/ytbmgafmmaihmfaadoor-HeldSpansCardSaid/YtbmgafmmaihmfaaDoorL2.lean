/- The evaluator's single operations against the machine's. No statement of a law is proved here. -/
import Derived.Test.YtbmgafmmaihmfaaDoorL1
import Derived.Tactics
import Derived.Laws.Cells
import Derived.Laws.CopyRow
set_option linter.unusedVariables false
set_option linter.unusedSimpArgs false
namespace Go.Bw
open Go.RowKit

/-! ### what it is to answer -/
namespace M
variable {α β : Type}
theorem Is.eq {x : M α} {a b : α} (h : x.Is a) (k : x.Is b) : a = b := by
  classical
  have e := (h (fun c => if c = b then some .nilI else none)).symm.trans (k _)
  by_cases hab : a = b
  · exact hab
  · simp [hab] at e
theorem is_pure {a b : α} : (pure a : M α).Is b ↔ a = b := ⟨fun h => (Is.eq (x := (pure a : M α)) (fun _ => rfl) h), fun h => by subst h; exact fun _ => rfl⟩
theorem is_ret {a b : α} : (M.ret a : M α).Is b ↔ a = b := is_pure
theorem is_fail {b : α} : (M.fail : M α).Is b ↔ False := ⟨fun h => by simpa [M.fail] using h (fun _ => some .nilI), False.elim⟩
theorem is_lift {o : Option α} {b : α} : (M.lift o).Is b ↔ o = some b := by
  cases o with
  | none => exact ⟨fun h => by simpa [M.lift] using h (fun _ => some .nilI), fun h => by cases h⟩
  | some a => exact ⟨fun h => by rw [Is.eq (x := M.lift (some a)) (fun _ => rfl) h], fun h => by injection h with h; subst h; exact fun _ => rfl⟩
theorem is_bind {x : M α} {f : α → M β} {b : β} : (x >>= f).Is b ↔ ∃ a, x.Is a ∧ (f a).Is b := by
  constructor
  · intro h
    rcases x.det with h' | ⟨a, h'⟩
    · have := (h (fun _ => some .nilI)).symm.trans (h' _)
      cases this
    · exact ⟨a, h', fun k => (h' (fun a => (f a).run k)).symm.trans (h k)⟩
  · rintro ⟨a, h1, h2⟩ k
    exact (h1 _).trans (h2 k)
theorem is_bnd {x : M α} {f : α → M β} {b : β} : (M.bnd x f).Is b ↔ ∃ a, x.Is a ∧ (f a).Is b := is_bind
theorem is_ite {c : Bool} {x y : M α} {b : α} : (M.ite c x y).Is b ↔ (c = true ∧ x.Is b) ∨ (c = false ∧ y.Is b) := by
  cases c
  · exact ⟨fun h => .inr ⟨rfl, h⟩, fun h => by rcases h with ⟨h, _⟩ | ⟨_, h⟩; cases h; exact h⟩
  · exact ⟨fun h => .inl ⟨rfl, h⟩, fun h => by rcases h with ⟨_, h⟩ | ⟨h, _⟩; exact h; cases h⟩
theorem is_told {x : M PV} {p : PV} : (M.told x).Is p ↔ x.Is p := by
  rw [show M.told x = M.lift (x.run some) from rfl, is_lift]
  constructor
  · intro h
    rcases x.det with h' | ⟨a, h'⟩
    · rw [h'] at h; cases h
    · rw [h' some] at h
      injection h with h
      subst h
      exact h'
  · intro h
    exact h some
theorem is_cond {c : Bool} {x y : M α} {b : α} : (bif c then x else y).Is b ↔ (c = true ∧ x.Is b) ∨ (c = false ∧ y.Is b) := by cases c <;> simp
theorem is_of_run {x : M α} {k : α → Option PV} {r : PV} (h : x.run k = some r) : ∃ a, x.Is a ∧ k a = some r := by
  rcases x.det with h' | ⟨a, h'⟩
  · rw [h'] at h; cases h
  · exact ⟨a, h', (h' k).symm.trans h⟩
end M
open M

/-! ### types -/
def turB : TypeDesc → TU → Bool
  | .int k, .int k' => k == k'
  | .float k, .flt k' => k == k'
  | .bool, .bool => true
  | .string, .str => true
  | .slice e, .slice e' => e == e'
  | .array n e, .arr n' e' => n == n' && e == e'
  | .struct fs, .struct gs => fs.toList.map (fun f => (f.type, f.offset)) == gs
  | .pointer e, .ptr e' => e == e'
  | _, .other => true
  | _, _ => false
def aggB : TypeDesc → Bool | .struct _ => true | .array _ _ => true | _ => false
def cellB : Value → PV → Bool
  | .int k n, .int k' n' => k == k' && n == n'
  | .bool b, .bool b' => b == b'
  | .string s, .str s' => s.data == s'.data
  | .float k b, .flt k' b' => k == k' && b == b'
  | .slice none 0 0, .list _ [] => true
  | .nilIface, .nilI => true
  | _, _ => false
def cellsB : List Value → List PV → Bool
  | [], [] => true
  | v :: vs, p :: ps => cellB v p && cellsB vs ps
  | _, _ => false
def tokB (P : Program) (t : Nat) (I : TI) : Bool :=
  match P.info? t, P.underlying t with
  | some i, some d => i.size == I.size && i.bytes == I.bytes && (match i.zero with | some z => cellsB z.cells.toList I.zero && z.cells.size == I.size && (match z with | .agg _ => I.agg | .tuple _ => false | _ => !I.agg) | none => false) && turB d I.u && (aggB d == I.agg) && Nat.blt 0 I.size && Nat.blt 0 I.bytes && Nat.ble I.bytes 256
  | _, _ => false
structure TFact (P : Program) (t : Nat) (I : TI) (i : TypeInfo) (d : TypeDesc) (z : Value) : Prop where
  info : P.info? t = some i
  und : P.underlying t = some d
  size : i.size = I.size
  bytes : i.bytes = I.bytes
  zero : i.zero = some z
  zsize : z.cells.size = I.size
  zcells : cellsB z.cells.toList I.zero = true
  zagg : ∀ cs, z = .agg cs → I.agg = true
  zone : I.agg = false → z.oneCell' = true ∧ z.cells = #[z]
  zag : I.agg = true → ∃ cs, z = .agg cs
  tur : turB d I.u = true
  agg : aggB d = I.agg
  pos : 0 < I.size
  bpos : 0 < I.bytes
  bmax : I.bytes ≤ 256
/-- The table tells the program's types. -/
def TOk (P : Program) (T : Nat → TI) : Prop := ∀ t, T t = default ∨ ∃ i d z, TFact P t (T t) i d z
theorem tok_of_list {P : Program} {l : List (Nat × TI)} (h : l.all (fun p => tokB P p.1 p.2) = true) : TOk P (tabGet l) := by
  induction l with
  | nil => intro t; exact .inl rfl
  | cons p r ih =>
    obtain ⟨j, I⟩ := p
    simp only [List.all_cons, Bool.and_eq_true] at h
    obtain ⟨h1, h2⟩ := h
    intro t
    have ih := ih h2 t
    unfold tabGet
    cases hj : Nat.beq j t with
    | false => exact ih
    | true =>
      refine .inr ?_
      have : j = t := Nat.eq_of_beq_eq_true hj
      subst this
      simp only [cond_true]
      unfold tokB at h1
      cases hi : P.info? j with
      | none => simp [hi] at h1
      | some i =>
        cases hd : P.underlying j with
        | none => simp [hi, hd] at h1
        | some d =>
          cases hz : i.zero with
          | none => simp [hi, hd, hz] at h1
          | some z =>
            simp only [hi, hd, hz, Bool.and_eq_true, beq_iff_eq] at h1
            obtain ⟨⟨⟨⟨⟨⟨⟨e1, e2⟩, ⟨e3, e4⟩, e5⟩, e6⟩, e7⟩, e8⟩, e9⟩, e10⟩ := h1
            refine ⟨i, d, z, ⟨hi, hd, e1, e2, hz, e4, e3, ?_, ?_, ?_, e6, e7, Nat.le_of_ble_eq_true e8, Nat.le_of_ble_eq_true e9, Nat.le_of_ble_eq_true e10⟩⟩
            · rintro cs rfl; exact e5
            · intro hf
              cases z <;> first | exact ⟨rfl, rfl⟩ | (simp [hf] at e5)
            · intro hf
              cases z <;> first | exact ⟨_, rfl⟩ | (simp [hf] at e5)

theorem cellB_rel {v : Value} {p : PV} (h : cellB v p = true) (w : World) (ok : Nat → Nat → Prop) : PR w ok v p ∧ p.scal = true := by
  unfold cellB at h
  split at h <;> simp only [Bool.and_eq_true, beq_iff_eq, Bool.false_eq_true] at h
  · obtain ⟨rfl, rfl⟩ := h; exact ⟨.int _ _, rfl⟩
  · subst h; exact ⟨.bool _, rfl⟩
  · rename_i s s'
    have : s = s' := by cases s; cases s'; simp_all
    subst this; exact ⟨.str _, rfl⟩
  · obtain ⟨rfl, rfl⟩ := h; exact ⟨.flt _ _, rfl⟩
  · exact ⟨.nil _ _ _, rfl⟩
  · exact ⟨.nilI, rfl⟩
theorem cellsB_rel : ∀ {vs : List Value} {ps : List PV}, cellsB vs ps = true → ∀ (w : World) (ok : Nat → Nat → Prop), vs.length = ps.length ∧ (∀ c, c ∈ ps → c.scal = true) ∧ ∀ (i : Nat) (v : Value) (c : PV), vs[i]? = some v → ps[i]? = some c → PR w ok v c
  | [], [], _, w, ok => ⟨rfl, by simp, by simp⟩
  | v :: vs, p :: ps, h, w, ok => by
    simp only [cellsB, Bool.and_eq_true] at h
    obtain ⟨h1, h2, h3⟩ := cellsB_rel h.2 w ok
    obtain ⟨g1, g2⟩ := cellB_rel h.1 w ok
    refine ⟨by simp [h1], ?_, ?_⟩
    · intro c hc
      rcases List.mem_cons.1 hc with rfl | hc
      · exact g2
      · exact h2 c hc
    · intro i v' c' e1 e2
      cases i with
      | zero => simp at e1 e2; subst e1; subst e2; exact g1
      | succ i => simp at e1 e2; exact h3 i v' c' e1 e2

/-! ### one operation: what is to be shown -/
section
variable (base : Nat) (okx : Nat → Nat → Prop) (w0 : World)
def Post (ρ : Rho) (H : Heap) (w : World) (nid : Nat) (v : LV) (H' : Heap) (val : Value) (w' : World) (ρ' : Rho) : Prop :=
  Evo (okF base okx H ρ) ρ H w (okF base okx H' ρ') ρ' H' w' ∧ WR base okx w0 w' ρ' H' ∧ LR w' (okF base okx H' ρ') ρ' H' val v ∧ ∀ id, id ≠ nid → ρ id = none → ρ' id = none
/-- The operation comes to v, and the heap to H'. -/
def Does (P : Program) (o : Oper) (a : Act) (ρ : Rho) (H : Heap) (w : World) (nid : Nat) (v : LV) (H' : Heap) : Prop :=
  ∀ Q : Exit → Act → World → Prop, o.wp P a w (fun a' w' => ∃ val ρ', a' = a.put o.dst val ∧ Post base okx w0 ρ H w nid v H' val w' ρ') Q
end
section
variable {base : Nat} {okx : Nat → Nat → Prop} {w0 : World} {P : Program} {o : Oper} {a : Act} {ρ : Rho} {H : Heap} {w : World} {nid : Nat}
theorem does_val {v : LV} {val : Value} (hw : WR base okx w0 w ρ H) (hrun : (execOp a.eval o).run P w = .ok (.value val) w) (hl : LR w (okF base okx H ρ) ρ H val v) :
    Does base okx w0 P o a ρ H w nid v H := by
  intro Q
  unfold Oper.wp
  rw [hrun]
  exact ⟨val, ρ, rfl, Evo.refl _ _ _ _, hw, hl, fun _ _ h => h⟩
end
end Go.Bw
