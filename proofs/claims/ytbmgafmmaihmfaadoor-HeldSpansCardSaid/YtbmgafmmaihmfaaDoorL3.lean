/- The evaluator's single operations against the machine's: those that only reckon. No statement of a law is proved here. -/
import Derived.Test.YtbmgafmmaihmfaaDoorL2
set_option linter.unusedVariables false
set_option linter.unusedSimpArgs false
namespace Go.Bw
open Go.RowKit M

/-! ### what a told value is -/
section
variable {w : World} {ok : Nat → Nat → Prop} {ρ : Rho} {H : Heap} {v : Value}
theorem LR.pvI {p : PV} (h : LR w ok ρ H v (.pv p)) : PR w ok v p := by cases h; assumption
theorem LR.ptrI {id off : Nat} (h : LR w ok ρ H v (.ptr id off)) : ∃ r, ρ id = some r ∧ (∀ c, H id = some (.box c) → ∃ b, r = .pointer (some ⟨b, 0, none⟩) ∧ v = .pointer (some ⟨b, off, none⟩)) ∧ ∃ a, v = .pointer (some a) := by
  cases h with | ptr _ _ _ r hr hh ha => exact ⟨r, hr, hh, ha⟩
theorem LR.eptrI {cs : List PV} {off : Nat} (h : LR w ok ρ H v (.eptr cs off)) : ∃ b o, v = .pointer (some ⟨b, o + off, none⟩) ∧ (∀ c, c ∈ cs → c.scal = true) ∧ ∀ (j : Nat) (c : PV), cs[j]? = some c → ∃ u, w.cell? ⟨b, o + j, none⟩ = some u ∧ ok b (o + j) ∧ PR w ok u c := by
  cases h with | eptr b o _ _ hs hh => exact ⟨b, o, rfl, hs, hh⟩
theorem LR.oslI {id len : Nat} (h : LR w ok ρ H v (.osl id len)) : ∃ r, ρ id = some r ∧ (∀ e sz xs s, H id = some (.sl e sz xs s) → len ≤ xs.length ∧ (len = xs.length → v = r)) ∧ ∃ A c, v = .slice A len c ∧ (0 < len → A.isSome = true) := by
  cases h with | osl _ _ _ r hr hh ha => exact ⟨r, hr, hh, ha⟩
theorem LR.optrI {id len i off : Nat} (h : LR w ok ρ H v (.optr id len i off)) : ∃ r, ρ id = some r ∧ (∀ e sz xs s, H id = some (.sl e sz xs s) → len ≤ xs.length ∧ (len = xs.length → i < len → ∃ b, blk r = some b ∧ v = .pointer (some ⟨b, i * sz + off, none⟩))) ∧ ∃ a, v = .pointer (some a) := by
  cases h with | optr _ _ _ _ _ r hr hh ha => exact ⟨r, hr, hh, ha⟩
theorem LR.aggI {cs : List LV} (h : LR w ok ρ H v (.agg cs)) : ∃ vs : List Value, v = .agg vs.toArray ∧ vs.length = cs.length ∧ (∀ c, c ∈ cs → c.scal = true) ∧ ∀ (i : Nat) (u : Value) (c : LV), vs[i]? = some u → cs[i]? = some c → LR w ok ρ H u c := by
  cases h with | agg vs _ hl hsc hh => exact ⟨vs, rfl, hl, hsc, hh⟩
theorem LR.cloI {f : Nat} {cs : List LV} (h : LR w ok ρ H v (.clo f cs)) : ∃ vs : List Value, v = .func (.func f) #[] vs.toArray ∧ vs.length = cs.length ∧ ∀ (i : Nat) (u : Value) (c : LV), vs[i]? = some u → cs[i]? = some c → LR w ok ρ H u c := by
  cases h with | clo _ vs _ hl hh => exact ⟨vs, rfl, hl, hh⟩
theorem LR.tupI {cs : List LV} (h : LR w ok ρ H v (.tup cs)) : ∃ vs : List Value, v = .tuple vs.toArray ∧ vs.length = cs.length ∧ ∀ (i : Nat) (u : Value) (c : LV), vs[i]? = some u → cs[i]? = some c → LR w ok ρ H u c := by
  cases h with | tup vs _ hl hh => exact ⟨vs, rfl, hl, hh⟩
theorem PR.intI {k : IntKind} {n : Int} (h : PR w ok v (.int k n)) : v = .int k n := by cases h; rfl
theorem PR.boolI {b : Bool} (h : PR w ok v (.bool b)) : v = .bool b := by cases h; rfl
theorem PR.strI {s : ByteArray} (h : PR w ok v (.str s)) : v = .string s := by cases h; rfl
theorem PR.fltI {k : FloatKind} {b : Nat} (h : PR w ok v (.flt k b)) : v = .float k b := by cases h; rfl
theorem PR.listI {sz : Nat} {xs : List (List PV)} (h : PR w ok v (.list sz xs)) : ∃ A c, v = .slice A xs.length c ∧ xs.length ≤ c ∧ (∀ cs, cs ∈ xs → cs.length = sz) ∧ (∀ cs, cs ∈ xs → ∀ c, c ∈ cs → c.scal = true) ∧
    ∃ u : Nat → Nat → Value, (xs ≠ [] → ∃ b o, A = some ⟨b, o, none⟩ ∧ ∀ i j, i < xs.length → j < sz → w.cell? ⟨b, o + i * sz + j, none⟩ = some (u i j) ∧ ok b (o + i * sz + j)) ∧
      ∀ (i : Nat) (cs : List PV) (j : Nat) (c : PV), xs[i]? = some cs → cs[j]? = some c → PR w ok (u i j) c := by
  cases h with
  | list A cap _ _ u hcap hsz hsc hA hrel => exact ⟨A, cap, rfl, hcap, hsz, hsc, u, hA, hrel⟩
  | nil A cap => exact ⟨A, cap, rfl, Nat.zero_le _, by simp, by simp, fun _ _ => .nilFunc, by simp, by simp⟩
theorem PR.aggI {cs : List PV} (h : PR w ok v (.agg cs)) : ∃ vs : List Value, v = .agg vs.toArray ∧ vs.length = cs.length ∧ (∀ c, c ∈ cs → c.scal = true) ∧ ∀ (i : Nat) (u : Value) (c : PV), vs[i]? = some u → cs[i]? = some c → PR w ok u c := by
  cases h with
  | agg vs _ hl hsc h => exact ⟨vs, rfl, hl, hsc, h⟩
theorem PR.tupI {cs : List PV} (h : PR w ok v (.tup cs)) : ∃ vs : List Value, v = .tuple vs.toArray ∧ vs.length = cs.length ∧ ∀ (i : Nat) (u : Value) (c : PV), vs[i]? = some u → cs[i]? = some c → PR w ok u c := by
  cases h with
  | tup vs _ hl h => exact ⟨vs, rfl, hl, h⟩
end
theorem asPure_is {v : LV} {p : PV} : (asPure v).Is p ↔ v = .pv p := by
  cases v <;> simp [asPure, is_pure, is_fail]
theorem pint_some {p : PV} {n : Int} (h : pint p = some n) : ∃ k, p = .int k n := by
  cases p <;> simp [pint] at h
  subst h; exact ⟨_, rfl⟩
theorem pbool_some {p : PV} {b : Bool} (h : pbool p = some b) : p = .bool b := by
  cases p <;> simp [pbool] at h
  subst h; rfl
theorem pstr_some {p : PV} {s : ByteArray} (h : pstr p = some s) : p = .str s := by
  cases p <;> simp [pstr] at h
  subst h; rfl
theorem plist_some {p : PV} {xs : List (List PV)} (h : plist p = some xs) : ∃ sz, p = .list sz xs := by
  cases p <;> simp [plist] at h
  subst h; exact ⟨_, rfl⟩
theorem plistS_some {sz : Nat} {p : PV} {xs : List (List PV)} (h : plistS sz p = some xs) : ∃ s, p = .list s xs ∧ (s = sz ∨ xs = []) := by
  cases p <;> simp [plistS] at h
  obtain ⟨h1, h2⟩ := h
  subst h2; exact ⟨_, rfl, h1⟩
theorem pcells_some {n : Nat} {p : PV} {cs : List PV} (h : pcells n p = some cs) : p = .agg cs ∧ cs.length = n := by
  cases p <;> simp [pcells] at h
  obtain ⟨h1, h2⟩ := h
  subst h2; exact ⟨rfl, h1⟩
theorem pscal_some {p q : PV} (h : pscal p = some q) : q = p ∧ p.scal = true := by
  cases p <;> simp [pscal] at h <;> subst h <;> exact ⟨rfl, rfl⟩

/-! ### reckoning -/
section
variable {w : World} {ok : Nat → Nat → Prop} {P : Program} {v u : Value} {p q r : PV}
theorem ibin_run {op : BinOp} {k : IntKind} {x y : Int} (t : TypeId) (h : ibin op k x y = some r) (hs : isShift op = false) :
    ∃ z, (binOp op t (.int k x) (.int k y)).run P w = .ok z w ∧ PR w ok z r := by
  cases op <;> simp only [ibin, isShift, Bool.true_eq_false, reduceCtorEq] at h hs
  case quo =>
    split at h
    · cases h
    · rename_i hy
      injection h with h; subst h
      exact ⟨.int k (k.wrap (x.tdiv y)), by simp [binOp, Op.intDiv, hy], .int _ _⟩
  case rem =>
    split at h
    · cases h
    · rename_i hy
      injection h with h; subst h
      exact ⟨.int k (x.tmod y), by simp [binOp, Op.intDiv, hy], .int _ _⟩
  all_goals
    injection h with h; subst h
    cases k <;> first
      | exact ⟨_, rfl, .int _ _⟩
      | exact ⟨_, rfl, .bool _⟩
theorem ishift_run {op : BinOp} {k k' : IntKind} {x y : Int} (t : TypeId) (h : ishift op k x y = some r) (hs : isShift op = true) :
    ∃ z, (binOp op t (.int k x) (.int k' y)).run P w = .ok z w ∧ PR w ok z r := by
  unfold ishift at h
  split at h
  · cases h
  · rename_i hy
    cases op <;> simp [isShift] at hs <;> simp only [Option.some.injEq] at h <;> subst h
    · exact ⟨.int k (k.wrap (x * 2 ^ (min y.toNat k.bits))), by simp [binOp, Op.shift, hy], .int _ _⟩
    · exact ⟨.int k (x.fdiv (2 ^ (min y.toNat k.bits))), by simp [binOp, Op.shift, hy], .int _ _⟩
theorem sbin_run {op : BinOp} {x y : ByteArray} (t : TypeId) (h : sbin op x y = some r) :
    ∃ z, (binOp op t (.string x) (.string y)).run P w = .ok z w ∧ PR w ok z r := by
  cases op <;> simp only [sbin, reduceCtorEq] at h
  case add =>
    split at h
    · cases h
    · rename_i hy
      injection h with h; subst h
      exact ⟨_, by simp only [binOp, Op.stringOp, hy, if_false]; rfl, .str _⟩
  all_goals
    injection h with h; subst h
    exact ⟨_, by simp only [binOp, Op.stringOp]; rfl, .bool _⟩
theorem pbin_run {op : BinOp} (t : TypeId) (hv : PR w ok v p) (hu : PR w ok u q) (h : pbin op p q = some r) :
    ∃ z, (binOp op t v u).run P w = .ok z w ∧ PR w ok z r := by
  cases p <;> cases q <;> simp only [pbin, reduceCtorEq] at h
  · rw [hv.intI, hu.intI]
    cases hs : isShift op with
    | true => rw [hs] at h; exact ishift_run t h hs
    | false =>
      rw [hs] at h
      simp only [cond_false] at h
      split at h
      · rename_i hk; subst hk; exact ibin_run t h hs
      · cases h
  · rw [hv.strI, hu.strI]; exact sbin_run t h
theorem run_equalIn_bool (d : Nat) {t : TypeId} (a b : Bool) (h : P.underlying t = some .bool) : (Op.equalIn (d + 1) t (.bool a) (.bool b)).run P w = .ok (a == b) w := by
  simp [Op.equalIn, run_underlying h]
theorem peq_run {T : Nat → TI} {t : TypeId} {neq : Bool} (hT : TOk P T) (hv : PR w ok v p) (hu : PR w ok u q) (h : peq T t neq p q = some r) :
    ∃ z, (binOp (if neq then .neq else .eql) t v u).run P w = .ok z w ∧ PR w ok z r := by
  unfold peq at h
  split at h
  · rename_i a b hu'
    injection h with h; subst h
    rw [hv.boolI, hu.boolI]
    rcases hT t with hd | ⟨i, d, z, hf⟩
    · rw [hd] at hu'; cases hu'
    · have hd : d = .bool := by
        have := hf.tur
        rw [hu'] at this
        cases d <;> simp [turB] at this
        rfl
      have hun : P.underlying t = some .bool := hd ▸ hf.und
      cases neq
      · refine ⟨.bool (a == b), ?_, .bool _⟩
        show ((Op.equalIn (9999 + 1) t (.bool a) (.bool b)) >>= fun x => pure (Value.bool x)).run P w = _
        rw [Sem.run_bind, run_equalIn_bool 9999 a b hun]; rfl
      · refine ⟨.bool (!(a == b)), ?_, .bool _⟩
        show ((Op.equalIn (9999 + 1) t (.bool a) (.bool b)) >>= fun x => pure (Value.bool (!x))).run P w = _
        rw [Sem.run_bind, run_equalIn_bool 9999 a b hun]; rfl
  · cases h
theorem pun_run {op : UnOp} (hv : PR w ok v p) (h : pun op p = some r) : ∃ z, (Op.unary op v).run P w = .ok z w ∧ PR w ok z r := by
  cases p <;> simp only [pun, reduceCtorEq] at h
  · cases op <;> simp only [reduceCtorEq] at h
    injection h with h; subst h
    rw [hv.intI]
    exact ⟨_, by simp only [Op.unary, Op.intArith]; rfl, .int _ _⟩
  · cases op <;> simp only [reduceCtorEq] at h
    injection h with h; subst h
    rw [hv.boolI]
    exact ⟨_, by simp only [Op.unary]; rfl, .bool _⟩
theorem eqGuard_int (op : BinOp) (t : TypeId) (x y : Operand) (hv : PR w ok v p) (hp : (∃ k n, p = .int k n) ∨ (∃ b, p = .bool b) ∨ (∃ s, p = .str s)) : (eqGuard op t x y v u).run P w = .ok () w := by
  have : (∃ k n, v = .int k n) ∨ (∃ b, v = .bool b) ∨ (∃ s, v = .string s) := by
    rcases hp with ⟨k, n, rfl⟩ | ⟨b, rfl⟩ | ⟨s, rfl⟩
    · exact .inl ⟨k, n, hv.intI⟩
    · exact .inr (.inl ⟨b, hv.boolI⟩)
    · exact .inr (.inr ⟨s, hv.strI⟩)
  unfold eqGuard
  rcases this with ⟨k, n, rfl⟩ | ⟨b, rfl⟩ | ⟨s, rfl⟩ <;> cases op <;> simp
theorem pconv_run {T : Nat → TI} {src dst : TypeId} (hT : TOk P T) (hsrc : ∃ d, P.underlying src = some d) (hv : PR w ok v p) (h : pconv T dst p = some r) :
    ∃ z, (convert src dst v).run P w = .ok z w ∧ PR w ok z r := by
  obtain ⟨ds, hds⟩ := hsrc
  cases p <;> simp only [pconv, reduceCtorEq] at h
  · rename_i k n
    split at h
    · rename_i k' hk
      injection h with h; subst h
      rw [hv.intI]
      rcases hT dst with hd | ⟨i, d, z, hf⟩
      · rw [hd] at hk; cases hk
      · have hd : d = .int k' := by
          have := hf.tur
          rw [hk] at this
          cases d <;> simp [turB] at this
          subst this; rfl
        have hun : P.underlying dst = some (.int k') := hd ▸ hf.und
        exact ⟨.int k' (k'.wrap n), by simp [convert, run_underlying hun, run_underlying hds, Conv.intToInt], .int _ _⟩
    · cases h
  · rename_i s
    split at h
    · rename_i hk
      injection h with h; subst h
      rw [hv.strI]
      rcases hT dst with hd | ⟨i, d, z, hf⟩
      · rw [hd] at hk; cases hk
      · have hd : d = .string := by
          have := hf.tur
          rw [hk] at this
          cases d <;> simp [turB] at this
          rfl
        have hun : P.underlying dst = some .string := hd ▸ hf.und
        exact ⟨.string s, by simp [convert, run_underlying hun, run_underlying hds], .str _⟩
    · cases h
theorem pmax_run (hv : PR w ok v p) (hu : PR w ok u q) (h : pmax p q = some r) : ∃ z, (Builtin.max2 v u).run P w = .ok z w ∧ PR w ok z r := by
  cases p <;> cases q <;> simp only [pmax, reduceCtorEq] at h
  split at h
  · rename_i hk; subst hk
    injection h with h; subst h
    rw [hv.intI, hu.intI]
    exact ⟨_, by simp only [Builtin.max2, Sem.run_pure], .int _ _⟩
  · cases h
theorem pmin_run (hv : PR w ok v p) (hu : PR w ok u q) (h : pmin p q = some r) : ∃ z, (Builtin.min2 v u).run P w = .ok z w ∧ PR w ok z r := by
  cases p <;> cases q <;> simp only [pmin, reduceCtorEq] at h
  split at h
  · rename_i hk; subst hk
    injection h with h; subst h
    rw [hv.intI, hu.intI]
    exact ⟨_, by simp only [Builtin.min2, Sem.run_pure], .int _ _⟩
  · cases h
end
end Go.Bw
