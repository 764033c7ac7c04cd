/- Summaries of functions, given. No statement of a law is proved here. -/
import Derived.Test.YtbmgafmmaihmfaaDoorL25
import Derived.KernelRfl
set_option linter.unusedVariables false
set_option linter.unusedSimpArgs false
namespace Go.Bw
open Go.RowKit M

theorem M.is_ofEq {α : Type} {x : M α} {f : (α → Option PV) → Option PV} {h : ∀ k, x.run k = f k} {a : α} : (M.ofEq x f h).Is a ↔ x.Is a :=
  ⟨fun hh k => (h k).trans (hh k), fun hh k => (h k).symm.trans (hh k)⟩
section
variable {P : Program} {T : Nat → TI} {G : Nat → Option Given} {A : Ann} {f : FuncId} {fn : Func} {c : Code}
theorem callOk_of (hf : P.funcs[f]? = some fn) (hb : fn.body = some c) (hn : (fn.name == "runtime.NumGoroutine") = false) : CallOk P f := ⟨fn, hf, hn, by rw [hb]; rfl⟩
theorem args_pv {w : World} {okx : Nat → Nat → Prop} {vs : List Value} {ps : List PV} (h : ArgsR (PR w okx) vs ps) : ArgsR (LR w okx rho0 heap0) vs (ps.map LV.pv) := by
  refine ⟨by simpa using h.1, fun i v l h1 h2 => ?_⟩
  rw [List.getElem?_map] at h2
  cases hp : ps[i]? with
  | none => rw [hp] at h2; cases h2
  | some p =>
    rw [hp] at h2
    injection h2 with h2
    subst h2
    exact .pv _ _ (h.2 i v p h1 hp)
/-- A summary by values. -/
theorem given_p (hT : TOk P T) (hG : GOk P G) (hmix : P.follows .mixedOrders = true) (hf : P.funcs[f]? = some fn) (hb : fn.body = some c) (hL : LoopsOk T G c A) (hB : slotsB fn.ntmps c = true) (hn : (fn.name == "runtime.NumGoroutine") = false) {k : Nat} (hk : k ≤ fn.ntmps)
    {F : List PV → Option PV} (hF : ∀ ps r, F ps = some r → ps.length = k ∧ lfunP T G A fn (ps.map LV.pv) = some r) : GivenOk P f (.pcall F) := by
  refine ⟨callOk_of hf hb hn, fun ps r h w okx vs hgl ha => ?_⟩
  obtain ⟨h1, h2⟩ := hF ps r h
  exact lfunP_back hT hG hmix hf hb hL hB (by simpa [h1] using hk) h2 w okx vs hgl (args_pv ha)
/-- A summary by values and closed functions. -/
theorem given_f (hT : TOk P T) (hG : GOk P G) (hmix : P.follows .mixedOrders = true) (hf : P.funcs[f]? = some fn) (hb : fn.body = some c) (hL : LoopsOk T G c A) (hB : slotsB fn.ntmps c = true) (hn : (fn.name == "runtime.NumGoroutine") = false) {k : Nat} (hk : k ≤ fn.ntmps)
    {F : List LV → Option PV} (hF : ∀ ps r, F ps = some r → ps.length = k ∧ lfunP T G A fn ps = some r) : GivenOk P f (.fcall F) := by
  refine ⟨callOk_of hf hb hn, fun ps r h w okx vs hgl ha => ?_⟩
  obtain ⟨h1, h2⟩ := hF ps r h
  exact lfunP_back hT hG hmix hf hb hL hB (by omega) h2 w okx vs hgl ha
/-- A table of summaries. -/
theorem gok_of {l : List (Nat × Given)} (h : ∀ p, p ∈ l → GivenOk P p.1 p.2) : GOk P (assoc l) := by
  intro f g hg
  induction l with
  | nil => cases hg
  | cons p r ih =>
    obtain ⟨j, x⟩ := p
    simp only [assoc] at hg
    cases hj : Nat.beq j f with
    | true =>
      rw [hj] at hg
      injection hg with hg
      subst hg
      have := Nat.eq_of_beq_eq_true hj
      subst this
      exact h _ List.mem_cons_self
    | false =>
      rw [hj] at hg
      exact ih (fun p hp => h p (List.mem_cons_of_mem _ hp)) hg
theorem slots_nil {f g : Nat → LV} : ∀ s, s ∈ ([] : List Nat) → f s = g s := by simp
theorem slots_cons {f g : Nat → LV} {s : Nat} {l : List Nat} (h : f s = g s) (hl : ∀ s, s ∈ l → f s = g s) : ∀ t, t ∈ s :: l → f t = g t := by
  intro t ht
  rcases List.mem_cons.1 ht with rfl | ht
  · exact h
  · exact hl t ht
theorem heap_nil {f g : Heap} : ∀ s, s ∈ ([] : List Nat) → f s = g s := by simp
theorem heap_cons {f g : Heap} {s : Nat} {l : List Nat} (h : f s = g s) (hl : ∀ s, s ∈ l → f s = g s) : ∀ t, t ∈ s :: l → f t = g t := by
  intro t ht
  rcases List.mem_cons.1 ht with rfl | ht
  · exact h
  · exact hl t ht
theorem loop_fin {b : LS → M (LOut × LS)} {S0 S m : LS} {t : Tpl} {g : (LOut × LS → Option PV) → Option PV} {hg : ∀ k, (liter b FU m).run k = g k} {p : LOut × LS} (hs : (M.ofEq (liter b FU m) g hg).Is p) (hn : (norm t S0).Is S) (hk : t.keep = false)
    (h1 : ∀ s, s ∈ t.slots → S.sl s = m.sl s) (h2 : ∀ i, i ∈ t.ids → S.H i = m.H i) (m1 : m.sl = normSl m.sl t.slots) (m2 : m.H = normH m.H t.ids) (m3 : m.nx = t.nx) (m4 : m.lim = 0) : (liter b FU S).Is p := by
  rw [norm_eq hn hk h1 h2 m1 m2 m3 m4]
  exact M.is_ofEq.1 hs
/-- A told loop. -/
theorem loopOk_of {c' : Code} {A' : Ann} {s : LS → M (LOut × LS)} {t : Tpl} (h1 : (firstRegion c').bind A.loop = some s) (h2 : (firstRegion c').bind A.head = some t) (hi : LoopsOk T G c' A')
    (h : ∀ S0 S o S', (norm t S0).Is S → (s S).Is (o, S') → (liter (lbody T G A' c') FU S).Is (o, S')) : LoopsOk T G (.loop c') A := by
  intro f hf
  rw [h1] at hf
  injection hf with hf
  subst hf
  refine ⟨A', hi, fun S0 S o S' hn hs => ⟨FU, h S0 S o S' ?_ hs⟩⟩
  rw [h2] at hn
  exact hn
end
end Go.Bw
