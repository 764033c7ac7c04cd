/- A function against the machine's. No statement of a law is proved here. -/
import Derived.Test.YtbmgafmmaihmfaaDoorL24
set_option linter.unusedVariables false
set_option linter.unusedSimpArgs false
namespace Go.Bw
open Go.RowKit M

theorem slotsOf_get (l : List LV) : ∀ (i t : Nat), slotsOf l i t = if i ≤ t then l.getD (t - i) .any else .any := by
  induction l with
  | nil => intro i t; simp [slotsOf]
  | cons v r ih =>
    intro i t
    simp only [slotsOf]
    by_cases h : t = i
    · subst h; rw [supd_same]; simp
    · rw [supd_other _ _ _ h, ih]
      by_cases h2 : i ≤ t
      · rw [if_pos (by omega), if_pos h2]
        rw [show t - i = (t - (i + 1)) + 1 by omega]
        simp
      · rw [if_neg (by omega), if_neg h2]
section
variable {base : Nat} {okx : Nat → Nat → Prop} {w0 : World} {n : Nat} {ρ0 : Rho} {H0 : Heap} {w1 : World} {fx : Bool} {P : Program} {T : Nat → TI} {G : Nat → Option Given} {A : Ann} {S : LS} {a : Act} {w : World} {ρ : Rho}
def resRun (tmps : Array Value) : ResultVar → Sem Value
  | .tmp t => pure (tmps.getD t undef)
  | .cell a t => do loadVar t (← asAddr (tmps.getD a undef))
theorem resOf_run (hT : TOk P T) (h : Sim base okx w0 n ρ0 H0 w1 fx ρ S a w) {rv : ResultVar} {lv : LV} (hr : (resOf T S rv).Is lv) : ∃ v, (resRun a.tmps rv).run P w = .ok v w ∧ LR w (okF base okx S.H ρ) ρ S.H v lv := by
  cases rv with
  | tmp t =>
    simp only [resOf, is_pure] at hr
    subst hr
    exact ⟨_, rfl, h.sl t⟩
  | cell x t =>
    simp only [resOf] at hr
    cases hn : nz T t with
    | false => simp [hn, is_fail] at hr
    | true =>
      simp only [hn, Bool.not_true, cond_false] at hr
      cases hx : S.sl x with
      | ptr id off =>
        simp only [hx] at hr
        cases hid : S.H id with
        | none => simp [hid, is_fail] at hr
        | some ob =>
          cases ob with
          | sl => simp [hid, is_fail] at hr
          | box c =>
            simp only [hid] at hr
            obtain ⟨r, hr1, b, vs, e, rfl, hb, hh, hcr⟩ := h.wr.obj id _ hid
            have hev := h.sl x
            rw [hx] at hev
            obtain ⟨r', hr', hbox, ha⟩ := hev.ptrI
            rw [hr1] at hr'
            injection hr' with hr'
            subst hr'
            obtain ⟨b', e1, e2⟩ := hbox c hid
            injection e1 with e1
            injection e1 with e1
            injection e1 with e1
            subst e1
            obtain ⟨val, hrun, hl⟩ := loadFrom_run (b := b) (o := 0) hT hn hr hcr (fun j u hj => by rw [Nat.zero_add, cell_row hh]; simpa using hj)
            rw [Nat.zero_add] at hrun
            refine ⟨val, ?_, hl⟩
            have e3 : a.tmps.getD x undef = .pointer (some ⟨b, off, none⟩) := e2
            simp only [resRun, e3, Sem.run_bind, asAddr, Sem.run_pure, Result.andThen_ok, hrun]
      | _ => simp [hx, is_fail] at hr
theorem resL_run (hT : TOk P T) (h : Sim base okx w0 n ρ0 H0 w1 fx ρ S a w) : ∀ {rs : List ResultVar} {ls : List LV}, (resL T S rs).Is ls → ∃ vs : List Value, (rs.mapM (resRun a.tmps)).run P w = .ok vs w ∧ ArgsR (LR w (okF base okx S.H ρ) ρ S.H) vs ls
  | [], ls, hr => by
    simp only [resL, is_pure] at hr
    subst hr
    exact ⟨[], rfl, rfl, by simp⟩
  | r :: rs, ls, hr => by
    simp only [resL, is_bind, is_pure] at hr
    obtain ⟨lv, h1, ls', h2, rfl⟩ := hr
    obtain ⟨v, g1, g2⟩ := resOf_run hT h h1
    obtain ⟨vs, g3, g4, g5⟩ := resL_run hT h h2
    refine ⟨v :: vs, ?_, by simp [g4], fun i u l k1 k2 => ?_⟩
    · simp only [List.mapM_cons, Sem.run_bind, g1, Result.andThen_ok, g3, Sem.run_pure]
    · cases i with
      | zero => simp at k1 k2; subst k1; subst k2; exact g2
      | succ i => exact g5 i u l (by simpa using k1) (by simpa using k2)
theorem results_run {fn : Func} {tmps : Array Value} {vs : List Value} (h : (fn.results.toList.mapM (resRun tmps)).run P w = .ok vs w) : (results fn tmps).run P w = .ok (if h : vs.toArray.size = 1 then vs.toArray[0] else .tuple vs.toArray) w := by
  have hf : results fn tmps = (do let vs ← fn.results.mapM (resRun tmps); pure (if h : vs.size = 1 then vs[0] else .tuple vs)) := by
    unfold results
    congr 1
  rw [hf, Array.mapM_eq_mapM_toList]
  simp only [Sem.run_bind, Sem.run_map, h, Result.andThen_ok, Sem.run_pure]
end
section
variable {P : Program} {T : Nat → TI} {G : Nat → Option Given} {A : Ann} {f : FuncId} {fn : Func} {c : Code}
/-- A function's code, told: it comes back with what is told. -/
theorem lfunP_back (hT : TOk P T) (hG : GOk P G) (hmix : P.follows .mixedOrders = true) (hf : P.funcs[f]? = some fn) (hb : fn.body = some c) (hL : LoopsOk T G c A) (hB : slotsB fn.ntmps c = true) {args : List LV} (hn : args.length ≤ fn.ntmps) {r : PV}
    (h : lfunP T G A fn args = some r) (w : World) (okx : Nat → Nat → Prop) (vs : List Value) (hgl : Gl w) (ha : ArgsR (LR w okx rho0 heap0) vs args) :
    Back P f vs w fun v w' => Below w.heap.size w w' ∧ PR w' (upto w.heap.size okx) v r := by
  have hI : (lfun T G A fn args 0 (fun _ => none) 0).Is r := by
    unfold lfunP at h
    obtain ⟨p, h1, h2⟩ := is_of_run h
    exact (Option.some.inj h2) ▸ h1
  unfold lfun at hI
  simp only [hb] at hI
  rw [is_bind] at hI
  obtain ⟨⟨o, S⟩, h1, h2⟩ := hI
  refine calls_of_wp hf hb ?_
  have hev : Evo okx rho0 heap0 w (okF w.heap.size okx heap0 rho0) rho0 heap0 w := by
    refine ⟨fun b o u g1 g2 => ⟨g1, fun _ => g2, ?_⟩, fun id r h => ⟨r, h⟩, fun id r c' h => (by cases h), fun id r e sz xs' s' h => (by cases h)⟩
    rintro ⟨id, r, ob, q, _⟩
    cases q
  have hlen : vs.length = args.length := ha.1
  have hsim : Sim w.heap.size okx w fn.ntmps rho0 heap0 w false rho0 { sl := slotsOf args 0, H := heap0, nx := 0, lim := 0 } { tmps := vs.toArray ++ Array.replicate (fn.ntmps - vs.toArray.size) undef, defers := [] } w := by
    refine ⟨⟨Below.refl _ _, Nat.le_refl _, fun id o h => (by cases h), fun id id' r r' b _ h => absurd rfl h, fun w' hb => hgl.below hb⟩, fun t => ?_, ?_, rfl, fun h => by cases h⟩
    · show LR w (okF w.heap.size okx heap0 rho0) rho0 heap0 (Array.getD _ t undef) (slotsOf args 0 t)
      rw [slotsOf_get, if_pos (Nat.zero_le _), Nat.sub_zero]
      by_cases ht : t < args.length
      · have hv : t < vs.length := Nat.lt_of_lt_of_eq ht hlen.symm
        have e1 : args.getD t .any = args[t] := by simp [List.getD, ht]
        have e2 : Array.getD (vs.toArray ++ Array.replicate (fn.ntmps - vs.toArray.size) undef) t undef = vs[t] := by
          rw [Array.getD_eq_getD_getElem?, Array.getElem?_append_left (by simpa using hv)]
          simp [hv]
        rw [e1, e2]
        exact (ha.2 t _ _ (List.getElem?_eq_getElem hv) (List.getElem?_eq_getElem ht)).evo hev
      · have e1 : args.getD t .any = .any := by simp [List.getD, ht]
        rw [e1]
        exact .any _
    · simp only [Array.size_append, Array.size_replicate, List.size_toArray]
      omega
  refine leval_wp hT hG hmix c hL hB hsim (fun _ _ => rfl) (Nat.le_refl _) (fun h => by cases h) h1 fun ρ' a' w' h' hf' => ?_
  have fin : ∀ r', (do let vs ← resL T S fn.results.toList; let ps ← purifyAL S.H vs; (match ps with | [p] => pure p | ps => pure (.tup ps) : M PV)).Is r' → r' = r →
      a'.defers = [] ∧ ∃ v, (results fn a'.tmps).run P w' = .ok v w' ∧ (∃ v', Ending.returned v = .returned v' ∧ Below w.heap.size w w' ∧ PR w' (upto w.heap.size okx) v' r) := by
    intro r' hr hrr
    rw [is_bind] at hr
    obtain ⟨ls, g1, hr⟩ := hr
    rw [is_bind] at hr
    obtain ⟨ps, g2, hr⟩ := hr
    obtain ⟨us, k1, k2, k3⟩ := resL_run hT h' g1
    obtain ⟨e1, e2, e3, e4⟩ := purifyAL_rel h'.wr g2 k2 k3
    have ok : ∀ {v p}, PR w' (okF w.heap.size okx (snapAL S.H ls) ρ') v p → PR w' (upto w.heap.size okx) v p := fun hp => hp.okmono fun b o _ _ hq => hq.1
    refine ⟨h'.defers, _, results_run k1, _, rfl, h'.wr.below, ?_⟩
    split at hr
    · rename_i p
      have hr := is_pure.1 hr
      rw [hr.trans hrr] at e4
      obtain ⟨u, rfl⟩ := List.length_eq_one_iff.1 (show us.length = 1 from e3.symm)
      exact ok (e4 0 u r rfl rfl)
    · rename_i ps hne
      have hr := is_pure.1 hr
      have hsz : ¬ us.toArray.size = 1 := by
        simp only [List.size_toArray]
        intro h1
        rw [← e3] at h1
        obtain ⟨p, hp⟩ := List.length_eq_one_iff.1 h1
        exact hne p hp
      rw [dif_neg hsz, ← hrr, ← hr]
      exact .tup _ _ e3.symm fun i v c q1 q2 => ok (e4 i v c q1 q2)
  cases o with
  | normal => exact fin r h2 rfl
  | ret => exact fin r h2 rfl
  | exit id => exact (is_fail.1 h2).elim
end
end Go.Bw
