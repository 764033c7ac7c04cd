/- Summaries of functions whose result is a row of their own; summaries put together. No statement of a law is proved here. -/
import Derived.Test.YtbmgafmmaihmfaaDoorL26
set_option linter.unusedVariables false
set_option linter.unusedSimpArgs false
namespace Go.Bw
open Go.RowKit M

def plistX (sz : Nat) : PV → Option (List (List PV)) | .list s xs => if s = sz then some xs else none | _ => none
theorem plistX_bind {sz : Nat} {o : Option PV} {xs : List (List PV)} (h : o.bind (plistX sz) = some xs) : o = some (.list sz xs) := by
  cases o with
  | none => cases h
  | some p =>
    simp only [Option.bind_some] at h
    cases p <;> simp only [plistX, reduceCtorEq] at h
    split at h
    · rename_i hs; injection h with h; subst hs; subst h; rfl
    · cases h
section
variable {P : Program} {T : Nat → TI} {G : Nat → Option Given} {A : Ann} {f : FuncId} {fn : Func} {c : Code}
theorem code_back (hT : TOk P T) (hG : GOk P G) (hmix : P.follows .mixedOrders = true) (hf : P.funcs[f]? = some fn) (hb : fn.body = some c) (hL : LoopsOk T G c A) (hB : slotsB fn.ntmps c = true) {args : List LV} (hn : args.length ≤ fn.ntmps)
    {o : LOut} {S : LS} (h1 : (leval T G A c { sl := slotsOf args 0, H := fun _ => none, nx := 0, lim := 0 }).Is (o, S)) (ho : ∀ id, o ≠ .exit id) (w : World) (okx : Nat → Nat → Prop) (vs : List Value) (hgl : Gl w) (ha : ArgsR (LR w okx rho0 heap0) vs args)
    {R : Value → World → Prop} (fin : ∀ ρ' a' w', Sim w.heap.size okx w fn.ntmps rho0 heap0 w false ρ' S a' w' → ∃ v, (results fn a'.tmps).run P w' = .ok v w' ∧ R v w') : Back P f vs w R := by
  refine calls_of_wp hf hb ?_
  have hev : Evo okx rho0 heap0 w (okF w.heap.size okx heap0 rho0) rho0 heap0 w := by
    refine ⟨fun b o u g1 g2 => ⟨g1, fun _ => g2, ?_⟩, fun id r h => ⟨r, h⟩, fun id r c' h => (by cases h), fun id r e sz xs' s' h => (by cases h)⟩
    rintro ⟨id, r, ob, q, _⟩
    cases q
  have hlen : vs.length = args.length := ha.1
  have hsim : Sim w.heap.size okx w fn.ntmps rho0 heap0 w false rho0 { sl := slotsOf args 0, H := heap0, nx := 0, lim := 0 } { tmps := vs.toArray ++ Array.replicate (fn.ntmps - vs.toArray.size) undef, defers := [] } w := by
    refine ⟨⟨Below.refl _ _, Nat.le_refl _, fun id o h => (by cases h), fun id id' r r' b _ h => absurd rfl h, fun w' hb => hgl.below hb⟩, fun t => ?_, ?_, rfl, fun h => by cases h⟩
    · show LR w (okF w.heap.size okx heap0 rho0) rho0 heap0 (Array.getD _ t undef) (slotsOf args 0 t)
      rw [slotsOf_get, if_pos (Nat.zero_le _), Nat.sub_zero]
      by_cases ht : t < args.length
      · have hv : t < vs.length := Nat.lt_of_lt_of_eq ht hlen.symm
        have e1 : args.getD t .any = args[t] := by simp [List.getD, ht]
        have e2 : Array.getD (vs.toArray ++ Array.replicate (fn.ntmps - vs.toArray.size) undef) t undef = vs[t] := by
          rw [Array.getD_eq_getD_getElem?, Array.getElem?_append_left (by simpa using hv)]
          simp [hv]
        rw [e1, e2]
        exact (ha.2 t _ _ (List.getElem?_eq_getElem hv) (List.getElem?_eq_getElem ht)).evo hev
      · have e1 : args.getD t .any = .any := by simp [List.getD, ht]
        rw [e1]
        exact .any _
    · simp only [Array.size_append, Array.size_replicate, List.size_toArray]
      omega
  refine leval_wp hT hG hmix c hL hB hsim (fun _ _ => rfl) (Nat.le_refl _) (fun h => by cases h) h1 fun ρ' a' w' h' hf' => ?_
  have fin' : a'.defers = [] ∧ ∃ v, (results fn a'.tmps).run P w' = .ok v w' ∧ (∃ v', Ending.returned v = .returned v' ∧ R v' w') := by
    obtain ⟨v, k1, k2⟩ := fin ρ' a' w' h'
    exact ⟨h'.defers, v, k1, v, rfl, k2⟩
  cases o with
  | normal => exact fin'
  | ret => exact fin'
  | exit id => exact absurd rfl (ho id)
theorem lfunO_back (hT : TOk P T) (hG : GOk P G) (hmix : P.follows .mixedOrders = true) (hf : P.funcs[f]? = some fn) (hb : fn.body = some c) (hL : LoopsOk T G c A) (hB : slotsB fn.ntmps c = true) {args : List LV} (hn : args.length ≤ fn.ntmps) {e sz : Nat} {xs : List (List PV)}
    (h : lfunOP T G A fn e sz args = some (.list sz xs)) (w : World) (okx : Nat → Nat → Prop) (vs : List Value) (hgl : Gl w) (ha : ArgsR (LR w okx rho0 heap0) vs args) :
    Back P f vs w fun v w' => Below w.heap.size w w' ∧ ∃ us, w'.ownsRow w.heap.size e sz v xs.length us ∧ RowsR w' (fun b o => upto w.heap.size okx b o ∧ blk v ≠ some b) sz us xs := by
  have hI : (lfunO T G A fn e sz args).Is (.list sz xs) := by
    unfold lfunOP at h
    obtain ⟨p, h1, h2⟩ := is_of_run h
    exact (Option.some.inj h2) ▸ h1
  unfold lfunO at hI
  simp only [hb] at hI
  rw [is_bind] at hI
  obtain ⟨⟨o, S⟩, h1, h2⟩ := hI
  have ho : ∀ id, o ≠ .exit id := by rintro id rfl; exact (is_fail.1 h2).elim
  refine code_back hT hG hmix hf hb hL hB hn h1 ho w okx vs hgl ha fun ρ' a' w' h' => ?_
  have h2 : (do let vs ← resL T S fn.results.toList
                match vs with
                | [.osl id len] => match S.H id with
                  | some (.sl e' sz' xs false) => bif Nat.beq e' e && Nat.beq sz' sz then M.ite (xs.length == len) (pure (.list sz xs)) M.fail else M.fail
                  | _ => M.fail
                | _ => M.fail : M PV).Is (.list sz xs) := by
    cases o with
    | exit id => exact absurd rfl (ho id)
    | _ => exact h2
  rw [is_bind] at h2
  obtain ⟨ls, g1, h2⟩ := h2
  obtain ⟨us, k1, k2, k3⟩ := resL_run hT h' g1
  split at h2
  · rename_i id len
    split at h2
    · rename_i e' sz' xs' hid
      simp only [is_cond, is_ite, is_pure, is_fail, and_false, or_false, Bool.and_eq_true, beq_iff_eq, PV.list.injEq] at h2
      obtain ⟨⟨q1, q2⟩, q3, -, rfl⟩ := h2
      have q1 := Nat.eq_of_beq_eq_true q1
      have q2 := Nat.eq_of_beq_eq_true q2
      subst q1; subst q2
      obtain ⟨u, rfl⟩ := List.length_eq_one_iff.1 (show us.length = 1 from k2)
      have hu := k3 0 u _ rfl rfl
      obtain ⟨r, hr, hs, _⟩ := hu.oslI
      have hv := (hs _ _ _ _ hid).2 q3.symm
      subst hv
      obtain ⟨r', hr', cs, hown, hrows⟩ := h'.wr.obj id _ hid
      rw [hr] at hr'
      injection hr' with hr'
      subst hr'
      have e1 := results_run k1
      refine ⟨_, e1, h'.wr.below, cs, hown, hrows.1, hrows.2.1, fun i rs j cc g1 g2 => ?_⟩
      obtain ⟨v, g3, g4⟩ := hrows.2.2 i rs j cc g1 g2
      exact ⟨v, g3, g4.okmono fun b o _ _ hq => ⟨hq.1, fun hbk => hq.2 ⟨id, _, _, hr, hid, hbk, fun hs => by cases hs⟩⟩⟩
    · exact (is_fail.1 h2).elim
  · exact (is_fail.1 h2).elim
/-- A summary whose result is a row of its own. -/
theorem given_o (hT : TOk P T) (hG : GOk P G) (hmix : P.follows .mixedOrders = true) (hf : P.funcs[f]? = some fn) (hb : fn.body = some c) (hL : LoopsOk T G c A) (hB : slotsB fn.ntmps c = true) (hn : (fn.name == "runtime.NumGoroutine") = false) {k : Nat} (hk : k ≤ fn.ntmps) {e sz : Nat}
    {F : List PV → Option (List (List PV))} (hF : ∀ ps xs, F ps = some xs → ps.length = k ∧ lfunOP T G A fn e sz (ps.map LV.pv) = some (.list sz xs)) : GivenOk P f (.ocall e sz F) := by
  refine ⟨callOk_of hf hb hn, fun ps xs h w okx vs hgl ha => ?_⟩
  obtain ⟨h1, h2⟩ := hF ps xs h
  exact lfunO_back hT hG hmix hf hb hL hB (by simpa [h1] using hk) h2 w okx vs hgl (args_pv ha)
/-- One summary out of several. -/
theorem given_f_of {F : List LV → Option PV} (hc : CallOk P f) (h : ∀ ls r, F ls = some r → ∃ F', GivenOk P f (.fcall F') ∧ F' ls = some r) : GivenOk P f (.fcall F) := by
  refine ⟨hc, fun ls r hr => ?_⟩
  obtain ⟨F', h1, h2⟩ := h ls r hr
  exact h1.2 ls r h2
end

/-! ### a callee that takes a row of its own over -/
section
variable {base : Nat} {okx : Nat → Nat → Prop} {w0 w w' : World} {ρ : Rho} {H : Heap} {id nid : Nat} {v v' : Value}
theorem del_wr {e sz : Nat} {xs : List (List PV)} (hw : WR base okx w0 w ρ H) (hr : ρ id = some v) (hid : H id = some (.sl e sz xs false)) (hg : w.grownBy w' v.ownBlock) (hnew : ∀ b, blk v' = some b → blk v = some b ∨ w.heap.size ≤ b) :
    Evo (okF base okx H ρ) ρ H w (okF base okx (hdel H id) ρ) ρ (hdel H id) w' ∧ WR base okx w0 w' ρ (hdel H id) ∧ ∀ b, blk v' = some b → ∀ o, okF base okx (hdel H id) ρ b o := by
  obtain ⟨r, hr', us, hown, hrows⟩ := hw.obj id _ hid
  rw [hr] at hr'
  injection hr' with hr'
  subst hr'
  obtain ⟨A, c, hs, _⟩ := ownsRow_slice hown
  have hob := blk_own v A _ c hs
  rw [← hob] at hg
  have hbb : ∀ b, blk v = some b → base ≤ b ∧ b < w.heap.size := fun b hb => (show ObjR base w (okF base okx H ρ) ρ H v (.sl e sz xs false) from ⟨us, hown, hrows⟩).lt hb
  have hsub : ∀ j ob, hdel H id j = some ob → j ≠ id ∧ H j = some ob := by
    intro j ob hj
    by_cases h : j = id
    · subst h; rw [hdel_same] at hj; cases hj
    · rw [hdel_other _ _ h] at hj; exact ⟨h, hj⟩
  have he : Evo (okF base okx H ρ) ρ H w (okF base okx (hdel H id) ρ) ρ (hdel H id) w' := by
    refine ⟨fun b o u hc hok => ⟨cell_same (hg.block b (cell_lt hc) fun e => ?_) hc, hok.1, ?_⟩, fun j q hq => ⟨q, hq⟩, fun j q c' hq hc => ?_, fun j q e' sz' xs' s' hq hs' => ?_⟩
    · exact hok.2 ⟨id, v, _, hr, hid, e.symm, fun h => by cases h⟩
    · rintro ⟨j, q, ob, h1, h2, h3⟩
      exact hok.2 ⟨j, q, ob, h1, (hsub j ob h2).2, h3⟩
    · exact ⟨⟨c', (hsub j _ hc).2⟩, hq⟩
    · exact ⟨xs', s', (hsub j _ hs').2, Nat.le_refl _, fun _ => hq⟩
  refine ⟨he, ⟨below_grown hw.below hw.size hg fun k hk => (hbb k hk).1, Nat.le_trans hw.size hg.size, fun j ob hj => ?_, fun j j' q q' b hne h1 h2 hq hq' => ?_, hw.gl⟩, fun b hb o => ⟨fun hlt => ?_, ?_⟩⟩
  · obtain ⟨hji, hj⟩ := hsub j ob hj
    obtain ⟨q, hq, hob'⟩ := hw.obj j ob hj
    exact ⟨q, hq, hob'.keep he fun b hbq => hg.block b (hob'.lt hbq).2 fun e => hw.apart j id q v b hji (by rw [hj]; simp) (by rw [hid]; simp) hq hr hbq e.symm⟩
  · have f1 : H j ≠ none := by
      cases hh : hdel H id j with
      | none => exact absurd hh h1
      | some ob => rw [(hsub j ob hh).2]; simp
    have f2 : H j' ≠ none := by
      cases hh : hdel H id j' with
      | none => exact absurd hh h2
      | some ob => rw [(hsub j' ob hh).2]; simp
    exact hw.apart j j' q q' b hne f1 f2 hq hq'
  · rcases hnew b hb with h | h
    · exact absurd (Nat.lt_of_le_of_lt (hbb b h).1 hlt) (Nat.lt_irrefl _)
    · exact absurd (Nat.lt_of_le_of_lt (Nat.le_trans hw.size h) hlt) (Nat.lt_irrefl _)
  · rintro ⟨j, q, ob, h1, h2, h3⟩
    obtain ⟨hji, h2⟩ := hsub j ob h2
    obtain ⟨q', hq', hob'⟩ := hw.obj j ob h2
    rw [h1] at hq'
    injection hq' with hq'
    subst hq'
    rcases hnew b hb with h | h
    · exact hw.apart j id q v b hji (by rw [h2]; simp) (by rw [hid]; simp) h1 hr (mutO_blk h3) h
    · exact absurd (Nat.lt_of_le_of_lt h (hob'.lt (mutO_blk h3)).2) (Nat.lt_irrefl _)
theorem row_pr {ok : Nat → Nat → Prop} {e sz : Nat} {us : List Value} {ys : List (List PV)} (hown : w.ownsRow base e sz v ys.length us) (hrows : RowsR w ok sz us ys) (hok : ∀ b, blk v = some b → ∀ o, ok b o) : PR w ok v (.list sz ys) := by
  obtain ⟨A, c, rfl, hc⟩ := ownsRow_slice hown
  by_cases hx : ys = []
  · subst hx; exact .nil _ _ _
  · have hpos : 0 < ys.length := List.length_pos_iff.2 hx
    rcases hown.2 with ⟨hnil, h0⟩ | ⟨g, cap, cur, hrv, hg, hh, hnc, hcm, hcs, htake⟩
    · omega
    · injection hrv with h1 h2 h3
      subst h1; subst h3
      refine .list _ _ sz ys (fun i j => us.getD (i * sz + j) .nilFunc) hc hrows.1 hrows.2.1 (fun _ => ⟨g, 0, rfl, fun i j hi hj => ?_⟩) (fun i cs j c' e1 e2 => ?_)
      · have hlt : i * sz + j < us.length := by
          rw [hown.1]
          have : (i + 1) * sz ≤ ys.length * sz := Nat.mul_le_mul_right _ hi
          rw [Nat.add_mul, Nat.one_mul] at this
          omega
        refine ⟨?_, hok g rfl _⟩
        rw [Nat.zero_add]
        exact ownsRow_cell hown rfl (by simp [List.getD, List.getElem?_eq_getElem hlt])
      · obtain ⟨v, hv, hp⟩ := hrows.2.2 i cs j c' e1 e2
        rw [show us.getD (i * sz + j) .nilFunc = v by simp [List.getD, hv]]
        exact hp
end
end Go.Bw
