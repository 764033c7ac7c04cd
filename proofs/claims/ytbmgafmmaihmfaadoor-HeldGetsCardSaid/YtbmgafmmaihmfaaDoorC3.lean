/- The program's law HeldGets returns true whatever the input is, and the input reads as it did: the statement's card. The table of the standard library that the row lists is tied to the program's text. -/
import Derived.Test.YtbmgafmmaihmfaaDoorC0
import Derived.Test.YtbmgafmmaihmfaaDoorY4
set_option linter.unusedVariables false
set_option linter.unusedSimpArgs false
namespace Go.Proofs.YtbmgafmmaihmfaaDoor.heldGets
open Go.ChangeShapes Go.WideShapes Go.ChangeAt Go.RowKit Go.Bw Go.Bw.A

theorem args_true (qs : List PV) (h : ArgW T Tryd.f3.params.toList qs) : P3 qs = some (.bool true) := by
  rw [show Tryd.f3.params.toList = [22, 25, 25] by kernel_rfl] at h
  obtain ⟨hl, ha⟩ := h
  match qs, hl, ha with
  | [q0, q1, q2], _, ha =>
    obtain ⟨l, rfl⟩ := arg_table (ha 0 22 q0 rfl rfl)
    obtain ⟨a, rfl⟩ := arg_held (ha 1 25 q1 rfl rfl)
    obtain ⟨b, rfl⟩ := arg_held (ha 2 25 q2 rfl rfl)
    exact law3 l a b
set_option maxRecDepth 100000 in
theorem contract (H : Type) (enc : TypeId × Value → H) (W : World) (base : Nat) (args : Array Value) (ds gs : List (DataW H)) (before : List MemPlace)
    (hval : ∀ (j : Nat) t v, Tryd.f3.params[j]? = some t → args[j]? = some v → Value.okWide Tryd.prog W .any base t v)
    (hW : DataW.Whole enc Tryd.prog Tryd.f3.params.toList Rows.heldGetsSpec.vars false W args.toList ds gs before) (hL : laidMetH Tryd.prog Rows.heldGetsRow.laid W) :
    Calls Tryd.prog 3 args W fun e W' => ∃ v, e = .returned v ∧ Rows.heldGetsSpec.post enc Tryd.prog Tryd.f3 false true false false W args v W' :=
  law_contract (n := 8) (tb := 4) tok (by kernel_rfl) f3_ok (by kernel_rfl) (by kernel_rfl) (by kernel_rfl) rfl (fun ds hd => by
    rw [show Tryd.f3.params.toList.length = 3 by kernel_rfl] at hd
    match ds, hd with
    | [d1, d2, d3], _ => rfl) args_true hval hW (gl_of hL)
noncomputable def wargs : Array Value := #[.slice none 0 0, .agg #[.int .i64 0, .slice none 0 0, .int .i64 0, .int .i64 0], .agg #[.int .i64 0, .slice none 0 0, .int .i64 0, .int .i64 0]]
theorem laid_met (os : Os) : laidMet Tryd.prog Rows.heldGetsRow.laid ((laidWorld os).forCall (fun _ _ => 0) ⟨#[], wargs, []⟩).memory :=
  laidMet_of_run' 8 (by kernel_rfl) (by kernel_rfl)
theorem reads (os : Os) {H : Type} (enc : TypeId × Value → H) : ∃ places, DataW.whole enc Tryd.prog ((laidWorld os).forCall (fun _ _ => 0) ⟨#[], wargs, []⟩).memory Tryd.f3.params.toList Rows.heldGetsSpec.vars false wargs.toList 8 = some ([.nil, .agg [.lit (.int .i64 0), .nil, .lit (.int .i64 0), .lit (.int .i64 0)], .agg [.lit (.int .i64 0), .nil, .lit (.int .i64 0), .lit (.int .i64 0)]], [], places) :=
  ⟨[], by kernel_rfl⟩

set_option maxRecDepth 100000 in
theorem lifted (os : Os) (started : os.Started) (H : Type) (enc : TypeId × Value → H) (F : Stop.Interp) :
    ReturnsInHanded {} Tryd.checked os 3 .any ((OpenSpec.ofChange Rows.heldGetsSpec).preRow enc Tryd.prog Tryd.f3 Rows.heldGetsRow.domain false Rows.heldGetsRow.laid) (((OpenSpec.ofChange Rows.heldGetsSpec).at F).post enc Tryd.prog Tryd.f3 false true false false) := by
  obtain ⟨places, hx⟩ := reads os enc
  refine returnsInHanded_of_row (C := Tryd.checked) (s := OpenSpec.ofChange Rows.heldGetsSpec) own started (by kernel_rfl) Tryd.func3
    (witness_row_at (enc := enc) (C := Tryd.checked) false (laidWorld os) wargs rfl (by kernel_rfl) (by kernel_rfl) (by kernel_rfl)
      (OpenSpec.preRow_of_cond 8 hx (by kernel_rfl) (fun k hk => by cases hk) (by kernel_rfl) (laid_met os))) ?_
  intro W base args ds gs before hval hW _ _ _ hL _ _
  exact contract H enc W base args ds gs before hval hW hL

theorem said : Rows.HeldGetsSaid :=
  OpenClaim.holds_of_cond 3 Tryd.f3 rfl rfl rfl rfl rfl rfl rfl ⟨rfl, rfl, rfl, rfl, rfl⟩ rfl rfl rfl rfl rfl (by kernel_rfl) Tryd.func3 (by kernel_rfl)
    (of_decide_eq_true (by kernel_rfl)) (by unfold Func.isWrapper; first | (rw [if_pos (by decide +kernel)]; kernel_rfl) | (rw [if_neg (by decide +kernel)]; exact ⟨rfl, rfl⟩))
    (fun os started H enc _ F => by rw [OpenClaim.pre_eq_preRow]; exact lifted os started H enc F)
/-- No parameter wants a stand-in; the program's own looks are off: what the card asks. -/
theorem plain (f : FuncId) (fn : Func) (hf : Tryd.pinned.checked.prog.funcNamed Rows.heldGetsRow.func = some f) (hfn : Tryd.pinned.checked.prog.funcs[f]? = some fn) :
    false = Tryd.pinned.checked.prog.looks [] ∧ ∀ (j : Nat) t, fn.params[j]? = some t → Tryd.pinned.checked.prog.wantsStandIn t = false := by
  obtain rfl : f = 3 := Option.some.inj ((show Tryd.prog.funcNamed Rows.heldGetsRow.func = some 3 by kernel_rfl).symm.trans hf) |>.symm
  obtain rfl : fn = Tryd.f3 := (Option.some.inj (Tryd.func3.symm.trans hfn)).symm
  refine ⟨by kernel_rfl, fun j t ht => ?_⟩
  have hall : ∀ t, t ∈ [22, 25, 25] → Tryd.prog.wantsStandIn t = false := by
    intro t ht
    simp only [List.mem_cons, List.not_mem_nil, or_false] at ht
    rcases ht with rfl | rfl | rfl <;> kernel_rfl
  have hp : Tryd.f3.params = #[22, 25, 25] := by kernel_rfl
  rw [hp] at ht
  exact hall t (by simpa using Array.mem_of_getElem? ht)
end Go.Proofs.YtbmgafmmaihmfaaDoor.heldGets
namespace Go.Proofs.YtbmgafmmaihmfaaDoor
open Go.ChangeShapes Go.WideShapes Go.ChangeAt Go.RowKit
/-- The card. -/
theorem heldGets_card : Rows.HeldGetsCardSaid :=
  Claim7.holds_tied_plain_at .later [] _ _ _ _ heldGets.said (fun _ h => by cases h) (by kernel_rfl) (fun _ h => by cases h) heldGets_row_tie rfl ⟨rfl, rfl⟩ (by kernel_rfl) rfl heldGets.plain (by kernel_rfl)
end Go.Proofs.YtbmgafmmaihmfaaDoor
