/- The program's law HeldSpans returns true whatever the input is, and the input reads as it did: the statement's card. The table of the standard library that the row lists is tied to the program's text. -/
import Derived.Test.YtbmgafmmaihmfaaDoorC0
import Derived.Test.YtbmgafmmaihmfaaDoorY6
set_option linter.unusedVariables false
set_option linter.unusedSimpArgs false
namespace Go.Proofs.YtbmgafmmaihmfaaDoor.heldSpans
open Go.ChangeShapes Go.WideShapes Go.ChangeAt Go.RowKit Go.Bw Go.Bw.A

theorem args_true (qs : List PV) (h : ArgW T Tryd.f4.params.toList qs) : P4 qs = some (.bool true) := by
  rw [show Tryd.f4.params.toList = [22, 2, 2] by kernel_rfl] at h
  obtain ⟨hl, ha⟩ := h
  match qs, hl, ha with
  | [q0, q1, q2], _, ha =>
    obtain ⟨a0, rfl⟩ := arg_table (ha 0 22 q0 rfl rfl)
    obtain ⟨a1, rfl⟩ := arg_num (ha 1 2 q1 rfl rfl) (by kernel_rfl) (by kernel_rfl)
    obtain ⟨a2, rfl⟩ := arg_num (ha 2 2 q2 rfl rfl) (by kernel_rfl) (by kernel_rfl)
    exact law4 a0 a1 a2
set_option maxRecDepth 100000 in
theorem contract (H : Type) (enc : TypeId × Value → H) (W : World) (base : Nat) (args : Array Value) (ds gs : List (DataW H)) (before : List MemPlace)
    (hval : ∀ (j : Nat) t v, Tryd.f4.params[j]? = some t → args[j]? = some v → Value.okWide Tryd.prog W .any base t v)
    (hW : DataW.Whole enc Tryd.prog Tryd.f4.params.toList Rows.heldSpansSpec.vars false W args.toList ds gs before) (hL : laidMetH Tryd.prog Rows.heldSpansRow.laid W) :
    Calls Tryd.prog 4 args W fun e W' => ∃ v, e = .returned v ∧ Rows.heldSpansSpec.post enc Tryd.prog Tryd.f4 false true false false W args v W' :=
  law_contract (n := 8) (tb := 4) tok (by kernel_rfl) f4_ok (by kernel_rfl) (by kernel_rfl) (by kernel_rfl) rfl (fun ds hd => by
    rw [show Tryd.f4.params.toList.length = 3 by kernel_rfl] at hd
    match ds, hd with
    | [d0, d1, d2], _ => rfl) args_true hval hW (gl_of hL)
noncomputable def wargs : Array Value := #[.slice none 0 0, .int .i64 0, .int .i64 0]
theorem laid_met (os : Os) : laidMet Tryd.prog Rows.heldSpansRow.laid ((laidWorld os).forCall (fun _ _ => 0) ⟨#[], wargs, []⟩).memory :=
  laidMet_of_run' 8 (by kernel_rfl) (by kernel_rfl)
theorem reads (os : Os) {H : Type} (enc : TypeId × Value → H) : ∃ places, DataW.whole enc Tryd.prog ((laidWorld os).forCall (fun _ _ => 0) ⟨#[], wargs, []⟩).memory Tryd.f4.params.toList Rows.heldSpansSpec.vars false wargs.toList 8 = some ([.nil, .lit (.int .i64 0), .lit (.int .i64 0)], [], places) :=
  ⟨[], by kernel_rfl⟩

set_option maxRecDepth 100000 in
theorem lifted (os : Os) (started : os.Started) (H : Type) (enc : TypeId × Value → H) (F : Stop.Interp) :
    ReturnsInHanded {} Tryd.checked os 4 .any ((OpenSpec.ofChange Rows.heldSpansSpec).preRow enc Tryd.prog Tryd.f4 Rows.heldSpansRow.domain false Rows.heldSpansRow.laid) (((OpenSpec.ofChange Rows.heldSpansSpec).at F).post enc Tryd.prog Tryd.f4 false true false false) := by
  obtain ⟨places, hx⟩ := reads os enc
  refine returnsInHanded_of_row (C := Tryd.checked) (s := OpenSpec.ofChange Rows.heldSpansSpec) own started (by kernel_rfl) Tryd.func4
    (witness_row_at (enc := enc) (C := Tryd.checked) false (laidWorld os) wargs rfl (by kernel_rfl) (by kernel_rfl) (by kernel_rfl)
      (OpenSpec.preRow_of_cond 8 hx (by kernel_rfl) (fun k hk => by cases hk) (by kernel_rfl) (laid_met os))) ?_
  intro W base args ds gs before hval hW _ _ _ hL _ _
  exact contract H enc W base args ds gs before hval hW hL

theorem said : Rows.HeldSpansSaid :=
  OpenClaim.holds_of_cond 4 Tryd.f4 rfl rfl rfl rfl rfl rfl rfl ⟨rfl, rfl, rfl, rfl, rfl⟩ rfl rfl rfl rfl rfl (by kernel_rfl) Tryd.func4 (by kernel_rfl)
    (of_decide_eq_true (by kernel_rfl)) (by unfold Func.isWrapper; first | (rw [if_pos (by decide +kernel)]; kernel_rfl) | (rw [if_neg (by decide +kernel)]; exact ⟨rfl, rfl⟩))
    (fun os started H enc _ F => by rw [OpenClaim.pre_eq_preRow]; exact lifted os started H enc F)
/-- No parameter wants a stand-in; the program's own looks are off: what the card asks. -/
theorem plain (f : FuncId) (fn : Func) (hf : Tryd.pinned.checked.prog.funcNamed Rows.heldSpansRow.func = some f) (hfn : Tryd.pinned.checked.prog.funcs[f]? = some fn) :
    false = Tryd.pinned.checked.prog.looks [] ∧ ∀ (j : Nat) t, fn.params[j]? = some t → Tryd.pinned.checked.prog.wantsStandIn t = false := by
  obtain rfl : f = 4 := Option.some.inj ((show Tryd.prog.funcNamed Rows.heldSpansRow.func = some 4 by kernel_rfl).symm.trans hf) |>.symm
  obtain rfl : fn = Tryd.f4 := (Option.some.inj (Tryd.func4.symm.trans hfn)).symm
  refine ⟨by kernel_rfl, fun j t ht => ?_⟩
  have hall : ∀ t, t ∈ [22, 2, 2] → Tryd.prog.wantsStandIn t = false := by
    intro t ht
    simp only [List.mem_cons, List.not_mem_nil, or_false] at ht
    rcases ht with rfl | rfl | rfl <;> kernel_rfl
  have hp : Tryd.f4.params = #[22, 2, 2] := by kernel_rfl
  rw [hp] at ht
  exact hall t (by simpa using Array.mem_of_getElem? ht)
end Go.Proofs.YtbmgafmmaihmfaaDoor.heldSpans
namespace Go.Proofs.YtbmgafmmaihmfaaDoor
open Go.ChangeShapes Go.WideShapes Go.ChangeAt Go.RowKit
/-- The card. -/
theorem heldSpans_card : Rows.HeldSpansCardSaid :=
  Claim7.holds_tied_plain_at .later [] _ _ _ _ heldSpans.said (fun _ h => by cases h) (by kernel_rfl) (fun _ h => by cases h) heldSpans_row_tie rfl ⟨rfl, rfl⟩ (by kernel_rfl) rfl heldSpans.plain (by kernel_rfl)
end Go.Proofs.YtbmgafmmaihmfaaDoor
