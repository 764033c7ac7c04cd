/- Summaries of the functions of the program, printed by gen.py, and that the functions answer so. No statement of a law is proved here. -/
import Derived.Test.YtbmgafmmaihmfaaDoorG1
set_option linter.unusedVariables false
set_option linter.unusedSimpArgs false
set_option maxRecDepth 100000
namespace Go.Bw.A
open Go.Proofs Go.Bw
/-! ### bailiwick/bailiwicklaw10.HeldGets: function 3 -/
noncomputable def f3_G : Nat → Option Given := assoc [(18, .pcall P18), (19, .pcall P19), (20, .pcall P20), (21, .pcall P21), (22, .pcall P22), (23, .pcall P23)]
/-! loop 12 -/
noncomputable def f3_c12 : Code := ((Tryd.f3).body.bind (findLoop 12)).getD .skip
noncomputable def f3_m12 (c0_0 : Int) (c0_1 : List (List PV)) (c0_2 : Int) (c0_3 : Int) (c1_0 : Int) (c1_1 : List (List PV)) (c1_2 : Int) (c1_3 : Int) (x0 : List (List PV)) (x7 : PV) (x11 : Int) : LS := ⟨supd (supd (supd (supd (supd (fun _ => .any) 11 (.pv (.int .i64 x11))) 7 (.pv x7)) 5 (.ptr 1 0)) 4 (.ptr 0 0)) 0 (.pv (.list 4 x0)), hset (hset (fun _ => none) 1 (.box (.pure [.int .i64 c1_0, .list 1 c1_1, .int .i64 c1_2, .int .i64 c1_3]))) 0 (.box (.pure [.int .i64 c0_0, .list 1 c0_1, .int .i64 c0_2, .int .i64 c0_3])), 57, 0⟩
noncomputable def f3_e12_0 (c0_0 : Int) (c0_1 : List (List PV)) (c0_2 : Int) (c0_3 : Int) (c1_0 : Int) (c1_1 : List (List PV)) (c1_2 : Int) (c1_3 : Int) (x0 : List (List PV)) (x7 : PV) : LS := ⟨supd (supd (supd (supd (fun _ => .any) 7 (.pv x7)) 5 (.ptr 1 0)) 4 (.ptr 0 0)) 0 (.pv (.list 4 x0)), hset (hset (fun _ => none) 1 (.box (.pure [.int .i64 c1_0, .list 1 c1_1, .int .i64 c1_2, .int .i64 c1_3]))) 0 (.box (.pure [.int .i64 c0_0, .list 1 c0_1, .int .i64 c0_2, .int .i64 c0_3])), 61, 0⟩
noncomputable def f3_r12 (x6 : Bool) : LS := ⟨supd (fun _ => .any) 6 (.pv (.bool x6)), (fun _ => none), 86, 0⟩
noncomputable def f3_A12 : Ann := ⟨assoc [], assoc [(12, ⟨[0, 4, 5, 7, 11], [0, 1], 57, false, []⟩)], assoc [(0, ⟨[0, 4, 5, 7], [0, 1], 61, false, []⟩)], some ⟨[6], [], 86, false, []⟩⟩
noncomputable def f3_l12 (k0 : Int → (List (List PV)) → Int → Int → Int → (List (List PV)) → Int → Int → (List (List PV)) → PV → Option PV) (kr : Bool → Option PV) : Nat → Int → (List (List PV)) → Int → Int → Int → (List (List PV)) → Int → Int → (List (List PV)) → PV → Int → Option PV
  | 0, _, _, _, _, _, _, _, _, _, _, _ => none
  | n + 1, c0_0, c0_1, c0_2, c0_3, c1_0, c1_1, c1_2, c1_3, x0, x7, x11 => bif decide (x11 < (x0.length : Int)) then ((lget x0 x11).bind fun cs1 => (cs1[0]?).bind fun p2 => (P21 [x7, p2]).bind fun r3 => (pnth r3 0).bind fun p4 => (pnth r3 1).bind fun p5 => (pcells 4 p4).bind fun cs6 => (pputs [.int .i64 0, .list 1 [], .int .i64 0, .int .i64 0] 0 cs6).bind fun cs7 => ((pun .not p5).bind fun r8 => (pbool r8).bind fun b9 => bif b9 then (some (.bool true)) else ((pext cs7 0 4).bind fun p10 => (lget x0 x11).bind fun cs11 => (pext cs11 0 4).bind fun p12 => (P22 [p10, p12]).bind fun r13 => (pun .not r13).bind fun r14 => some r14)).bind fun g15 => (pbool g15).bind fun b16 => bif b16 then (kr false) else (f3_l12 k0 kr n c0_0 c0_1 c0_2 c0_3 c1_0 c1_1 c1_2 c1_3 x0 x7 (IntKind.i64.wrap (x11 + 1)))) else (k0 c0_0 c0_1 c0_2 c0_3 c1_0 c1_1 c1_2 c1_3 x0 x7)
theorem f3_b12 (K : LOut × LS → Option PV) (c0_0 : Int) (c0_1 : List (List PV)) (c0_2 : Int) (c0_3 : Int) (c1_0 : Int) (c1_1 : List (List PV)) (c1_2 : Int) (c1_3 : Int) (x0 : List (List PV)) (x7 : PV) (x11 : Int) : (lbody T f3_G f3_A12 f3_c12 (f3_m12 c0_0 c0_1 c0_2 c0_3 c1_0 c1_1 c1_2 c1_3 x0 x7 x11)).run K =
    bif decide (x11 < (x0.length : Int)) then ((lget x0 x11).bind fun cs1 => (cs1[0]?).bind fun p2 => (P21 [x7, p2]).bind fun r3 => (pnth r3 0).bind fun p4 => (pnth r3 1).bind fun p5 => (pcells 4 p4).bind fun cs6 => (pputs [.int .i64 0, .list 1 [], .int .i64 0, .int .i64 0] 0 cs6).bind fun cs7 => ((pun .not p5).bind fun r8 => (pbool r8).bind fun b9 => bif b9 then (some (.bool true)) else ((pext cs7 0 4).bind fun p10 => (lget x0 x11).bind fun cs11 => (pext cs11 0 4).bind fun p12 => (P22 [p10, p12]).bind fun r13 => (pun .not r13).bind fun r14 => some r14)).bind fun g15 => (pbool g15).bind fun b16 => bif b16 then (K (.ret, f3_r12 false)) else (K (.normal, f3_m12 c0_0 c0_1 c0_2 c0_3 c1_0 c1_1 c1_2 c1_3 x0 x7 (IntKind.i64.wrap (x11 + 1))))) else (K (.exit 0, f3_e12_0 c0_0 c0_1 c0_2 c0_3 c1_0 c1_1 c1_2 c1_3 x0 x7)) := by kernel_rfl
theorem f3_q12 (K : LOut × LS → Option PV) : ∀ (n : Nat) (c0_0 : Int) (c0_1 : List (List PV)) (c0_2 : Int) (c0_3 : Int) (c1_0 : Int) (c1_1 : List (List PV)) (c1_2 : Int) (c1_3 : Int) (x0 : List (List PV)) (x7 : PV) (x11 : Int), (liter (lbody T f3_G f3_A12 f3_c12) n (f3_m12 c0_0 c0_1 c0_2 c0_3 c1_0 c1_1 c1_2 c1_3 x0 x7 x11)).run K = f3_l12 (fun c0_0 c0_1 c0_2 c0_3 c1_0 c1_1 c1_2 c1_3 x0 x7 => K (.exit 0, f3_e12_0 c0_0 c0_1 c0_2 c0_3 c1_0 c1_1 c1_2 c1_3 x0 x7)) (fun x6 => K (.ret, f3_r12 x6)) n c0_0 c0_1 c0_2 c0_3 c1_0 c1_1 c1_2 c1_3 x0 x7 x11
  | 0, _, _, _, _, _, _, _, _, _, _, _ => rfl
  | n + 1, c0_0, c0_1, c0_2, c0_3, c1_0, c1_1, c1_2, c1_3, x0, x7, x11 => by
    rw [liter_succ, f3_b12]
    try simp only [lk_normal, lk_exit, lk_ret, f3_q12 K n]
    try rfl
noncomputable def f3_s12 (S : LS) : M (LOut × LS) := match S.H 0, S.H 1, S.sl 0, S.sl 4, S.sl 5, S.sl 7, S.sl 11 with
  | some (.box (.pure [.int .i64 c0_0, .list 1 c0_1, .int .i64 c0_2, .int .i64 c0_3])), some (.box (.pure [.int .i64 c1_0, .list 1 c1_1, .int .i64 c1_2, .int .i64 c1_3])), .pv (.list 4 x0), .ptr 0 0, .ptr 1 0, .pv x7, .pv (.int .i64 x11) => .ofEq (liter (lbody T f3_G f3_A12 f3_c12) FU (f3_m12 c0_0 c0_1 c0_2 c0_3 c1_0 c1_1 c1_2 c1_3 x0 x7 x11)) (fun K => f3_l12 (fun c0_0 c0_1 c0_2 c0_3 c1_0 c1_1 c1_2 c1_3 x0 x7 => K (.exit 0, f3_e12_0 c0_0 c0_1 c0_2 c0_3 c1_0 c1_1 c1_2 c1_3 x0 x7)) (fun x6 => K (.ret, f3_r12 x6)) FU c0_0 c0_1 c0_2 c0_3 c1_0 c1_1 c1_2 c1_3 x0 x7 x11) (fun K => f3_q12 K FU c0_0 c0_1 c0_2 c0_3 c1_0 c1_1 c1_2 c1_3 x0 x7 x11)
  | _, _, _, _, _, _, _ => .fail
theorem f3_v12 {A : Ann} (h1 : (firstRegion f3_c12).bind A.loop = some f3_s12) (h2 : (firstRegion f3_c12).bind A.head = some ⟨[0, 4, 5, 7, 11], [0, 1], 57, false, []⟩) : LoopsOk T f3_G (.loop f3_c12) A := by
  refine loopOk_of h1 h2 (A' := f3_A12) (loopsOk_of fun c' hc => by rw [show loopsIn (f3_c12) = [] from by kernel_rfl] at hc; cases hc) fun S0 S o S' hn hs => ?_
  unfold f3_s12 at hs
  split at hs
  · exact loop_fin hs hn rfl (slots_cons (by assumption) (slots_cons (by assumption) (slots_cons (by assumption) (slots_cons (by assumption) (slots_cons (by assumption) slots_nil))))) (heap_cons (by assumption) (heap_cons (by assumption) heap_nil)) (by kernel_rfl) (by kernel_rfl) (by kernel_rfl) (by kernel_rfl)
  · exact (M.is_fail.1 hs).elim
noncomputable def f3_A : Ann := ⟨assoc [(12, f3_s12)], assoc [(12, ⟨[0, 4, 5, 7, 11], [0, 1], 57, false, []⟩)], assoc [], none⟩
noncomputable def F3 (a0 : List (List PV)) (a1_0 : Int) (a1_1 : List (List PV)) (a1_2 : Int) (a1_3 : Int) (a2_0 : Int) (a2_1 : List (List PV)) (a2_2 : Int) (a2_3 : Int) : Option PV :=
  (P18 []).bind fun r1 => (pun .not r1).bind fun r2 => (pbool r2).bind fun b3 => bif b3 then (some (.bool false)) else (((P19 [.list 4 a0]).bind fun r4 => (pun .not r4).bind fun r5 => (pbool r5).bind fun b6 => bif b6 then (some (.bool true)) else (bif decide ((a1_1.length : Int) > 60) then (some (.bool true)) else (some (.bool (decide ((a2_1.length : Int) > 60)))))).bind fun g7 => (pbool g7).bind fun b8 => bif b8 then (some (.bool true)) else ((P20 [.list 4 a0, .agg [.int .i64 a1_0, .list 1 a1_1, .int .i64 a1_2, .int .i64 a1_3]]).bind fun r9 => (pnth r9 0).bind fun p10 => (pnth r9 1).bind fun p11 => (pbin .neq p11 (.int .i64 0)).bind fun r12 => (pbool r12).bind fun b13 => bif b13 then (some (.bool true)) else ((P21 [p10, .int .i64 a1_0]).bind fun r14 => (pnth r14 0).bind fun p15 => (pnth r14 1).bind fun p16 => (pcells 4 p15).bind fun cs17 => (pputs [.int .i64 0, .list 1 [], .int .i64 0, .int .i64 0] 0 cs17).bind fun cs18 => ((pun .not p16).bind fun r19 => (pbool r19).bind fun b20 => bif b20 then (some (.bool true)) else ((pext cs18 0 4).bind fun p21 => (P22 [p21, .agg [.int .i64 a1_0, .list 1 a1_1, .int .i64 a1_2, .int .i64 a1_3]]).bind fun r22 => (pun .not r22).bind fun r23 => (pbool r23).bind fun b24 => bif b24 then (some (.bool true)) else ((plist p10).bind fun xs25 => some (.bool ((xs25.length : Int) != (IntKind.i64.wrap ((a0.length : Int) + 1))))))).bind fun g26 => (pbool g26).bind fun b27 => bif b27 then (some (.bool false)) else (f3_l12 (fun (y28 : Int) (y29 : List (List PV)) (y30 : Int) (y31 : Int) (y32 : Int) (y33 : List (List PV)) (y34 : Int) (y35 : Int) (y36 : List (List PV)) (y37 : PV) => (P20 [y37, .agg [.int .i64 y32, .list 1 y33, .int .i64 y34, .int .i64 y35]]).bind fun r38 => (pnth r38 0).bind fun p39 => (pnth r38 1).bind fun p40 => (P20 [.list 4 y36, .agg [.int .i64 y32, .list 1 y33, .int .i64 y34, .int .i64 y35]]).bind fun r41 => (pnth r41 0).bind fun p42 => (pnth r41 1).bind fun p43 => (P20 [p42, .agg [.int .i64 y28, .list 1 y29, .int .i64 y30, .int .i64 y31]]).bind fun r44 => (pnth r44 0).bind fun p45 => (pnth r44 1).bind fun p46 => ((pbin .eql p40 (.int .i64 0)).bind fun r47 => (pbin .eql p43 (.int .i64 0)).bind fun r48 => (pbool r48).bind fun b49 => bif b49 then ((pbin .eql p46 (.int .i64 0)).bind fun r50 => (peq T 4 false r47 r50).bind fun r51 => (pbool r51).bind fun b52 => bif b52 then ((pbin .neq p40 (.int .i64 0)).bind fun r53 => (pbool r53).bind fun b54 => bif b54 then (some (.bool true)) else ((P23 [p39, p45]).bind fun r55 => some r55)) else (some (.bool false))) else ((peq T 4 false r47 (.bool false)).bind fun r56 => (pbool r56).bind fun b57 => bif b57 then ((pbin .neq p40 (.int .i64 0)).bind fun r58 => (pbool r58).bind fun b59 => bif b59 then (some (.bool true)) else ((P23 [p39, p45]).bind fun r60 => some r60)) else (some (.bool false)))).bind fun g61 => some g61) (fun (y62 : Bool) => some (.bool y62)) FU a1_0 a1_1 a1_2 a1_3 a2_0 a2_1 a2_2 a2_3 a0 p10 0))))
theorem f3_eq (a0 : List (List PV)) (a1_0 : Int) (a1_1 : List (List PV)) (a1_2 : Int) (a1_3 : Int) (a2_0 : Int) (a2_1 : List (List PV)) (a2_2 : Int) (a2_3 : Int) : lfunP T f3_G f3_A Tryd.f3 [.pv (.list 4 a0), .pv (.agg [.int .i64 a1_0, .list 1 a1_1, .int .i64 a1_2, .int .i64 a1_3]), .pv (.agg [.int .i64 a2_0, .list 1 a2_1, .int .i64 a2_2, .int .i64 a2_3])] = F3 a0 a1_0 a1_1 a1_2 a1_3 a2_0 a2_1 a2_2 a2_3 := by kernel_rfl
noncomputable def P3 : List PV → Option PV
  | [.list 4 a0, .agg [.int .i64 a1_0, .list 1 a1_1, .int .i64 a1_2, .int .i64 a1_3], .agg [.int .i64 a2_0, .list 1 a2_1, .int .i64 a2_2, .int .i64 a2_3]] => F3 a0 a1_0 a1_1 a1_2 a1_3 a2_0 a2_1 a2_2 a2_3
  | _ => none
noncomputable def f3_code : Code := (Tryd.f3).body.getD .skip
theorem f3_gok : GOk Tryd.prog f3_G := gok_of (by
  simp only [List.forall_mem_cons, List.not_mem_nil, false_implies, implies_true, and_true]
  exact ⟨f18_ok, f19_ok, f20_ok, f21_ok, f22_ok, f23_ok⟩)
theorem f3_ok : GivenOk Tryd.prog 3 (.pcall P3) := given_p tok f3_gok mixed (A := f3_A) (fn := Tryd.f3) (c := f3_code) (by kernel_rfl) (by kernel_rfl) (loopsOk_of fun c' hc => by
    rw [show loopsIn (f3_code) = [f3_c12] from by kernel_rfl] at hc
    simp only [List.mem_cons, List.not_mem_nil, or_false] at hc
    rcases hc with rfl
    · exact f3_v12 (by kernel_rfl) (by kernel_rfl)) (by kernel_rfl) (by kernel_rfl) (k := 3) (Nat.le_of_ble_eq_true (by kernel_rfl)) (by
  intro ps r h
  unfold P3 at h
  split at h
  · exact ⟨rfl, (f3_eq _ _ _ _ _ _ _ _ _).trans h⟩
  · cases h)

/-! ### bailiwick/held.Over: function 24 -/
noncomputable def f24_G : Nat → Option Given := assoc [(40, .pcall P40), (57, .ocall 25 4 P57)]
/-! loop 5 -/
noncomputable def f24_c5 : Code := ((Tryd.f24).body.bind (findLoop 5)).getD .skip
noncomputable def f24_m5 (o5 : List (List PV)) (o6 : List (List PV)) (o8 : List (List PV)) (x1 : Int) (x6 : Nat) (x7 : Nat) (x16 : Nat) (x17 : Int) (x18 : Int) : LS := ⟨supd (supd (supd (supd (supd (supd (fun _ => .any) 18 (.pv (.int .i64 x18))) 17 (.pv (.int .i64 x17))) 16 (.osl 8 x16)) 7 (.osl 6 x7)) 6 (.osl 5 x6)) 1 (.pv (.int .i64 x1)), hset (hset (hset (fun _ => none) 8 (.sl 25 4 o8 false)) 6 (.sl 25 4 o6 false)) 5 (.sl 25 4 o5 false), 11, 0⟩
noncomputable def f24_e5_0 (o5 : List (List PV)) (o6 : List (List PV)) (x6 : Nat) (x7 : Nat) : LS := ⟨supd (supd (fun _ => .any) 7 (.osl 6 x7)) 6 (.osl 5 x6), hset (hset (fun _ => none) 6 (.sl 25 4 o6 false)) 5 (.sl 25 4 o5 false), 12, 0⟩
noncomputable def f24_A5 : Ann := ⟨assoc [], assoc [(5, ⟨[1, 6, 7, 16, 17, 18], [5, 6, 8], 11, false, []⟩)], assoc [(0, ⟨[6, 7], [5, 6], 12, false, []⟩)], none⟩
noncomputable def f24_l5 (k0 : (List (List PV)) → (List (List PV)) → Nat → Nat → Option PV) : Nat → (List (List PV)) → (List (List PV)) → (List (List PV)) → Int → Nat → Nat → Nat → Int → Int → Option PV
  | 0, _, _, _, _, _, _, _, _, _ => none
  | n + 1, o5, o6, o8, x1, x6, x7, x16, x17, x18 => bif decide (x18 < x17) then (bif decide (0 ≤ x18) && decide (x18 < (x16 : Nat)) then (bif o8.length == x16 then ((o8[x18.toNat]?).bind fun cs1 => (pext cs1 0 4).bind fun p2 => (pcells 4 p2).bind fun cs3 => (pputs [.int .i64 0, .list 1 [], .int .i64 0, .int .i64 0] 0 cs3).bind fun cs4 => (cs4[3]?).bind fun p5 => (pbin .leq p5 (.int .i64 x1)).bind fun r6 => (pbool r6).bind fun b7 => bif b7 then ((pext cs4 0 4).bind fun p8 => (pcells 4 p8).bind fun cs9 => bif o6.length == x7 then (bif decide (o6.length + ([cs9] : List (List PV)).length ≤ LIM) then (f24_l5 k0 n o5 (o6 ++ [cs9]) o8 x1 x6 ((o6 ++ [cs9] : List (List PV)).length) x16 x17 (IntKind.i64.wrap (x18 + 1))) else none) else none) else ((pext cs4 0 4).bind fun p10 => (pcells 4 p10).bind fun cs11 => bif o5.length == x6 then (bif decide (o5.length + ([cs11] : List (List PV)).length ≤ LIM) then (f24_l5 k0 n (o5 ++ [cs11]) o6 o8 x1 ((o5 ++ [cs11] : List (List PV)).length) x7 x16 x17 (IntKind.i64.wrap (x18 + 1))) else none) else none)) else none) else none) else (k0 o5 o6 x6 x7)
theorem f24_b5 (K : LOut × LS → Option PV) (o5 : List (List PV)) (o6 : List (List PV)) (o8 : List (List PV)) (x1 : Int) (x6 : Nat) (x7 : Nat) (x16 : Nat) (x17 : Int) (x18 : Int) : (lbody T f24_G f24_A5 f24_c5 (f24_m5 o5 o6 o8 x1 x6 x7 x16 x17 x18)).run K =
    bif decide (x18 < x17) then (bif decide (0 ≤ x18) && decide (x18 < (x16 : Nat)) then (bif o8.length == x16 then ((o8[x18.toNat]?).bind fun cs1 => (pext cs1 0 4).bind fun p2 => (pcells 4 p2).bind fun cs3 => (pputs [.int .i64 0, .list 1 [], .int .i64 0, .int .i64 0] 0 cs3).bind fun cs4 => (cs4[3]?).bind fun p5 => (pbin .leq p5 (.int .i64 x1)).bind fun r6 => (pbool r6).bind fun b7 => bif b7 then ((pext cs4 0 4).bind fun p8 => (pcells 4 p8).bind fun cs9 => bif o6.length == x7 then (bif decide (o6.length + ([cs9] : List (List PV)).length ≤ LIM) then (K (.normal, f24_m5 o5 (o6 ++ [cs9]) o8 x1 x6 ((o6 ++ [cs9] : List (List PV)).length) x16 x17 (IntKind.i64.wrap (x18 + 1)))) else none) else none) else ((pext cs4 0 4).bind fun p10 => (pcells 4 p10).bind fun cs11 => bif o5.length == x6 then (bif decide (o5.length + ([cs11] : List (List PV)).length ≤ LIM) then (K (.normal, f24_m5 (o5 ++ [cs11]) o6 o8 x1 ((o5 ++ [cs11] : List (List PV)).length) x7 x16 x17 (IntKind.i64.wrap (x18 + 1)))) else none) else none)) else none) else none) else (K (.exit 0, f24_e5_0 o5 o6 x6 x7)) := by kernel_rfl
theorem f24_q5 (K : LOut × LS → Option PV) : ∀ (n : Nat) (o5 : List (List PV)) (o6 : List (List PV)) (o8 : List (List PV)) (x1 : Int) (x6 : Nat) (x7 : Nat) (x16 : Nat) (x17 : Int) (x18 : Int), (liter (lbody T f24_G f24_A5 f24_c5) n (f24_m5 o5 o6 o8 x1 x6 x7 x16 x17 x18)).run K = f24_l5 (fun o5 o6 x6 x7 => K (.exit 0, f24_e5_0 o5 o6 x6 x7)) n o5 o6 o8 x1 x6 x7 x16 x17 x18
  | 0, _, _, _, _, _, _, _, _, _ => rfl
  | n + 1, o5, o6, o8, x1, x6, x7, x16, x17, x18 => by
    rw [liter_succ, f24_b5]
    try simp only [lk_normal, lk_exit, lk_ret, f24_q5 K n]
    try rfl
noncomputable def f24_s5 (S : LS) : M (LOut × LS) := match S.H 5, S.H 6, S.H 8, S.sl 1, S.sl 6, S.sl 7, S.sl 16, S.sl 17, S.sl 18 with
  | some (.sl 25 4 o5 false), some (.sl 25 4 o6 false), some (.sl 25 4 o8 false), .pv (.int .i64 x1), .osl 5 x6, .osl 6 x7, .osl 8 x16, .pv (.int .i64 x17), .pv (.int .i64 x18) => .ofEq (liter (lbody T f24_G f24_A5 f24_c5) FU (f24_m5 o5 o6 o8 x1 x6 x7 x16 x17 x18)) (fun K => f24_l5 (fun o5 o6 x6 x7 => K (.exit 0, f24_e5_0 o5 o6 x6 x7)) FU o5 o6 o8 x1 x6 x7 x16 x17 x18) (fun K => f24_q5 K FU o5 o6 o8 x1 x6 x7 x16 x17 x18)
  | _, _, _, _, _, _, _, _, _ => .fail
theorem f24_v5 {A : Ann} (h1 : (firstRegion f24_c5).bind A.loop = some f24_s5) (h2 : (firstRegion f24_c5).bind A.head = some ⟨[1, 6, 7, 16, 17, 18], [5, 6, 8], 11, false, []⟩) : LoopsOk T f24_G (.loop f24_c5) A := by
  refine loopOk_of h1 h2 (A' := f24_A5) (loopsOk_of fun c' hc => by rw [show loopsIn (f24_c5) = [] from by kernel_rfl] at hc; cases hc) fun S0 S o S' hn hs => ?_
  unfold f24_s5 at hs
  split at hs
  · exact loop_fin hs hn rfl (slots_cons (by assumption) (slots_cons (by assumption) (slots_cons (by assumption) (slots_cons (by assumption) (slots_cons (by assumption) (slots_cons (by assumption) slots_nil)))))) (heap_cons (by assumption) (heap_cons (by assumption) (heap_cons (by assumption) heap_nil))) (by kernel_rfl) (by kernel_rfl) (by kernel_rfl) (by kernel_rfl)
  · exact (M.is_fail.1 hs).elim
noncomputable def f24_A : Ann := ⟨assoc [(5, f24_s5)], assoc [(5, ⟨[1, 6, 7, 16, 17, 18], [5, 6, 8], 11, false, []⟩)], assoc [], none⟩
noncomputable def F24 (a0 : List (List PV)) (a1 : Int) : Option PV :=
  (P40 [.list 4 a0]).bind fun r1 => (pun .not r1).bind fun r2 => (pbool r2).bind fun b3 => bif b3 then ((P57 [.list 4 a0]).bind fun xs4 => bif xs4.length == xs4.length then (some (.tup [.list 4 xs4, .list 4 []])) else none) else ((P57 [.list 4 a0]).bind fun xs5 => f24_l5 (fun (y6 : List (List PV)) (y7 : List (List PV)) (y8 : Nat) (y9 : Nat) => bif y6.length == y8 then (bif y7.length == y9 then (some (.tup [.list 4 y6, .list 4 y7])) else none) else none) FU [] [] xs5 a1 0 0 xs5.length (xs5.length : Int) 0)
theorem f24_eq (a0 : List (List PV)) (a1 : Int) : lfunP T f24_G f24_A Tryd.f24 [.pv (.list 4 a0), .pv (.int .i64 a1)] = F24 a0 a1 := by kernel_rfl
noncomputable def P24 : List PV → Option PV
  | [.list 4 a0, .int .i64 a1] => F24 a0 a1
  | _ => none
noncomputable def f24_code : Code := (Tryd.f24).body.getD .skip
theorem f24_gok : GOk Tryd.prog f24_G := gok_of (by
  simp only [List.forall_mem_cons, List.not_mem_nil, false_implies, implies_true, and_true]
  exact ⟨f40_ok, f57_ok⟩)
theorem f24_ok : GivenOk Tryd.prog 24 (.pcall P24) := given_p tok f24_gok mixed (A := f24_A) (fn := Tryd.f24) (c := f24_code) (by kernel_rfl) (by kernel_rfl) (loopsOk_of fun c' hc => by
    rw [show loopsIn (f24_code) = [f24_c5] from by kernel_rfl] at hc
    simp only [List.mem_cons, List.not_mem_nil, or_false] at hc
    rcases hc with rfl
    · exact f24_v5 (by kernel_rfl) (by kernel_rfl)) (by kernel_rfl) (by kernel_rfl) (k := 2) (Nat.le_of_ble_eq_true (by kernel_rfl)) (by
  intro ps r h
  unfold P24 at h
  split at h
  · exact ⟨rfl, (f24_eq _ _).trans h⟩
  · cases h)

/-! ### bailiwick/bailiwickref01.Right: function 80 -/
noncomputable def f80_G : Nat → Option Given := assoc []
/-! loop 2 -/
noncomputable def f80_c2 : Code := ((Tryd.f80).body.bind (findLoop 2)).getD .skip
noncomputable def f80_m2 (x0 : List (List PV)) (x3 : Int) : LS := ⟨supd (supd (fun _ => .any) 3 (.pv (.int .i64 x3))) 0 (.pv (.list 1 x0)), (fun _ => none), 2, 0⟩
noncomputable def f80_e2_0 : LS := ⟨(fun _ => .any), (fun _ => none), 6, 0⟩
noncomputable def f80_r2 (x2 : Bool) : LS := ⟨supd (fun _ => .any) 2 (.pv (.bool x2)), (fun _ => none), 35, 0⟩
noncomputable def f80_A2 : Ann := ⟨assoc [], assoc [(2, ⟨[0, 3], [], 2, false, []⟩)], assoc [(0, ⟨[], [], 6, false, []⟩)], some ⟨[2], [], 35, false, []⟩⟩
noncomputable def f80_l2 (k0 : Option PV) (kr : Bool → Option PV) : Nat → (List (List PV)) → Int → Option PV
  | 0, _, _ => none
  | n + 1, x0, x3 => bif decide (x3 < (x0.length : Int)) then (((lget x0 x3).bind fun cs1 => (cs1[0]?).bind fun p2 => (pbin .lss p2 (.int .i64 0)).bind fun r3 => (pbool r3).bind fun b4 => bif b4 then (some (.bool true)) else ((lget x0 x3).bind fun cs5 => (cs5[0]?).bind fun p6 => (pbin .gtr p6 (.int .i64 255)).bind fun r7 => (pbool r7).bind fun b8 => bif b8 then (some (.bool true)) else (bif decide (x3 > 0) then ((lget x0 x3).bind fun cs9 => (cs9[0]?).bind fun p10 => (lget x0 (IntKind.i64.wrap (x3 - 1))).bind fun cs11 => (cs11[0]?).bind fun p12 => (pbin .leq p10 p12).bind fun r13 => some r13) else (some (.bool false))))).bind fun g14 => (pbool g14).bind fun b15 => bif b15 then (kr false) else (f80_l2 k0 kr n x0 (IntKind.i64.wrap (x3 + 1)))) else k0
theorem f80_b2 (K : LOut × LS → Option PV) (x0 : List (List PV)) (x3 : Int) : (lbody T f80_G f80_A2 f80_c2 (f80_m2 x0 x3)).run K =
    bif decide (x3 < (x0.length : Int)) then (((lget x0 x3).bind fun cs1 => (cs1[0]?).bind fun p2 => (pbin .lss p2 (.int .i64 0)).bind fun r3 => (pbool r3).bind fun b4 => bif b4 then (some (.bool true)) else ((lget x0 x3).bind fun cs5 => (cs5[0]?).bind fun p6 => (pbin .gtr p6 (.int .i64 255)).bind fun r7 => (pbool r7).bind fun b8 => bif b8 then (some (.bool true)) else (bif decide (x3 > 0) then ((lget x0 x3).bind fun cs9 => (cs9[0]?).bind fun p10 => (lget x0 (IntKind.i64.wrap (x3 - 1))).bind fun cs11 => (cs11[0]?).bind fun p12 => (pbin .leq p10 p12).bind fun r13 => some r13) else (some (.bool false))))).bind fun g14 => (pbool g14).bind fun b15 => bif b15 then (K (.ret, f80_r2 false)) else (K (.normal, f80_m2 x0 (IntKind.i64.wrap (x3 + 1))))) else (K (.exit 0, f80_e2_0)) := by kernel_rfl
theorem f80_q2 (K : LOut × LS → Option PV) : ∀ (n : Nat) (x0 : List (List PV)) (x3 : Int), (liter (lbody T f80_G f80_A2 f80_c2) n (f80_m2 x0 x3)).run K = f80_l2 (K (.exit 0, f80_e2_0)) (fun x2 => K (.ret, f80_r2 x2)) n x0 x3
  | 0, _, _ => rfl
  | n + 1, x0, x3 => by
    rw [liter_succ, f80_b2]
    try simp only [lk_normal, lk_exit, lk_ret, f80_q2 K n]
    try rfl
noncomputable def f80_s2 (S : LS) : M (LOut × LS) := match S.sl 0, S.sl 3 with
  | .pv (.list 1 x0), .pv (.int .i64 x3) => .ofEq (liter (lbody T f80_G f80_A2 f80_c2) FU (f80_m2 x0 x3)) (fun K => f80_l2 (K (.exit 0, f80_e2_0)) (fun x2 => K (.ret, f80_r2 x2)) FU x0 x3) (fun K => f80_q2 K FU x0 x3)
  | _, _ => .fail
theorem f80_v2 {A : Ann} (h1 : (firstRegion f80_c2).bind A.loop = some f80_s2) (h2 : (firstRegion f80_c2).bind A.head = some ⟨[0, 3], [], 2, false, []⟩) : LoopsOk T f80_G (.loop f80_c2) A := by
  refine loopOk_of h1 h2 (A' := f80_A2) (loopsOk_of fun c' hc => by rw [show loopsIn (f80_c2) = [] from by kernel_rfl] at hc; cases hc) fun S0 S o S' hn hs => ?_
  unfold f80_s2 at hs
  split at hs
  · exact loop_fin hs hn rfl (slots_cons (by assumption) (slots_cons (by assumption) slots_nil)) heap_nil (by kernel_rfl) (by kernel_rfl) (by kernel_rfl) (by kernel_rfl)
  · exact (M.is_fail.1 hs).elim
noncomputable def f80_A : Ann := ⟨assoc [(2, f80_s2)], assoc [(2, ⟨[0, 3], [], 2, false, []⟩)], assoc [], none⟩
noncomputable def F80 (a0 : List (List PV)) : Option PV :=
  f80_l2 (some (.bool true)) (fun (y1 : Bool) => some (.bool y1)) FU a0 0
theorem f80_eq (a0 : List (List PV)) : lfunP T f80_G f80_A Tryd.f80 [.pv (.list 1 a0)] = F80 a0 := by kernel_rfl
noncomputable def P80 : List PV → Option PV
  | [.list 1 a0] => F80 a0
  | _ => none
noncomputable def f80_code : Code := (Tryd.f80).body.getD .skip
theorem f80_gok : GOk Tryd.prog f80_G := gok_of (fun p hp => by cases hp)
theorem f80_ok : GivenOk Tryd.prog 80 (.pcall P80) := given_p tok f80_gok mixed (A := f80_A) (fn := Tryd.f80) (c := f80_code) (by kernel_rfl) (by kernel_rfl) (loopsOk_of fun c' hc => by
    rw [show loopsIn (f80_code) = [f80_c2] from by kernel_rfl] at hc
    simp only [List.mem_cons, List.not_mem_nil, or_false] at hc
    rcases hc with rfl
    · exact f80_v2 (by kernel_rfl) (by kernel_rfl)) (by kernel_rfl) (by kernel_rfl) (k := 1) (Nat.le_of_ble_eq_true (by kernel_rfl)) (by
  intro ps r h
  unfold P80 at h
  split at h
  · exact ⟨rfl, (f80_eq _).trans h⟩
  · cases h)

/-! ### bailiwick/bailiwickref10.May: function 75 -/
noncomputable def f75_G : Nat → Option Given := assoc [(80, .pcall P80)]
noncomputable def f75_A : Ann := ⟨assoc [], assoc [], assoc [], none⟩
noncomputable def F75 (a0_0 : Int) (a0_1 : List (List PV)) (a0_2 : Int) (a0_3 : Int) : Option PV :=
  (bif decide ((a0_1.length : Int) > 0) then ((P80 [.list 1 a0_1]).bind fun r1 => (pbool r1).bind fun b2 => bif b2 then (bif decide (a0_2 ≥ 0) then (bif decide (a0_2 < a0_3) then (some (.bool (decide (a0_3 ≤ 4611686018427387904)))) else (some (.bool false))) else (some (.bool false))) else (some (.bool false))) else (some (.bool false))).bind fun g3 => some g3
theorem f75_eq (a0_0 : Int) (a0_1 : List (List PV)) (a0_2 : Int) (a0_3 : Int) : lfunP T f75_G f75_A Tryd.f75 [.pv (.agg [.int .i64 a0_0, .list 1 a0_1, .int .i64 a0_2, .int .i64 a0_3])] = F75 a0_0 a0_1 a0_2 a0_3 := by kernel_rfl
noncomputable def P75 : List PV → Option PV
  | [.agg [.int .i64 a0_0, .list 1 a0_1, .int .i64 a0_2, .int .i64 a0_3]] => F75 a0_0 a0_1 a0_2 a0_3
  | _ => none
noncomputable def f75_code : Code := (Tryd.f75).body.getD .skip
theorem f75_gok : GOk Tryd.prog f75_G := gok_of (by
  simp only [List.forall_mem_cons, List.not_mem_nil, false_implies, implies_true, and_true]
  exact f80_ok)
theorem f75_ok : GivenOk Tryd.prog 75 (.pcall P75) := given_p tok f75_gok mixed (A := f75_A) (fn := Tryd.f75) (c := f75_code) (by kernel_rfl) (by kernel_rfl) (loopsOk_of fun c' hc => by rw [show loopsIn (f75_code) = [] from by kernel_rfl] at hc; cases hc) (by kernel_rfl) (by kernel_rfl) (k := 1) (Nat.le_of_ble_eq_true (by kernel_rfl)) (by
  intro ps r h
  unfold P75 at h
  split at h
  · exact ⟨rfl, (f75_eq _ _ _ _).trans h⟩
  · cases h)

/-! ### bailiwick/bailiwickref02.Meets: function 66 -/
noncomputable def f66_G : Nat → Option Given := assoc []
noncomputable def f66_A : Ann := ⟨assoc [], assoc [], assoc [], none⟩
noncomputable def F66 (a0 : Int) (a1 : Int) (a2 : Int) (a3 : Int) : Option PV :=
  bif decide (a2 > a0) then ((bif decide (a2 ≥ a0) then (bif decide (a2 < a1) then (bif decide (a2 ≥ a2) then (some (.bool (decide (a2 < a3)))) else (some (.bool false))) else (some (.bool false))) else (some (.bool false))).bind fun g1 => some g1) else ((bif decide (a0 ≥ a0) then (bif decide (a0 < a1) then (bif decide (a0 ≥ a2) then (some (.bool (decide (a0 < a3)))) else (some (.bool false))) else (some (.bool false))) else (some (.bool false))).bind fun g2 => some g2)
theorem f66_eq (a0 : Int) (a1 : Int) (a2 : Int) (a3 : Int) : lfunP T f66_G f66_A Tryd.f66 [.pv (.int .i64 a0), .pv (.int .i64 a1), .pv (.int .i64 a2), .pv (.int .i64 a3)] = F66 a0 a1 a2 a3 := by kernel_rfl
noncomputable def P66 : List PV → Option PV
  | [.int .i64 a0, .int .i64 a1, .int .i64 a2, .int .i64 a3] => F66 a0 a1 a2 a3
  | _ => none
noncomputable def f66_code : Code := (Tryd.f66).body.getD .skip
theorem f66_gok : GOk Tryd.prog f66_G := gok_of (fun p hp => by cases hp)
theorem f66_ok : GivenOk Tryd.prog 66 (.pcall P66) := given_p tok f66_gok mixed (A := f66_A) (fn := Tryd.f66) (c := f66_code) (by kernel_rfl) (by kernel_rfl) (loopsOk_of fun c' hc => by rw [show loopsIn (f66_code) = [] from by kernel_rfl] at hc; cases hc) (by kernel_rfl) (by kernel_rfl) (k := 4) (Nat.le_of_ble_eq_true (by kernel_rfl)) (by
  intro ps r h
  unfold P66 at h
  split at h
  · exact ⟨rfl, (f66_eq _ _ _ _).trans h⟩
  · cases h)

/-! ### bailiwick/bailiwickref01.Touch: function 104 -/
noncomputable def f104_G : Nat → Option Given := assoc []
/-! loop 2 -/
noncomputable def f104_c2 : Code := ((Tryd.f104).body.bind (findLoop 2)).getD .skip
noncomputable def f104_m2 (x0 : List (List PV)) (x1 : List (List PV)) (x5 : Int) (x6 : Int) : LS := ⟨supd (supd (supd (supd (fun _ => .any) 6 (.pv (.int .i64 x6))) 5 (.pv (.int .i64 x5))) 1 (.pv (.list 1 x1))) 0 (.pv (.list 1 x0)), (fun _ => none), 3, 0⟩
noncomputable def f104_e2_0 : LS := ⟨(fun _ => .any), (fun _ => none), 13, 0⟩
noncomputable def f104_r2 (x4 : Bool) : LS := ⟨supd (fun _ => .any) 4 (.pv (.bool x4)), (fun _ => none), 23, 0⟩
noncomputable def f104_A2 : Ann := ⟨assoc [], assoc [(2, ⟨[0, 1, 5, 6], [], 3, false, []⟩)], assoc [(0, ⟨[], [], 13, false, []⟩)], some ⟨[4], [], 23, false, []⟩⟩
noncomputable def f104_l2 (k0 : Option PV) (kr : Bool → Option PV) : Nat → (List (List PV)) → (List (List PV)) → Int → Int → Option PV
  | 0, _, _, _, _ => none
  | n + 1, x0, x1, x5, x6 => (bif decide (x5 < (x0.length : Int)) then (some (.bool (decide (x6 < (x1.length : Int))))) else (some (.bool false))).bind fun g1 => (pbool g1).bind fun b2 => bif b2 then ((lget x0 x5).bind fun cs3 => (cs3[0]?).bind fun p4 => (lget x1 x6).bind fun cs5 => (cs5[0]?).bind fun p6 => (pbin .eql p4 p6).bind fun r7 => (pbool r7).bind fun b8 => bif b8 then (kr true) else ((lget x0 x5).bind fun cs9 => (cs9[0]?).bind fun p10 => (lget x1 x6).bind fun cs11 => (cs11[0]?).bind fun p12 => (pbin .lss p10 p12).bind fun r13 => (pbool r13).bind fun b14 => bif b14 then (f104_l2 k0 kr n x0 x1 (IntKind.i64.wrap (x5 + 1)) x6) else (f104_l2 k0 kr n x0 x1 x5 (IntKind.i64.wrap (x6 + 1))))) else k0
theorem f104_b2 (K : LOut × LS → Option PV) (x0 : List (List PV)) (x1 : List (List PV)) (x5 : Int) (x6 : Int) : (lbody T f104_G f104_A2 f104_c2 (f104_m2 x0 x1 x5 x6)).run K =
    (bif decide (x5 < (x0.length : Int)) then (some (.bool (decide (x6 < (x1.length : Int))))) else (some (.bool false))).bind fun g1 => (pbool g1).bind fun b2 => bif b2 then ((lget x0 x5).bind fun cs3 => (cs3[0]?).bind fun p4 => (lget x1 x6).bind fun cs5 => (cs5[0]?).bind fun p6 => (pbin .eql p4 p6).bind fun r7 => (pbool r7).bind fun b8 => bif b8 then (K (.ret, f104_r2 true)) else ((lget x0 x5).bind fun cs9 => (cs9[0]?).bind fun p10 => (lget x1 x6).bind fun cs11 => (cs11[0]?).bind fun p12 => (pbin .lss p10 p12).bind fun r13 => (pbool r13).bind fun b14 => bif b14 then (K (.normal, f104_m2 x0 x1 (IntKind.i64.wrap (x5 + 1)) x6)) else (K (.normal, f104_m2 x0 x1 x5 (IntKind.i64.wrap (x6 + 1)))))) else (K (.exit 0, f104_e2_0)) := by kernel_rfl
theorem f104_q2 (K : LOut × LS → Option PV) : ∀ (n : Nat) (x0 : List (List PV)) (x1 : List (List PV)) (x5 : Int) (x6 : Int), (liter (lbody T f104_G f104_A2 f104_c2) n (f104_m2 x0 x1 x5 x6)).run K = f104_l2 (K (.exit 0, f104_e2_0)) (fun x4 => K (.ret, f104_r2 x4)) n x0 x1 x5 x6
  | 0, _, _, _, _ => rfl
  | n + 1, x0, x1, x5, x6 => by
    rw [liter_succ, f104_b2]
    try simp only [lk_normal, lk_exit, lk_ret, f104_q2 K n]
    try rfl
noncomputable def f104_s2 (S : LS) : M (LOut × LS) := match S.sl 0, S.sl 1, S.sl 5, S.sl 6 with
  | .pv (.list 1 x0), .pv (.list 1 x1), .pv (.int .i64 x5), .pv (.int .i64 x6) => .ofEq (liter (lbody T f104_G f104_A2 f104_c2) FU (f104_m2 x0 x1 x5 x6)) (fun K => f104_l2 (K (.exit 0, f104_e2_0)) (fun x4 => K (.ret, f104_r2 x4)) FU x0 x1 x5 x6) (fun K => f104_q2 K FU x0 x1 x5 x6)
  | _, _, _, _ => .fail
theorem f104_v2 {A : Ann} (h1 : (firstRegion f104_c2).bind A.loop = some f104_s2) (h2 : (firstRegion f104_c2).bind A.head = some ⟨[0, 1, 5, 6], [], 3, false, []⟩) : LoopsOk T f104_G (.loop f104_c2) A := by
  refine loopOk_of h1 h2 (A' := f104_A2) (loopsOk_of fun c' hc => by rw [show loopsIn (f104_c2) = [] from by kernel_rfl] at hc; cases hc) fun S0 S o S' hn hs => ?_
  unfold f104_s2 at hs
  split at hs
  · exact loop_fin hs hn rfl (slots_cons (by assumption) (slots_cons (by assumption) (slots_cons (by assumption) (slots_cons (by assumption) slots_nil)))) heap_nil (by kernel_rfl) (by kernel_rfl) (by kernel_rfl) (by kernel_rfl)
  · exact (M.is_fail.1 hs).elim
noncomputable def f104_A : Ann := ⟨assoc [(2, f104_s2)], assoc [(2, ⟨[0, 1, 5, 6], [], 3, false, []⟩)], assoc [], none⟩
noncomputable def F104 (a0 : List (List PV)) (a1 : List (List PV)) : Option PV :=
  f104_l2 (some (.bool false)) (fun (y1 : Bool) => some (.bool y1)) FU a0 a1 0 0
theorem f104_eq (a0 : List (List PV)) (a1 : List (List PV)) : lfunP T f104_G f104_A Tryd.f104 [.pv (.list 1 a0), .pv (.list 1 a1)] = F104 a0 a1 := by kernel_rfl
noncomputable def P104 : List PV → Option PV
  | [.list 1 a0, .list 1 a1] => F104 a0 a1
  | _ => none
noncomputable def f104_code : Code := (Tryd.f104).body.getD .skip
theorem f104_gok : GOk Tryd.prog f104_G := gok_of (fun p hp => by cases hp)
theorem f104_ok : GivenOk Tryd.prog 104 (.pcall P104) := given_p tok f104_gok mixed (A := f104_A) (fn := Tryd.f104) (c := f104_code) (by kernel_rfl) (by kernel_rfl) (loopsOk_of fun c' hc => by
    rw [show loopsIn (f104_code) = [f104_c2] from by kernel_rfl] at hc
    simp only [List.mem_cons, List.not_mem_nil, or_false] at hc
    rcases hc with rfl
    · exact f104_v2 (by kernel_rfl) (by kernel_rfl)) (by kernel_rfl) (by kernel_rfl) (k := 2) (Nat.le_of_ble_eq_true (by kernel_rfl)) (by
  intro ps r h
  unfold P104 at h
  split at h
  · exact ⟨rfl, (f104_eq _ _).trans h⟩
  · cases h)

/-! ### bailiwick/bailiwickref10.clash: function 77 -/
noncomputable def f77_G : Nat → Option Given := assoc [(66, .pcall P66), (104, .pcall P104)]
noncomputable def f77_A : Ann := ⟨assoc [], assoc [], assoc [], none⟩
noncomputable def F77 (a0_0 : Int) (a0_1 : List (List PV)) (a0_2 : Int) (a0_3 : Int) (a1_0 : Int) (a1_1 : List (List PV)) (a1_2 : Int) (a1_3 : Int) : Option PV :=
  ((P66 [.int .i64 a0_2, .int .i64 a0_3, .int .i64 a1_2, .int .i64 a1_3]).bind fun r1 => (pbool r1).bind fun b2 => bif b2 then ((P104 [.list 1 a0_1, .list 1 a1_1]).bind fun r3 => some r3) else (some (.bool false))).bind fun g4 => some g4
theorem f77_eq (a0_0 : Int) (a0_1 : List (List PV)) (a0_2 : Int) (a0_3 : Int) (a1_0 : Int) (a1_1 : List (List PV)) (a1_2 : Int) (a1_3 : Int) : lfunP T f77_G f77_A Tryd.f77 [.pv (.agg [.int .i64 a0_0, .list 1 a0_1, .int .i64 a0_2, .int .i64 a0_3]), .pv (.agg [.int .i64 a1_0, .list 1 a1_1, .int .i64 a1_2, .int .i64 a1_3])] = F77 a0_0 a0_1 a0_2 a0_3 a1_0 a1_1 a1_2 a1_3 := by kernel_rfl
noncomputable def P77 : List PV → Option PV
  | [.agg [.int .i64 a0_0, .list 1 a0_1, .int .i64 a0_2, .int .i64 a0_3], .agg [.int .i64 a1_0, .list 1 a1_1, .int .i64 a1_2, .int .i64 a1_3]] => F77 a0_0 a0_1 a0_2 a0_3 a1_0 a1_1 a1_2 a1_3
  | _ => none
noncomputable def f77_code : Code := (Tryd.f77).body.getD .skip
theorem f77_gok : GOk Tryd.prog f77_G := gok_of (by
  simp only [List.forall_mem_cons, List.not_mem_nil, false_implies, implies_true, and_true]
  exact ⟨f66_ok, f104_ok⟩)
theorem f77_ok : GivenOk Tryd.prog 77 (.pcall P77) := given_p tok f77_gok mixed (A := f77_A) (fn := Tryd.f77) (c := f77_code) (by kernel_rfl) (by kernel_rfl) (loopsOk_of fun c' hc => by rw [show loopsIn (f77_code) = [] from by kernel_rfl] at hc; cases hc) (by kernel_rfl) (by kernel_rfl) (k := 2) (Nat.le_of_ble_eq_true (by kernel_rfl)) (by
  intro ps r h
  unfold P77 at h
  split at h
  · exact ⟨rfl, (f77_eq _ _ _ _ _ _ _ _).trans h⟩
  · cases h)

/-! ### bailiwick/bailiwickref10.Right: function 41 -/
noncomputable def f41_G : Nat → Option Given := assoc [(75, .pcall P75), (77, .pcall P77)]
/-! loop 9 -/
noncomputable def f41_c9 : Code := ((Tryd.f41).body.bind (findLoop 9)).getD .skip
noncomputable def f41_m9 (x0 : List (List PV)) (x3 : Int) (x4 : Int) : LS := ⟨supd (supd (supd (fun _ => .any) 4 (.pv (.int .i64 x4))) 3 (.pv (.int .i64 x3))) 0 (.pv (.list 4 x0)), (fun _ => none), 34, 0⟩
noncomputable def f41_e9_2 (x0 : List (List PV)) (x3 : Int) : LS := ⟨supd (supd (fun _ => .any) 3 (.pv (.int .i64 x3))) 0 (.pv (.list 4 x0)), (fun _ => none), 37, 0⟩
noncomputable def f41_r9 (x2 : Bool) : LS := ⟨supd (fun _ => .any) 2 (.pv (.bool x2)), (fun _ => none), 34, 0⟩
noncomputable def f41_A9 : Ann := ⟨assoc [], assoc [(4, ⟨[0, 3], [], 5, false, []⟩), (9, ⟨[0, 3, 4], [], 34, false, []⟩)], assoc [(2, ⟨[0, 3], [], 37, false, []⟩)], some ⟨[2], [], 34, false, []⟩⟩
noncomputable def f41_l9 (k2 : (List (List PV)) → Int → Option PV) (kr : Bool → Option PV) : Nat → (List (List PV)) → Int → Int → Option PV
  | 0, _, _, _ => none
  | n + 1, x0, x3, x4 => bif decide (x4 < x3) then ((lget x0 x4).bind fun cs1 => (pext cs1 0 4).bind fun p2 => (lget x0 x3).bind fun cs3 => (pext cs3 0 4).bind fun p4 => (P77 [p2, p4]).bind fun r5 => (pbool r5).bind fun b6 => bif b6 then (kr false) else (f41_l9 k2 kr n x0 x3 (IntKind.i64.wrap (x4 + 1)))) else (k2 x0 x3)
theorem f41_b9 (K : LOut × LS → Option PV) (x0 : List (List PV)) (x3 : Int) (x4 : Int) : (lbody T f41_G f41_A9 f41_c9 (f41_m9 x0 x3 x4)).run K =
    bif decide (x4 < x3) then ((lget x0 x4).bind fun cs1 => (pext cs1 0 4).bind fun p2 => (lget x0 x3).bind fun cs3 => (pext cs3 0 4).bind fun p4 => (P77 [p2, p4]).bind fun r5 => (pbool r5).bind fun b6 => bif b6 then (K (.ret, f41_r9 false)) else (K (.normal, f41_m9 x0 x3 (IntKind.i64.wrap (x4 + 1))))) else (K (.exit 2, f41_e9_2 x0 x3)) := by kernel_rfl
theorem f41_q9 (K : LOut × LS → Option PV) : ∀ (n : Nat) (x0 : List (List PV)) (x3 : Int) (x4 : Int), (liter (lbody T f41_G f41_A9 f41_c9) n (f41_m9 x0 x3 x4)).run K = f41_l9 (fun x0 x3 => K (.exit 2, f41_e9_2 x0 x3)) (fun x2 => K (.ret, f41_r9 x2)) n x0 x3 x4
  | 0, _, _, _ => rfl
  | n + 1, x0, x3, x4 => by
    rw [liter_succ, f41_b9]
    try simp only [lk_normal, lk_exit, lk_ret, f41_q9 K n]
    try rfl
noncomputable def f41_s9 (S : LS) : M (LOut × LS) := match S.sl 0, S.sl 3, S.sl 4 with
  | .pv (.list 4 x0), .pv (.int .i64 x3), .pv (.int .i64 x4) => .ofEq (liter (lbody T f41_G f41_A9 f41_c9) FU (f41_m9 x0 x3 x4)) (fun K => f41_l9 (fun x0 x3 => K (.exit 2, f41_e9_2 x0 x3)) (fun x2 => K (.ret, f41_r9 x2)) FU x0 x3 x4) (fun K => f41_q9 K FU x0 x3 x4)
  | _, _, _ => .fail
theorem f41_v9 {A : Ann} (h1 : (firstRegion f41_c9).bind A.loop = some f41_s9) (h2 : (firstRegion f41_c9).bind A.head = some ⟨[0, 3, 4], [], 34, false, []⟩) : LoopsOk T f41_G (.loop f41_c9) A := by
  refine loopOk_of h1 h2 (A' := f41_A9) (loopsOk_of fun c' hc => by rw [show loopsIn (f41_c9) = [] from by kernel_rfl] at hc; cases hc) fun S0 S o S' hn hs => ?_
  unfold f41_s9 at hs
  split at hs
  · exact loop_fin hs hn rfl (slots_cons (by assumption) (slots_cons (by assumption) (slots_cons (by assumption) slots_nil))) heap_nil (by kernel_rfl) (by kernel_rfl) (by kernel_rfl) (by kernel_rfl)
  · exact (M.is_fail.1 hs).elim
/-! loop 4 -/
noncomputable def f41_c4 : Code := ((Tryd.f41).body.bind (findLoop 4)).getD .skip
noncomputable def f41_m4 (x0 : List (List PV)) (x3 : Int) : LS := ⟨supd (supd (fun _ => .any) 3 (.pv (.int .i64 x3))) 0 (.pv (.list 4 x0)), (fun _ => none), 5, 0⟩
noncomputable def f41_e4_0 : LS := ⟨(fun _ => .any), (fun _ => none), 9, 0⟩
noncomputable def f41_r4 (x2 : Bool) : LS := ⟨supd (fun _ => .any) 2 (.pv (.bool x2)), (fun _ => none), 34, 0⟩
noncomputable def f41_A4 : Ann := ⟨assoc [(9, f41_s9)], assoc [(4, ⟨[0, 3], [], 5, false, []⟩), (9, ⟨[0, 3, 4], [], 34, false, []⟩)], assoc [(0, ⟨[], [], 9, false, []⟩)], some ⟨[2], [], 34, false, []⟩⟩
noncomputable def f41_l4 (k0 : Option PV) (kr : Bool → Option PV) : Nat → (List (List PV)) → Int → Option PV
  | 0, _, _ => none
  | n + 1, x0, x3 => bif decide (x3 < (x0.length : Int)) then (((lget x0 x3).bind fun cs1 => (pext cs1 0 4).bind fun p2 => (P75 [p2]).bind fun r3 => (pun .not r3).bind fun r4 => (pbool r4).bind fun b5 => bif b5 then (some (.bool true)) else (bif decide (x3 > 0) then ((lget x0 x3).bind fun cs6 => (cs6[0]?).bind fun p7 => (lget x0 (IntKind.i64.wrap (x3 - 1))).bind fun cs8 => (cs8[0]?).bind fun p9 => (pbin .leq p7 p9).bind fun r10 => some r10) else (some (.bool false)))).bind fun g11 => (pbool g11).bind fun b12 => bif b12 then (kr false) else (f41_l9 (fun (y13 : List (List PV)) (y14 : Int) => f41_l4 k0 kr n y13 (IntKind.i64.wrap (y14 + 1))) (fun (y15 : Bool) => kr y15) FU x0 x3 0)) else k0
theorem f41_b4 (K : LOut × LS → Option PV) (x0 : List (List PV)) (x3 : Int) : (lbody T f41_G f41_A4 f41_c4 (f41_m4 x0 x3)).run K =
    bif decide (x3 < (x0.length : Int)) then (((lget x0 x3).bind fun cs1 => (pext cs1 0 4).bind fun p2 => (P75 [p2]).bind fun r3 => (pun .not r3).bind fun r4 => (pbool r4).bind fun b5 => bif b5 then (some (.bool true)) else (bif decide (x3 > 0) then ((lget x0 x3).bind fun cs6 => (cs6[0]?).bind fun p7 => (lget x0 (IntKind.i64.wrap (x3 - 1))).bind fun cs8 => (cs8[0]?).bind fun p9 => (pbin .leq p7 p9).bind fun r10 => some r10) else (some (.bool false)))).bind fun g11 => (pbool g11).bind fun b12 => bif b12 then (K (.ret, f41_r4 false)) else (f41_l9 (fun (y13 : List (List PV)) (y14 : Int) => K (.normal, f41_m4 y13 (IntKind.i64.wrap (y14 + 1)))) (fun (y15 : Bool) => K (.ret, f41_r4 y15)) FU x0 x3 0)) else (K (.exit 0, f41_e4_0)) := by kernel_rfl
theorem f41_q4 (K : LOut × LS → Option PV) : ∀ (n : Nat) (x0 : List (List PV)) (x3 : Int), (liter (lbody T f41_G f41_A4 f41_c4) n (f41_m4 x0 x3)).run K = f41_l4 (K (.exit 0, f41_e4_0)) (fun x2 => K (.ret, f41_r4 x2)) n x0 x3
  | 0, _, _ => rfl
  | n + 1, x0, x3 => by
    rw [liter_succ, f41_b4]
    try simp only [lk_normal, lk_exit, lk_ret, f41_q4 K n]
    try rfl
noncomputable def f41_s4 (S : LS) : M (LOut × LS) := match S.sl 0, S.sl 3 with
  | .pv (.list 4 x0), .pv (.int .i64 x3) => .ofEq (liter (lbody T f41_G f41_A4 f41_c4) FU (f41_m4 x0 x3)) (fun K => f41_l4 (K (.exit 0, f41_e4_0)) (fun x2 => K (.ret, f41_r4 x2)) FU x0 x3) (fun K => f41_q4 K FU x0 x3)
  | _, _ => .fail
theorem f41_v4 {A : Ann} (h1 : (firstRegion f41_c4).bind A.loop = some f41_s4) (h2 : (firstRegion f41_c4).bind A.head = some ⟨[0, 3], [], 5, false, []⟩) : LoopsOk T f41_G (.loop f41_c4) A := by
  refine loopOk_of h1 h2 (A' := f41_A4) (loopsOk_of fun c' hc => by
    rw [show loopsIn (f41_c4) = [f41_c9] from by kernel_rfl] at hc
    simp only [List.mem_cons, List.not_mem_nil, or_false] at hc
    rcases hc with rfl
    · exact f41_v9 (by kernel_rfl) (by kernel_rfl)) fun S0 S o S' hn hs => ?_
  unfold f41_s4 at hs
  split at hs
  · exact loop_fin hs hn rfl (slots_cons (by assumption) (slots_cons (by assumption) slots_nil)) heap_nil (by kernel_rfl) (by kernel_rfl) (by kernel_rfl) (by kernel_rfl)
  · exact (M.is_fail.1 hs).elim
noncomputable def f41_A : Ann := ⟨assoc [(9, f41_s9), (4, f41_s4)], assoc [(4, ⟨[0, 3], [], 5, false, []⟩), (9, ⟨[0, 3, 4], [], 34, false, []⟩)], assoc [], none⟩
noncomputable def F41 (a0 : List (List PV)) : Option PV :=
  bif decide ((a0.length : Int) > 256) then (some (.bool false)) else (f41_l4 (some (.bool true)) (fun (y1 : Bool) => some (.bool y1)) FU a0 0)
theorem f41_eq (a0 : List (List PV)) : lfunP T f41_G f41_A Tryd.f41 [.pv (.list 4 a0)] = F41 a0 := by kernel_rfl
noncomputable def P41 : List PV → Option PV
  | [.list 4 a0] => F41 a0
  | _ => none
noncomputable def f41_code : Code := (Tryd.f41).body.getD .skip
theorem f41_gok : GOk Tryd.prog f41_G := gok_of (by
  simp only [List.forall_mem_cons, List.not_mem_nil, false_implies, implies_true, and_true]
  exact ⟨f75_ok, f77_ok⟩)
theorem f41_ok : GivenOk Tryd.prog 41 (.pcall P41) := given_p tok f41_gok mixed (A := f41_A) (fn := Tryd.f41) (c := f41_code) (by kernel_rfl) (by kernel_rfl) (loopsOk_of fun c' hc => by
    rw [show loopsIn (f41_code) = [f41_c4] from by kernel_rfl] at hc
    simp only [List.mem_cons, List.not_mem_nil, or_false] at hc
    rcases hc with rfl
    · exact f41_v4 (by kernel_rfl) (by kernel_rfl)) (by kernel_rfl) (by kernel_rfl) (k := 1) (Nat.le_of_ble_eq_true (by kernel_rfl)) (by
  intro ps r h
  unfold P41 at h
  split at h
  · exact ⟨rfl, (f41_eq _).trans h⟩
  · cases h)

/-! ### bailiwick/bailiwickref10.Over: function 25 -/
noncomputable def f25_G : Nat → Option Given := assoc [(41, .pcall P41)]
/-! loop 5 -/
noncomputable def f25_c5 : Code := ((Tryd.f25).body.bind (findLoop 5)).getD .skip
noncomputable def f25_m5 (o5 : List (List PV)) (o6 : List (List PV)) (x0 : List (List PV)) (x1 : Int) (x6 : Nat) (x7 : Nat) (x8 : Int) : LS := ⟨supd (supd (supd (supd (supd (fun _ => .any) 8 (.pv (.int .i64 x8))) 7 (.osl 6 x7)) 6 (.osl 5 x6)) 1 (.pv (.int .i64 x1))) 0 (.pv (.list 4 x0)), hset (hset (fun _ => none) 6 (.sl 25 4 o6 false)) 5 (.sl 25 4 o5 false), 8, 0⟩
noncomputable def f25_e5_0 (o5 : List (List PV)) (o6 : List (List PV)) (x6 : Nat) (x7 : Nat) : LS := ⟨supd (supd (fun _ => .any) 7 (.osl 6 x7)) 6 (.osl 5 x6), hset (hset (fun _ => none) 6 (.sl 25 4 o6 false)) 5 (.sl 25 4 o5 false), 12, 0⟩
noncomputable def f25_A5 : Ann := ⟨assoc [], assoc [(5, ⟨[0, 1, 6, 7, 8], [5, 6], 8, false, []⟩)], assoc [(0, ⟨[6, 7], [5, 6], 12, false, []⟩)], none⟩
noncomputable def f25_l5 (k0 : (List (List PV)) → (List (List PV)) → Nat → Nat → Option PV) : Nat → (List (List PV)) → (List (List PV)) → (List (List PV)) → Int → Nat → Nat → Int → Option PV
  | 0, _, _, _, _, _, _, _ => none
  | n + 1, o5, o6, x0, x1, x6, x7, x8 => bif decide (x8 < (x0.length : Int)) then ((lget x0 x8).bind fun cs1 => (cs1[3]?).bind fun p2 => (pbin .gtr p2 (.int .i64 x1)).bind fun r3 => (pbool r3).bind fun b4 => bif b4 then ((lget x0 x8).bind fun cs5 => (pext cs5 0 4).bind fun p6 => (pcells 4 p6).bind fun cs7 => bif o5.length == x6 then (bif decide (o5.length + ([cs7] : List (List PV)).length ≤ LIM) then (f25_l5 k0 n (o5 ++ [cs7]) o6 x0 x1 ((o5 ++ [cs7] : List (List PV)).length) x7 (IntKind.i64.wrap (x8 + 1))) else none) else none) else ((lget x0 x8).bind fun cs8 => (pext cs8 0 4).bind fun p9 => (pcells 4 p9).bind fun cs10 => bif o6.length == x7 then (bif decide (o6.length + ([cs10] : List (List PV)).length ≤ LIM) then (f25_l5 k0 n o5 (o6 ++ [cs10]) x0 x1 x6 ((o6 ++ [cs10] : List (List PV)).length) (IntKind.i64.wrap (x8 + 1))) else none) else none)) else (k0 o5 o6 x6 x7)
theorem f25_b5 (K : LOut × LS → Option PV) (o5 : List (List PV)) (o6 : List (List PV)) (x0 : List (List PV)) (x1 : Int) (x6 : Nat) (x7 : Nat) (x8 : Int) : (lbody T f25_G f25_A5 f25_c5 (f25_m5 o5 o6 x0 x1 x6 x7 x8)).run K =
    bif decide (x8 < (x0.length : Int)) then ((lget x0 x8).bind fun cs1 => (cs1[3]?).bind fun p2 => (pbin .gtr p2 (.int .i64 x1)).bind fun r3 => (pbool r3).bind fun b4 => bif b4 then ((lget x0 x8).bind fun cs5 => (pext cs5 0 4).bind fun p6 => (pcells 4 p6).bind fun cs7 => bif o5.length == x6 then (bif decide (o5.length + ([cs7] : List (List PV)).length ≤ LIM) then (K (.normal, f25_m5 (o5 ++ [cs7]) o6 x0 x1 ((o5 ++ [cs7] : List (List PV)).length) x7 (IntKind.i64.wrap (x8 + 1)))) else none) else none) else ((lget x0 x8).bind fun cs8 => (pext cs8 0 4).bind fun p9 => (pcells 4 p9).bind fun cs10 => bif o6.length == x7 then (bif decide (o6.length + ([cs10] : List (List PV)).length ≤ LIM) then (K (.normal, f25_m5 o5 (o6 ++ [cs10]) x0 x1 x6 ((o6 ++ [cs10] : List (List PV)).length) (IntKind.i64.wrap (x8 + 1)))) else none) else none)) else (K (.exit 0, f25_e5_0 o5 o6 x6 x7)) := by kernel_rfl
theorem f25_q5 (K : LOut × LS → Option PV) : ∀ (n : Nat) (o5 : List (List PV)) (o6 : List (List PV)) (x0 : List (List PV)) (x1 : Int) (x6 : Nat) (x7 : Nat) (x8 : Int), (liter (lbody T f25_G f25_A5 f25_c5) n (f25_m5 o5 o6 x0 x1 x6 x7 x8)).run K = f25_l5 (fun o5 o6 x6 x7 => K (.exit 0, f25_e5_0 o5 o6 x6 x7)) n o5 o6 x0 x1 x6 x7 x8
  | 0, _, _, _, _, _, _, _ => rfl
  | n + 1, o5, o6, x0, x1, x6, x7, x8 => by
    rw [liter_succ, f25_b5]
    try simp only [lk_normal, lk_exit, lk_ret, f25_q5 K n]
    try rfl
noncomputable def f25_s5 (S : LS) : M (LOut × LS) := match S.H 5, S.H 6, S.sl 0, S.sl 1, S.sl 6, S.sl 7, S.sl 8 with
  | some (.sl 25 4 o5 false), some (.sl 25 4 o6 false), .pv (.list 4 x0), .pv (.int .i64 x1), .osl 5 x6, .osl 6 x7, .pv (.int .i64 x8) => .ofEq (liter (lbody T f25_G f25_A5 f25_c5) FU (f25_m5 o5 o6 x0 x1 x6 x7 x8)) (fun K => f25_l5 (fun o5 o6 x6 x7 => K (.exit 0, f25_e5_0 o5 o6 x6 x7)) FU o5 o6 x0 x1 x6 x7 x8) (fun K => f25_q5 K FU o5 o6 x0 x1 x6 x7 x8)
  | _, _, _, _, _, _, _ => .fail
theorem f25_v5 {A : Ann} (h1 : (firstRegion f25_c5).bind A.loop = some f25_s5) (h2 : (firstRegion f25_c5).bind A.head = some ⟨[0, 1, 6, 7, 8], [5, 6], 8, false, []⟩) : LoopsOk T f25_G (.loop f25_c5) A := by
  refine loopOk_of h1 h2 (A' := f25_A5) (loopsOk_of fun c' hc => by rw [show loopsIn (f25_c5) = [] from by kernel_rfl] at hc; cases hc) fun S0 S o S' hn hs => ?_
  unfold f25_s5 at hs
  split at hs
  · exact loop_fin hs hn rfl (slots_cons (by assumption) (slots_cons (by assumption) (slots_cons (by assumption) (slots_cons (by assumption) (slots_cons (by assumption) slots_nil))))) (heap_cons (by assumption) (heap_cons (by assumption) heap_nil)) (by kernel_rfl) (by kernel_rfl) (by kernel_rfl) (by kernel_rfl)
  · exact (M.is_fail.1 hs).elim
noncomputable def f25_A : Ann := ⟨assoc [(5, f25_s5)], assoc [(5, ⟨[0, 1, 6, 7, 8], [5, 6], 8, false, []⟩)], assoc [], none⟩
noncomputable def F25 (a0 : List (List PV)) (a1 : Int) : Option PV :=
  (P41 [.list 4 a0]).bind fun r1 => (pun .not r1).bind fun r2 => (pbool r2).bind fun b3 => bif b3 then (some (.tup [.list 4 a0, .list 4 []])) else (f25_l5 (fun (y4 : List (List PV)) (y5 : List (List PV)) (y6 : Nat) (y7 : Nat) => bif y4.length == y6 then (bif y5.length == y7 then (some (.tup [.list 4 y4, .list 4 y5])) else none) else none) FU [] [] a0 a1 0 0 0)
theorem f25_eq (a0 : List (List PV)) (a1 : Int) : lfunP T f25_G f25_A Tryd.f25 [.pv (.list 4 a0), .pv (.int .i64 a1)] = F25 a0 a1 := by kernel_rfl
noncomputable def P25 : List PV → Option PV
  | [.list 4 a0, .int .i64 a1] => F25 a0 a1
  | _ => none
noncomputable def f25_code : Code := (Tryd.f25).body.getD .skip
theorem f25_gok : GOk Tryd.prog f25_G := gok_of (by
  simp only [List.forall_mem_cons, List.not_mem_nil, false_implies, implies_true, and_true]
  exact f41_ok)
theorem f25_ok : GivenOk Tryd.prog 25 (.pcall P25) := given_p tok f25_gok mixed (A := f25_A) (fn := Tryd.f25) (c := f25_code) (by kernel_rfl) (by kernel_rfl) (loopsOk_of fun c' hc => by
    rw [show loopsIn (f25_code) = [f25_c5] from by kernel_rfl] at hc
    simp only [List.mem_cons, List.not_mem_nil, or_false] at hc
    rcases hc with rfl
    · exact f25_v5 (by kernel_rfl) (by kernel_rfl)) (by kernel_rfl) (by kernel_rfl) (k := 2) (Nat.le_of_ble_eq_true (by kernel_rfl)) (by
  intro ps r h
  unfold P25 at h
  split at h
  · exact ⟨rfl, (f25_eq _ _).trans h⟩
  · cases h)

/-! ### bailiwick/bailiwickref01.in: function 98 -/
noncomputable def f98_G : Nat → Option Given := assoc []
/-! loop 2 -/
noncomputable def f98_c2 : Code := ((Tryd.f98).body.bind (findLoop 2)).getD .skip
noncomputable def f98_m2 (x0 : List (List PV)) (x1 : Int) (x5 : Int) : LS := ⟨supd (supd (supd (fun _ => .any) 5 (.pv (.int .i64 x5))) 1 (.pv (.int .i64 x1))) 0 (.pv (.list 1 x0)), (fun _ => none), 2, 0⟩
noncomputable def f98_e2_0 : LS := ⟨(fun _ => .any), (fun _ => none), 6, 0⟩
noncomputable def f98_r2 (x4 : Bool) : LS := ⟨supd (fun _ => .any) 4 (.pv (.bool x4)), (fun _ => none), 13, 0⟩
noncomputable def f98_A2 : Ann := ⟨assoc [], assoc [(2, ⟨[0, 1, 5], [], 2, false, []⟩)], assoc [(0, ⟨[], [], 6, false, []⟩)], some ⟨[4], [], 13, false, []⟩⟩
noncomputable def f98_l2 (k0 : Option PV) (kr : Bool → Option PV) : Nat → (List (List PV)) → Int → Int → Option PV
  | 0, _, _, _ => none
  | n + 1, x0, x1, x5 => bif decide (x5 < (x0.length : Int)) then ((lget x0 x5).bind fun cs1 => (cs1[0]?).bind fun p2 => (pbin .eql p2 (.int .i64 x1)).bind fun r3 => (pbool r3).bind fun b4 => bif b4 then (kr true) else (f98_l2 k0 kr n x0 x1 (IntKind.i64.wrap (x5 + 1)))) else k0
theorem f98_b2 (K : LOut × LS → Option PV) (x0 : List (List PV)) (x1 : Int) (x5 : Int) : (lbody T f98_G f98_A2 f98_c2 (f98_m2 x0 x1 x5)).run K =
    bif decide (x5 < (x0.length : Int)) then ((lget x0 x5).bind fun cs1 => (cs1[0]?).bind fun p2 => (pbin .eql p2 (.int .i64 x1)).bind fun r3 => (pbool r3).bind fun b4 => bif b4 then (K (.ret, f98_r2 true)) else (K (.normal, f98_m2 x0 x1 (IntKind.i64.wrap (x5 + 1))))) else (K (.exit 0, f98_e2_0)) := by kernel_rfl
theorem f98_q2 (K : LOut × LS → Option PV) : ∀ (n : Nat) (x0 : List (List PV)) (x1 : Int) (x5 : Int), (liter (lbody T f98_G f98_A2 f98_c2) n (f98_m2 x0 x1 x5)).run K = f98_l2 (K (.exit 0, f98_e2_0)) (fun x4 => K (.ret, f98_r2 x4)) n x0 x1 x5
  | 0, _, _, _ => rfl
  | n + 1, x0, x1, x5 => by
    rw [liter_succ, f98_b2]
    try simp only [lk_normal, lk_exit, lk_ret, f98_q2 K n]
    try rfl
noncomputable def f98_s2 (S : LS) : M (LOut × LS) := match S.sl 0, S.sl 1, S.sl 5 with
  | .pv (.list 1 x0), .pv (.int .i64 x1), .pv (.int .i64 x5) => .ofEq (liter (lbody T f98_G f98_A2 f98_c2) FU (f98_m2 x0 x1 x5)) (fun K => f98_l2 (K (.exit 0, f98_e2_0)) (fun x4 => K (.ret, f98_r2 x4)) FU x0 x1 x5) (fun K => f98_q2 K FU x0 x1 x5)
  | _, _, _ => .fail
theorem f98_v2 {A : Ann} (h1 : (firstRegion f98_c2).bind A.loop = some f98_s2) (h2 : (firstRegion f98_c2).bind A.head = some ⟨[0, 1, 5], [], 2, false, []⟩) : LoopsOk T f98_G (.loop f98_c2) A := by
  refine loopOk_of h1 h2 (A' := f98_A2) (loopsOk_of fun c' hc => by rw [show loopsIn (f98_c2) = [] from by kernel_rfl] at hc; cases hc) fun S0 S o S' hn hs => ?_
  unfold f98_s2 at hs
  split at hs
  · exact loop_fin hs hn rfl (slots_cons (by assumption) (slots_cons (by assumption) (slots_cons (by assumption) slots_nil))) heap_nil (by kernel_rfl) (by kernel_rfl) (by kernel_rfl) (by kernel_rfl)
  · exact (M.is_fail.1 hs).elim
noncomputable def f98_A : Ann := ⟨assoc [(2, f98_s2)], assoc [(2, ⟨[0, 1, 5], [], 2, false, []⟩)], assoc [], none⟩
noncomputable def F98 (a0 : List (List PV)) (a1 : Int) : Option PV :=
  f98_l2 (some (.bool false)) (fun (y1 : Bool) => some (.bool y1)) FU a0 a1 0
theorem f98_eq (a0 : List (List PV)) (a1 : Int) : lfunP T f98_G f98_A Tryd.f98 [.pv (.list 1 a0), .pv (.int .i64 a1)] = F98 a0 a1 := by kernel_rfl
noncomputable def P98 : List PV → Option PV
  | [.list 1 a0, .int .i64 a1] => F98 a0 a1
  | _ => none
noncomputable def f98_code : Code := (Tryd.f98).body.getD .skip
theorem f98_gok : GOk Tryd.prog f98_G := gok_of (fun p hp => by cases hp)
theorem f98_ok : GivenOk Tryd.prog 98 (.pcall P98) := given_p tok f98_gok mixed (A := f98_A) (fn := Tryd.f98) (c := f98_code) (by kernel_rfl) (by kernel_rfl) (loopsOk_of fun c' hc => by
    rw [show loopsIn (f98_code) = [f98_c2] from by kernel_rfl] at hc
    simp only [List.mem_cons, List.not_mem_nil, or_false] at hc
    rcases hc with rfl
    · exact f98_v2 (by kernel_rfl) (by kernel_rfl)) (by kernel_rfl) (by kernel_rfl) (k := 2) (Nat.le_of_ble_eq_true (by kernel_rfl)) (by
  intro ps r h
  unfold P98 at h
  split at h
  · exact ⟨rfl, (f98_eq _ _).trans h⟩
  · cases h)
end Go.Bw.A
