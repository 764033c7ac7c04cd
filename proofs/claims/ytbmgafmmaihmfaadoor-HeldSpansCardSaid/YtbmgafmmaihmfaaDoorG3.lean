/- Summaries of the functions of the program, printed by gen.py, and that the functions answer so. No statement of a law is proved here. -/
import Derived.Test.YtbmgafmmaihmfaaDoorG2
set_option linter.unusedVariables false
set_option linter.unusedSimpArgs false
set_option maxRecDepth 100000
namespace Go.Bw.A
open Go.Proofs Go.Bw
/-! ### bailiwick/bailiwickref01.Which: function 67 -/
noncomputable def f67_G : Nat → Option Given := assoc [(80, .pcall P80), (98, .pcall P98)]
/-! loop 5 -/
noncomputable def f67_c5 : Code := ((Tryd.f67).body.bind (findLoop 5)).getD .skip
noncomputable def f67_m5 (o9 : List (List PV)) (x0 : List (List PV)) (x1 : List (List PV)) (x2 : Int) (x7 : Nat) (x8 : Int) : LS := ⟨supd (supd (supd (supd (supd (fun _ => .any) 8 (.pv (.int .i64 x8))) 7 (.osl 9 x7)) 2 (.pv (.int .i64 x2))) 1 (.pv (.list 1 x1))) 0 (.pv (.list 1 x0)), hset (fun _ => none) 9 (.sl 3 1 o9 false), 11, 0⟩
noncomputable def f67_e5_0 (o9 : List (List PV)) (x7 : Nat) : LS := ⟨supd (fun _ => .any) 7 (.osl 9 x7), hset (fun _ => none) 9 (.sl 3 1 o9 false), 13, 0⟩
noncomputable def f67_A5 : Ann := ⟨assoc [], assoc [(5, ⟨[0, 1, 2, 7, 8], [9], 11, false, []⟩)], assoc [(0, ⟨[7], [9], 13, false, []⟩)], none⟩
noncomputable def f67_l5 (k0 : (List (List PV)) → Nat → Option PV) : Nat → (List (List PV)) → (List (List PV)) → (List (List PV)) → Int → Nat → Int → Option PV
  | 0, _, _, _, _, _, _ => none
  | n + 1, o9, x0, x1, x2, x7, x8 => bif decide (x8 < 256) then ((P98 [.list 1 x0, .int .i64 x8]).bind fun r1 => (P98 [.list 1 x1, .int .i64 x8]).bind fun r2 => (bif x2 == 0 then ((pbool r1).bind fun b3 => bif b3 then (some (.bool true)) else ((pbool r2).bind fun b4 => bif b4 then (some (.bool true)) else (bif x2 == 1 then ((pbool r1).bind fun b5 => bif b5 then ((pbool r2).bind fun b6 => bif b6 then (some (.bool true)) else (bif x2 == 2 then ((pbool r1).bind fun b7 => bif b7 then ((pun .not r2).bind fun r8 => some r8) else (some (.bool false))) else (some (.bool false)))) else (bif x2 == 2 then ((pbool r1).bind fun b9 => bif b9 then ((pun .not r2).bind fun r10 => some r10) else (some (.bool false))) else (some (.bool false)))) else (bif x2 == 2 then ((pbool r1).bind fun b11 => bif b11 then ((pun .not r2).bind fun r12 => some r12) else (some (.bool false))) else (some (.bool false)))))) else (bif x2 == 1 then ((pbool r1).bind fun b13 => bif b13 then ((pbool r2).bind fun b14 => bif b14 then (some (.bool true)) else (bif x2 == 2 then ((pbool r1).bind fun b15 => bif b15 then ((pun .not r2).bind fun r16 => some r16) else (some (.bool false))) else (some (.bool false)))) else (bif x2 == 2 then ((pbool r1).bind fun b17 => bif b17 then ((pun .not r2).bind fun r18 => some r18) else (some (.bool false))) else (some (.bool false)))) else (bif x2 == 2 then ((pbool r1).bind fun b19 => bif b19 then ((pun .not r2).bind fun r20 => some r20) else (some (.bool false))) else (some (.bool false))))).bind fun g21 => (pbool g21).bind fun b22 => bif b22 then (bif o9.length == x7 then (bif decide (o9.length + ([[.int .i64 x8]] : List (List PV)).length ≤ LIM) then (f67_l5 k0 n (o9 ++ [[.int .i64 x8]]) x0 x1 x2 ((o9 ++ [[.int .i64 x8]] : List (List PV)).length) (IntKind.i64.wrap (x8 + 1))) else none) else none) else (f67_l5 k0 n o9 x0 x1 x2 x7 (IntKind.i64.wrap (x8 + 1)))) else (k0 o9 x7)
theorem f67_b5 (K : LOut × LS → Option PV) (o9 : List (List PV)) (x0 : List (List PV)) (x1 : List (List PV)) (x2 : Int) (x7 : Nat) (x8 : Int) : (lbody T f67_G f67_A5 f67_c5 (f67_m5 o9 x0 x1 x2 x7 x8)).run K =
    bif decide (x8 < 256) then ((P98 [.list 1 x0, .int .i64 x8]).bind fun r1 => (P98 [.list 1 x1, .int .i64 x8]).bind fun r2 => (bif x2 == 0 then ((pbool r1).bind fun b3 => bif b3 then (some (.bool true)) else ((pbool r2).bind fun b4 => bif b4 then (some (.bool true)) else (bif x2 == 1 then ((pbool r1).bind fun b5 => bif b5 then ((pbool r2).bind fun b6 => bif b6 then (some (.bool true)) else (bif x2 == 2 then ((pbool r1).bind fun b7 => bif b7 then ((pun .not r2).bind fun r8 => some r8) else (some (.bool false))) else (some (.bool false)))) else (bif x2 == 2 then ((pbool r1).bind fun b9 => bif b9 then ((pun .not r2).bind fun r10 => some r10) else (some (.bool false))) else (some (.bool false)))) else (bif x2 == 2 then ((pbool r1).bind fun b11 => bif b11 then ((pun .not r2).bind fun r12 => some r12) else (some (.bool false))) else (some (.bool false)))))) else (bif x2 == 1 then ((pbool r1).bind fun b13 => bif b13 then ((pbool r2).bind fun b14 => bif b14 then (some (.bool true)) else (bif x2 == 2 then ((pbool r1).bind fun b15 => bif b15 then ((pun .not r2).bind fun r16 => some r16) else (some (.bool false))) else (some (.bool false)))) else (bif x2 == 2 then ((pbool r1).bind fun b17 => bif b17 then ((pun .not r2).bind fun r18 => some r18) else (some (.bool false))) else (some (.bool false)))) else (bif x2 == 2 then ((pbool r1).bind fun b19 => bif b19 then ((pun .not r2).bind fun r20 => some r20) else (some (.bool false))) else (some (.bool false))))).bind fun g21 => (pbool g21).bind fun b22 => bif b22 then (bif o9.length == x7 then (bif decide (o9.length + ([[.int .i64 x8]] : List (List PV)).length ≤ LIM) then (K (.normal, f67_m5 (o9 ++ [[.int .i64 x8]]) x0 x1 x2 ((o9 ++ [[.int .i64 x8]] : List (List PV)).length) (IntKind.i64.wrap (x8 + 1)))) else none) else none) else (K (.normal, f67_m5 o9 x0 x1 x2 x7 (IntKind.i64.wrap (x8 + 1))))) else (K (.exit 0, f67_e5_0 o9 x7)) := by kernel_rfl
theorem f67_q5 (K : LOut × LS → Option PV) : ∀ (n : Nat) (o9 : List (List PV)) (x0 : List (List PV)) (x1 : List (List PV)) (x2 : Int) (x7 : Nat) (x8 : Int), (liter (lbody T f67_G f67_A5 f67_c5) n (f67_m5 o9 x0 x1 x2 x7 x8)).run K = f67_l5 (fun o9 x7 => K (.exit 0, f67_e5_0 o9 x7)) n o9 x0 x1 x2 x7 x8
  | 0, _, _, _, _, _, _ => rfl
  | n + 1, o9, x0, x1, x2, x7, x8 => by
    rw [liter_succ, f67_b5]
    try simp only [lk_normal, lk_exit, lk_ret, f67_q5 K n]
    try rfl
noncomputable def f67_s5 (S : LS) : M (LOut × LS) := match S.H 9, S.sl 0, S.sl 1, S.sl 2, S.sl 7, S.sl 8 with
  | some (.sl 3 1 o9 false), .pv (.list 1 x0), .pv (.list 1 x1), .pv (.int .i64 x2), .osl 9 x7, .pv (.int .i64 x8) => .ofEq (liter (lbody T f67_G f67_A5 f67_c5) FU (f67_m5 o9 x0 x1 x2 x7 x8)) (fun K => f67_l5 (fun o9 x7 => K (.exit 0, f67_e5_0 o9 x7)) FU o9 x0 x1 x2 x7 x8) (fun K => f67_q5 K FU o9 x0 x1 x2 x7 x8)
  | _, _, _, _, _, _ => .fail
theorem f67_v5 {A : Ann} (h1 : (firstRegion f67_c5).bind A.loop = some f67_s5) (h2 : (firstRegion f67_c5).bind A.head = some ⟨[0, 1, 2, 7, 8], [9], 11, false, []⟩) : LoopsOk T f67_G (.loop f67_c5) A := by
  refine loopOk_of h1 h2 (A' := f67_A5) (loopsOk_of fun c' hc => by rw [show loopsIn (f67_c5) = [] from by kernel_rfl] at hc; cases hc) fun S0 S o S' hn hs => ?_
  unfold f67_s5 at hs
  split at hs
  · exact loop_fin hs hn rfl (slots_cons (by assumption) (slots_cons (by assumption) (slots_cons (by assumption) (slots_cons (by assumption) (slots_cons (by assumption) slots_nil))))) (heap_cons (by assumption) heap_nil) (by kernel_rfl) (by kernel_rfl) (by kernel_rfl) (by kernel_rfl)
  · exact (M.is_fail.1 hs).elim
noncomputable def f67_A : Ann := ⟨assoc [(5, f67_s5)], assoc [(5, ⟨[0, 1, 2, 7, 8], [9], 11, false, []⟩)], assoc [], none⟩
noncomputable def F67 (a0 : List (List PV)) (a1 : List (List PV)) (a2 : Int) : Option PV :=
  ((P80 [.list 1 a0]).bind fun r1 => (pun .not r1).bind fun r2 => (pbool r2).bind fun b3 => bif b3 then (some (.bool true)) else ((P80 [.list 1 a1]).bind fun r4 => (pun .not r4).bind fun r5 => some r5)).bind fun g6 => (pbool g6).bind fun b7 => bif b7 then (some (.list 1 [])) else (f67_l5 (fun (y8 : List (List PV)) (y9 : Nat) => bif y8.length == y9 then (some (.list 1 y8)) else none) FU [] a0 a1 a2 0 0)
theorem f67_eq (a0 : List (List PV)) (a1 : List (List PV)) (a2 : Int) : lfunP T f67_G f67_A Tryd.f67 [.pv (.list 1 a0), .pv (.list 1 a1), .pv (.int .i64 a2)] = F67 a0 a1 a2 := by kernel_rfl
noncomputable def P67 : List PV → Option PV
  | [.list 1 a0, .list 1 a1, .int .i64 a2] => F67 a0 a1 a2
  | _ => none
noncomputable def f67_code : Code := (Tryd.f67).body.getD .skip
theorem f67_gok : GOk Tryd.prog f67_G := gok_of (by
  simp only [List.forall_mem_cons, List.not_mem_nil, false_implies, implies_true, and_true]
  exact ⟨f80_ok, f98_ok⟩)
theorem f67_ok : GivenOk Tryd.prog 67 (.pcall P67) := given_p tok f67_gok mixed (A := f67_A) (fn := Tryd.f67) (c := f67_code) (by kernel_rfl) (by kernel_rfl) (loopsOk_of fun c' hc => by
    rw [show loopsIn (f67_code) = [f67_c5] from by kernel_rfl] at hc
    simp only [List.mem_cons, List.not_mem_nil, or_false] at hc
    rcases hc with rfl
    · exact f67_v5 (by kernel_rfl) (by kernel_rfl)) (by kernel_rfl) (by kernel_rfl) (k := 3) (Nat.le_of_ble_eq_true (by kernel_rfl)) (by
  intro ps r h
  unfold P67 at h
  split at h
  · exact ⟨rfl, (f67_eq _ _ _).trans h⟩
  · cases h)

/-! ### bailiwick/bailiwickref10.Busy: function 28 -/
noncomputable def f28_G : Nat → Option Given := assoc [(41, .pcall P41), (66, .pcall P66), (67, .pcall P67)]
/-! loop 5 -/
noncomputable def f28_c5 : Code := ((Tryd.f28).body.bind (findLoop 5)).getD .skip
noncomputable def f28_m5 (x0 : List (List PV)) (x1 : Int) (x2 : Int) (x7 : PV) (x8 : Int) : LS := ⟨supd (supd (supd (supd (supd (fun _ => .any) 8 (.pv (.int .i64 x8))) 7 (.pv x7)) 2 (.pv (.int .i64 x2))) 1 (.pv (.int .i64 x1))) 0 (.pv (.list 4 x0)), (fun _ => none), 6, 0⟩
noncomputable def f28_e5_0 (x7 : PV) : LS := ⟨supd (fun _ => .any) 7 (.pv x7), (fun _ => none), 10, 0⟩
noncomputable def f28_A5 : Ann := ⟨assoc [], assoc [(5, ⟨[0, 1, 2, 7, 8], [], 6, false, [7]⟩)], assoc [(0, ⟨[7], [], 10, false, []⟩)], none⟩
noncomputable def f28_l5 (k0 : PV → Option PV) : Nat → (List (List PV)) → Int → Int → PV → Int → Option PV
  | 0, _, _, _, _, _ => none
  | n + 1, x0, x1, x2, x7, x8 => bif decide (x8 < (x0.length : Int)) then ((lget x0 x8).bind fun cs1 => (cs1[2]?).bind fun p2 => (lget x0 x8).bind fun cs3 => (cs3[3]?).bind fun p4 => (P66 [p2, p4, .int .i64 x1, .int .i64 x2]).bind fun r5 => (pbool r5).bind fun b6 => bif b6 then ((lget x0 x8).bind fun cs7 => (cs7[1]?).bind fun p8 => (P67 [x7, p8, .int .i64 0]).bind fun r9 => f28_l5 k0 n x0 x1 x2 r9 (IntKind.i64.wrap (x8 + 1))) else (f28_l5 k0 n x0 x1 x2 x7 (IntKind.i64.wrap (x8 + 1)))) else (k0 x7)
theorem f28_b5 (K : LOut × LS → Option PV) (x0 : List (List PV)) (x1 : Int) (x2 : Int) (x7 : PV) (x8 : Int) : (lbody T f28_G f28_A5 f28_c5 (f28_m5 x0 x1 x2 x7 x8)).run K =
    bif decide (x8 < (x0.length : Int)) then ((lget x0 x8).bind fun cs1 => (cs1[2]?).bind fun p2 => (lget x0 x8).bind fun cs3 => (cs3[3]?).bind fun p4 => (P66 [p2, p4, .int .i64 x1, .int .i64 x2]).bind fun r5 => (pbool r5).bind fun b6 => bif b6 then ((lget x0 x8).bind fun cs7 => (cs7[1]?).bind fun p8 => (P67 [x7, p8, .int .i64 0]).bind fun r9 => K (.normal, f28_m5 x0 x1 x2 r9 (IntKind.i64.wrap (x8 + 1)))) else (K (.normal, f28_m5 x0 x1 x2 x7 (IntKind.i64.wrap (x8 + 1))))) else (K (.exit 0, f28_e5_0 x7)) := by kernel_rfl
theorem f28_q5 (K : LOut × LS → Option PV) : ∀ (n : Nat) (x0 : List (List PV)) (x1 : Int) (x2 : Int) (x7 : PV) (x8 : Int), (liter (lbody T f28_G f28_A5 f28_c5) n (f28_m5 x0 x1 x2 x7 x8)).run K = f28_l5 (fun x7 => K (.exit 0, f28_e5_0 x7)) n x0 x1 x2 x7 x8
  | 0, _, _, _, _, _ => rfl
  | n + 1, x0, x1, x2, x7, x8 => by
    rw [liter_succ, f28_b5]
    try simp only [lk_normal, lk_exit, lk_ret, f28_q5 K n]
    try rfl
noncomputable def f28_s5 (S : LS) : M (LOut × LS) := match S.sl 0, S.sl 1, S.sl 2, S.sl 7, S.sl 8 with
  | .pv (.list 4 x0), .pv (.int .i64 x1), .pv (.int .i64 x2), .pv x7, .pv (.int .i64 x8) => .ofEq (liter (lbody T f28_G f28_A5 f28_c5) FU (f28_m5 x0 x1 x2 x7 x8)) (fun K => f28_l5 (fun x7 => K (.exit 0, f28_e5_0 x7)) FU x0 x1 x2 x7 x8) (fun K => f28_q5 K FU x0 x1 x2 x7 x8)
  | _, _, _, _, _ => .fail
theorem f28_v5 {A : Ann} (h1 : (firstRegion f28_c5).bind A.loop = some f28_s5) (h2 : (firstRegion f28_c5).bind A.head = some ⟨[0, 1, 2, 7, 8], [], 6, false, [7]⟩) : LoopsOk T f28_G (.loop f28_c5) A := by
  refine loopOk_of h1 h2 (A' := f28_A5) (loopsOk_of fun c' hc => by rw [show loopsIn (f28_c5) = [] from by kernel_rfl] at hc; cases hc) fun S0 S o S' hn hs => ?_
  unfold f28_s5 at hs
  split at hs
  · exact loop_fin hs hn rfl (slots_cons (by assumption) (slots_cons (by assumption) (slots_cons (by assumption) (slots_cons (by assumption) (slots_cons (by assumption) slots_nil))))) heap_nil (by kernel_rfl) (by kernel_rfl) (by kernel_rfl) (by kernel_rfl)
  · exact (M.is_fail.1 hs).elim
noncomputable def f28_A : Ann := ⟨assoc [(5, f28_s5)], assoc [(5, ⟨[0, 1, 2, 7, 8], [], 6, false, [7]⟩)], assoc [], none⟩
noncomputable def F28 (a0 : List (List PV)) (a1 : Int) (a2 : Int) : Option PV :=
  (P41 [.list 4 a0]).bind fun r1 => (pun .not r1).bind fun r2 => (pbool r2).bind fun b3 => bif b3 then (some (.list 1 [])) else (f28_l5 (fun (y4 : PV) => some y4) FU a0 a1 a2 (.list 1 []) 0)
theorem f28_eq (a0 : List (List PV)) (a1 : Int) (a2 : Int) : lfunP T f28_G f28_A Tryd.f28 [.pv (.list 4 a0), .pv (.int .i64 a1), .pv (.int .i64 a2)] = F28 a0 a1 a2 := by kernel_rfl
noncomputable def P28 : List PV → Option PV
  | [.list 4 a0, .int .i64 a1, .int .i64 a2] => F28 a0 a1 a2
  | _ => none
noncomputable def f28_code : Code := (Tryd.f28).body.getD .skip
theorem f28_gok : GOk Tryd.prog f28_G := gok_of (by
  simp only [List.forall_mem_cons, List.not_mem_nil, false_implies, implies_true, and_true]
  exact ⟨f41_ok, f66_ok, f67_ok⟩)
theorem f28_ok : GivenOk Tryd.prog 28 (.pcall P28) := given_p tok f28_gok mixed (A := f28_A) (fn := Tryd.f28) (c := f28_code) (by kernel_rfl) (by kernel_rfl) (loopsOk_of fun c' hc => by
    rw [show loopsIn (f28_code) = [f28_c5] from by kernel_rfl] at hc
    simp only [List.mem_cons, List.not_mem_nil, or_false] at hc
    rcases hc with rfl
    · exact f28_v5 (by kernel_rfl) (by kernel_rfl)) (by kernel_rfl) (by kernel_rfl) (k := 3) (Nat.le_of_ble_eq_true (by kernel_rfl)) (by
  intro ps r h
  unfold P28 at h
  split at h
  · exact ⟨rfl, (f28_eq _ _ _).trans h⟩
  · cases h)

/-! ### bailiwick/bailiwickref10.Ends: function 31 -/
noncomputable def f31_G : Nat → Option Given := assoc [(41, .pcall P41)]
/-! loop 6 -/
noncomputable def f31_c6 : Code := ((Tryd.f31).body.bind (findLoop 6)).getD .skip
noncomputable def f31_m6 (o1 : List (List PV)) (x0 : List (List PV)) (x1 : PV) (x5 : Nat) (x6 : PV) (x7 : Int) : LS := ⟨supd (supd (supd (supd (supd (fun _ => .any) 7 (.pv (.int .i64 x7))) 6 (.pv x6)) 5 (.osl 1 x5)) 1 (.pv x1)) 0 (.pv (.list 4 x0)), hset (fun _ => none) 1 (.sl 2 1 o1 false), 7, 0⟩
noncomputable def f31_e6_2 (o1 : List (List PV)) (x0 : List (List PV)) (x5 : Nat) (x6 : PV) : LS := ⟨supd (supd (supd (fun _ => .any) 6 (.pv x6)) 5 (.osl 1 x5)) 0 (.pv (.list 4 x0)), hset (fun _ => none) 1 (.sl 2 1 o1 false), 11, 0⟩
noncomputable def f31_A6 : Ann := ⟨assoc [], assoc [(4, ⟨[0, 1, 5], [1], 5, false, []⟩), (6, ⟨[0, 1, 5, 6, 7], [1], 7, false, []⟩)], assoc [(2, ⟨[0, 5, 6], [1], 11, false, []⟩)], none⟩
noncomputable def f31_l6 (k2 : (List (List PV)) → (List (List PV)) → Nat → PV → Option PV) : Nat → (List (List PV)) → (List (List PV)) → PV → Nat → PV → Int → Option PV
  | 0, _, _, _, _, _, _ => none
  | n + 1, o1, x0, x1, x5, x6, x7 => bif decide (x7 < (x0.length : Int)) then (((lget x0 x7).bind fun cs1 => (cs1[3]?).bind fun p2 => (pbin .gtr p2 x1).bind fun r3 => (pbool r3).bind fun b4 => bif b4 then ((pbin .lss x6 (.int .i64 0)).bind fun r5 => (pbool r5).bind fun b6 => bif b6 then (some (.bool true)) else ((lget x0 x7).bind fun cs7 => (cs7[3]?).bind fun p8 => (pbin .lss p8 x6).bind fun r9 => some r9)) else (some (.bool false))).bind fun g10 => (pbool g10).bind fun b11 => bif b11 then ((lget x0 x7).bind fun cs12 => (cs12[3]?).bind fun p13 => f31_l6 k2 n o1 x0 x1 x5 p13 (IntKind.i64.wrap (x7 + 1))) else (f31_l6 k2 n o1 x0 x1 x5 x6 (IntKind.i64.wrap (x7 + 1)))) else (k2 o1 x0 x5 x6)
theorem f31_b6 (K : LOut × LS → Option PV) (o1 : List (List PV)) (x0 : List (List PV)) (x1 : PV) (x5 : Nat) (x6 : PV) (x7 : Int) : (lbody T f31_G f31_A6 f31_c6 (f31_m6 o1 x0 x1 x5 x6 x7)).run K =
    bif decide (x7 < (x0.length : Int)) then (((lget x0 x7).bind fun cs1 => (cs1[3]?).bind fun p2 => (pbin .gtr p2 x1).bind fun r3 => (pbool r3).bind fun b4 => bif b4 then ((pbin .lss x6 (.int .i64 0)).bind fun r5 => (pbool r5).bind fun b6 => bif b6 then (some (.bool true)) else ((lget x0 x7).bind fun cs7 => (cs7[3]?).bind fun p8 => (pbin .lss p8 x6).bind fun r9 => some r9)) else (some (.bool false))).bind fun g10 => (pbool g10).bind fun b11 => bif b11 then ((lget x0 x7).bind fun cs12 => (cs12[3]?).bind fun p13 => K (.normal, f31_m6 o1 x0 x1 x5 p13 (IntKind.i64.wrap (x7 + 1)))) else (K (.normal, f31_m6 o1 x0 x1 x5 x6 (IntKind.i64.wrap (x7 + 1))))) else (K (.exit 2, f31_e6_2 o1 x0 x5 x6)) := by kernel_rfl
theorem f31_q6 (K : LOut × LS → Option PV) : ∀ (n : Nat) (o1 : List (List PV)) (x0 : List (List PV)) (x1 : PV) (x5 : Nat) (x6 : PV) (x7 : Int), (liter (lbody T f31_G f31_A6 f31_c6) n (f31_m6 o1 x0 x1 x5 x6 x7)).run K = f31_l6 (fun o1 x0 x5 x6 => K (.exit 2, f31_e6_2 o1 x0 x5 x6)) n o1 x0 x1 x5 x6 x7
  | 0, _, _, _, _, _, _ => rfl
  | n + 1, o1, x0, x1, x5, x6, x7 => by
    rw [liter_succ, f31_b6]
    try simp only [lk_normal, lk_exit, lk_ret, f31_q6 K n]
    try rfl
noncomputable def f31_s6 (S : LS) : M (LOut × LS) := match S.H 1, S.sl 0, S.sl 1, S.sl 5, S.sl 6, S.sl 7 with
  | some (.sl 2 1 o1 false), .pv (.list 4 x0), .pv x1, .osl 1 x5, .pv x6, .pv (.int .i64 x7) => .ofEq (liter (lbody T f31_G f31_A6 f31_c6) FU (f31_m6 o1 x0 x1 x5 x6 x7)) (fun K => f31_l6 (fun o1 x0 x5 x6 => K (.exit 2, f31_e6_2 o1 x0 x5 x6)) FU o1 x0 x1 x5 x6 x7) (fun K => f31_q6 K FU o1 x0 x1 x5 x6 x7)
  | _, _, _, _, _, _ => .fail
theorem f31_v6 {A : Ann} (h1 : (firstRegion f31_c6).bind A.loop = some f31_s6) (h2 : (firstRegion f31_c6).bind A.head = some ⟨[0, 1, 5, 6, 7], [1], 7, false, []⟩) : LoopsOk T f31_G (.loop f31_c6) A := by
  refine loopOk_of h1 h2 (A' := f31_A6) (loopsOk_of fun c' hc => by rw [show loopsIn (f31_c6) = [] from by kernel_rfl] at hc; cases hc) fun S0 S o S' hn hs => ?_
  unfold f31_s6 at hs
  split at hs
  · exact loop_fin hs hn rfl (slots_cons (by assumption) (slots_cons (by assumption) (slots_cons (by assumption) (slots_cons (by assumption) (slots_cons (by assumption) slots_nil))))) (heap_cons (by assumption) heap_nil) (by kernel_rfl) (by kernel_rfl) (by kernel_rfl) (by kernel_rfl)
  · exact (M.is_fail.1 hs).elim
/-! loop 4 -/
noncomputable def f31_c4 : Code := ((Tryd.f31).body.bind (findLoop 4)).getD .skip
noncomputable def f31_m4 (o1 : List (List PV)) (x0 : List (List PV)) (x1 : PV) (x5 : Nat) : LS := ⟨supd (supd (supd (fun _ => .any) 5 (.osl 1 x5)) 1 (.pv x1)) 0 (.pv (.list 4 x0)), hset (fun _ => none) 1 (.sl 2 1 o1 false), 5, 0⟩
noncomputable def f31_r4 (o1 : List (List PV)) (x4 : Nat) : LS := ⟨supd (fun _ => .any) 4 (.osl 1 x4), hset (fun _ => none) 1 (.sl 2 1 o1 false), 15, 0⟩
noncomputable def f31_A4 : Ann := ⟨assoc [(6, f31_s6)], assoc [(4, ⟨[0, 1, 5], [1], 5, false, []⟩), (6, ⟨[0, 1, 5, 6, 7], [1], 7, false, []⟩)], assoc [], some ⟨[4], [1], 15, false, []⟩⟩
noncomputable def f31_l4 (kr : (List (List PV)) → Nat → Option PV) : Nat → (List (List PV)) → (List (List PV)) → PV → Nat → Option PV
  | 0, _, _, _, _ => none
  | n + 1, o1, x0, x1, x5 => f31_l6 (fun (y1 : List (List PV)) (y2 : List (List PV)) (y3 : Nat) (y4 : PV) => (pbin .lss y4 (.int .i64 0)).bind fun r5 => (pbool r5).bind fun b6 => bif b6 then (kr y1 y3) else ((pscal y4).bind fun p7 => bif y1.length == y3 then (bif decide (y1.length + ([[p7]] : List (List PV)).length ≤ LIM) then (f31_l4 kr n (y1 ++ [[p7]]) y2 y4 ((y1 ++ [[p7]] : List (List PV)).length)) else none) else none)) FU o1 x0 x1 x5 (.int .i64 (-1)) 0
theorem f31_b4 (K : LOut × LS → Option PV) (o1 : List (List PV)) (x0 : List (List PV)) (x1 : PV) (x5 : Nat) : (lbody T f31_G f31_A4 f31_c4 (f31_m4 o1 x0 x1 x5)).run K =
    f31_l6 (fun (y1 : List (List PV)) (y2 : List (List PV)) (y3 : Nat) (y4 : PV) => (pbin .lss y4 (.int .i64 0)).bind fun r5 => (pbool r5).bind fun b6 => bif b6 then (K (.ret, f31_r4 y1 y3)) else ((pscal y4).bind fun p7 => bif y1.length == y3 then (bif decide (y1.length + ([[p7]] : List (List PV)).length ≤ LIM) then (K (.normal, f31_m4 (y1 ++ [[p7]]) y2 y4 ((y1 ++ [[p7]] : List (List PV)).length))) else none) else none)) FU o1 x0 x1 x5 (.int .i64 (-1)) 0 := by kernel_rfl
theorem f31_q4 (K : LOut × LS → Option PV) : ∀ (n : Nat) (o1 : List (List PV)) (x0 : List (List PV)) (x1 : PV) (x5 : Nat), (liter (lbody T f31_G f31_A4 f31_c4) n (f31_m4 o1 x0 x1 x5)).run K = f31_l4 (fun o1 x4 => K (.ret, f31_r4 o1 x4)) n o1 x0 x1 x5
  | 0, _, _, _, _ => rfl
  | n + 1, o1, x0, x1, x5 => by
    rw [liter_succ, f31_b4]
    try simp only [lk_normal, lk_exit, lk_ret, f31_q4 K n]
    try rfl
noncomputable def f31_s4 (S : LS) : M (LOut × LS) := match S.H 1, S.sl 0, S.sl 1, S.sl 5 with
  | some (.sl 2 1 o1 false), .pv (.list 4 x0), .pv x1, .osl 1 x5 => .ofEq (liter (lbody T f31_G f31_A4 f31_c4) FU (f31_m4 o1 x0 x1 x5)) (fun K => f31_l4 (fun o1 x4 => K (.ret, f31_r4 o1 x4)) FU o1 x0 x1 x5) (fun K => f31_q4 K FU o1 x0 x1 x5)
  | _, _, _, _ => .fail
theorem f31_v4 {A : Ann} (h1 : (firstRegion f31_c4).bind A.loop = some f31_s4) (h2 : (firstRegion f31_c4).bind A.head = some ⟨[0, 1, 5], [1], 5, false, []⟩) : LoopsOk T f31_G (.loop f31_c4) A := by
  refine loopOk_of h1 h2 (A' := f31_A4) (loopsOk_of fun c' hc => by
    rw [show loopsIn (f31_c4) = [f31_c6] from by kernel_rfl] at hc
    simp only [List.mem_cons, List.not_mem_nil, or_false] at hc
    rcases hc with rfl
    · exact f31_v6 (by kernel_rfl) (by kernel_rfl)) fun S0 S o S' hn hs => ?_
  unfold f31_s4 at hs
  split at hs
  · exact loop_fin hs hn rfl (slots_cons (by assumption) (slots_cons (by assumption) (slots_cons (by assumption) slots_nil))) (heap_cons (by assumption) heap_nil) (by kernel_rfl) (by kernel_rfl) (by kernel_rfl) (by kernel_rfl)
  · exact (M.is_fail.1 hs).elim
noncomputable def f31_A : Ann := ⟨assoc [(6, f31_s6), (4, f31_s4)], assoc [(4, ⟨[0, 1, 5], [1], 5, false, []⟩), (6, ⟨[0, 1, 5, 6, 7], [1], 7, false, []⟩)], assoc [], none⟩
noncomputable def F31 (a0 : List (List PV)) (a1 : Int) : Option PV :=
  (P41 [.list 4 a0]).bind fun r1 => (pun .not r1).bind fun r2 => (pbool r2).bind fun b3 => bif b3 then (some (.list 1 [])) else (f31_l4 (fun (y4 : List (List PV)) (y5 : Nat) => bif y4.length == y5 then (some (.list 1 y4)) else none) FU [] a0 (.int .i64 a1) 0)
theorem f31_eq (a0 : List (List PV)) (a1 : Int) : lfunP T f31_G f31_A Tryd.f31 [.pv (.list 4 a0), .pv (.int .i64 a1)] = F31 a0 a1 := by kernel_rfl
noncomputable def P31 : List PV → Option PV
  | [.list 4 a0, .int .i64 a1] => F31 a0 a1
  | _ => none
noncomputable def f31_code : Code := (Tryd.f31).body.getD .skip
theorem f31_gok : GOk Tryd.prog f31_G := gok_of (by
  simp only [List.forall_mem_cons, List.not_mem_nil, false_implies, implies_true, and_true]
  exact f41_ok)
theorem f31_ok : GivenOk Tryd.prog 31 (.pcall P31) := given_p tok f31_gok mixed (A := f31_A) (fn := Tryd.f31) (c := f31_code) (by kernel_rfl) (by kernel_rfl) (loopsOk_of fun c' hc => by
    rw [show loopsIn (f31_code) = [f31_c4] from by kernel_rfl] at hc
    simp only [List.mem_cons, List.not_mem_nil, or_false] at hc
    rcases hc with rfl
    · exact f31_v4 (by kernel_rfl) (by kernel_rfl)) (by kernel_rfl) (by kernel_rfl) (k := 2) (Nat.le_of_ble_eq_true (by kernel_rfl)) (by
  intro ps r h
  unfold P31 at h
  split at h
  · exact ⟨rfl, (f31_eq _ _).trans h⟩
  · cases h)

/-! ### bailiwick/bailiwickref10.Times: function 29 -/
noncomputable def f29_G : Nat → Option Given := assoc []
/-! loop 4 -/
noncomputable def f29_c4 : Code := ((Tryd.f29).body.bind (findLoop 4)).getD .skip
noncomputable def f29_m4 (x0 : List (List PV)) (x1 : List (List PV)) (x5 : Int) : LS := ⟨supd (supd (supd (fun _ => .any) 5 (.pv (.int .i64 x5))) 1 (.pv (.list 1 x1))) 0 (.pv (.list 1 x0)), (fun _ => none), 7, 0⟩
noncomputable def f29_e4_0 : LS := ⟨(fun _ => .any), (fun _ => none), 11, 0⟩
noncomputable def f29_r4 (x4 : Bool) : LS := ⟨supd (fun _ => .any) 4 (.pv (.bool x4)), (fun _ => none), 21, 0⟩
noncomputable def f29_A4 : Ann := ⟨assoc [], assoc [(4, ⟨[0, 1, 5], [], 7, false, []⟩)], assoc [(0, ⟨[], [], 11, false, []⟩)], some ⟨[4], [], 21, false, []⟩⟩
noncomputable def f29_l4 (k0 : Option PV) (kr : Bool → Option PV) : Nat → (List (List PV)) → (List (List PV)) → Int → Option PV
  | 0, _, _, _ => none
  | n + 1, x0, x1, x5 => bif decide (x5 < (x0.length : Int)) then ((lget x0 x5).bind fun cs1 => (cs1[0]?).bind fun p2 => (lget x1 x5).bind fun cs3 => (cs3[0]?).bind fun p4 => (pbin .neq p2 p4).bind fun r5 => (pbool r5).bind fun b6 => bif b6 then (kr false) else (f29_l4 k0 kr n x0 x1 (IntKind.i64.wrap (x5 + 1)))) else k0
theorem f29_b4 (K : LOut × LS → Option PV) (x0 : List (List PV)) (x1 : List (List PV)) (x5 : Int) : (lbody T f29_G f29_A4 f29_c4 (f29_m4 x0 x1 x5)).run K =
    bif decide (x5 < (x0.length : Int)) then ((lget x0 x5).bind fun cs1 => (cs1[0]?).bind fun p2 => (lget x1 x5).bind fun cs3 => (cs3[0]?).bind fun p4 => (pbin .neq p2 p4).bind fun r5 => (pbool r5).bind fun b6 => bif b6 then (K (.ret, f29_r4 false)) else (K (.normal, f29_m4 x0 x1 (IntKind.i64.wrap (x5 + 1))))) else (K (.exit 0, f29_e4_0)) := by kernel_rfl
theorem f29_q4 (K : LOut × LS → Option PV) : ∀ (n : Nat) (x0 : List (List PV)) (x1 : List (List PV)) (x5 : Int), (liter (lbody T f29_G f29_A4 f29_c4) n (f29_m4 x0 x1 x5)).run K = f29_l4 (K (.exit 0, f29_e4_0)) (fun x4 => K (.ret, f29_r4 x4)) n x0 x1 x5
  | 0, _, _, _ => rfl
  | n + 1, x0, x1, x5 => by
    rw [liter_succ, f29_b4]
    try simp only [lk_normal, lk_exit, lk_ret, f29_q4 K n]
    try rfl
noncomputable def f29_s4 (S : LS) : M (LOut × LS) := match S.sl 0, S.sl 1, S.sl 5 with
  | .pv (.list 1 x0), .pv (.list 1 x1), .pv (.int .i64 x5) => .ofEq (liter (lbody T f29_G f29_A4 f29_c4) FU (f29_m4 x0 x1 x5)) (fun K => f29_l4 (K (.exit 0, f29_e4_0)) (fun x4 => K (.ret, f29_r4 x4)) FU x0 x1 x5) (fun K => f29_q4 K FU x0 x1 x5)
  | _, _, _ => .fail
theorem f29_v4 {A : Ann} (h1 : (firstRegion f29_c4).bind A.loop = some f29_s4) (h2 : (firstRegion f29_c4).bind A.head = some ⟨[0, 1, 5], [], 7, false, []⟩) : LoopsOk T f29_G (.loop f29_c4) A := by
  refine loopOk_of h1 h2 (A' := f29_A4) (loopsOk_of fun c' hc => by rw [show loopsIn (f29_c4) = [] from by kernel_rfl] at hc; cases hc) fun S0 S o S' hn hs => ?_
  unfold f29_s4 at hs
  split at hs
  · exact loop_fin hs hn rfl (slots_cons (by assumption) (slots_cons (by assumption) (slots_cons (by assumption) slots_nil))) heap_nil (by kernel_rfl) (by kernel_rfl) (by kernel_rfl) (by kernel_rfl)
  · exact (M.is_fail.1 hs).elim
noncomputable def f29_A : Ann := ⟨assoc [(4, f29_s4)], assoc [(4, ⟨[0, 1, 5], [], 7, false, []⟩)], assoc [], none⟩
noncomputable def F29 (a0 : List (List PV)) (a1 : List (List PV)) : Option PV :=
  bif (a0.length : Int) != (a1.length : Int) then (some (.bool false)) else (f29_l4 (some (.bool true)) (fun (y1 : Bool) => some (.bool y1)) FU a0 a1 0)
theorem f29_eq (a0 : List (List PV)) (a1 : List (List PV)) : lfunP T f29_G f29_A Tryd.f29 [.pv (.list 1 a0), .pv (.list 1 a1)] = F29 a0 a1 := by kernel_rfl
noncomputable def P29 : List PV → Option PV
  | [.list 1 a0, .list 1 a1] => F29 a0 a1
  | _ => none
noncomputable def f29_code : Code := (Tryd.f29).body.getD .skip
theorem f29_gok : GOk Tryd.prog f29_G := gok_of (fun p hp => by cases hp)
theorem f29_ok : GivenOk Tryd.prog 29 (.pcall P29) := given_p tok f29_gok mixed (A := f29_A) (fn := Tryd.f29) (c := f29_code) (by kernel_rfl) (by kernel_rfl) (loopsOk_of fun c' hc => by
    rw [show loopsIn (f29_code) = [f29_c4] from by kernel_rfl] at hc
    simp only [List.mem_cons, List.not_mem_nil, or_false] at hc
    rcases hc with rfl
    · exact f29_v4 (by kernel_rfl) (by kernel_rfl)) (by kernel_rfl) (by kernel_rfl) (k := 2) (Nat.le_of_ble_eq_true (by kernel_rfl)) (by
  intro ps r h
  unfold P29 at h
  split at h
  · exact ⟨rfl, (f29_eq _ _).trans h⟩
  · cases h)

/-! ### bailiwick/bailiwicklaw10.HeldSpans: function 4 -/
noncomputable def f4_G : Nat → Option Given := assoc [(18, .pcall P18), (19, .pcall P19), (23, .pcall P23), (24, .pcall P24), (25, .pcall P25), (26, .pcall P26), (27, .pcall P27), (28, .pcall P28), (29, .pcall P29), (30, .pcall P30), (31, .pcall P31)]
noncomputable def f4_A : Ann := ⟨assoc [], assoc [], assoc [], none⟩
noncomputable def F4 (a0 : List (List PV)) (a1 : Int) (a2 : Int) : Option PV :=
  (P18 []).bind fun r1 => (pun .not r1).bind fun r2 => (pbool r2).bind fun b3 => bif b3 then (some (.bool false)) else ((P19 [.list 4 a0]).bind fun r4 => (pun .not r4).bind fun r5 => (pbool r5).bind fun b6 => bif b6 then (some (.bool true)) else ((P24 [.list 4 a0, .int .i64 a1]).bind fun r7 => (pnth r7 0).bind fun p8 => (pnth r7 1).bind fun p9 => (P25 [.list 4 a0, .int .i64 a1]).bind fun r10 => (pnth r10 0).bind fun p11 => (pnth r10 1).bind fun p12 => ((P27 [.list 4 a0, .int .i64 a1, .int .i64 a2]).bind fun r13 => (P28 [.list 4 a0, .int .i64 a1, .int .i64 a2]).bind fun r14 => (P26 [r13, r14]).bind fun r15 => (pbool r15).bind fun b16 => bif b16 then ((P23 [p8, p11]).bind fun r17 => (pbool r17).bind fun b18 => bif b18 then ((P23 [p9, p12]).bind fun r19 => (pbool r19).bind fun b20 => bif b20 then ((P30 [.list 4 a0, .int .i64 a1]).bind fun r21 => (P31 [.list 4 a0, .int .i64 a1]).bind fun r22 => (P29 [r21, r22]).bind fun r23 => some r23) else (some (.bool false))) else (some (.bool false))) else (some (.bool false))).bind fun g24 => some g24))
theorem f4_eq (a0 : List (List PV)) (a1 : Int) (a2 : Int) : lfunP T f4_G f4_A Tryd.f4 [.pv (.list 4 a0), .pv (.int .i64 a1), .pv (.int .i64 a2)] = F4 a0 a1 a2 := by kernel_rfl
noncomputable def P4 : List PV → Option PV
  | [.list 4 a0, .int .i64 a1, .int .i64 a2] => F4 a0 a1 a2
  | _ => none
noncomputable def f4_code : Code := (Tryd.f4).body.getD .skip
theorem f4_gok : GOk Tryd.prog f4_G := gok_of (by
  simp only [List.forall_mem_cons, List.not_mem_nil, false_implies, implies_true, and_true]
  exact ⟨f18_ok, f19_ok, f23_ok, f24_ok, f25_ok, f26_ok, f27_ok, f28_ok, f29_ok, f30_ok, f31_ok⟩)
theorem f4_ok : GivenOk Tryd.prog 4 (.pcall P4) := given_p tok f4_gok mixed (A := f4_A) (fn := Tryd.f4) (c := f4_code) (by kernel_rfl) (by kernel_rfl) (loopsOk_of fun c' hc => by rw [show loopsIn (f4_code) = [] from by kernel_rfl] at hc; cases hc) (by kernel_rfl) (by kernel_rfl) (k := 3) (Nat.le_of_ble_eq_true (by kernel_rfl)) (by
  intro ps r h
  unfold P4 at h
  split at h
  · exact ⟨rfl, (f4_eq _ _ _).trans h⟩
  · cases h)

/-! ### bailiwick/set.Part: function 32 -/
noncomputable def f32_G : Nat → Option Given := assoc [(70, .pcall P70)]
/-! loop 3 -/
noncomputable def f32_c3 : Code := ((Tryd.f32).body.bind (findLoop 3)).getD .skip
noncomputable def f32_m3 (c8 : List PV) (c9 : List PV) (x7 : PV) (x16 : Int) : LS := ⟨supd (supd (supd (supd (fun _ => .any) 16 (.pv (.int .i64 x16))) 7 (.pv x7)) 6 (.ptr 9 0)) 5 (.ptr 8 0), hset (hset (fun _ => none) 9 (.box (.pure c9))) 8 (.box (.pure c8)), 14, 0⟩
noncomputable def f32_e3_0 (x7 : PV) : LS := ⟨supd (fun _ => .any) 7 (.pv x7), (fun _ => none), 15, 0⟩
noncomputable def f32_A3 : Ann := ⟨assoc [], assoc [(3, ⟨[5, 6, 7, 16], [8, 9], 14, false, []⟩)], assoc [(0, ⟨[7], [], 15, false, []⟩)], none⟩
noncomputable def f32_l3 (k0 : PV → Option PV) : Nat → (List PV) → (List PV) → PV → Int → Option PV
  | 0, _, _, _, _ => none
  | n + 1, c8, c9, x7, x16 => bif decide (x16 < 4) then (((pbool x7).bind fun b1 => bif b1 then (bif decide (0 ≤ x16) && decide (x16 < (4 : Nat)) then ((c8[0 + x16.toNat * 1]?).bind fun p2 => bif decide (0 ≤ x16) && decide (x16 < (4 : Nat)) then ((c9[0 + x16.toNat * 1]?).bind fun p3 => (pbin .andNot p2 p3).bind fun r4 => (pbin .eql r4 (.int .u64 0)).bind fun r5 => some r5) else none) else none) else (some (.bool false))).bind fun g6 => f32_l3 k0 n c8 c9 g6 (IntKind.i64.wrap (x16 + 1))) else (k0 x7)
theorem f32_b3 (K : LOut × LS → Option PV) (c8 : List PV) (c9 : List PV) (x7 : PV) (x16 : Int) : (lbody T f32_G f32_A3 f32_c3 (f32_m3 c8 c9 x7 x16)).run K =
    bif decide (x16 < 4) then (((pbool x7).bind fun b1 => bif b1 then (bif decide (0 ≤ x16) && decide (x16 < (4 : Nat)) then ((c8[0 + x16.toNat * 1]?).bind fun p2 => bif decide (0 ≤ x16) && decide (x16 < (4 : Nat)) then ((c9[0 + x16.toNat * 1]?).bind fun p3 => (pbin .andNot p2 p3).bind fun r4 => (pbin .eql r4 (.int .u64 0)).bind fun r5 => some r5) else none) else none) else (some (.bool false))).bind fun g6 => K (.normal, f32_m3 c8 c9 g6 (IntKind.i64.wrap (x16 + 1)))) else (K (.exit 0, f32_e3_0 x7)) := by kernel_rfl
theorem f32_q3 (K : LOut × LS → Option PV) : ∀ (n : Nat) (c8 : List PV) (c9 : List PV) (x7 : PV) (x16 : Int), (liter (lbody T f32_G f32_A3 f32_c3) n (f32_m3 c8 c9 x7 x16)).run K = f32_l3 (fun x7 => K (.exit 0, f32_e3_0 x7)) n c8 c9 x7 x16
  | 0, _, _, _, _ => rfl
  | n + 1, c8, c9, x7, x16 => by
    rw [liter_succ, f32_b3]
    try simp only [lk_normal, lk_exit, lk_ret, f32_q3 K n]
    try rfl
noncomputable def f32_s3 (S : LS) : M (LOut × LS) := match S.H 8, S.H 9, S.sl 5, S.sl 6, S.sl 7, S.sl 16 with
  | some (.box (.pure c8)), some (.box (.pure c9)), .ptr 8 0, .ptr 9 0, .pv x7, .pv (.int .i64 x16) => .ofEq (liter (lbody T f32_G f32_A3 f32_c3) FU (f32_m3 c8 c9 x7 x16)) (fun K => f32_l3 (fun x7 => K (.exit 0, f32_e3_0 x7)) FU c8 c9 x7 x16) (fun K => f32_q3 K FU c8 c9 x7 x16)
  | _, _, _, _, _, _ => .fail
theorem f32_v3 {A : Ann} (h1 : (firstRegion f32_c3).bind A.loop = some f32_s3) (h2 : (firstRegion f32_c3).bind A.head = some ⟨[5, 6, 7, 16], [8, 9], 14, false, []⟩) : LoopsOk T f32_G (.loop f32_c3) A := by
  refine loopOk_of h1 h2 (A' := f32_A3) (loopsOk_of fun c' hc => by rw [show loopsIn (f32_c3) = [] from by kernel_rfl] at hc; cases hc) fun S0 S o S' hn hs => ?_
  unfold f32_s3 at hs
  split at hs
  · exact loop_fin hs hn rfl (slots_cons (by assumption) (slots_cons (by assumption) (slots_cons (by assumption) (slots_cons (by assumption) slots_nil)))) (heap_cons (by assumption) (heap_cons (by assumption) heap_nil)) (by kernel_rfl) (by kernel_rfl) (by kernel_rfl) (by kernel_rfl)
  · exact (M.is_fail.1 hs).elim
noncomputable def f32_A : Ann := ⟨assoc [(3, f32_s3)], assoc [(3, ⟨[5, 6, 7, 16], [8, 9], 14, false, []⟩)], assoc [], none⟩
noncomputable def F32 (a0 : List (List PV)) (a1 : List (List PV)) : Option PV :=
  (P70 [.list 1 a0, .list 1 a1]).bind fun r1 => (pnth r1 0).bind fun p2 => (pnth r1 1).bind fun p3 => (pnth r1 2).bind fun p4 => (pcells 4 p2).bind fun cs5 => (pputs [.int .u64 0, .int .u64 0, .int .u64 0, .int .u64 0] 0 cs5).bind fun cs6 => (pcells 4 p3).bind fun cs7 => (pputs [.int .u64 0, .int .u64 0, .int .u64 0, .int .u64 0] 0 cs7).bind fun cs8 => f32_l3 (fun (y9 : PV) => some y9) FU cs6 cs8 p4 0
theorem f32_eq (a0 : List (List PV)) (a1 : List (List PV)) : lfunP T f32_G f32_A Tryd.f32 [.pv (.list 1 a0), .pv (.list 1 a1)] = F32 a0 a1 := by kernel_rfl
noncomputable def P32 : List PV → Option PV
  | [.list 1 a0, .list 1 a1] => F32 a0 a1
  | _ => none
noncomputable def f32_code : Code := (Tryd.f32).body.getD .skip
theorem f32_gok : GOk Tryd.prog f32_G := gok_of (by
  simp only [List.forall_mem_cons, List.not_mem_nil, false_implies, implies_true, and_true]
  exact f70_ok)
theorem f32_ok : GivenOk Tryd.prog 32 (.pcall P32) := given_p tok f32_gok mixed (A := f32_A) (fn := Tryd.f32) (c := f32_code) (by kernel_rfl) (by kernel_rfl) (loopsOk_of fun c' hc => by
    rw [show loopsIn (f32_code) = [f32_c3] from by kernel_rfl] at hc
    simp only [List.mem_cons, List.not_mem_nil, or_false] at hc
    rcases hc with rfl
    · exact f32_v3 (by kernel_rfl) (by kernel_rfl)) (by kernel_rfl) (by kernel_rfl) (k := 2) (Nat.le_of_ble_eq_true (by kernel_rfl)) (by
  intro ps r h
  unfold P32 at h
  split at h
  · exact ⟨rfl, (f32_eq _ _).trans h⟩
  · cases h)

/-! ### bailiwick/bailiwicklaw10.HeldLater: function 5 -/
noncomputable def f5_G : Nat → Option Given := assoc [(18, .pcall P18), (19, .pcall P19), (23, .pcall P23), (24, .pcall P24), (26, .pcall P26), (27, .pcall P27), (32, .pcall P32), (33, .pcall P33)]
noncomputable def f5_A : Ann := ⟨assoc [], assoc [], assoc [], none⟩
noncomputable def F5 (a0 : List (List PV)) (a1 : Int) (a2 : Int) (a3 : Int) : Option PV :=
  (P18 []).bind fun r1 => (pun .not r1).bind fun r2 => (pbool r2).bind fun b3 => bif b3 then (some (.bool false)) else (((P19 [.list 4 a0]).bind fun r4 => (pun .not r4).bind fun r5 => (pbool r5).bind fun b6 => bif b6 then (some (.bool true)) else (bif decide (a1 > a2) then (some (.bool true)) else (some (.bool (decide (a2 > a3)))))).bind fun g7 => (pbool g7).bind fun b8 => bif b8 then (some (.bool true)) else ((P24 [.list 4 a0, .int .i64 a1]).bind fun r9 => (pnth r9 0).bind fun p10 => (pnth r9 1).bind fun p11 => (P24 [p10, .int .i64 a2]).bind fun r12 => (pnth r12 0).bind fun p13 => (pnth r12 1).bind fun p14 => (P24 [.list 4 a0, .int .i64 a2]).bind fun r15 => (pnth r15 0).bind fun p16 => (pnth r15 1).bind fun p17 => ((P23 [p13, p16]).bind fun r18 => (pbool r18).bind fun b19 => bif b19 then ((P27 [.list 4 a0, .int .i64 a1, .int .i64 a2]).bind fun r20 => (P27 [.list 4 a0, .int .i64 a1, .int .i64 a3]).bind fun r21 => (P32 [r20, r21]).bind fun r22 => (pbool r22).bind fun b23 => bif b23 then (bif a1 == a2 then (some (.bool true)) else (bif a2 == a3 then (some (.bool true)) else ((P27 [.list 4 a0, .int .i64 a1, .int .i64 a2]).bind fun r24 => (P27 [.list 4 a0, .int .i64 a2, .int .i64 a3]).bind fun r25 => (P33 [r24, r25]).bind fun r26 => (P27 [.list 4 a0, .int .i64 a1, .int .i64 a3]).bind fun r27 => (P26 [r26, r27]).bind fun r28 => some r28))) else (some (.bool false))) else (some (.bool false))).bind fun g29 => some g29))
theorem f5_eq (a0 : List (List PV)) (a1 : Int) (a2 : Int) (a3 : Int) : lfunP T f5_G f5_A Tryd.f5 [.pv (.list 4 a0), .pv (.int .i64 a1), .pv (.int .i64 a2), .pv (.int .i64 a3)] = F5 a0 a1 a2 a3 := by kernel_rfl
noncomputable def P5 : List PV → Option PV
  | [.list 4 a0, .int .i64 a1, .int .i64 a2, .int .i64 a3] => F5 a0 a1 a2 a3
  | _ => none
noncomputable def f5_code : Code := (Tryd.f5).body.getD .skip
theorem f5_gok : GOk Tryd.prog f5_G := gok_of (by
  simp only [List.forall_mem_cons, List.not_mem_nil, false_implies, implies_true, and_true]
  exact ⟨f18_ok, f19_ok, f23_ok, f24_ok, f26_ok, f27_ok, f32_ok, f33_ok⟩)
theorem f5_ok : GivenOk Tryd.prog 5 (.pcall P5) := given_p tok f5_gok mixed (A := f5_A) (fn := Tryd.f5) (c := f5_code) (by kernel_rfl) (by kernel_rfl) (loopsOk_of fun c' hc => by rw [show loopsIn (f5_code) = [] from by kernel_rfl] at hc; cases hc) (by kernel_rfl) (by kernel_rfl) (k := 4) (Nat.le_of_ble_eq_true (by kernel_rfl)) (by
  intro ps r h
  unfold P5 at h
  split at h
  · exact ⟨rfl, (f5_eq _ _ _ _).trans h⟩
  · cases h)
end Go.Bw.A
