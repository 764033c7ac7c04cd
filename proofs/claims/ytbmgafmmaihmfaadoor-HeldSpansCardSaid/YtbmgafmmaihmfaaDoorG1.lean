/- Summaries of the functions of the program, printed by gen.py, and that the functions answer so. No statement of a law is proved here. -/
import Derived.Test.YtbmgafmmaihmfaaDoorG0
set_option linter.unusedVariables false
set_option linter.unusedSimpArgs false
set_option maxRecDepth 100000
namespace Go.Bw.A
open Go.Proofs Go.Bw
/-! ### slices.IndexFunc[[]bailiwick/api.Held,bailiwick/api.Held]: function 94 -/
noncomputable def f94c61_G : Nat → Option Given := assoc [(61, .fcall P61)]
/-! loop 2 -/
noncomputable def f94c61_c2 : Code := ((Tryd.f94).body.bind (findLoop 2)).getD .skip
noncomputable def f94c61_m2 (x0 : List (List PV)) (x1q0_0 : Int) (x1q0_1 : List (List PV)) (x1q0_2 : Int) (x1q0_3 : Int) (x7 : Int) (x8 : Int) : LS := ⟨supd (supd (supd (supd (fun _ => .any) 8 (.pv (.int .i64 x8))) 7 (.pv (.int .i64 x7))) 1 (.clo 61 [.eptr [.int .i64 x1q0_0, .list 1 x1q0_1, .int .i64 x1q0_2, .int .i64 x1q0_3] 0])) 0 (.pv (.list 4 x0)), (fun _ => none), 4, 0⟩
noncomputable def f94c61_e2_0 : LS := ⟨(fun _ => .any), (fun _ => none), 5, 0⟩
noncomputable def f94c61_r2 (x4 : Int) : LS := ⟨supd (fun _ => .any) 4 (.pv (.int .i64 x4)), (fun _ => none), 15, 0⟩
noncomputable def f94c61_A2 : Ann := ⟨assoc [], assoc [(2, ⟨[0, 1, 7, 8], [], 4, false, []⟩)], assoc [(0, ⟨[], [], 5, false, []⟩)], some ⟨[4], [], 15, false, []⟩⟩
noncomputable def f94c61_l2 (k0 : Option PV) (kr : Int → Option PV) : Nat → (List (List PV)) → Int → (List (List PV)) → Int → Int → Int → Int → Option PV
  | 0, _, _, _, _, _, _, _ => none
  | n + 1, x0, x1q0_0, x1q0_1, x1q0_2, x1q0_3, x7, x8 => bif decide (x8 < x7) then ((lget x0 x8).bind fun cs1 => (pext cs1 0 4).bind fun p2 => (P61 [.pv p2, .eptr [.int .i64 x1q0_0, .list 1 x1q0_1, .int .i64 x1q0_2, .int .i64 x1q0_3] 0]).bind fun r3 => (pbool r3).bind fun b4 => bif b4 then (kr x8) else (f94c61_l2 k0 kr n x0 x1q0_0 x1q0_1 x1q0_2 x1q0_3 x7 (IntKind.i64.wrap (x8 + 1)))) else k0
theorem f94c61_b2 (K : LOut × LS → Option PV) (x0 : List (List PV)) (x1q0_0 : Int) (x1q0_1 : List (List PV)) (x1q0_2 : Int) (x1q0_3 : Int) (x7 : Int) (x8 : Int) : (lbody T f94c61_G f94c61_A2 f94c61_c2 (f94c61_m2 x0 x1q0_0 x1q0_1 x1q0_2 x1q0_3 x7 x8)).run K =
    bif decide (x8 < x7) then ((lget x0 x8).bind fun cs1 => (pext cs1 0 4).bind fun p2 => (P61 [.pv p2, .eptr [.int .i64 x1q0_0, .list 1 x1q0_1, .int .i64 x1q0_2, .int .i64 x1q0_3] 0]).bind fun r3 => (pbool r3).bind fun b4 => bif b4 then (K (.ret, f94c61_r2 x8)) else (K (.normal, f94c61_m2 x0 x1q0_0 x1q0_1 x1q0_2 x1q0_3 x7 (IntKind.i64.wrap (x8 + 1))))) else (K (.exit 0, f94c61_e2_0)) := by kernel_rfl
theorem f94c61_q2 (K : LOut × LS → Option PV) : ∀ (n : Nat) (x0 : List (List PV)) (x1q0_0 : Int) (x1q0_1 : List (List PV)) (x1q0_2 : Int) (x1q0_3 : Int) (x7 : Int) (x8 : Int), (liter (lbody T f94c61_G f94c61_A2 f94c61_c2) n (f94c61_m2 x0 x1q0_0 x1q0_1 x1q0_2 x1q0_3 x7 x8)).run K = f94c61_l2 (K (.exit 0, f94c61_e2_0)) (fun x4 => K (.ret, f94c61_r2 x4)) n x0 x1q0_0 x1q0_1 x1q0_2 x1q0_3 x7 x8
  | 0, _, _, _, _, _, _, _ => rfl
  | n + 1, x0, x1q0_0, x1q0_1, x1q0_2, x1q0_3, x7, x8 => by
    rw [liter_succ, f94c61_b2]
    try simp only [lk_normal, lk_exit, lk_ret, f94c61_q2 K n]
    try rfl
noncomputable def f94c61_s2 (S : LS) : M (LOut × LS) := match S.sl 0, S.sl 1, S.sl 7, S.sl 8 with
  | .pv (.list 4 x0), .clo 61 [.eptr [.int .i64 x1q0_0, .list 1 x1q0_1, .int .i64 x1q0_2, .int .i64 x1q0_3] 0], .pv (.int .i64 x7), .pv (.int .i64 x8) => .ofEq (liter (lbody T f94c61_G f94c61_A2 f94c61_c2) FU (f94c61_m2 x0 x1q0_0 x1q0_1 x1q0_2 x1q0_3 x7 x8)) (fun K => f94c61_l2 (K (.exit 0, f94c61_e2_0)) (fun x4 => K (.ret, f94c61_r2 x4)) FU x0 x1q0_0 x1q0_1 x1q0_2 x1q0_3 x7 x8) (fun K => f94c61_q2 K FU x0 x1q0_0 x1q0_1 x1q0_2 x1q0_3 x7 x8)
  | _, _, _, _ => .fail
theorem f94c61_v2 {A : Ann} (h1 : (firstRegion f94c61_c2).bind A.loop = some f94c61_s2) (h2 : (firstRegion f94c61_c2).bind A.head = some ⟨[0, 1, 7, 8], [], 4, false, []⟩) : LoopsOk T f94c61_G (.loop f94c61_c2) A := by
  refine loopOk_of h1 h2 (A' := f94c61_A2) (loopsOk_of fun c' hc => by rw [show loopsIn (f94c61_c2) = [] from by kernel_rfl] at hc; cases hc) fun S0 S o S' hn hs => ?_
  unfold f94c61_s2 at hs
  split at hs
  · exact loop_fin hs hn rfl (slots_cons (by assumption) (slots_cons (by assumption) (slots_cons (by assumption) (slots_cons (by assumption) slots_nil)))) heap_nil (by kernel_rfl) (by kernel_rfl) (by kernel_rfl) (by kernel_rfl)
  · exact (M.is_fail.1 hs).elim
noncomputable def f94c61_A : Ann := ⟨assoc [(2, f94c61_s2)], assoc [(2, ⟨[0, 1, 7, 8], [], 4, false, []⟩)], assoc [], none⟩
noncomputable def F94c61 (a0 : List (List PV)) (q1_0_0 : Int) (q1_0_1 : List (List PV)) (q1_0_2 : Int) (q1_0_3 : Int) : Option PV :=
  f94c61_l2 (some (.int .i64 (-1))) (fun (y1 : Int) => some (.int .i64 y1)) FU a0 q1_0_0 q1_0_1 q1_0_2 q1_0_3 (a0.length : Int) 0
theorem f94c61_eq (a0 : List (List PV)) (q1_0_0 : Int) (q1_0_1 : List (List PV)) (q1_0_2 : Int) (q1_0_3 : Int) : lfunP T f94c61_G f94c61_A Tryd.f94 [.pv (.list 4 a0), .clo 61 [.eptr [.int .i64 q1_0_0, .list 1 q1_0_1, .int .i64 q1_0_2, .int .i64 q1_0_3] 0]] = F94c61 a0 q1_0_0 q1_0_1 q1_0_2 q1_0_3 := by kernel_rfl
noncomputable def P94c61 : List LV → Option PV
  | [.pv (.list 4 a0), .clo 61 [.eptr [.int .i64 q1_0_0, .list 1 q1_0_1, .int .i64 q1_0_2, .int .i64 q1_0_3] 0]] => F94c61 a0 q1_0_0 q1_0_1 q1_0_2 q1_0_3
  | _ => none
noncomputable def f94c61_code : Code := (Tryd.f94).body.getD .skip
theorem f94c61_gok : GOk Tryd.prog f94c61_G := gok_of (by
  simp only [List.forall_mem_cons, List.not_mem_nil, false_implies, implies_true, and_true]
  exact f61_ok)
theorem f94c61_ok : GivenOk Tryd.prog 94 (.fcall P94c61) := given_f tok f94c61_gok mixed (A := f94c61_A) (fn := Tryd.f94) (c := f94c61_code) (by kernel_rfl) (by kernel_rfl) (loopsOk_of fun c' hc => by
    rw [show loopsIn (f94c61_code) = [f94c61_c2] from by kernel_rfl] at hc
    simp only [List.mem_cons, List.not_mem_nil, or_false] at hc
    rcases hc with rfl
    · exact f94c61_v2 (by kernel_rfl) (by kernel_rfl)) (by kernel_rfl) (by kernel_rfl) (k := 2) (Nat.le_of_ble_eq_true (by kernel_rfl)) (by
  intro ps r h
  unfold P94c61 at h
  split at h
  · exact ⟨rfl, (f94c61_eq _ _ _ _ _).trans h⟩
  · cases h)

/-! ### slices.ContainsFunc[[]bailiwick/api.Held,bailiwick/api.Held]: function 60 -/
noncomputable def f60c61_G : Nat → Option Given := assoc [(61, .fcall P61), (94, .fcall P94c61)]
noncomputable def f60c61_A : Ann := ⟨assoc [], assoc [], assoc [], none⟩
noncomputable def F60c61 (a0 : List (List PV)) (q1_0_0 : Int) (q1_0_1 : List (List PV)) (q1_0_2 : Int) (q1_0_3 : Int) : Option PV :=
  (P94c61 [.pv (.list 4 a0), .clo 61 [.eptr [.int .i64 q1_0_0, .list 1 q1_0_1, .int .i64 q1_0_2, .int .i64 q1_0_3] 0]]).bind fun r1 => (pbin .geq r1 (.int .i64 0)).bind fun r2 => some r2
theorem f60c61_eq (a0 : List (List PV)) (q1_0_0 : Int) (q1_0_1 : List (List PV)) (q1_0_2 : Int) (q1_0_3 : Int) : lfunP T f60c61_G f60c61_A Tryd.f60 [.pv (.list 4 a0), .clo 61 [.eptr [.int .i64 q1_0_0, .list 1 q1_0_1, .int .i64 q1_0_2, .int .i64 q1_0_3] 0]] = F60c61 a0 q1_0_0 q1_0_1 q1_0_2 q1_0_3 := by kernel_rfl
noncomputable def P60c61 : List LV → Option PV
  | [.pv (.list 4 a0), .clo 61 [.eptr [.int .i64 q1_0_0, .list 1 q1_0_1, .int .i64 q1_0_2, .int .i64 q1_0_3] 0]] => F60c61 a0 q1_0_0 q1_0_1 q1_0_2 q1_0_3
  | _ => none
noncomputable def f60c61_code : Code := (Tryd.f60).body.getD .skip
theorem f60c61_gok : GOk Tryd.prog f60c61_G := gok_of (by
  simp only [List.forall_mem_cons, List.not_mem_nil, false_implies, implies_true, and_true]
  exact ⟨f61_ok, f94c61_ok⟩)
theorem f60c61_ok : GivenOk Tryd.prog 60 (.fcall P60c61) := given_f tok f60c61_gok mixed (A := f60c61_A) (fn := Tryd.f60) (c := f60c61_code) (by kernel_rfl) (by kernel_rfl) (loopsOk_of fun c' hc => by rw [show loopsIn (f60c61_code) = [] from by kernel_rfl] at hc; cases hc) (by kernel_rfl) (by kernel_rfl) (k := 2) (Nat.le_of_ble_eq_true (by kernel_rfl)) (by
  intro ps r h
  unfold P60c61 at h
  split at h
  · exact ⟨rfl, (f60c61_eq _ _ _ _ _).trans h⟩
  · cases h)

/-! ### bailiwick/held.Add: function 20 -/
noncomputable def f20_G : Nat → Option Given := assoc [(40, .pcall P40), (57, .ocall 25 4 P57), (58, .pcall P58), (59, .pcall P59), (60, .fcall P60c61), (61, .fcall P61), (63, .gcall P63), (64, .pcall P64)]
noncomputable def f20_A : Ann := ⟨assoc [], assoc [], assoc [], none⟩
noncomputable def F20 (a0 : List (List PV)) (a1_0 : Int) (a1_1 : List (List PV)) (a1_2 : Int) (a1_3 : Int) : Option PV :=
  (P57 [.list 4 a0]).bind fun xs1 => ((P40 [.list 4 a0]).bind fun r2 => (pun .not r2).bind fun r3 => (pbool r3).bind fun b4 => bif b4 then (some (.bool true)) else ((P58 [.agg [.int .i64 a1_0, .list 1 a1_1, .int .i64 a1_2, .int .i64 a1_3]]).bind fun r5 => (pun .not r5).bind fun r6 => some r6)).bind fun g7 => (pbool g7).bind fun b8 => bif b8 then (bif xs1.length == xs1.length then (some (.tup [.list 4 xs1, .int .i64 1])) else none) else ((P59 [.list 4 a0, .int .i64 a1_0]).bind fun r9 => (pnth r9 0).bind fun p10 => (pnth r9 1).bind fun p11 => (pbool p11).bind fun b12 => bif b12 then (bif xs1.length == xs1.length then (some (.tup [.list 4 xs1, .int .i64 7])) else none) else ((bif (a0.length : Int) == 256 then (some (.bool true)) else ((P60c61 [.pv (.list 4 a0), .clo 61 [.eptr [.int .i64 a1_0, .list 1 a1_1, .int .i64 a1_2, .int .i64 a1_3] 0]]).bind fun r13 => bif PV.flat r13 then (some r13) else none)).bind fun g14 => (pbool g14).bind fun b15 => bif b15 then (bif xs1.length == xs1.length then (some (.tup [.list 4 xs1, .int .i64 5])) else none) else ((P64 [.agg [.int .i64 a1_0, .list 1 a1_1, .int .i64 a1_2, .int .i64 a1_3]]).bind fun r16 => (pcells 4 r16).bind fun cs17 => (pi64 p10).bind fun n18 => bif xs1.length == xs1.length then ((linsert xs1 n18 [cs17]).bind fun zs19 => some (.tup [.list 4 zs19, .int .i64 0])) else none)))
theorem f20_eq (a0 : List (List PV)) (a1_0 : Int) (a1_1 : List (List PV)) (a1_2 : Int) (a1_3 : Int) : lfunP T f20_G f20_A Tryd.f20 [.pv (.list 4 a0), .pv (.agg [.int .i64 a1_0, .list 1 a1_1, .int .i64 a1_2, .int .i64 a1_3])] = F20 a0 a1_0 a1_1 a1_2 a1_3 := by kernel_rfl
noncomputable def P20 : List PV → Option PV
  | [.list 4 a0, .agg [.int .i64 a1_0, .list 1 a1_1, .int .i64 a1_2, .int .i64 a1_3]] => F20 a0 a1_0 a1_1 a1_2 a1_3
  | _ => none
noncomputable def f20_code : Code := (Tryd.f20).body.getD .skip
theorem f20_gok : GOk Tryd.prog f20_G := gok_of (by
  simp only [List.forall_mem_cons, List.not_mem_nil, false_implies, implies_true, and_true]
  exact ⟨f40_ok, f57_ok, f58_ok, f59_ok, f60c61_ok, f61_ok, f63_ok, f64_ok⟩)
theorem f20_ok : GivenOk Tryd.prog 20 (.pcall P20) := given_p tok f20_gok mixed (A := f20_A) (fn := Tryd.f20) (c := f20_code) (by kernel_rfl) (by kernel_rfl) (loopsOk_of fun c' hc => by rw [show loopsIn (f20_code) = [] from by kernel_rfl] at hc; cases hc) (by kernel_rfl) (by kernel_rfl) (k := 2) (Nat.le_of_ble_eq_true (by kernel_rfl)) (by
  intro ps r h
  unfold P20 at h
  split at h
  · exact ⟨rfl, (f20_eq _ _ _ _ _).trans h⟩
  · cases h)

/-! ### bailiwick/set.Join$1: function 72 -/
noncomputable def f72_G : Nat → Option Given := assoc []
noncomputable def f72_A : Ann := ⟨assoc [], assoc [], assoc [], none⟩
noncomputable def F72 (a0 : Int) (a1 : Int) : Option PV :=
  (pbin .or (.int .u64 a0) (.int .u64 a1)).bind fun r1 => some r1
theorem f72_eq (a0 : Int) (a1 : Int) : lfunP T f72_G f72_A Tryd.f72 [.pv (.int .u64 a0), .pv (.int .u64 a1)] = F72 a0 a1 := by kernel_rfl
noncomputable def P72 : List PV → Option PV
  | [.int .u64 a0, .int .u64 a1] => F72 a0 a1
  | _ => none
noncomputable def f72_code : Code := (Tryd.f72).body.getD .skip
theorem f72_gok : GOk Tryd.prog f72_G := gok_of (fun p hp => by cases hp)
theorem f72_ok : GivenOk Tryd.prog 72 (.pcall P72) := given_p tok f72_gok mixed (A := f72_A) (fn := Tryd.f72) (c := f72_code) (by kernel_rfl) (by kernel_rfl) (loopsOk_of fun c' hc => by rw [show loopsIn (f72_code) = [] from by kernel_rfl] at hc; cases hc) (by kernel_rfl) (by kernel_rfl) (k := 2) (Nat.le_of_ble_eq_true (by kernel_rfl)) (by
  intro ps r h
  unfold P72 at h
  split at h
  · exact ⟨rfl, (f72_eq _ _).trans h⟩
  · cases h)

/-! ### (bailiwick/set.words).list: function 101 -/
noncomputable def f101_G : Nat → Option Given := assoc [(130, .pcall P130)]
/-! loop 5 -/
noncomputable def f101_c5 : Code := ((Tryd.f101).body.bind (findLoop 5)).getD .skip
noncomputable def f101_m5 (o2 : List (List PV)) (x3 : Nat) (x4 : Int) (x5 : PV) (x6_0 : Int) (x6_1 : Int) (x6_2 : Int) (x6_3 : Int) (x7 : Int) : LS := ⟨supd (supd (supd (supd (supd (fun _ => .any) 7 (.pv (.int .i64 x7))) 6 (.pv (.agg [.int .u64 x6_0, .int .u64 x6_1, .int .u64 x6_2, .int .u64 x6_3]))) 5 (.pv x5)) 4 (.pv (.int .i64 x4))) 3 (.osl 2 x3), hset (fun _ => none) 2 (.sl 3 1 o2 false), 10, 0⟩
noncomputable def f101_e5_2 (o2 : List (List PV)) (x3 : Nat) (x6_0 : Int) (x6_1 : Int) (x6_2 : Int) (x6_3 : Int) (x7 : Int) : LS := ⟨supd (supd (supd (fun _ => .any) 7 (.pv (.int .i64 x7))) 6 (.pv (.agg [.int .u64 x6_0, .int .u64 x6_1, .int .u64 x6_2, .int .u64 x6_3]))) 3 (.osl 2 x3), hset (fun _ => none) 2 (.sl 3 1 o2 false), 12, 0⟩
noncomputable def f101_A5 : Ann := ⟨assoc [], assoc [(3, ⟨[3, 6, 7], [2], 5, false, []⟩), (5, ⟨[3, 4, 5, 6, 7], [2], 10, false, []⟩)], assoc [(2, ⟨[3, 6, 7], [2], 12, false, []⟩)], none⟩
noncomputable def f101_l5 (k2 : (List (List PV)) → Nat → Int → Int → Int → Int → Int → Option PV) : Nat → (List (List PV)) → Nat → Int → PV → Int → Int → Int → Int → Int → Option PV
  | 0, _, _, _, _, _, _, _, _, _ => none
  | n + 1, o2, x3, x4, x5, x6_0, x6_1, x6_2, x6_3, x7 => (pbin .neq x5 (.int .u64 0)).bind fun r1 => (pbool r1).bind fun b2 => bif b2 then ((P130 [x5]).bind fun r3 => (pbin .add (.int .i64 (IntKind.i64.wrap (64 * x4))) r3).bind fun r4 => (pscal r4).bind fun p5 => bif o2.length == x3 then (bif decide (o2.length + ([[p5]] : List (List PV)).length ≤ LIM) then ((pbin .sub x5 (.int .u64 1)).bind fun r6 => (pbin .and x5 r6).bind fun r7 => f101_l5 k2 n (o2 ++ [[p5]]) ((o2 ++ [[p5]] : List (List PV)).length) x4 r7 x6_0 x6_1 x6_2 x6_3 x7) else none) else none) else (k2 o2 x3 x6_0 x6_1 x6_2 x6_3 x7)
theorem f101_b5 (K : LOut × LS → Option PV) (o2 : List (List PV)) (x3 : Nat) (x4 : Int) (x5 : PV) (x6_0 : Int) (x6_1 : Int) (x6_2 : Int) (x6_3 : Int) (x7 : Int) : (lbody T f101_G f101_A5 f101_c5 (f101_m5 o2 x3 x4 x5 x6_0 x6_1 x6_2 x6_3 x7)).run K =
    (pbin .neq x5 (.int .u64 0)).bind fun r1 => (pbool r1).bind fun b2 => bif b2 then ((P130 [x5]).bind fun r3 => (pbin .add (.int .i64 (IntKind.i64.wrap (64 * x4))) r3).bind fun r4 => (pscal r4).bind fun p5 => bif o2.length == x3 then (bif decide (o2.length + ([[p5]] : List (List PV)).length ≤ LIM) then ((pbin .sub x5 (.int .u64 1)).bind fun r6 => (pbin .and x5 r6).bind fun r7 => K (.normal, f101_m5 (o2 ++ [[p5]]) ((o2 ++ [[p5]] : List (List PV)).length) x4 r7 x6_0 x6_1 x6_2 x6_3 x7)) else none) else none) else (K (.exit 2, f101_e5_2 o2 x3 x6_0 x6_1 x6_2 x6_3 x7)) := by kernel_rfl
theorem f101_q5 (K : LOut × LS → Option PV) : ∀ (n : Nat) (o2 : List (List PV)) (x3 : Nat) (x4 : Int) (x5 : PV) (x6_0 : Int) (x6_1 : Int) (x6_2 : Int) (x6_3 : Int) (x7 : Int), (liter (lbody T f101_G f101_A5 f101_c5) n (f101_m5 o2 x3 x4 x5 x6_0 x6_1 x6_2 x6_3 x7)).run K = f101_l5 (fun o2 x3 x6_0 x6_1 x6_2 x6_3 x7 => K (.exit 2, f101_e5_2 o2 x3 x6_0 x6_1 x6_2 x6_3 x7)) n o2 x3 x4 x5 x6_0 x6_1 x6_2 x6_3 x7
  | 0, _, _, _, _, _, _, _, _, _ => rfl
  | n + 1, o2, x3, x4, x5, x6_0, x6_1, x6_2, x6_3, x7 => by
    rw [liter_succ, f101_b5]
    try simp only [lk_normal, lk_exit, lk_ret, f101_q5 K n]
    try rfl
noncomputable def f101_s5 (S : LS) : M (LOut × LS) := match S.H 2, S.sl 3, S.sl 4, S.sl 5, S.sl 6, S.sl 7 with
  | some (.sl 3 1 o2 false), .osl 2 x3, .pv (.int .i64 x4), .pv x5, .pv (.agg [.int .u64 x6_0, .int .u64 x6_1, .int .u64 x6_2, .int .u64 x6_3]), .pv (.int .i64 x7) => .ofEq (liter (lbody T f101_G f101_A5 f101_c5) FU (f101_m5 o2 x3 x4 x5 x6_0 x6_1 x6_2 x6_3 x7)) (fun K => f101_l5 (fun o2 x3 x6_0 x6_1 x6_2 x6_3 x7 => K (.exit 2, f101_e5_2 o2 x3 x6_0 x6_1 x6_2 x6_3 x7)) FU o2 x3 x4 x5 x6_0 x6_1 x6_2 x6_3 x7) (fun K => f101_q5 K FU o2 x3 x4 x5 x6_0 x6_1 x6_2 x6_3 x7)
  | _, _, _, _, _, _ => .fail
theorem f101_v5 {A : Ann} (h1 : (firstRegion f101_c5).bind A.loop = some f101_s5) (h2 : (firstRegion f101_c5).bind A.head = some ⟨[3, 4, 5, 6, 7], [2], 10, false, []⟩) : LoopsOk T f101_G (.loop f101_c5) A := by
  refine loopOk_of h1 h2 (A' := f101_A5) (loopsOk_of fun c' hc => by rw [show loopsIn (f101_c5) = [] from by kernel_rfl] at hc; cases hc) fun S0 S o S' hn hs => ?_
  unfold f101_s5 at hs
  split at hs
  · exact loop_fin hs hn rfl (slots_cons (by assumption) (slots_cons (by assumption) (slots_cons (by assumption) (slots_cons (by assumption) (slots_cons (by assumption) slots_nil))))) (heap_cons (by assumption) heap_nil) (by kernel_rfl) (by kernel_rfl) (by kernel_rfl) (by kernel_rfl)
  · exact (M.is_fail.1 hs).elim
/-! loop 3 -/
noncomputable def f101_c3 : Code := ((Tryd.f101).body.bind (findLoop 3)).getD .skip
noncomputable def f101_m3 (o2 : List (List PV)) (x3 : Nat) (x6_0 : Int) (x6_1 : Int) (x6_2 : Int) (x6_3 : Int) (x7 : Int) : LS := ⟨supd (supd (supd (fun _ => .any) 7 (.pv (.int .i64 x7))) 6 (.pv (.agg [.int .u64 x6_0, .int .u64 x6_1, .int .u64 x6_2, .int .u64 x6_3]))) 3 (.osl 2 x3), hset (fun _ => none) 2 (.sl 3 1 o2 false), 5, 0⟩
noncomputable def f101_e3_0 (o2 : List (List PV)) (x3 : Nat) : LS := ⟨supd (fun _ => .any) 3 (.osl 2 x3), hset (fun _ => none) 2 (.sl 3 1 o2 false), 6, 0⟩
noncomputable def f101_A3 : Ann := ⟨assoc [(5, f101_s5)], assoc [(3, ⟨[3, 6, 7], [2], 5, false, []⟩), (5, ⟨[3, 4, 5, 6, 7], [2], 10, false, []⟩)], assoc [(0, ⟨[3], [2], 6, false, []⟩)], none⟩
noncomputable def f101_l3 (k0 : (List (List PV)) → Nat → Option PV) : Nat → (List (List PV)) → Nat → Int → Int → Int → Int → Int → Option PV
  | 0, _, _, _, _, _, _, _ => none
  | n + 1, o2, x3, x6_0, x6_1, x6_2, x6_3, x7 => bif decide (x7 < 4) then (bif decide (0 ≤ x7) && decide (x7 < (4 : Nat)) then (([.int .u64 x6_0, .int .u64 x6_1, .int .u64 x6_2, .int .u64 x6_3][x7.toNat]?).bind fun r1 => f101_l5 (fun (y2 : List (List PV)) (y3 : Nat) (y4 : Int) (y5 : Int) (y6 : Int) (y7 : Int) (y8 : Int) => f101_l3 k0 n y2 y3 y4 y5 y6 y7 (IntKind.i64.wrap (y8 + 1))) FU o2 x3 x7 r1 x6_0 x6_1 x6_2 x6_3 x7) else none) else (k0 o2 x3)
theorem f101_b3 (K : LOut × LS → Option PV) (o2 : List (List PV)) (x3 : Nat) (x6_0 : Int) (x6_1 : Int) (x6_2 : Int) (x6_3 : Int) (x7 : Int) : (lbody T f101_G f101_A3 f101_c3 (f101_m3 o2 x3 x6_0 x6_1 x6_2 x6_3 x7)).run K =
    bif decide (x7 < 4) then (bif decide (0 ≤ x7) && decide (x7 < (4 : Nat)) then (([.int .u64 x6_0, .int .u64 x6_1, .int .u64 x6_2, .int .u64 x6_3][x7.toNat]?).bind fun r1 => f101_l5 (fun (y2 : List (List PV)) (y3 : Nat) (y4 : Int) (y5 : Int) (y6 : Int) (y7 : Int) (y8 : Int) => K (.normal, f101_m3 y2 y3 y4 y5 y6 y7 (IntKind.i64.wrap (y8 + 1)))) FU o2 x3 x7 r1 x6_0 x6_1 x6_2 x6_3 x7) else none) else (K (.exit 0, f101_e3_0 o2 x3)) := by kernel_rfl
theorem f101_q3 (K : LOut × LS → Option PV) : ∀ (n : Nat) (o2 : List (List PV)) (x3 : Nat) (x6_0 : Int) (x6_1 : Int) (x6_2 : Int) (x6_3 : Int) (x7 : Int), (liter (lbody T f101_G f101_A3 f101_c3) n (f101_m3 o2 x3 x6_0 x6_1 x6_2 x6_3 x7)).run K = f101_l3 (fun o2 x3 => K (.exit 0, f101_e3_0 o2 x3)) n o2 x3 x6_0 x6_1 x6_2 x6_3 x7
  | 0, _, _, _, _, _, _, _ => rfl
  | n + 1, o2, x3, x6_0, x6_1, x6_2, x6_3, x7 => by
    rw [liter_succ, f101_b3]
    try simp only [lk_normal, lk_exit, lk_ret, f101_q3 K n]
    try rfl
noncomputable def f101_s3 (S : LS) : M (LOut × LS) := match S.H 2, S.sl 3, S.sl 6, S.sl 7 with
  | some (.sl 3 1 o2 false), .osl 2 x3, .pv (.agg [.int .u64 x6_0, .int .u64 x6_1, .int .u64 x6_2, .int .u64 x6_3]), .pv (.int .i64 x7) => .ofEq (liter (lbody T f101_G f101_A3 f101_c3) FU (f101_m3 o2 x3 x6_0 x6_1 x6_2 x6_3 x7)) (fun K => f101_l3 (fun o2 x3 => K (.exit 0, f101_e3_0 o2 x3)) FU o2 x3 x6_0 x6_1 x6_2 x6_3 x7) (fun K => f101_q3 K FU o2 x3 x6_0 x6_1 x6_2 x6_3 x7)
  | _, _, _, _ => .fail
theorem f101_v3 {A : Ann} (h1 : (firstRegion f101_c3).bind A.loop = some f101_s3) (h2 : (firstRegion f101_c3).bind A.head = some ⟨[3, 6, 7], [2], 5, false, []⟩) : LoopsOk T f101_G (.loop f101_c3) A := by
  refine loopOk_of h1 h2 (A' := f101_A3) (loopsOk_of fun c' hc => by
    rw [show loopsIn (f101_c3) = [f101_c5] from by kernel_rfl] at hc
    simp only [List.mem_cons, List.not_mem_nil, or_false] at hc
    rcases hc with rfl
    · exact f101_v5 (by kernel_rfl) (by kernel_rfl)) fun S0 S o S' hn hs => ?_
  unfold f101_s3 at hs
  split at hs
  · exact loop_fin hs hn rfl (slots_cons (by assumption) (slots_cons (by assumption) (slots_cons (by assumption) slots_nil))) (heap_cons (by assumption) heap_nil) (by kernel_rfl) (by kernel_rfl) (by kernel_rfl) (by kernel_rfl)
  · exact (M.is_fail.1 hs).elim
noncomputable def f101_A : Ann := ⟨assoc [(5, f101_s5), (3, f101_s3)], assoc [(3, ⟨[3, 6, 7], [2], 5, false, []⟩), (5, ⟨[3, 4, 5, 6, 7], [2], 10, false, []⟩)], assoc [], none⟩
noncomputable def F101 (a0_0 : Int) (a0_1 : Int) (a0_2 : Int) (a0_3 : Int) : Option PV :=
  f101_l3 (fun (y1 : List (List PV)) (y2 : Nat) => bif y1.length == y2 then (some (.list 1 y1)) else none) FU [] 0 a0_0 a0_1 a0_2 a0_3 0
theorem f101_eq (a0_0 : Int) (a0_1 : Int) (a0_2 : Int) (a0_3 : Int) : lfunP T f101_G f101_A Tryd.f101 [.pv (.agg [.int .u64 a0_0, .int .u64 a0_1, .int .u64 a0_2, .int .u64 a0_3])] = F101 a0_0 a0_1 a0_2 a0_3 := by kernel_rfl
noncomputable def P101 : List PV → Option PV
  | [.agg [.int .u64 a0_0, .int .u64 a0_1, .int .u64 a0_2, .int .u64 a0_3]] => F101 a0_0 a0_1 a0_2 a0_3
  | _ => none
noncomputable def f101_code : Code := (Tryd.f101).body.getD .skip
theorem f101_gok : GOk Tryd.prog f101_G := gok_of (by
  simp only [List.forall_mem_cons, List.not_mem_nil, false_implies, implies_true, and_true]
  exact f130_ok)
theorem f101_ok : GivenOk Tryd.prog 101 (.pcall P101) := given_p tok f101_gok mixed (A := f101_A) (fn := Tryd.f101) (c := f101_code) (by kernel_rfl) (by kernel_rfl) (loopsOk_of fun c' hc => by
    rw [show loopsIn (f101_code) = [f101_c3] from by kernel_rfl] at hc
    simp only [List.mem_cons, List.not_mem_nil, or_false] at hc
    rcases hc with rfl
    · exact f101_v3 (by kernel_rfl) (by kernel_rfl)) (by kernel_rfl) (by kernel_rfl) (k := 1) (Nat.le_of_ble_eq_true (by kernel_rfl)) (by
  intro ps r h
  unfold P101 at h
  split at h
  · exact ⟨rfl, (f101_eq _ _ _ _).trans h⟩
  · cases h)

/-! ### bailiwick/set.put: function 71 -/
noncomputable def f71c72_G : Nat → Option Given := assoc [(70, .pcall P70), (72, .pcall P72), (101, .pcall P101)]
/-! loop 5 -/
noncomputable def f71c72_c5 : Code := ((Tryd.f71).body.bind (findLoop 5)).getD .skip
noncomputable def f71c72_m5 (c8 : List PV) (c9 : List PV) (x20 : Int) : LS := ⟨supd (supd (supd (supd (fun _ => .any) 20 (.pv (.int .i64 x20))) 8 (.ptr 9 0)) 7 (.ptr 8 0)) 2 (.clo 72 []), hset (hset (fun _ => none) 9 (.box (.pure c9))) 8 (.box (.pure c8)), 16, 0⟩
noncomputable def f71c72_e5_0 (c8 : List PV) : LS := ⟨supd (fun _ => .any) 7 (.ptr 8 0), hset (fun _ => none) 8 (.box (.pure c8)), 17, 0⟩
noncomputable def f71c72_A5 : Ann := ⟨assoc [], assoc [(5, ⟨[2, 7, 8, 20], [8, 9], 16, false, []⟩)], assoc [(0, ⟨[7], [8], 17, false, []⟩)], none⟩
noncomputable def f71c72_l5 (k0 : (List PV) → Option PV) : Nat → (List PV) → (List PV) → Int → Option PV
  | 0, _, _, _ => none
  | n + 1, c8, c9, x20 => bif decide (x20 < 4) then (bif decide (0 ≤ x20) && decide (x20 < (4 : Nat)) then ((c8[0 + x20.toNat * 1]?).bind fun p1 => bif decide (0 ≤ x20) && decide (x20 < (4 : Nat)) then ((c9[0 + x20.toNat * 1]?).bind fun p2 => (P72 [p1, p2]).bind fun r3 => bif decide (0 ≤ x20) && decide (x20 < (4 : Nat)) then ((pscal r3).bind fun p4 => (psetc c8 (0 + x20.toNat * 1) p4).bind fun cs5 => f71c72_l5 k0 n cs5 c9 (IntKind.i64.wrap (x20 + 1))) else none) else none) else none) else (k0 c8)
theorem f71c72_b5 (K : LOut × LS → Option PV) (c8 : List PV) (c9 : List PV) (x20 : Int) : (lbody T f71c72_G f71c72_A5 f71c72_c5 (f71c72_m5 c8 c9 x20)).run K =
    bif decide (x20 < 4) then (bif decide (0 ≤ x20) && decide (x20 < (4 : Nat)) then ((c8[0 + x20.toNat * 1]?).bind fun p1 => bif decide (0 ≤ x20) && decide (x20 < (4 : Nat)) then ((c9[0 + x20.toNat * 1]?).bind fun p2 => (P72 [p1, p2]).bind fun r3 => bif decide (0 ≤ x20) && decide (x20 < (4 : Nat)) then ((pscal r3).bind fun p4 => (psetc c8 (0 + x20.toNat * 1) p4).bind fun cs5 => K (.normal, f71c72_m5 cs5 c9 (IntKind.i64.wrap (x20 + 1)))) else none) else none) else none) else (K (.exit 0, f71c72_e5_0 c8)) := by kernel_rfl
theorem f71c72_q5 (K : LOut × LS → Option PV) : ∀ (n : Nat) (c8 : List PV) (c9 : List PV) (x20 : Int), (liter (lbody T f71c72_G f71c72_A5 f71c72_c5) n (f71c72_m5 c8 c9 x20)).run K = f71c72_l5 (fun c8 => K (.exit 0, f71c72_e5_0 c8)) n c8 c9 x20
  | 0, _, _, _ => rfl
  | n + 1, c8, c9, x20 => by
    rw [liter_succ, f71c72_b5]
    try simp only [lk_normal, lk_exit, lk_ret, f71c72_q5 K n]
    try rfl
noncomputable def f71c72_s5 (S : LS) : M (LOut × LS) := match S.H 8, S.H 9, S.sl 2, S.sl 7, S.sl 8, S.sl 20 with
  | some (.box (.pure c8)), some (.box (.pure c9)), .clo 72 [], .ptr 8 0, .ptr 9 0, .pv (.int .i64 x20) => .ofEq (liter (lbody T f71c72_G f71c72_A5 f71c72_c5) FU (f71c72_m5 c8 c9 x20)) (fun K => f71c72_l5 (fun c8 => K (.exit 0, f71c72_e5_0 c8)) FU c8 c9 x20) (fun K => f71c72_q5 K FU c8 c9 x20)
  | _, _, _, _, _, _ => .fail
theorem f71c72_v5 {A : Ann} (h1 : (firstRegion f71c72_c5).bind A.loop = some f71c72_s5) (h2 : (firstRegion f71c72_c5).bind A.head = some ⟨[2, 7, 8, 20], [8, 9], 16, false, []⟩) : LoopsOk T f71c72_G (.loop f71c72_c5) A := by
  refine loopOk_of h1 h2 (A' := f71c72_A5) (loopsOk_of fun c' hc => by rw [show loopsIn (f71c72_c5) = [] from by kernel_rfl] at hc; cases hc) fun S0 S o S' hn hs => ?_
  unfold f71c72_s5 at hs
  split at hs
  · exact loop_fin hs hn rfl (slots_cons (by assumption) (slots_cons (by assumption) (slots_cons (by assumption) (slots_cons (by assumption) slots_nil)))) (heap_cons (by assumption) (heap_cons (by assumption) heap_nil)) (by kernel_rfl) (by kernel_rfl) (by kernel_rfl) (by kernel_rfl)
  · exact (M.is_fail.1 hs).elim
noncomputable def f71c72_A : Ann := ⟨assoc [(5, f71c72_s5)], assoc [(5, ⟨[2, 7, 8, 20], [8, 9], 16, false, []⟩)], assoc [], none⟩
noncomputable def F71c72 (a0 : List (List PV)) (a1 : List (List PV)) : Option PV :=
  (P70 [.list 1 a0, .list 1 a1]).bind fun r1 => (pnth r1 0).bind fun p2 => (pnth r1 1).bind fun p3 => (pnth r1 2).bind fun p4 => (pcells 4 p2).bind fun cs5 => (pputs [.int .u64 0, .int .u64 0, .int .u64 0, .int .u64 0] 0 cs5).bind fun cs6 => (pcells 4 p3).bind fun cs7 => (pputs [.int .u64 0, .int .u64 0, .int .u64 0, .int .u64 0] 0 cs7).bind fun cs8 => (pun .not p4).bind fun r9 => (pbool r9).bind fun b10 => bif b10 then (some (.list 1 [])) else (f71c72_l5 (fun (y11 : List PV) => (pext y11 0 4).bind fun p12 => (P101 [p12]).bind fun r13 => some r13) FU cs6 cs8 0)
theorem f71c72_eq (a0 : List (List PV)) (a1 : List (List PV)) : lfunP T f71c72_G f71c72_A Tryd.f71 [.pv (.list 1 a0), .pv (.list 1 a1), .clo 72 []] = F71c72 a0 a1 := by kernel_rfl
noncomputable def P71c72 : List LV → Option PV
  | [.pv (.list 1 a0), .pv (.list 1 a1), .clo 72 []] => F71c72 a0 a1
  | _ => none
noncomputable def f71c72_code : Code := (Tryd.f71).body.getD .skip
theorem f71c72_gok : GOk Tryd.prog f71c72_G := gok_of (by
  simp only [List.forall_mem_cons, List.not_mem_nil, false_implies, implies_true, and_true]
  exact ⟨f70_ok, f72_ok, f101_ok⟩)
theorem f71c72_ok : GivenOk Tryd.prog 71 (.fcall P71c72) := given_f tok f71c72_gok mixed (A := f71c72_A) (fn := Tryd.f71) (c := f71c72_code) (by kernel_rfl) (by kernel_rfl) (loopsOk_of fun c' hc => by
    rw [show loopsIn (f71c72_code) = [f71c72_c5] from by kernel_rfl] at hc
    simp only [List.mem_cons, List.not_mem_nil, or_false] at hc
    rcases hc with rfl
    · exact f71c72_v5 (by kernel_rfl) (by kernel_rfl)) (by kernel_rfl) (by kernel_rfl) (k := 3) (Nat.le_of_ble_eq_true (by kernel_rfl)) (by
  intro ps r h
  unfold P71c72 at h
  split at h
  · exact ⟨rfl, (f71c72_eq _ _).trans h⟩
  · cases h)

/-! ### bailiwick/set.Join: function 33 -/
noncomputable def f33_G : Nat → Option Given := assoc [(71, .fcall P71c72), (72, .pcall P72)]
noncomputable def f33_A : Ann := ⟨assoc [], assoc [], assoc [], none⟩
noncomputable def F33 (a0 : List (List PV)) (a1 : List (List PV)) : Option PV :=
  (P71c72 [.pv (.list 1 a0), .pv (.list 1 a1), .clo 72 []]).bind fun r1 => some r1
theorem f33_eq (a0 : List (List PV)) (a1 : List (List PV)) : lfunP T f33_G f33_A Tryd.f33 [.pv (.list 1 a0), .pv (.list 1 a1)] = F33 a0 a1 := by kernel_rfl
noncomputable def P33 : List PV → Option PV
  | [.list 1 a0, .list 1 a1] => F33 a0 a1
  | _ => none
noncomputable def f33_code : Code := (Tryd.f33).body.getD .skip
theorem f33_gok : GOk Tryd.prog f33_G := gok_of (by
  simp only [List.forall_mem_cons, List.not_mem_nil, false_implies, implies_true, and_true]
  exact ⟨f71c72_ok, f72_ok⟩)
theorem f33_ok : GivenOk Tryd.prog 33 (.pcall P33) := given_p tok f33_gok mixed (A := f33_A) (fn := Tryd.f33) (c := f33_code) (by kernel_rfl) (by kernel_rfl) (loopsOk_of fun c' hc => by rw [show loopsIn (f33_code) = [] from by kernel_rfl] at hc; cases hc) (by kernel_rfl) (by kernel_rfl) (k := 2) (Nat.le_of_ble_eq_true (by kernel_rfl)) (by
  intro ps r h
  unfold P33 at h
  split at h
  · exact ⟨rfl, (f33_eq _ _).trans h⟩
  · cases h)

/-! ### bailiwick/held.Busy: function 27 -/
noncomputable def f27_G : Nat → Option Given := assoc [(33, .pcall P33), (40, .pcall P40), (65, .pcall P65)]
/-! loop 5 -/
noncomputable def f27_c5 : Code := ((Tryd.f27).body.bind (findLoop 5)).getD .skip
noncomputable def f27_m5 (x1 : Int) (x2 : Int) (x7 : PV) (x13 : List (List PV)) (x14 : Int) (x15 : Int) : LS := ⟨supd (supd (supd (supd (supd (supd (fun _ => .any) 15 (.pv (.int .i64 x15))) 14 (.pv (.int .i64 x14))) 13 (.pv (.list 4 x13))) 7 (.pv x7)) 2 (.pv (.int .i64 x2))) 1 (.pv (.int .i64 x1)), (fun _ => none), 8, 0⟩
noncomputable def f27_e5_0 (x7 : PV) : LS := ⟨supd (fun _ => .any) 7 (.pv x7), (fun _ => none), 9, 0⟩
noncomputable def f27_A5 : Ann := ⟨assoc [], assoc [(5, ⟨[1, 2, 7, 13, 14, 15], [], 8, false, [7]⟩)], assoc [(0, ⟨[7], [], 9, false, []⟩)], none⟩
noncomputable def f27_l5 (k0 : PV → Option PV) : Nat → Int → Int → PV → (List (List PV)) → Int → Int → Option PV
  | 0, _, _, _, _, _, _ => none
  | n + 1, x1, x2, x7, x13, x14, x15 => bif decide (x15 < x14) then ((lget x13 x15).bind fun cs1 => (pext cs1 0 4).bind fun p2 => (pcells 4 p2).bind fun cs3 => (pputs [.int .i64 0, .list 1 [], .int .i64 0, .int .i64 0] 0 cs3).bind fun cs4 => (cs4[2]?).bind fun p5 => (cs4[3]?).bind fun p6 => (P65 [p5, p6, .int .i64 x1, .int .i64 x2]).bind fun r7 => (pbool r7).bind fun b8 => bif b8 then ((cs4[1]?).bind fun p9 => (P33 [x7, p9]).bind fun r10 => f27_l5 k0 n x1 x2 r10 x13 x14 (IntKind.i64.wrap (x15 + 1))) else (f27_l5 k0 n x1 x2 x7 x13 x14 (IntKind.i64.wrap (x15 + 1)))) else (k0 x7)
theorem f27_b5 (K : LOut × LS → Option PV) (x1 : Int) (x2 : Int) (x7 : PV) (x13 : List (List PV)) (x14 : Int) (x15 : Int) : (lbody T f27_G f27_A5 f27_c5 (f27_m5 x1 x2 x7 x13 x14 x15)).run K =
    bif decide (x15 < x14) then ((lget x13 x15).bind fun cs1 => (pext cs1 0 4).bind fun p2 => (pcells 4 p2).bind fun cs3 => (pputs [.int .i64 0, .list 1 [], .int .i64 0, .int .i64 0] 0 cs3).bind fun cs4 => (cs4[2]?).bind fun p5 => (cs4[3]?).bind fun p6 => (P65 [p5, p6, .int .i64 x1, .int .i64 x2]).bind fun r7 => (pbool r7).bind fun b8 => bif b8 then ((cs4[1]?).bind fun p9 => (P33 [x7, p9]).bind fun r10 => K (.normal, f27_m5 x1 x2 r10 x13 x14 (IntKind.i64.wrap (x15 + 1)))) else (K (.normal, f27_m5 x1 x2 x7 x13 x14 (IntKind.i64.wrap (x15 + 1))))) else (K (.exit 0, f27_e5_0 x7)) := by kernel_rfl
theorem f27_q5 (K : LOut × LS → Option PV) : ∀ (n : Nat) (x1 : Int) (x2 : Int) (x7 : PV) (x13 : List (List PV)) (x14 : Int) (x15 : Int), (liter (lbody T f27_G f27_A5 f27_c5) n (f27_m5 x1 x2 x7 x13 x14 x15)).run K = f27_l5 (fun x7 => K (.exit 0, f27_e5_0 x7)) n x1 x2 x7 x13 x14 x15
  | 0, _, _, _, _, _, _ => rfl
  | n + 1, x1, x2, x7, x13, x14, x15 => by
    rw [liter_succ, f27_b5]
    try simp only [lk_normal, lk_exit, lk_ret, f27_q5 K n]
    try rfl
noncomputable def f27_s5 (S : LS) : M (LOut × LS) := match S.sl 1, S.sl 2, S.sl 7, S.sl 13, S.sl 14, S.sl 15 with
  | .pv (.int .i64 x1), .pv (.int .i64 x2), .pv x7, .pv (.list 4 x13), .pv (.int .i64 x14), .pv (.int .i64 x15) => .ofEq (liter (lbody T f27_G f27_A5 f27_c5) FU (f27_m5 x1 x2 x7 x13 x14 x15)) (fun K => f27_l5 (fun x7 => K (.exit 0, f27_e5_0 x7)) FU x1 x2 x7 x13 x14 x15) (fun K => f27_q5 K FU x1 x2 x7 x13 x14 x15)
  | _, _, _, _, _, _ => .fail
theorem f27_v5 {A : Ann} (h1 : (firstRegion f27_c5).bind A.loop = some f27_s5) (h2 : (firstRegion f27_c5).bind A.head = some ⟨[1, 2, 7, 13, 14, 15], [], 8, false, [7]⟩) : LoopsOk T f27_G (.loop f27_c5) A := by
  refine loopOk_of h1 h2 (A' := f27_A5) (loopsOk_of fun c' hc => by rw [show loopsIn (f27_c5) = [] from by kernel_rfl] at hc; cases hc) fun S0 S o S' hn hs => ?_
  unfold f27_s5 at hs
  split at hs
  · exact loop_fin hs hn rfl (slots_cons (by assumption) (slots_cons (by assumption) (slots_cons (by assumption) (slots_cons (by assumption) (slots_cons (by assumption) (slots_cons (by assumption) slots_nil)))))) heap_nil (by kernel_rfl) (by kernel_rfl) (by kernel_rfl) (by kernel_rfl)
  · exact (M.is_fail.1 hs).elim
noncomputable def f27_A : Ann := ⟨assoc [(5, f27_s5)], assoc [(5, ⟨[1, 2, 7, 13, 14, 15], [], 8, false, [7]⟩)], assoc [], none⟩
noncomputable def F27 (a0 : List (List PV)) (a1 : Int) (a2 : Int) : Option PV :=
  (P40 [.list 4 a0]).bind fun r1 => (pun .not r1).bind fun r2 => (pbool r2).bind fun b3 => bif b3 then (some (.list 1 [])) else (f27_l5 (fun (y4 : PV) => some y4) FU a1 a2 (.list 1 []) a0 (a0.length : Int) 0)
theorem f27_eq (a0 : List (List PV)) (a1 : Int) (a2 : Int) : lfunP T f27_G f27_A Tryd.f27 [.pv (.list 4 a0), .pv (.int .i64 a1), .pv (.int .i64 a2)] = F27 a0 a1 a2 := by kernel_rfl
noncomputable def P27 : List PV → Option PV
  | [.list 4 a0, .int .i64 a1, .int .i64 a2] => F27 a0 a1 a2
  | _ => none
noncomputable def f27_code : Code := (Tryd.f27).body.getD .skip
theorem f27_gok : GOk Tryd.prog f27_G := gok_of (by
  simp only [List.forall_mem_cons, List.not_mem_nil, false_implies, implies_true, and_true]
  exact ⟨f33_ok, f40_ok, f65_ok⟩)
theorem f27_ok : GivenOk Tryd.prog 27 (.pcall P27) := given_p tok f27_gok mixed (A := f27_A) (fn := Tryd.f27) (c := f27_code) (by kernel_rfl) (by kernel_rfl) (loopsOk_of fun c' hc => by
    rw [show loopsIn (f27_code) = [f27_c5] from by kernel_rfl] at hc
    simp only [List.mem_cons, List.not_mem_nil, or_false] at hc
    rcases hc with rfl
    · exact f27_v5 (by kernel_rfl) (by kernel_rfl)) (by kernel_rfl) (by kernel_rfl) (k := 3) (Nat.le_of_ble_eq_true (by kernel_rfl)) (by
  intro ps r h
  unfold P27 at h
  split at h
  · exact ⟨rfl, (f27_eq _ _ _).trans h⟩
  · cases h)

/-! ### bailiwick/held.Ends: function 30 -/
noncomputable def f30_G : Nat → Option Given := assoc [(40, .pcall P40), (68, .gcall P68), (69, .gcall P69)]
/-! loop 5 -/
noncomputable def f30_c5 : Code := ((Tryd.f30).body.bind (findLoop 5)).getD .skip
noncomputable def f30_m5 (o1 : List (List PV)) (x1 : Int) (x5 : Nat) (x11 : List (List PV)) (x12 : Int) (x13 : Int) : LS := ⟨supd (supd (supd (supd (supd (fun _ => .any) 13 (.pv (.int .i64 x13))) 12 (.pv (.int .i64 x12))) 11 (.pv (.list 4 x11))) 5 (.osl 1 x5)) 1 (.pv (.int .i64 x1)), hset (fun _ => none) 1 (.sl 2 1 o1 false), 8, 0⟩
noncomputable def f30_e5_0 (o1 : List (List PV)) (x5 : Nat) : LS := ⟨supd (fun _ => .any) 5 (.osl 1 x5), hset (fun _ => none) 1 (.sl 2 1 o1 false), 9, 0⟩
noncomputable def f30_A5 : Ann := ⟨assoc [], assoc [(5, ⟨[1, 5, 11, 12, 13], [1], 8, false, []⟩)], assoc [(0, ⟨[5], [1], 9, false, []⟩)], none⟩
noncomputable def f30_l5 (k0 : (List (List PV)) → Nat → Option PV) : Nat → (List (List PV)) → Int → Nat → (List (List PV)) → Int → Int → Option PV
  | 0, _, _, _, _, _, _ => none
  | n + 1, o1, x1, x5, x11, x12, x13 => bif decide (x13 < x12) then ((lget x11 x13).bind fun cs1 => (pext cs1 0 4).bind fun p2 => (pcells 4 p2).bind fun cs3 => (pputs [.int .i64 0, .list 1 [], .int .i64 0, .int .i64 0] 0 cs3).bind fun cs4 => (cs4[3]?).bind fun p5 => (pbin .gtr p5 (.int .i64 x1)).bind fun r6 => (pbool r6).bind fun b7 => bif b7 then ((cs4[3]?).bind fun p8 => (pscal p8).bind fun p9 => bif o1.length == x5 then (bif decide (o1.length + ([[p9]] : List (List PV)).length ≤ LIM) then (f30_l5 k0 n (o1 ++ [[p9]]) x1 ((o1 ++ [[p9]] : List (List PV)).length) x11 x12 (IntKind.i64.wrap (x13 + 1))) else none) else none) else (f30_l5 k0 n o1 x1 x5 x11 x12 (IntKind.i64.wrap (x13 + 1)))) else (k0 o1 x5)
theorem f30_b5 (K : LOut × LS → Option PV) (o1 : List (List PV)) (x1 : Int) (x5 : Nat) (x11 : List (List PV)) (x12 : Int) (x13 : Int) : (lbody T f30_G f30_A5 f30_c5 (f30_m5 o1 x1 x5 x11 x12 x13)).run K =
    bif decide (x13 < x12) then ((lget x11 x13).bind fun cs1 => (pext cs1 0 4).bind fun p2 => (pcells 4 p2).bind fun cs3 => (pputs [.int .i64 0, .list 1 [], .int .i64 0, .int .i64 0] 0 cs3).bind fun cs4 => (cs4[3]?).bind fun p5 => (pbin .gtr p5 (.int .i64 x1)).bind fun r6 => (pbool r6).bind fun b7 => bif b7 then ((cs4[3]?).bind fun p8 => (pscal p8).bind fun p9 => bif o1.length == x5 then (bif decide (o1.length + ([[p9]] : List (List PV)).length ≤ LIM) then (K (.normal, f30_m5 (o1 ++ [[p9]]) x1 ((o1 ++ [[p9]] : List (List PV)).length) x11 x12 (IntKind.i64.wrap (x13 + 1)))) else none) else none) else (K (.normal, f30_m5 o1 x1 x5 x11 x12 (IntKind.i64.wrap (x13 + 1))))) else (K (.exit 0, f30_e5_0 o1 x5)) := by kernel_rfl
theorem f30_q5 (K : LOut × LS → Option PV) : ∀ (n : Nat) (o1 : List (List PV)) (x1 : Int) (x5 : Nat) (x11 : List (List PV)) (x12 : Int) (x13 : Int), (liter (lbody T f30_G f30_A5 f30_c5) n (f30_m5 o1 x1 x5 x11 x12 x13)).run K = f30_l5 (fun o1 x5 => K (.exit 0, f30_e5_0 o1 x5)) n o1 x1 x5 x11 x12 x13
  | 0, _, _, _, _, _, _ => rfl
  | n + 1, o1, x1, x5, x11, x12, x13 => by
    rw [liter_succ, f30_b5]
    try simp only [lk_normal, lk_exit, lk_ret, f30_q5 K n]
    try rfl
noncomputable def f30_s5 (S : LS) : M (LOut × LS) := match S.H 1, S.sl 1, S.sl 5, S.sl 11, S.sl 12, S.sl 13 with
  | some (.sl 2 1 o1 false), .pv (.int .i64 x1), .osl 1 x5, .pv (.list 4 x11), .pv (.int .i64 x12), .pv (.int .i64 x13) => .ofEq (liter (lbody T f30_G f30_A5 f30_c5) FU (f30_m5 o1 x1 x5 x11 x12 x13)) (fun K => f30_l5 (fun o1 x5 => K (.exit 0, f30_e5_0 o1 x5)) FU o1 x1 x5 x11 x12 x13) (fun K => f30_q5 K FU o1 x1 x5 x11 x12 x13)
  | _, _, _, _, _, _ => .fail
theorem f30_v5 {A : Ann} (h1 : (firstRegion f30_c5).bind A.loop = some f30_s5) (h2 : (firstRegion f30_c5).bind A.head = some ⟨[1, 5, 11, 12, 13], [1], 8, false, []⟩) : LoopsOk T f30_G (.loop f30_c5) A := by
  refine loopOk_of h1 h2 (A' := f30_A5) (loopsOk_of fun c' hc => by rw [show loopsIn (f30_c5) = [] from by kernel_rfl] at hc; cases hc) fun S0 S o S' hn hs => ?_
  unfold f30_s5 at hs
  split at hs
  · exact loop_fin hs hn rfl (slots_cons (by assumption) (slots_cons (by assumption) (slots_cons (by assumption) (slots_cons (by assumption) (slots_cons (by assumption) slots_nil))))) (heap_cons (by assumption) heap_nil) (by kernel_rfl) (by kernel_rfl) (by kernel_rfl) (by kernel_rfl)
  · exact (M.is_fail.1 hs).elim
noncomputable def f30_A : Ann := ⟨assoc [(5, f30_s5)], assoc [(5, ⟨[1, 5, 11, 12, 13], [1], 8, false, []⟩)], assoc [], none⟩
noncomputable def F30 (a0 : List (List PV)) (a1 : Int) : Option PV :=
  (P40 [.list 4 a0]).bind fun r1 => (pun .not r1).bind fun r2 => (pbool r2).bind fun b3 => bif b3 then (some (.list 1 [])) else (f30_l5 (fun (y4 : List (List PV)) (y5 : Nat) => bif y4.length == y5 then ((lsort y4).bind fun zs6 => bif zs6.length == y5 then ((lcompact zs6).bind fun zs7 => some (.list 1 zs7)) else none) else none) FU [] a1 0 a0 (a0.length : Int) 0)
theorem f30_eq (a0 : List (List PV)) (a1 : Int) : lfunP T f30_G f30_A Tryd.f30 [.pv (.list 4 a0), .pv (.int .i64 a1)] = F30 a0 a1 := by kernel_rfl
noncomputable def P30 : List PV → Option PV
  | [.list 4 a0, .int .i64 a1] => F30 a0 a1
  | _ => none
noncomputable def f30_code : Code := (Tryd.f30).body.getD .skip
theorem f30_gok : GOk Tryd.prog f30_G := gok_of (by
  simp only [List.forall_mem_cons, List.not_mem_nil, false_implies, implies_true, and_true]
  exact ⟨f40_ok, f68_ok, f69_ok⟩)
theorem f30_ok : GivenOk Tryd.prog 30 (.pcall P30) := given_p tok f30_gok mixed (A := f30_A) (fn := Tryd.f30) (c := f30_code) (by kernel_rfl) (by kernel_rfl) (loopsOk_of fun c' hc => by
    rw [show loopsIn (f30_code) = [f30_c5] from by kernel_rfl] at hc
    simp only [List.mem_cons, List.not_mem_nil, or_false] at hc
    rcases hc with rfl
    · exact f30_v5 (by kernel_rfl) (by kernel_rfl)) (by kernel_rfl) (by kernel_rfl) (k := 2) (Nat.le_of_ble_eq_true (by kernel_rfl)) (by
  intro ps r h
  unfold P30 at h
  split at h
  · exact ⟨rfl, (f30_eq _ _).trans h⟩
  · cases h)

/-! ### bailiwick/bailiwicklaw10.awake: function 18 -/
noncomputable def f18_G : Nat → Option Given := assoc [(20, .pcall P20), (27, .pcall P27), (30, .pcall P30)]
noncomputable def f18_A : Ann := ⟨assoc [], assoc [], assoc [], none⟩
noncomputable def F18 : Option PV :=
  (P20 [.list 4 [], .agg [.int .i64 1, .list 1 [[.int .i64 2], [.int .i64 3]], .int .i64 0, .int .i64 5]]).bind fun r1 => (pnth r1 0).bind fun p2 => (pnth r1 1).bind fun p3 => (P20 [p2, .agg [.int .i64 2, .list 1 [[.int .i64 3]], .int .i64 4, .int .i64 9]]).bind fun r4 => (pnth r4 0).bind fun p5 => (pnth r4 1).bind fun p6 => (P20 [p2, .agg [.int .i64 2, .list 1 [[.int .i64 3]], .int .i64 5, .int .i64 9]]).bind fun r7 => (pnth r7 0).bind fun p8 => (pnth r7 1).bind fun p9 => ((pbin .eql p3 (.int .i64 0)).bind fun r10 => (pbool r10).bind fun b11 => bif b11 then ((pbin .eql p6 (.int .i64 5)).bind fun r12 => (pbool r12).bind fun b13 => bif b13 then ((pbin .eql p9 (.int .i64 0)).bind fun r14 => (pbool r14).bind fun b15 => bif b15 then ((plist p8).bind fun xs16 => bif (xs16.length : Int) == 2 then ((P27 [p8, .int .i64 0, .int .i64 9]).bind fun r17 => (plist r17).bind fun xs18 => bif (xs18.length : Int) == 2 then ((P30 [p8, .int .i64 0]).bind fun r19 => (plist r19).bind fun xs20 => some (.bool ((xs20.length : Int) == 2))) else (some (.bool false))) else (some (.bool false))) else (some (.bool false))) else (some (.bool false))) else (some (.bool false))).bind fun g21 => some g21
theorem f18_eq : lfunP T f18_G f18_A Tryd.f18 [] = F18 := by kernel_rfl
noncomputable def P18 : List PV → Option PV
  | [] => F18
  | _ => none
noncomputable def f18_code : Code := (Tryd.f18).body.getD .skip
theorem f18_gok : GOk Tryd.prog f18_G := gok_of (by
  simp only [List.forall_mem_cons, List.not_mem_nil, false_implies, implies_true, and_true]
  exact ⟨f20_ok, f27_ok, f30_ok⟩)
theorem f18_ok : GivenOk Tryd.prog 18 (.pcall P18) := given_p tok f18_gok mixed (A := f18_A) (fn := Tryd.f18) (c := f18_code) (by kernel_rfl) (by kernel_rfl) (loopsOk_of fun c' hc => by rw [show loopsIn (f18_code) = [] from by kernel_rfl] at hc; cases hc) (by kernel_rfl) (by kernel_rfl) (k := 0) (Nat.le_of_ble_eq_true (by kernel_rfl)) (by
  intro ps r h
  unfold P18 at h
  split at h
  · exact ⟨rfl, (f18_eq).trans h⟩
  · cases h)

/-! ### bailiwick/bailiwickref10.Short: function 19 -/
noncomputable def f19_G : Nat → Option Given := assoc []
/-! loop 4 -/
noncomputable def f19_c4 : Code := ((Tryd.f19).body.bind (findLoop 4)).getD .skip
noncomputable def f19_m4 (x0 : List (List PV)) (x3 : Int) : LS := ⟨supd (supd (fun _ => .any) 3 (.pv (.int .i64 x3))) 0 (.pv (.list 4 x0)), (fun _ => none), 5, 0⟩
noncomputable def f19_e4_0 : LS := ⟨(fun _ => .any), (fun _ => none), 9, 0⟩
noncomputable def f19_r4 (x2 : Bool) : LS := ⟨supd (fun _ => .any) 2 (.pv (.bool x2)), (fun _ => none), 17, 0⟩
noncomputable def f19_A4 : Ann := ⟨assoc [], assoc [(4, ⟨[0, 3], [], 5, false, []⟩)], assoc [(0, ⟨[], [], 9, false, []⟩)], some ⟨[2], [], 17, false, []⟩⟩
noncomputable def f19_l4 (k0 : Option PV) (kr : Bool → Option PV) : Nat → (List (List PV)) → Int → Option PV
  | 0, _, _ => none
  | n + 1, x0, x3 => bif decide (x3 < (x0.length : Int)) then ((lget x0 x3).bind fun cs1 => (cs1[1]?).bind fun p2 => (plist p2).bind fun xs3 => bif decide ((xs3.length : Int) > 60) then (kr false) else (f19_l4 k0 kr n x0 (IntKind.i64.wrap (x3 + 1)))) else k0
theorem f19_b4 (K : LOut × LS → Option PV) (x0 : List (List PV)) (x3 : Int) : (lbody T f19_G f19_A4 f19_c4 (f19_m4 x0 x3)).run K =
    bif decide (x3 < (x0.length : Int)) then ((lget x0 x3).bind fun cs1 => (cs1[1]?).bind fun p2 => (plist p2).bind fun xs3 => bif decide ((xs3.length : Int) > 60) then (K (.ret, f19_r4 false)) else (K (.normal, f19_m4 x0 (IntKind.i64.wrap (x3 + 1))))) else (K (.exit 0, f19_e4_0)) := by kernel_rfl
theorem f19_q4 (K : LOut × LS → Option PV) : ∀ (n : Nat) (x0 : List (List PV)) (x3 : Int), (liter (lbody T f19_G f19_A4 f19_c4) n (f19_m4 x0 x3)).run K = f19_l4 (K (.exit 0, f19_e4_0)) (fun x2 => K (.ret, f19_r4 x2)) n x0 x3
  | 0, _, _ => rfl
  | n + 1, x0, x3 => by
    rw [liter_succ, f19_b4]
    try simp only [lk_normal, lk_exit, lk_ret, f19_q4 K n]
    try rfl
noncomputable def f19_s4 (S : LS) : M (LOut × LS) := match S.sl 0, S.sl 3 with
  | .pv (.list 4 x0), .pv (.int .i64 x3) => .ofEq (liter (lbody T f19_G f19_A4 f19_c4) FU (f19_m4 x0 x3)) (fun K => f19_l4 (K (.exit 0, f19_e4_0)) (fun x2 => K (.ret, f19_r4 x2)) FU x0 x3) (fun K => f19_q4 K FU x0 x3)
  | _, _ => .fail
theorem f19_v4 {A : Ann} (h1 : (firstRegion f19_c4).bind A.loop = some f19_s4) (h2 : (firstRegion f19_c4).bind A.head = some ⟨[0, 3], [], 5, false, []⟩) : LoopsOk T f19_G (.loop f19_c4) A := by
  refine loopOk_of h1 h2 (A' := f19_A4) (loopsOk_of fun c' hc => by rw [show loopsIn (f19_c4) = [] from by kernel_rfl] at hc; cases hc) fun S0 S o S' hn hs => ?_
  unfold f19_s4 at hs
  split at hs
  · exact loop_fin hs hn rfl (slots_cons (by assumption) (slots_cons (by assumption) slots_nil)) heap_nil (by kernel_rfl) (by kernel_rfl) (by kernel_rfl) (by kernel_rfl)
  · exact (M.is_fail.1 hs).elim
noncomputable def f19_A : Ann := ⟨assoc [(4, f19_s4)], assoc [(4, ⟨[0, 3], [], 5, false, []⟩)], assoc [], none⟩
noncomputable def F19 (a0 : List (List PV)) : Option PV :=
  bif decide ((a0.length : Int) > 30) then (some (.bool false)) else (f19_l4 (some (.bool true)) (fun (y1 : Bool) => some (.bool y1)) FU a0 0)
theorem f19_eq (a0 : List (List PV)) : lfunP T f19_G f19_A Tryd.f19 [.pv (.list 4 a0)] = F19 a0 := by kernel_rfl
noncomputable def P19 : List PV → Option PV
  | [.list 4 a0] => F19 a0
  | _ => none
noncomputable def f19_code : Code := (Tryd.f19).body.getD .skip
theorem f19_gok : GOk Tryd.prog f19_G := gok_of (fun p hp => by cases hp)
theorem f19_ok : GivenOk Tryd.prog 19 (.pcall P19) := given_p tok f19_gok mixed (A := f19_A) (fn := Tryd.f19) (c := f19_code) (by kernel_rfl) (by kernel_rfl) (loopsOk_of fun c' hc => by
    rw [show loopsIn (f19_code) = [f19_c4] from by kernel_rfl] at hc
    simp only [List.mem_cons, List.not_mem_nil, or_false] at hc
    rcases hc with rfl
    · exact f19_v4 (by kernel_rfl) (by kernel_rfl)) (by kernel_rfl) (by kernel_rfl) (k := 1) (Nat.le_of_ble_eq_true (by kernel_rfl)) (by
  intro ps r h
  unfold P19 at h
  split at h
  · exact ⟨rfl, (f19_eq _).trans h⟩
  · cases h)

/-! ### bailiwick/held.Get: function 21 -/
noncomputable def f21_G : Nat → Option Given := assoc [(40, .pcall P40), (59, .pcall P59), (64, .pcall P64)]
noncomputable def f21_A : Ann := ⟨assoc [], assoc [], assoc [], none⟩
noncomputable def F21 (a0 : List (List PV)) (a1 : Int) : Option PV :=
  (P40 [.list 4 a0]).bind fun r1 => (pun .not r1).bind fun r2 => (pbool r2).bind fun b3 => bif b3 then (some (.tup [.agg [.int .i64 0, .list 1 [], .int .i64 0, .int .i64 0], .bool false])) else ((P59 [.list 4 a0, .int .i64 a1]).bind fun r4 => (pnth r4 0).bind fun p5 => (pnth r4 1).bind fun p6 => (pun .not p6).bind fun r7 => (pbool r7).bind fun b8 => bif b8 then (some (.tup [.agg [.int .i64 0, .list 1 [], .int .i64 0, .int .i64 0], .bool false])) else ((pint p5).bind fun n9 => (lget a0 n9).bind fun cs10 => (pext cs10 0 4).bind fun p11 => (P64 [p11]).bind fun r12 => (pcells 4 r12).bind fun cs13 => (pputs [.int .i64 0, .list 1 [], .int .i64 0, .int .i64 0] 0 cs13).bind fun cs14 => (pext cs14 0 4).bind fun p15 => some (.tup [p15, .bool true])))
theorem f21_eq (a0 : List (List PV)) (a1 : Int) : lfunP T f21_G f21_A Tryd.f21 [.pv (.list 4 a0), .pv (.int .i64 a1)] = F21 a0 a1 := by kernel_rfl
noncomputable def P21 : List PV → Option PV
  | [.list 4 a0, .int .i64 a1] => F21 a0 a1
  | _ => none
noncomputable def f21_code : Code := (Tryd.f21).body.getD .skip
theorem f21_gok : GOk Tryd.prog f21_G := gok_of (by
  simp only [List.forall_mem_cons, List.not_mem_nil, false_implies, implies_true, and_true]
  exact ⟨f40_ok, f59_ok, f64_ok⟩)
theorem f21_ok : GivenOk Tryd.prog 21 (.pcall P21) := given_p tok f21_gok mixed (A := f21_A) (fn := Tryd.f21) (c := f21_code) (by kernel_rfl) (by kernel_rfl) (loopsOk_of fun c' hc => by rw [show loopsIn (f21_code) = [] from by kernel_rfl] at hc; cases hc) (by kernel_rfl) (by kernel_rfl) (k := 2) (Nat.le_of_ble_eq_true (by kernel_rfl)) (by
  intro ps r h
  unfold P21 at h
  split at h
  · exact ⟨rfl, (f21_eq _ _).trans h⟩
  · cases h)

/-! ### bailiwick/bailiwickref01.Same: function 26 -/
noncomputable def f26_G : Nat → Option Given := assoc []
/-! loop 4 -/
noncomputable def f26_c4 : Code := ((Tryd.f26).body.bind (findLoop 4)).getD .skip
noncomputable def f26_m4 (x0 : List (List PV)) (x1 : List (List PV)) (x5 : Int) : LS := ⟨supd (supd (supd (fun _ => .any) 5 (.pv (.int .i64 x5))) 1 (.pv (.list 1 x1))) 0 (.pv (.list 1 x0)), (fun _ => none), 7, 0⟩
noncomputable def f26_e4_0 : LS := ⟨(fun _ => .any), (fun _ => none), 11, 0⟩
noncomputable def f26_r4 (x4 : Bool) : LS := ⟨supd (fun _ => .any) 4 (.pv (.bool x4)), (fun _ => none), 21, 0⟩
noncomputable def f26_A4 : Ann := ⟨assoc [], assoc [(4, ⟨[0, 1, 5], [], 7, false, []⟩)], assoc [(0, ⟨[], [], 11, false, []⟩)], some ⟨[4], [], 21, false, []⟩⟩
noncomputable def f26_l4 (k0 : Option PV) (kr : Bool → Option PV) : Nat → (List (List PV)) → (List (List PV)) → Int → Option PV
  | 0, _, _, _ => none
  | n + 1, x0, x1, x5 => bif decide (x5 < (x0.length : Int)) then ((lget x0 x5).bind fun cs1 => (cs1[0]?).bind fun p2 => (lget x1 x5).bind fun cs3 => (cs3[0]?).bind fun p4 => (pbin .neq p2 p4).bind fun r5 => (pbool r5).bind fun b6 => bif b6 then (kr false) else (f26_l4 k0 kr n x0 x1 (IntKind.i64.wrap (x5 + 1)))) else k0
theorem f26_b4 (K : LOut × LS → Option PV) (x0 : List (List PV)) (x1 : List (List PV)) (x5 : Int) : (lbody T f26_G f26_A4 f26_c4 (f26_m4 x0 x1 x5)).run K =
    bif decide (x5 < (x0.length : Int)) then ((lget x0 x5).bind fun cs1 => (cs1[0]?).bind fun p2 => (lget x1 x5).bind fun cs3 => (cs3[0]?).bind fun p4 => (pbin .neq p2 p4).bind fun r5 => (pbool r5).bind fun b6 => bif b6 then (K (.ret, f26_r4 false)) else (K (.normal, f26_m4 x0 x1 (IntKind.i64.wrap (x5 + 1))))) else (K (.exit 0, f26_e4_0)) := by kernel_rfl
theorem f26_q4 (K : LOut × LS → Option PV) : ∀ (n : Nat) (x0 : List (List PV)) (x1 : List (List PV)) (x5 : Int), (liter (lbody T f26_G f26_A4 f26_c4) n (f26_m4 x0 x1 x5)).run K = f26_l4 (K (.exit 0, f26_e4_0)) (fun x4 => K (.ret, f26_r4 x4)) n x0 x1 x5
  | 0, _, _, _ => rfl
  | n + 1, x0, x1, x5 => by
    rw [liter_succ, f26_b4]
    try simp only [lk_normal, lk_exit, lk_ret, f26_q4 K n]
    try rfl
noncomputable def f26_s4 (S : LS) : M (LOut × LS) := match S.sl 0, S.sl 1, S.sl 5 with
  | .pv (.list 1 x0), .pv (.list 1 x1), .pv (.int .i64 x5) => .ofEq (liter (lbody T f26_G f26_A4 f26_c4) FU (f26_m4 x0 x1 x5)) (fun K => f26_l4 (K (.exit 0, f26_e4_0)) (fun x4 => K (.ret, f26_r4 x4)) FU x0 x1 x5) (fun K => f26_q4 K FU x0 x1 x5)
  | _, _, _ => .fail
theorem f26_v4 {A : Ann} (h1 : (firstRegion f26_c4).bind A.loop = some f26_s4) (h2 : (firstRegion f26_c4).bind A.head = some ⟨[0, 1, 5], [], 7, false, []⟩) : LoopsOk T f26_G (.loop f26_c4) A := by
  refine loopOk_of h1 h2 (A' := f26_A4) (loopsOk_of fun c' hc => by rw [show loopsIn (f26_c4) = [] from by kernel_rfl] at hc; cases hc) fun S0 S o S' hn hs => ?_
  unfold f26_s4 at hs
  split at hs
  · exact loop_fin hs hn rfl (slots_cons (by assumption) (slots_cons (by assumption) (slots_cons (by assumption) slots_nil))) heap_nil (by kernel_rfl) (by kernel_rfl) (by kernel_rfl) (by kernel_rfl)
  · exact (M.is_fail.1 hs).elim
noncomputable def f26_A : Ann := ⟨assoc [(4, f26_s4)], assoc [(4, ⟨[0, 1, 5], [], 7, false, []⟩)], assoc [], none⟩
noncomputable def F26 (a0 : List (List PV)) (a1 : List (List PV)) : Option PV :=
  bif (a0.length : Int) != (a1.length : Int) then (some (.bool false)) else (f26_l4 (some (.bool true)) (fun (y1 : Bool) => some (.bool y1)) FU a0 a1 0)
theorem f26_eq (a0 : List (List PV)) (a1 : List (List PV)) : lfunP T f26_G f26_A Tryd.f26 [.pv (.list 1 a0), .pv (.list 1 a1)] = F26 a0 a1 := by kernel_rfl
noncomputable def P26 : List PV → Option PV
  | [.list 1 a0, .list 1 a1] => F26 a0 a1
  | _ => none
noncomputable def f26_code : Code := (Tryd.f26).body.getD .skip
theorem f26_gok : GOk Tryd.prog f26_G := gok_of (fun p hp => by cases hp)
theorem f26_ok : GivenOk Tryd.prog 26 (.pcall P26) := given_p tok f26_gok mixed (A := f26_A) (fn := Tryd.f26) (c := f26_code) (by kernel_rfl) (by kernel_rfl) (loopsOk_of fun c' hc => by
    rw [show loopsIn (f26_code) = [f26_c4] from by kernel_rfl] at hc
    simp only [List.mem_cons, List.not_mem_nil, or_false] at hc
    rcases hc with rfl
    · exact f26_v4 (by kernel_rfl) (by kernel_rfl)) (by kernel_rfl) (by kernel_rfl) (k := 2) (Nat.le_of_ble_eq_true (by kernel_rfl)) (by
  intro ps r h
  unfold P26 at h
  split at h
  · exact ⟨rfl, (f26_eq _ _).trans h⟩
  · cases h)

/-! ### bailiwick/bailiwickref10.One: function 22 -/
noncomputable def f22_G : Nat → Option Given := assoc [(26, .pcall P26)]
noncomputable def f22_A : Ann := ⟨assoc [], assoc [], assoc [], none⟩
noncomputable def F22 (a0_0 : Int) (a0_1 : List (List PV)) (a0_2 : Int) (a0_3 : Int) (a1_0 : Int) (a1_1 : List (List PV)) (a1_2 : Int) (a1_3 : Int) : Option PV :=
  (bif a0_0 == a1_0 then (bif a0_2 == a1_2 then (bif a0_3 == a1_3 then ((P26 [.list 1 a0_1, .list 1 a1_1]).bind fun r1 => some r1) else (some (.bool false))) else (some (.bool false))) else (some (.bool false))).bind fun g2 => some g2
theorem f22_eq (a0_0 : Int) (a0_1 : List (List PV)) (a0_2 : Int) (a0_3 : Int) (a1_0 : Int) (a1_1 : List (List PV)) (a1_2 : Int) (a1_3 : Int) : lfunP T f22_G f22_A Tryd.f22 [.pv (.agg [.int .i64 a0_0, .list 1 a0_1, .int .i64 a0_2, .int .i64 a0_3]), .pv (.agg [.int .i64 a1_0, .list 1 a1_1, .int .i64 a1_2, .int .i64 a1_3])] = F22 a0_0 a0_1 a0_2 a0_3 a1_0 a1_1 a1_2 a1_3 := by kernel_rfl
noncomputable def P22 : List PV → Option PV
  | [.agg [.int .i64 a0_0, .list 1 a0_1, .int .i64 a0_2, .int .i64 a0_3], .agg [.int .i64 a1_0, .list 1 a1_1, .int .i64 a1_2, .int .i64 a1_3]] => F22 a0_0 a0_1 a0_2 a0_3 a1_0 a1_1 a1_2 a1_3
  | _ => none
noncomputable def f22_code : Code := (Tryd.f22).body.getD .skip
theorem f22_gok : GOk Tryd.prog f22_G := gok_of (by
  simp only [List.forall_mem_cons, List.not_mem_nil, false_implies, implies_true, and_true]
  exact f26_ok)
theorem f22_ok : GivenOk Tryd.prog 22 (.pcall P22) := given_p tok f22_gok mixed (A := f22_A) (fn := Tryd.f22) (c := f22_code) (by kernel_rfl) (by kernel_rfl) (loopsOk_of fun c' hc => by rw [show loopsIn (f22_code) = [] from by kernel_rfl] at hc; cases hc) (by kernel_rfl) (by kernel_rfl) (k := 2) (Nat.le_of_ble_eq_true (by kernel_rfl)) (by
  intro ps r h
  unfold P22 at h
  split at h
  · exact ⟨rfl, (f22_eq _ _ _ _ _ _ _ _).trans h⟩
  · cases h)

/-! ### bailiwick/bailiwickref10.Same: function 23 -/
noncomputable def f23_G : Nat → Option Given := assoc [(22, .pcall P22)]
/-! loop 4 -/
noncomputable def f23_c4 : Code := ((Tryd.f23).body.bind (findLoop 4)).getD .skip
noncomputable def f23_m4 (x0 : List (List PV)) (x1 : List (List PV)) (x5 : Int) : LS := ⟨supd (supd (supd (fun _ => .any) 5 (.pv (.int .i64 x5))) 1 (.pv (.list 4 x1))) 0 (.pv (.list 4 x0)), (fun _ => none), 7, 0⟩
noncomputable def f23_e4_0 : LS := ⟨(fun _ => .any), (fun _ => none), 11, 0⟩
noncomputable def f23_r4 (x4 : Bool) : LS := ⟨supd (fun _ => .any) 4 (.pv (.bool x4)), (fun _ => none), 22, 0⟩
noncomputable def f23_A4 : Ann := ⟨assoc [], assoc [(4, ⟨[0, 1, 5], [], 7, false, []⟩)], assoc [(0, ⟨[], [], 11, false, []⟩)], some ⟨[4], [], 22, false, []⟩⟩
noncomputable def f23_l4 (k0 : Option PV) (kr : Bool → Option PV) : Nat → (List (List PV)) → (List (List PV)) → Int → Option PV
  | 0, _, _, _ => none
  | n + 1, x0, x1, x5 => bif decide (x5 < (x0.length : Int)) then ((lget x0 x5).bind fun cs1 => (pext cs1 0 4).bind fun p2 => (lget x1 x5).bind fun cs3 => (pext cs3 0 4).bind fun p4 => (P22 [p2, p4]).bind fun r5 => (pun .not r5).bind fun r6 => (pbool r6).bind fun b7 => bif b7 then (kr false) else (f23_l4 k0 kr n x0 x1 (IntKind.i64.wrap (x5 + 1)))) else k0
theorem f23_b4 (K : LOut × LS → Option PV) (x0 : List (List PV)) (x1 : List (List PV)) (x5 : Int) : (lbody T f23_G f23_A4 f23_c4 (f23_m4 x0 x1 x5)).run K =
    bif decide (x5 < (x0.length : Int)) then ((lget x0 x5).bind fun cs1 => (pext cs1 0 4).bind fun p2 => (lget x1 x5).bind fun cs3 => (pext cs3 0 4).bind fun p4 => (P22 [p2, p4]).bind fun r5 => (pun .not r5).bind fun r6 => (pbool r6).bind fun b7 => bif b7 then (K (.ret, f23_r4 false)) else (K (.normal, f23_m4 x0 x1 (IntKind.i64.wrap (x5 + 1))))) else (K (.exit 0, f23_e4_0)) := by kernel_rfl
theorem f23_q4 (K : LOut × LS → Option PV) : ∀ (n : Nat) (x0 : List (List PV)) (x1 : List (List PV)) (x5 : Int), (liter (lbody T f23_G f23_A4 f23_c4) n (f23_m4 x0 x1 x5)).run K = f23_l4 (K (.exit 0, f23_e4_0)) (fun x4 => K (.ret, f23_r4 x4)) n x0 x1 x5
  | 0, _, _, _ => rfl
  | n + 1, x0, x1, x5 => by
    rw [liter_succ, f23_b4]
    try simp only [lk_normal, lk_exit, lk_ret, f23_q4 K n]
    try rfl
noncomputable def f23_s4 (S : LS) : M (LOut × LS) := match S.sl 0, S.sl 1, S.sl 5 with
  | .pv (.list 4 x0), .pv (.list 4 x1), .pv (.int .i64 x5) => .ofEq (liter (lbody T f23_G f23_A4 f23_c4) FU (f23_m4 x0 x1 x5)) (fun K => f23_l4 (K (.exit 0, f23_e4_0)) (fun x4 => K (.ret, f23_r4 x4)) FU x0 x1 x5) (fun K => f23_q4 K FU x0 x1 x5)
  | _, _, _ => .fail
theorem f23_v4 {A : Ann} (h1 : (firstRegion f23_c4).bind A.loop = some f23_s4) (h2 : (firstRegion f23_c4).bind A.head = some ⟨[0, 1, 5], [], 7, false, []⟩) : LoopsOk T f23_G (.loop f23_c4) A := by
  refine loopOk_of h1 h2 (A' := f23_A4) (loopsOk_of fun c' hc => by rw [show loopsIn (f23_c4) = [] from by kernel_rfl] at hc; cases hc) fun S0 S o S' hn hs => ?_
  unfold f23_s4 at hs
  split at hs
  · exact loop_fin hs hn rfl (slots_cons (by assumption) (slots_cons (by assumption) (slots_cons (by assumption) slots_nil))) heap_nil (by kernel_rfl) (by kernel_rfl) (by kernel_rfl) (by kernel_rfl)
  · exact (M.is_fail.1 hs).elim
noncomputable def f23_A : Ann := ⟨assoc [(4, f23_s4)], assoc [(4, ⟨[0, 1, 5], [], 7, false, []⟩)], assoc [], none⟩
noncomputable def F23 (a0 : List (List PV)) (a1 : List (List PV)) : Option PV :=
  bif (a0.length : Int) != (a1.length : Int) then (some (.bool false)) else (f23_l4 (some (.bool true)) (fun (y1 : Bool) => some (.bool y1)) FU a0 a1 0)
theorem f23_eq (a0 : List (List PV)) (a1 : List (List PV)) : lfunP T f23_G f23_A Tryd.f23 [.pv (.list 4 a0), .pv (.list 4 a1)] = F23 a0 a1 := by kernel_rfl
noncomputable def P23 : List PV → Option PV
  | [.list 4 a0, .list 4 a1] => F23 a0 a1
  | _ => none
noncomputable def f23_code : Code := (Tryd.f23).body.getD .skip
theorem f23_gok : GOk Tryd.prog f23_G := gok_of (by
  simp only [List.forall_mem_cons, List.not_mem_nil, false_implies, implies_true, and_true]
  exact f22_ok)
theorem f23_ok : GivenOk Tryd.prog 23 (.pcall P23) := given_p tok f23_gok mixed (A := f23_A) (fn := Tryd.f23) (c := f23_code) (by kernel_rfl) (by kernel_rfl) (loopsOk_of fun c' hc => by
    rw [show loopsIn (f23_code) = [f23_c4] from by kernel_rfl] at hc
    simp only [List.mem_cons, List.not_mem_nil, or_false] at hc
    rcases hc with rfl
    · exact f23_v4 (by kernel_rfl) (by kernel_rfl)) (by kernel_rfl) (by kernel_rfl) (k := 2) (Nat.le_of_ble_eq_true (by kernel_rfl)) (by
  intro ps r h
  unfold P23 at h
  split at h
  · exact ⟨rfl, (f23_eq _ _).trans h⟩
  · cases h)
end Go.Bw.A
