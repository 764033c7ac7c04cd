/- Summaries of the functions of the program, printed by gen.py, and that the functions answer so. No statement of a law is proved here. -/
import Derived.Test.YtbmgafmmaihmfaaDoorH4
set_option linter.unusedVariables false
set_option linter.unusedSimpArgs false
set_option maxRecDepth 100000
namespace Go.Bw.A
open Go.Proofs Go.Bw
/-! ### bailiwick/held.copied: function 64 -/
noncomputable def f64_G : Nat → Option Given := assoc [(97, .pcall P97)]
noncomputable def f64_A : Ann := ⟨assoc [], assoc [], assoc [], none⟩
noncomputable def F64 (a0_0 : Int) (a0_1 : List (List PV)) (a0_2 : Int) (a0_3 : Int) : Option PV :=
  (P97 [.list 1 a0_1]).bind fun r1 => (pscal r1).bind fun p2 => some (.agg [.int .i64 a0_0, p2, .int .i64 a0_2, .int .i64 a0_3])
theorem f64_eq (a0_0 : Int) (a0_1 : List (List PV)) (a0_2 : Int) (a0_3 : Int) : lfunP T f64_G f64_A Tryd.f64 [.pv (.agg [.int .i64 a0_0, .list 1 a0_1, .int .i64 a0_2, .int .i64 a0_3])] = F64 a0_0 a0_1 a0_2 a0_3 := by kernel_rfl
noncomputable def P64 : List PV → Option PV
  | [.agg [.int .i64 a0_0, .list 1 a0_1, .int .i64 a0_2, .int .i64 a0_3]] => F64 a0_0 a0_1 a0_2 a0_3
  | _ => none
noncomputable def f64_code : Code := (Tryd.f64).body.getD .skip
theorem f64_gok : GOk Tryd.prog f64_G := gok_of (by
  simp only [List.forall_mem_cons, List.not_mem_nil, false_implies, implies_true, and_true]
  exact f97_ok)
theorem f64_ok : GivenOk Tryd.prog 64 (.pcall P64) := given_p tok f64_gok mixed (A := f64_A) (fn := Tryd.f64) (c := f64_code) (by kernel_rfl) (by kernel_rfl) (loopsOk_of fun c' hc => by rw [show loopsIn (f64_code) = [] from by kernel_rfl] at hc; cases hc) (by kernel_rfl) (by kernel_rfl) (k := 1) (Nat.le_of_ble_eq_true (by kernel_rfl)) (by
  intro ps r h
  unfold P64 at h
  split at h
  · exact ⟨rfl, (f64_eq _ _ _ _).trans h⟩
  · cases h)

/-! ### bailiwick/held.clone: function 57 -/
noncomputable def f57_G : Nat → Option Given := assoc [(64, .pcall P64)]
/-! loop 3 -/
noncomputable def f57_c3 : Code := ((Tryd.f57).body.bind (findLoop 3)).getD .skip
noncomputable def f57_m3 (o1 : List (List PV)) (x3 : Nat) (x6 : List (List PV)) (x7 : Int) (x8 : Int) : LS := ⟨supd (supd (supd (supd (fun _ => .any) 8 (.pv (.int .i64 x8))) 7 (.pv (.int .i64 x7))) 6 (.pv (.list 4 x6))) 3 (.osl 1 x3), hset (fun _ => none) 1 (.sl 25 4 o1 false), 5, 0⟩
noncomputable def f57_e3_0 (o1 : List (List PV)) (x3 : Nat) : LS := ⟨supd (fun _ => .any) 3 (.osl 1 x3), hset (fun _ => none) 1 (.sl 25 4 o1 false), 6, 0⟩
noncomputable def f57_A3 : Ann := ⟨assoc [], assoc [(3, ⟨[3, 6, 7, 8], [1], 5, false, []⟩)], assoc [(0, ⟨[3], [1], 6, false, []⟩)], none⟩
noncomputable def f57_l3 (k0 : (List (List PV)) → Nat → Option PV) : Nat → (List (List PV)) → Nat → (List (List PV)) → Int → Int → Option PV
  | 0, _, _, _, _, _ => none
  | n + 1, o1, x3, x6, x7, x8 => bif decide (x8 < x7) then ((lget x6 x8).bind fun cs1 => (pext cs1 0 4).bind fun p2 => (pcells 4 p2).bind fun cs3 => (pputs [.int .i64 0, .list 1 [], .int .i64 0, .int .i64 0] 0 cs3).bind fun cs4 => (pext cs4 0 4).bind fun p5 => (P64 [p5]).bind fun r6 => (pcells 4 r6).bind fun cs7 => bif o1.length == x3 then (bif decide (o1.length + ([cs7] : List (List PV)).length ≤ LIM) then (f57_l3 k0 n (o1 ++ [cs7]) ((o1 ++ [cs7] : List (List PV)).length) x6 x7 (IntKind.i64.wrap (x8 + 1))) else none) else none) else (k0 o1 x3)
theorem f57_b3 (K : LOut × LS → Option PV) (o1 : List (List PV)) (x3 : Nat) (x6 : List (List PV)) (x7 : Int) (x8 : Int) : (lbody T f57_G f57_A3 f57_c3 (f57_m3 o1 x3 x6 x7 x8)).run K =
    bif decide (x8 < x7) then ((lget x6 x8).bind fun cs1 => (pext cs1 0 4).bind fun p2 => (pcells 4 p2).bind fun cs3 => (pputs [.int .i64 0, .list 1 [], .int .i64 0, .int .i64 0] 0 cs3).bind fun cs4 => (pext cs4 0 4).bind fun p5 => (P64 [p5]).bind fun r6 => (pcells 4 r6).bind fun cs7 => bif o1.length == x3 then (bif decide (o1.length + ([cs7] : List (List PV)).length ≤ LIM) then (K (.normal, f57_m3 (o1 ++ [cs7]) ((o1 ++ [cs7] : List (List PV)).length) x6 x7 (IntKind.i64.wrap (x8 + 1)))) else none) else none) else (K (.exit 0, f57_e3_0 o1 x3)) := by kernel_rfl
theorem f57_q3 (K : LOut × LS → Option PV) : ∀ (n : Nat) (o1 : List (List PV)) (x3 : Nat) (x6 : List (List PV)) (x7 : Int) (x8 : Int), (liter (lbody T f57_G f57_A3 f57_c3) n (f57_m3 o1 x3 x6 x7 x8)).run K = f57_l3 (fun o1 x3 => K (.exit 0, f57_e3_0 o1 x3)) n o1 x3 x6 x7 x8
  | 0, _, _, _, _, _ => rfl
  | n + 1, o1, x3, x6, x7, x8 => by
    rw [liter_succ, f57_b3]
    try simp only [lk_normal, lk_exit, lk_ret, f57_q3 K n]
    try rfl
noncomputable def f57_s3 (S : LS) : M (LOut × LS) := match S.H 1, S.sl 3, S.sl 6, S.sl 7, S.sl 8 with
  | some (.sl 25 4 o1 false), .osl 1 x3, .pv (.list 4 x6), .pv (.int .i64 x7), .pv (.int .i64 x8) => .ofEq (liter (lbody T f57_G f57_A3 f57_c3) FU (f57_m3 o1 x3 x6 x7 x8)) (fun K => f57_l3 (fun o1 x3 => K (.exit 0, f57_e3_0 o1 x3)) FU o1 x3 x6 x7 x8) (fun K => f57_q3 K FU o1 x3 x6 x7 x8)
  | _, _, _, _, _ => .fail
theorem f57_v3 {A : Ann} (h1 : (firstRegion f57_c3).bind A.loop = some f57_s3) (h2 : (firstRegion f57_c3).bind A.head = some ⟨[3, 6, 7, 8], [1], 5, false, []⟩) : LoopsOk T f57_G (.loop f57_c3) A := by
  refine loopOk_of h1 h2 (A' := f57_A3) (loopsOk_of fun c' hc => by rw [show loopsIn (f57_c3) = [] from by kernel_rfl] at hc; cases hc) fun S0 S o S' hn hs => ?_
  unfold f57_s3 at hs
  split at hs
  · exact loop_fin hs hn rfl (slots_cons (by assumption) (slots_cons (by assumption) (slots_cons (by assumption) (slots_cons (by assumption) slots_nil)))) (heap_cons (by assumption) heap_nil) (by kernel_rfl) (by kernel_rfl) (by kernel_rfl) (by kernel_rfl)
  · exact (M.is_fail.1 hs).elim
noncomputable def f57_A : Ann := ⟨assoc [(3, f57_s3)], assoc [(3, ⟨[3, 6, 7, 8], [1], 5, false, []⟩)], assoc [], none⟩
noncomputable def F57 (a0 : List (List PV)) : Option PV :=
  f57_l3 (fun (y1 : List (List PV)) (y2 : Nat) => bif y1.length == y2 then (some (.list 4 y1)) else none) FU [] 0 a0 (a0.length : Int) 0
theorem f57_eq (a0 : List (List PV)) : lfunOP T f57_G f57_A Tryd.f57 25 4 [.pv (.list 4 a0)] = F57 a0 := by kernel_rfl
noncomputable def P57 : List PV → Option (List (List PV))
  | [.list 4 a0] => (F57 a0).bind (plistX 4)
  | _ => none
noncomputable def f57_code : Code := (Tryd.f57).body.getD .skip
theorem f57_gok : GOk Tryd.prog f57_G := gok_of (by
  simp only [List.forall_mem_cons, List.not_mem_nil, false_implies, implies_true, and_true]
  exact f64_ok)
theorem f57_ok : GivenOk Tryd.prog 57 (.ocall 25 4 P57) := given_o tok f57_gok mixed (A := f57_A) (fn := Tryd.f57) (c := f57_code) (by kernel_rfl) (by kernel_rfl) (loopsOk_of fun c' hc => by
    rw [show loopsIn (f57_code) = [f57_c3] from by kernel_rfl] at hc
    simp only [List.mem_cons, List.not_mem_nil, or_false] at hc
    rcases hc with rfl
    · exact f57_v3 (by kernel_rfl) (by kernel_rfl)) (by kernel_rfl) (by kernel_rfl) (k := 1) (Nat.le_of_ble_eq_true (by kernel_rfl)) (by
  intro ps r h
  unfold P57 at h
  split at h
  · exact ⟨rfl, (f57_eq _).trans (plistX_bind h)⟩
  · cases h)

/-! ### bailiwick/set.of: function 73 -/
noncomputable def f73_G : Nat → Option Given := assoc []
/-! loop 4 -/
noncomputable def f73_c4 : Code := ((Tryd.f73).body.bind (findLoop 4)).getD .skip
noncomputable def f73_m4 (c0_0 : Int) (c0_1 : Int) (c0_2 : Int) (c0_3 : Int) (c2 : List PV) (x5 : PV) (x8 : List (List PV)) (x9 : Int) (x10 : Int) : LS := ⟨supd (supd (supd (supd (supd (supd (fun _ => .any) 10 (.pv (.int .i64 x10))) 9 (.pv (.int .i64 x9))) 8 (.pv (.list 1 x8))) 5 (.pv x5)) 4 (.ptr 2 0)) 2 (.ptr 0 0), hset (hset (fun _ => none) 2 (.box (.pure c2))) 0 (.box (.pure [.int .u64 c0_0, .int .u64 c0_1, .int .u64 c0_2, .int .u64 c0_3])), 7, 0⟩
noncomputable def f73_e4_0 (c0_0 : Int) (c0_1 : Int) (c0_2 : Int) (c0_3 : Int) (c2 : List PV) : LS := ⟨supd (supd (fun _ => .any) 4 (.ptr 2 0)) 2 (.ptr 0 0), hset (hset (fun _ => none) 2 (.box (.pure c2))) 0 (.box (.pure [.int .u64 c0_0, .int .u64 c0_1, .int .u64 c0_2, .int .u64 c0_3])), 8, 0⟩
noncomputable def f73_r4 (c0 : List PV) (x3 : Bool) : LS := ⟨supd (supd (fun _ => .any) 3 (.pv (.bool x3))) 2 (.ptr 0 0), hset (fun _ => none) 0 (.box (.pure c0)), 21, 0⟩
noncomputable def f73_A4 : Ann := ⟨assoc [], assoc [(4, ⟨[2, 4, 5, 8, 9, 10], [0, 2], 7, false, []⟩)], assoc [(0, ⟨[2, 4], [0, 2], 8, false, []⟩)], some ⟨[2, 3], [0], 21, false, []⟩⟩
noncomputable def f73_l4 (k0 : Int → Int → Int → Int → (List PV) → Option PV) (kr : (List PV) → Bool → Option PV) : Nat → Int → Int → Int → Int → (List PV) → PV → (List (List PV)) → Int → Int → Option PV
  | 0, _, _, _, _, _, _, _, _, _ => none
  | n + 1, c0_0, c0_1, c0_2, c0_3, c2, x5, x8, x9, x10 => bif decide (x10 < x9) then ((lget x8 x10).bind fun cs1 => (cs1[0]?).bind fun p2 => ((pbin .leq p2 x5).bind fun r3 => (pbool r3).bind fun b4 => bif b4 then (some (.bool true)) else ((pbin .geq p2 (.int .i64 256)).bind fun r5 => some r5)).bind fun g6 => (pbool g6).bind fun b7 => bif b7 then ((pext c2 0 4).bind fun p8 => (pcells 4 p8).bind fun cs9 => (pputs [.int .u64 c0_0, .int .u64 c0_1, .int .u64 c0_2, .int .u64 c0_3] 0 cs9).bind fun cs10 => kr cs10 false) else ((pbin .quo p2 (.int .i64 64)).bind fun r11 => (pint r11).bind fun n12 => bif decide (0 ≤ n12) && decide (n12 < (4 : Nat)) then ((c2[0 + n12.toNat * 1]?).bind fun p13 => (pbin .rem p2 (.int .i64 64)).bind fun r14 => (pbin .shl (.int .u64 1) r14).bind fun r15 => (pbin .or p13 r15).bind fun r16 => (pint r11).bind fun n17 => bif decide (0 ≤ n17) && decide (n17 < (4 : Nat)) then ((pscal r16).bind fun p18 => (psetc c2 (0 + n17.toNat * 1) p18).bind fun cs19 => f73_l4 k0 kr n c0_0 c0_1 c0_2 c0_3 cs19 p2 x8 x9 (IntKind.i64.wrap (x10 + 1))) else none) else none)) else (k0 c0_0 c0_1 c0_2 c0_3 c2)
theorem f73_b4 (K : LOut × LS → Option PV) (c0_0 : Int) (c0_1 : Int) (c0_2 : Int) (c0_3 : Int) (c2 : List PV) (x5 : PV) (x8 : List (List PV)) (x9 : Int) (x10 : Int) : (lbody T f73_G f73_A4 f73_c4 (f73_m4 c0_0 c0_1 c0_2 c0_3 c2 x5 x8 x9 x10)).run K =
    bif decide (x10 < x9) then ((lget x8 x10).bind fun cs1 => (cs1[0]?).bind fun p2 => ((pbin .leq p2 x5).bind fun r3 => (pbool r3).bind fun b4 => bif b4 then (some (.bool true)) else ((pbin .geq p2 (.int .i64 256)).bind fun r5 => some r5)).bind fun g6 => (pbool g6).bind fun b7 => bif b7 then ((pext c2 0 4).bind fun p8 => (pcells 4 p8).bind fun cs9 => (pputs [.int .u64 c0_0, .int .u64 c0_1, .int .u64 c0_2, .int .u64 c0_3] 0 cs9).bind fun cs10 => K (.ret, f73_r4 cs10 false)) else ((pbin .quo p2 (.int .i64 64)).bind fun r11 => (pint r11).bind fun n12 => bif decide (0 ≤ n12) && decide (n12 < (4 : Nat)) then ((c2[0 + n12.toNat * 1]?).bind fun p13 => (pbin .rem p2 (.int .i64 64)).bind fun r14 => (pbin .shl (.int .u64 1) r14).bind fun r15 => (pbin .or p13 r15).bind fun r16 => (pint r11).bind fun n17 => bif decide (0 ≤ n17) && decide (n17 < (4 : Nat)) then ((pscal r16).bind fun p18 => (psetc c2 (0 + n17.toNat * 1) p18).bind fun cs19 => K (.normal, f73_m4 c0_0 c0_1 c0_2 c0_3 cs19 p2 x8 x9 (IntKind.i64.wrap (x10 + 1)))) else none) else none)) else (K (.exit 0, f73_e4_0 c0_0 c0_1 c0_2 c0_3 c2)) := by kernel_rfl
theorem f73_q4 (K : LOut × LS → Option PV) : ∀ (n : Nat) (c0_0 : Int) (c0_1 : Int) (c0_2 : Int) (c0_3 : Int) (c2 : List PV) (x5 : PV) (x8 : List (List PV)) (x9 : Int) (x10 : Int), (liter (lbody T f73_G f73_A4 f73_c4) n (f73_m4 c0_0 c0_1 c0_2 c0_3 c2 x5 x8 x9 x10)).run K = f73_l4 (fun c0_0 c0_1 c0_2 c0_3 c2 => K (.exit 0, f73_e4_0 c0_0 c0_1 c0_2 c0_3 c2)) (fun c0 x3 => K (.ret, f73_r4 c0 x3)) n c0_0 c0_1 c0_2 c0_3 c2 x5 x8 x9 x10
  | 0, _, _, _, _, _, _, _, _, _ => rfl
  | n + 1, c0_0, c0_1, c0_2, c0_3, c2, x5, x8, x9, x10 => by
    rw [liter_succ, f73_b4]
    try simp only [lk_normal, lk_exit, lk_ret, f73_q4 K n]
    try rfl
noncomputable def f73_s4 (S : LS) : M (LOut × LS) := match S.H 0, S.H 2, S.sl 2, S.sl 4, S.sl 5, S.sl 8, S.sl 9, S.sl 10 with
  | some (.box (.pure [.int .u64 c0_0, .int .u64 c0_1, .int .u64 c0_2, .int .u64 c0_3])), some (.box (.pure c2)), .ptr 0 0, .ptr 2 0, .pv x5, .pv (.list 1 x8), .pv (.int .i64 x9), .pv (.int .i64 x10) => .ofEq (liter (lbody T f73_G f73_A4 f73_c4) FU (f73_m4 c0_0 c0_1 c0_2 c0_3 c2 x5 x8 x9 x10)) (fun K => f73_l4 (fun c0_0 c0_1 c0_2 c0_3 c2 => K (.exit 0, f73_e4_0 c0_0 c0_1 c0_2 c0_3 c2)) (fun c0 x3 => K (.ret, f73_r4 c0 x3)) FU c0_0 c0_1 c0_2 c0_3 c2 x5 x8 x9 x10) (fun K => f73_q4 K FU c0_0 c0_1 c0_2 c0_3 c2 x5 x8 x9 x10)
  | _, _, _, _, _, _, _, _ => .fail
theorem f73_v4 {A : Ann} (h1 : (firstRegion f73_c4).bind A.loop = some f73_s4) (h2 : (firstRegion f73_c4).bind A.head = some ⟨[2, 4, 5, 8, 9, 10], [0, 2], 7, false, []⟩) : LoopsOk T f73_G (.loop f73_c4) A := by
  refine loopOk_of h1 h2 (A' := f73_A4) (loopsOk_of fun c' hc => by rw [show loopsIn (f73_c4) = [] from by kernel_rfl] at hc; cases hc) fun S0 S o S' hn hs => ?_
  unfold f73_s4 at hs
  split at hs
  · exact loop_fin hs hn rfl (slots_cons (by assumption) (slots_cons (by assumption) (slots_cons (by assumption) (slots_cons (by assumption) (slots_cons (by assumption) (slots_cons (by assumption) slots_nil)))))) (heap_cons (by assumption) (heap_cons (by assumption) heap_nil)) (by kernel_rfl) (by kernel_rfl) (by kernel_rfl) (by kernel_rfl)
  · exact (M.is_fail.1 hs).elim
noncomputable def f73_A : Ann := ⟨assoc [(4, f73_s4)], assoc [(4, ⟨[2, 4, 5, 8, 9, 10], [0, 2], 7, false, []⟩)], assoc [], none⟩
noncomputable def F73 (a0 : List (List PV)) : Option PV :=
  f73_l4 (fun (y1 : Int) (y2 : Int) (y3 : Int) (y4 : Int) (y5 : List PV) => (pext y5 0 4).bind fun p6 => (pcells 4 p6).bind fun cs7 => (pputs [.int .u64 y1, .int .u64 y2, .int .u64 y3, .int .u64 y4] 0 cs7).bind fun cs8 => (pext cs8 0 4).bind fun p9 => some (.tup [p9, .bool true])) (fun (y10 : List PV) (y11 : Bool) => (pext y10 0 4).bind fun p12 => some (.tup [p12, .bool y11])) FU 0 0 0 0 [.int .u64 0, .int .u64 0, .int .u64 0, .int .u64 0] (.int .i64 (-1)) a0 (a0.length : Int) 0
theorem f73_eq (a0 : List (List PV)) : lfunP T f73_G f73_A Tryd.f73 [.pv (.list 1 a0)] = F73 a0 := by kernel_rfl
noncomputable def P73 : List PV → Option PV
  | [.list 1 a0] => F73 a0
  | _ => none
noncomputable def f73_code : Code := (Tryd.f73).body.getD .skip
theorem f73_gok : GOk Tryd.prog f73_G := gok_of (fun p hp => by cases hp)
theorem f73_ok : GivenOk Tryd.prog 73 (.pcall P73) := given_p tok f73_gok mixed (A := f73_A) (fn := Tryd.f73) (c := f73_code) (by kernel_rfl) (by kernel_rfl) (loopsOk_of fun c' hc => by
    rw [show loopsIn (f73_code) = [f73_c4] from by kernel_rfl] at hc
    simp only [List.mem_cons, List.not_mem_nil, or_false] at hc
    rcases hc with rfl
    · exact f73_v4 (by kernel_rfl) (by kernel_rfl)) (by kernel_rfl) (by kernel_rfl) (k := 1) (Nat.le_of_ble_eq_true (by kernel_rfl)) (by
  intro ps r h
  unfold P73 at h
  split at h
  · exact ⟨rfl, (f73_eq _).trans h⟩
  · cases h)

/-! ### bailiwick/set.Right: function 36 -/
noncomputable def f36_G : Nat → Option Given := assoc [(73, .pcall P73)]
noncomputable def f36_A : Ann := ⟨assoc [], assoc [], assoc [], none⟩
noncomputable def F36 (a0 : List (List PV)) : Option PV :=
  (P73 [.list 1 a0]).bind fun r1 => (pnth r1 0).bind fun p2 => (pnth r1 1).bind fun p3 => (pcells 4 p2).bind fun cs4 => (pputs [.int .u64 0, .int .u64 0, .int .u64 0, .int .u64 0] 0 cs4).bind fun cs5 => some p3
theorem f36_eq (a0 : List (List PV)) : lfunP T f36_G f36_A Tryd.f36 [.pv (.list 1 a0)] = F36 a0 := by kernel_rfl
noncomputable def P36 : List PV → Option PV
  | [.list 1 a0] => F36 a0
  | _ => none
noncomputable def f36_code : Code := (Tryd.f36).body.getD .skip
theorem f36_gok : GOk Tryd.prog f36_G := gok_of (by
  simp only [List.forall_mem_cons, List.not_mem_nil, false_implies, implies_true, and_true]
  exact f73_ok)
theorem f36_ok : GivenOk Tryd.prog 36 (.pcall P36) := given_p tok f36_gok mixed (A := f36_A) (fn := Tryd.f36) (c := f36_code) (by kernel_rfl) (by kernel_rfl) (loopsOk_of fun c' hc => by rw [show loopsIn (f36_code) = [] from by kernel_rfl] at hc; cases hc) (by kernel_rfl) (by kernel_rfl) (k := 1) (Nat.le_of_ble_eq_true (by kernel_rfl)) (by
  intro ps r h
  unfold P36 at h
  split at h
  · exact ⟨rfl, (f36_eq _).trans h⟩
  · cases h)

/-! ### bailiwick/when.Right: function 90 -/
noncomputable def f90_G : Nat → Option Given := assoc []
noncomputable def f90_A : Ann := ⟨assoc [], assoc [], assoc [], none⟩
noncomputable def F90 (a0 : Int) : Option PV :=
  (bif decide (a0 ≥ 0) then (some (.bool (decide (a0 ≤ 4611686018427387904)))) else (some (.bool false))).bind fun g1 => some g1
theorem f90_eq (a0 : Int) : lfunP T f90_G f90_A Tryd.f90 [.pv (.int .i64 a0)] = F90 a0 := by kernel_rfl
noncomputable def P90 : List PV → Option PV
  | [.int .i64 a0] => F90 a0
  | _ => none
noncomputable def f90_code : Code := (Tryd.f90).body.getD .skip
theorem f90_gok : GOk Tryd.prog f90_G := gok_of (fun p hp => by cases hp)
theorem f90_ok : GivenOk Tryd.prog 90 (.pcall P90) := given_p tok f90_gok mixed (A := f90_A) (fn := Tryd.f90) (c := f90_code) (by kernel_rfl) (by kernel_rfl) (loopsOk_of fun c' hc => by rw [show loopsIn (f90_code) = [] from by kernel_rfl] at hc; cases hc) (by kernel_rfl) (by kernel_rfl) (k := 1) (Nat.le_of_ble_eq_true (by kernel_rfl)) (by
  intro ps r h
  unfold P90 at h
  split at h
  · exact ⟨rfl, (f90_eq _).trans h⟩
  · cases h)

/-! ### bailiwick/held.may: function 58 -/
noncomputable def f58_G : Nat → Option Given := assoc [(36, .pcall P36), (90, .pcall P90)]
noncomputable def f58_A : Ann := ⟨assoc [], assoc [], assoc [], none⟩
noncomputable def F58 (a0_0 : Int) (a0_1 : List (List PV)) (a0_2 : Int) (a0_3 : Int) : Option PV :=
  (bif decide ((a0_1.length : Int) > 0) then ((P36 [.list 1 a0_1]).bind fun r1 => (pbool r1).bind fun b2 => bif b2 then ((P90 [.int .i64 a0_2]).bind fun r3 => (pbool r3).bind fun b4 => bif b4 then ((P90 [.int .i64 a0_3]).bind fun r5 => (pbool r5).bind fun b6 => bif b6 then (some (.bool (decide (a0_2 < a0_3)))) else (some (.bool false))) else (some (.bool false))) else (some (.bool false))) else (some (.bool false))).bind fun g7 => some g7
theorem f58_eq (a0_0 : Int) (a0_1 : List (List PV)) (a0_2 : Int) (a0_3 : Int) : lfunP T f58_G f58_A Tryd.f58 [.pv (.agg [.int .i64 a0_0, .list 1 a0_1, .int .i64 a0_2, .int .i64 a0_3])] = F58 a0_0 a0_1 a0_2 a0_3 := by kernel_rfl
noncomputable def P58 : List PV → Option PV
  | [.agg [.int .i64 a0_0, .list 1 a0_1, .int .i64 a0_2, .int .i64 a0_3]] => F58 a0_0 a0_1 a0_2 a0_3
  | _ => none
noncomputable def f58_code : Code := (Tryd.f58).body.getD .skip
theorem f58_gok : GOk Tryd.prog f58_G := gok_of (by
  simp only [List.forall_mem_cons, List.not_mem_nil, false_implies, implies_true, and_true]
  exact ⟨f36_ok, f90_ok⟩)
theorem f58_ok : GivenOk Tryd.prog 58 (.pcall P58) := given_p tok f58_gok mixed (A := f58_A) (fn := Tryd.f58) (c := f58_code) (by kernel_rfl) (by kernel_rfl) (loopsOk_of fun c' hc => by rw [show loopsIn (f58_code) = [] from by kernel_rfl] at hc; cases hc) (by kernel_rfl) (by kernel_rfl) (k := 1) (Nat.le_of_ble_eq_true (by kernel_rfl)) (by
  intro ps r h
  unfold P58 at h
  split at h
  · exact ⟨rfl, (f58_eq _ _ _ _).trans h⟩
  · cases h)

/-! ### bailiwick/when.Meets: function 65 -/
noncomputable def f65_G : Nat → Option Given := assoc []
noncomputable def f65_A : Ann := ⟨assoc [], assoc [], assoc [], none⟩
noncomputable def F65 (a0 : Int) (a1 : Int) (a2 : Int) (a3 : Int) : Option PV :=
  some (.bool (decide ((if a2 > a0 then a2 else a0) < (if a3 < a1 then a3 else a1))))
theorem f65_eq (a0 : Int) (a1 : Int) (a2 : Int) (a3 : Int) : lfunP T f65_G f65_A Tryd.f65 [.pv (.int .i64 a0), .pv (.int .i64 a1), .pv (.int .i64 a2), .pv (.int .i64 a3)] = F65 a0 a1 a2 a3 := by kernel_rfl
noncomputable def P65 : List PV → Option PV
  | [.int .i64 a0, .int .i64 a1, .int .i64 a2, .int .i64 a3] => F65 a0 a1 a2 a3
  | _ => none
noncomputable def f65_code : Code := (Tryd.f65).body.getD .skip
theorem f65_gok : GOk Tryd.prog f65_G := gok_of (fun p hp => by cases hp)
theorem f65_ok : GivenOk Tryd.prog 65 (.pcall P65) := given_p tok f65_gok mixed (A := f65_A) (fn := Tryd.f65) (c := f65_code) (by kernel_rfl) (by kernel_rfl) (loopsOk_of fun c' hc => by rw [show loopsIn (f65_code) = [] from by kernel_rfl] at hc; cases hc) (by kernel_rfl) (by kernel_rfl) (k := 4) (Nat.le_of_ble_eq_true (by kernel_rfl)) (by
  intro ps r h
  unfold P65 at h
  split at h
  · exact ⟨rfl, (f65_eq _ _ _ _).trans h⟩
  · cases h)

/-! ### bailiwick/set.both: function 70 -/
noncomputable def f70_G : Nat → Option Given := assoc [(73, .pcall P73)]
noncomputable def f70_A : Ann := ⟨assoc [], assoc [], assoc [], none⟩
noncomputable def F70 (a0 : List (List PV)) (a1 : List (List PV)) : Option PV :=
  (P73 [.list 1 a0]).bind fun r1 => (pnth r1 0).bind fun p2 => (pnth r1 1).bind fun p3 => (pcells 4 p2).bind fun cs4 => (pputs [.int .u64 0, .int .u64 0, .int .u64 0, .int .u64 0] 0 cs4).bind fun cs5 => (P73 [.list 1 a1]).bind fun r6 => (pnth r6 0).bind fun p7 => (pnth r6 1).bind fun p8 => (pcells 4 p7).bind fun cs9 => (pputs [.int .u64 0, .int .u64 0, .int .u64 0, .int .u64 0] 0 cs9).bind fun cs10 => (pext cs5 0 4).bind fun p11 => (pext cs10 0 4).bind fun p12 => (pbool p3).bind fun b13 => bif b13 then ((pcells 4 p11).bind fun cs14 => (pputs [.int .u64 0, .int .u64 0, .int .u64 0, .int .u64 0] 0 cs14).bind fun cs15 => (pcells 4 p12).bind fun cs16 => (pputs [.int .u64 0, .int .u64 0, .int .u64 0, .int .u64 0] 0 cs16).bind fun cs17 => (pext cs15 0 4).bind fun p18 => (pext cs17 0 4).bind fun p19 => some (.tup [p18, p19, p8])) else ((pcells 4 p11).bind fun cs20 => (pputs [.int .u64 0, .int .u64 0, .int .u64 0, .int .u64 0] 0 cs20).bind fun cs21 => (pcells 4 p12).bind fun cs22 => (pputs [.int .u64 0, .int .u64 0, .int .u64 0, .int .u64 0] 0 cs22).bind fun cs23 => (pext cs21 0 4).bind fun p24 => (pext cs23 0 4).bind fun p25 => some (.tup [p24, p25, .bool false]))
theorem f70_eq (a0 : List (List PV)) (a1 : List (List PV)) : lfunP T f70_G f70_A Tryd.f70 [.pv (.list 1 a0), .pv (.list 1 a1)] = F70 a0 a1 := by kernel_rfl
noncomputable def P70 : List PV → Option PV
  | [.list 1 a0, .list 1 a1] => F70 a0 a1
  | _ => none
noncomputable def f70_code : Code := (Tryd.f70).body.getD .skip
theorem f70_gok : GOk Tryd.prog f70_G := gok_of (by
  simp only [List.forall_mem_cons, List.not_mem_nil, false_implies, implies_true, and_true]
  exact f73_ok)
theorem f70_ok : GivenOk Tryd.prog 70 (.pcall P70) := given_p tok f70_gok mixed (A := f70_A) (fn := Tryd.f70) (c := f70_code) (by kernel_rfl) (by kernel_rfl) (loopsOk_of fun c' hc => by rw [show loopsIn (f70_code) = [] from by kernel_rfl] at hc; cases hc) (by kernel_rfl) (by kernel_rfl) (k := 2) (Nat.le_of_ble_eq_true (by kernel_rfl)) (by
  intro ps r h
  unfold P70 at h
  split at h
  · exact ⟨rfl, (f70_eq _ _).trans h⟩
  · cases h)

/-! ### bailiwick/set.Apart: function 54 -/
noncomputable def f54_G : Nat → Option Given := assoc [(70, .pcall P70)]
/-! loop 3 -/
noncomputable def f54_c3 : Code := ((Tryd.f54).body.bind (findLoop 3)).getD .skip
noncomputable def f54_m3 (c8 : List PV) (c9 : List PV) (x7 : PV) (x16 : Int) : LS := ⟨supd (supd (supd (supd (fun _ => .any) 16 (.pv (.int .i64 x16))) 7 (.pv x7)) 6 (.ptr 9 0)) 5 (.ptr 8 0), hset (hset (fun _ => none) 9 (.box (.pure c9))) 8 (.box (.pure c8)), 14, 0⟩
noncomputable def f54_e3_0 (x7 : PV) : LS := ⟨supd (fun _ => .any) 7 (.pv x7), (fun _ => none), 15, 0⟩
noncomputable def f54_A3 : Ann := ⟨assoc [], assoc [(3, ⟨[5, 6, 7, 16], [8, 9], 14, false, []⟩)], assoc [(0, ⟨[7], [], 15, false, []⟩)], none⟩
noncomputable def f54_l3 (k0 : PV → Option PV) : Nat → (List PV) → (List PV) → PV → Int → Option PV
  | 0, _, _, _, _ => none
  | n + 1, c8, c9, x7, x16 => bif decide (x16 < 4) then (((pbool x7).bind fun b1 => bif b1 then (bif decide (0 ≤ x16) && decide (x16 < (4 : Nat)) then ((c8[0 + x16.toNat * 1]?).bind fun p2 => bif decide (0 ≤ x16) && decide (x16 < (4 : Nat)) then ((c9[0 + x16.toNat * 1]?).bind fun p3 => (pbin .and p2 p3).bind fun r4 => (pbin .eql r4 (.int .u64 0)).bind fun r5 => some r5) else none) else none) else (some (.bool false))).bind fun g6 => f54_l3 k0 n c8 c9 g6 (IntKind.i64.wrap (x16 + 1))) else (k0 x7)
theorem f54_b3 (K : LOut × LS → Option PV) (c8 : List PV) (c9 : List PV) (x7 : PV) (x16 : Int) : (lbody T f54_G f54_A3 f54_c3 (f54_m3 c8 c9 x7 x16)).run K =
    bif decide (x16 < 4) then (((pbool x7).bind fun b1 => bif b1 then (bif decide (0 ≤ x16) && decide (x16 < (4 : Nat)) then ((c8[0 + x16.toNat * 1]?).bind fun p2 => bif decide (0 ≤ x16) && decide (x16 < (4 : Nat)) then ((c9[0 + x16.toNat * 1]?).bind fun p3 => (pbin .and p2 p3).bind fun r4 => (pbin .eql r4 (.int .u64 0)).bind fun r5 => some r5) else none) else none) else (some (.bool false))).bind fun g6 => K (.normal, f54_m3 c8 c9 g6 (IntKind.i64.wrap (x16 + 1)))) else (K (.exit 0, f54_e3_0 x7)) := by kernel_rfl
theorem f54_q3 (K : LOut × LS → Option PV) : ∀ (n : Nat) (c8 : List PV) (c9 : List PV) (x7 : PV) (x16 : Int), (liter (lbody T f54_G f54_A3 f54_c3) n (f54_m3 c8 c9 x7 x16)).run K = f54_l3 (fun x7 => K (.exit 0, f54_e3_0 x7)) n c8 c9 x7 x16
  | 0, _, _, _, _ => rfl
  | n + 1, c8, c9, x7, x16 => by
    rw [liter_succ, f54_b3]
    try simp only [lk_normal, lk_exit, lk_ret, f54_q3 K n]
    try rfl
noncomputable def f54_s3 (S : LS) : M (LOut × LS) := match S.H 8, S.H 9, S.sl 5, S.sl 6, S.sl 7, S.sl 16 with
  | some (.box (.pure c8)), some (.box (.pure c9)), .ptr 8 0, .ptr 9 0, .pv x7, .pv (.int .i64 x16) => .ofEq (liter (lbody T f54_G f54_A3 f54_c3) FU (f54_m3 c8 c9 x7 x16)) (fun K => f54_l3 (fun x7 => K (.exit 0, f54_e3_0 x7)) FU c8 c9 x7 x16) (fun K => f54_q3 K FU c8 c9 x7 x16)
  | _, _, _, _, _, _ => .fail
theorem f54_v3 {A : Ann} (h1 : (firstRegion f54_c3).bind A.loop = some f54_s3) (h2 : (firstRegion f54_c3).bind A.head = some ⟨[5, 6, 7, 16], [8, 9], 14, false, []⟩) : LoopsOk T f54_G (.loop f54_c3) A := by
  refine loopOk_of h1 h2 (A' := f54_A3) (loopsOk_of fun c' hc => by rw [show loopsIn (f54_c3) = [] from by kernel_rfl] at hc; cases hc) fun S0 S o S' hn hs => ?_
  unfold f54_s3 at hs
  split at hs
  · exact loop_fin hs hn rfl (slots_cons (by assumption) (slots_cons (by assumption) (slots_cons (by assumption) (slots_cons (by assumption) slots_nil)))) (heap_cons (by assumption) (heap_cons (by assumption) heap_nil)) (by kernel_rfl) (by kernel_rfl) (by kernel_rfl) (by kernel_rfl)
  · exact (M.is_fail.1 hs).elim
noncomputable def f54_A : Ann := ⟨assoc [(3, f54_s3)], assoc [(3, ⟨[5, 6, 7, 16], [8, 9], 14, false, []⟩)], assoc [], none⟩
noncomputable def F54 (a0 : List (List PV)) (a1 : List (List PV)) : Option PV :=
  (P70 [.list 1 a0, .list 1 a1]).bind fun r1 => (pnth r1 0).bind fun p2 => (pnth r1 1).bind fun p3 => (pnth r1 2).bind fun p4 => (pcells 4 p2).bind fun cs5 => (pputs [.int .u64 0, .int .u64 0, .int .u64 0, .int .u64 0] 0 cs5).bind fun cs6 => (pcells 4 p3).bind fun cs7 => (pputs [.int .u64 0, .int .u64 0, .int .u64 0, .int .u64 0] 0 cs7).bind fun cs8 => f54_l3 (fun (y9 : PV) => some y9) FU cs6 cs8 p4 0
theorem f54_eq (a0 : List (List PV)) (a1 : List (List PV)) : lfunP T f54_G f54_A Tryd.f54 [.pv (.list 1 a0), .pv (.list 1 a1)] = F54 a0 a1 := by kernel_rfl
noncomputable def P54 : List PV → Option PV
  | [.list 1 a0, .list 1 a1] => F54 a0 a1
  | _ => none
noncomputable def f54_code : Code := (Tryd.f54).body.getD .skip
theorem f54_gok : GOk Tryd.prog f54_G := gok_of (by
  simp only [List.forall_mem_cons, List.not_mem_nil, false_implies, implies_true, and_true]
  exact f70_ok)
theorem f54_ok : GivenOk Tryd.prog 54 (.pcall P54) := given_p tok f54_gok mixed (A := f54_A) (fn := Tryd.f54) (c := f54_code) (by kernel_rfl) (by kernel_rfl) (loopsOk_of fun c' hc => by
    rw [show loopsIn (f54_code) = [f54_c3] from by kernel_rfl] at hc
    simp only [List.mem_cons, List.not_mem_nil, or_false] at hc
    rcases hc with rfl
    · exact f54_v3 (by kernel_rfl) (by kernel_rfl)) (by kernel_rfl) (by kernel_rfl) (k := 2) (Nat.le_of_ble_eq_true (by kernel_rfl)) (by
  intro ps r h
  unfold P54 at h
  split at h
  · exact ⟨rfl, (f54_eq _ _).trans h⟩
  · cases h)

/-! ### bailiwick/held.clash: function 62 -/
noncomputable def f62_G : Nat → Option Given := assoc [(54, .pcall P54), (65, .pcall P65)]
noncomputable def f62_A : Ann := ⟨assoc [], assoc [], assoc [], none⟩
noncomputable def F62 (a0_0 : Int) (a0_1 : List (List PV)) (a0_2 : Int) (a0_3 : Int) (a1_0 : Int) (a1_1 : List (List PV)) (a1_2 : Int) (a1_3 : Int) : Option PV :=
  ((P65 [.int .i64 a0_2, .int .i64 a0_3, .int .i64 a1_2, .int .i64 a1_3]).bind fun r1 => (pbool r1).bind fun b2 => bif b2 then ((P54 [.list 1 a0_1, .list 1 a1_1]).bind fun r3 => (pun .not r3).bind fun r4 => some r4) else (some (.bool false))).bind fun g5 => some g5
theorem f62_eq (a0_0 : Int) (a0_1 : List (List PV)) (a0_2 : Int) (a0_3 : Int) (a1_0 : Int) (a1_1 : List (List PV)) (a1_2 : Int) (a1_3 : Int) : lfunP T f62_G f62_A Tryd.f62 [.pv (.agg [.int .i64 a0_0, .list 1 a0_1, .int .i64 a0_2, .int .i64 a0_3]), .pv (.agg [.int .i64 a1_0, .list 1 a1_1, .int .i64 a1_2, .int .i64 a1_3])] = F62 a0_0 a0_1 a0_2 a0_3 a1_0 a1_1 a1_2 a1_3 := by kernel_rfl
noncomputable def P62 : List PV → Option PV
  | [.agg [.int .i64 a0_0, .list 1 a0_1, .int .i64 a0_2, .int .i64 a0_3], .agg [.int .i64 a1_0, .list 1 a1_1, .int .i64 a1_2, .int .i64 a1_3]] => F62 a0_0 a0_1 a0_2 a0_3 a1_0 a1_1 a1_2 a1_3
  | _ => none
noncomputable def f62_code : Code := (Tryd.f62).body.getD .skip
theorem f62_gok : GOk Tryd.prog f62_G := gok_of (by
  simp only [List.forall_mem_cons, List.not_mem_nil, false_implies, implies_true, and_true]
  exact ⟨f54_ok, f65_ok⟩)
theorem f62_ok : GivenOk Tryd.prog 62 (.pcall P62) := given_p tok f62_gok mixed (A := f62_A) (fn := Tryd.f62) (c := f62_code) (by kernel_rfl) (by kernel_rfl) (loopsOk_of fun c' hc => by rw [show loopsIn (f62_code) = [] from by kernel_rfl] at hc; cases hc) (by kernel_rfl) (by kernel_rfl) (k := 2) (Nat.le_of_ble_eq_true (by kernel_rfl)) (by
  intro ps r h
  unfold P62 at h
  split at h
  · exact ⟨rfl, (f62_eq _ _ _ _ _ _ _ _).trans h⟩
  · cases h)

/-! ### bailiwick/held.Right$1: function 78 -/
noncomputable def f78_G : Nat → Option Given := assoc [(62, .pcall P62)]
noncomputable def f78_A : Ann := ⟨assoc [], assoc [], assoc [], none⟩
noncomputable def F78 (a0_0 : Int) (a0_1 : List (List PV)) (a0_2 : Int) (a0_3 : Int) (a1_0 : Int) (a1_1 : List (List PV)) (a1_2 : Int) (a1_3 : Int) : Option PV :=
  (P62 [.agg [.int .i64 a0_0, .list 1 a0_1, .int .i64 a0_2, .int .i64 a0_3], .agg [.int .i64 a1_0, .list 1 a1_1, .int .i64 a1_2, .int .i64 a1_3]]).bind fun r1 => some r1
theorem f78_eq (a0_0 : Int) (a0_1 : List (List PV)) (a0_2 : Int) (a0_3 : Int) (a1_0 : Int) (a1_1 : List (List PV)) (a1_2 : Int) (a1_3 : Int) : lfunP T f78_G f78_A Tryd.f78 [.pv (.agg [.int .i64 a0_0, .list 1 a0_1, .int .i64 a0_2, .int .i64 a0_3]), .eptr [.int .i64 a1_0, .list 1 a1_1, .int .i64 a1_2, .int .i64 a1_3] 0] = F78 a0_0 a0_1 a0_2 a0_3 a1_0 a1_1 a1_2 a1_3 := by kernel_rfl
noncomputable def P78 : List LV → Option PV
  | [.pv (.agg [.int .i64 a0_0, .list 1 a0_1, .int .i64 a0_2, .int .i64 a0_3]), .eptr [.int .i64 a1_0, .list 1 a1_1, .int .i64 a1_2, .int .i64 a1_3] 0] => F78 a0_0 a0_1 a0_2 a0_3 a1_0 a1_1 a1_2 a1_3
  | _ => none
noncomputable def f78_code : Code := (Tryd.f78).body.getD .skip
theorem f78_gok : GOk Tryd.prog f78_G := gok_of (by
  simp only [List.forall_mem_cons, List.not_mem_nil, false_implies, implies_true, and_true]
  exact f62_ok)
theorem f78_ok : GivenOk Tryd.prog 78 (.fcall P78) := given_f tok f78_gok mixed (A := f78_A) (fn := Tryd.f78) (c := f78_code) (by kernel_rfl) (by kernel_rfl) (loopsOk_of fun c' hc => by rw [show loopsIn (f78_code) = [] from by kernel_rfl] at hc; cases hc) (by kernel_rfl) (by kernel_rfl) (k := 2) (Nat.le_of_ble_eq_true (by kernel_rfl)) (by
  intro ps r h
  unfold P78 at h
  split at h
  · exact ⟨rfl, (f78_eq _ _ _ _ _ _ _ _).trans h⟩
  · cases h)

/-! ### slices.IndexFunc[[]bailiwick/api.Held,bailiwick/api.Held]: function 94 -/
noncomputable def f94c78_G : Nat → Option Given := assoc [(78, .fcall P78)]
/-! loop 2 -/
noncomputable def f94c78_c2 : Code := ((Tryd.f94).body.bind (findLoop 2)).getD .skip
noncomputable def f94c78_m2 (x0 : List (List PV)) (x1q0_0 : Int) (x1q0_1 : List (List PV)) (x1q0_2 : Int) (x1q0_3 : Int) (x7 : Int) (x8 : Int) : LS := ⟨supd (supd (supd (supd (fun _ => .any) 8 (.pv (.int .i64 x8))) 7 (.pv (.int .i64 x7))) 1 (.clo 78 [.eptr [.int .i64 x1q0_0, .list 1 x1q0_1, .int .i64 x1q0_2, .int .i64 x1q0_3] 0])) 0 (.pv (.list 4 x0)), (fun _ => none), 4, 0⟩
noncomputable def f94c78_e2_0 : LS := ⟨(fun _ => .any), (fun _ => none), 5, 0⟩
noncomputable def f94c78_r2 (x4 : Int) : LS := ⟨supd (fun _ => .any) 4 (.pv (.int .i64 x4)), (fun _ => none), 15, 0⟩
noncomputable def f94c78_A2 : Ann := ⟨assoc [], assoc [(2, ⟨[0, 1, 7, 8], [], 4, false, []⟩)], assoc [(0, ⟨[], [], 5, false, []⟩)], some ⟨[4], [], 15, false, []⟩⟩
noncomputable def f94c78_l2 (k0 : Option PV) (kr : Int → Option PV) : Nat → (List (List PV)) → Int → (List (List PV)) → Int → Int → Int → Int → Option PV
  | 0, _, _, _, _, _, _, _ => none
  | n + 1, x0, x1q0_0, x1q0_1, x1q0_2, x1q0_3, x7, x8 => bif decide (x8 < x7) then ((lget x0 x8).bind fun cs1 => (pext cs1 0 4).bind fun p2 => (P78 [.pv p2, .eptr [.int .i64 x1q0_0, .list 1 x1q0_1, .int .i64 x1q0_2, .int .i64 x1q0_3] 0]).bind fun r3 => (pbool r3).bind fun b4 => bif b4 then (kr x8) else (f94c78_l2 k0 kr n x0 x1q0_0 x1q0_1 x1q0_2 x1q0_3 x7 (IntKind.i64.wrap (x8 + 1)))) else k0
theorem f94c78_b2 (K : LOut × LS → Option PV) (x0 : List (List PV)) (x1q0_0 : Int) (x1q0_1 : List (List PV)) (x1q0_2 : Int) (x1q0_3 : Int) (x7 : Int) (x8 : Int) : (lbody T f94c78_G f94c78_A2 f94c78_c2 (f94c78_m2 x0 x1q0_0 x1q0_1 x1q0_2 x1q0_3 x7 x8)).run K =
    bif decide (x8 < x7) then ((lget x0 x8).bind fun cs1 => (pext cs1 0 4).bind fun p2 => (P78 [.pv p2, .eptr [.int .i64 x1q0_0, .list 1 x1q0_1, .int .i64 x1q0_2, .int .i64 x1q0_3] 0]).bind fun r3 => (pbool r3).bind fun b4 => bif b4 then (K (.ret, f94c78_r2 x8)) else (K (.normal, f94c78_m2 x0 x1q0_0 x1q0_1 x1q0_2 x1q0_3 x7 (IntKind.i64.wrap (x8 + 1))))) else (K (.exit 0, f94c78_e2_0)) := by kernel_rfl
theorem f94c78_q2 (K : LOut × LS → Option PV) : ∀ (n : Nat) (x0 : List (List PV)) (x1q0_0 : Int) (x1q0_1 : List (List PV)) (x1q0_2 : Int) (x1q0_3 : Int) (x7 : Int) (x8 : Int), (liter (lbody T f94c78_G f94c78_A2 f94c78_c2) n (f94c78_m2 x0 x1q0_0 x1q0_1 x1q0_2 x1q0_3 x7 x8)).run K = f94c78_l2 (K (.exit 0, f94c78_e2_0)) (fun x4 => K (.ret, f94c78_r2 x4)) n x0 x1q0_0 x1q0_1 x1q0_2 x1q0_3 x7 x8
  | 0, _, _, _, _, _, _, _ => rfl
  | n + 1, x0, x1q0_0, x1q0_1, x1q0_2, x1q0_3, x7, x8 => by
    rw [liter_succ, f94c78_b2]
    try simp only [lk_normal, lk_exit, lk_ret, f94c78_q2 K n]
    try rfl
noncomputable def f94c78_s2 (S : LS) : M (LOut × LS) := match S.sl 0, S.sl 1, S.sl 7, S.sl 8 with
  | .pv (.list 4 x0), .clo 78 [.eptr [.int .i64 x1q0_0, .list 1 x1q0_1, .int .i64 x1q0_2, .int .i64 x1q0_3] 0], .pv (.int .i64 x7), .pv (.int .i64 x8) => .ofEq (liter (lbody T f94c78_G f94c78_A2 f94c78_c2) FU (f94c78_m2 x0 x1q0_0 x1q0_1 x1q0_2 x1q0_3 x7 x8)) (fun K => f94c78_l2 (K (.exit 0, f94c78_e2_0)) (fun x4 => K (.ret, f94c78_r2 x4)) FU x0 x1q0_0 x1q0_1 x1q0_2 x1q0_3 x7 x8) (fun K => f94c78_q2 K FU x0 x1q0_0 x1q0_1 x1q0_2 x1q0_3 x7 x8)
  | _, _, _, _ => .fail
theorem f94c78_v2 {A : Ann} (h1 : (firstRegion f94c78_c2).bind A.loop = some f94c78_s2) (h2 : (firstRegion f94c78_c2).bind A.head = some ⟨[0, 1, 7, 8], [], 4, false, []⟩) : LoopsOk T f94c78_G (.loop f94c78_c2) A := by
  refine loopOk_of h1 h2 (A' := f94c78_A2) (loopsOk_of fun c' hc => by rw [show loopsIn (f94c78_c2) = [] from by kernel_rfl] at hc; cases hc) fun S0 S o S' hn hs => ?_
  unfold f94c78_s2 at hs
  split at hs
  · exact loop_fin hs hn rfl (slots_cons (by assumption) (slots_cons (by assumption) (slots_cons (by assumption) (slots_cons (by assumption) slots_nil)))) heap_nil (by kernel_rfl) (by kernel_rfl) (by kernel_rfl) (by kernel_rfl)
  · exact (M.is_fail.1 hs).elim
noncomputable def f94c78_A : Ann := ⟨assoc [(2, f94c78_s2)], assoc [(2, ⟨[0, 1, 7, 8], [], 4, false, []⟩)], assoc [], none⟩
noncomputable def F94c78 (a0 : List (List PV)) (q1_0_0 : Int) (q1_0_1 : List (List PV)) (q1_0_2 : Int) (q1_0_3 : Int) : Option PV :=
  f94c78_l2 (some (.int .i64 (-1))) (fun (y1 : Int) => some (.int .i64 y1)) FU a0 q1_0_0 q1_0_1 q1_0_2 q1_0_3 (a0.length : Int) 0
theorem f94c78_eq (a0 : List (List PV)) (q1_0_0 : Int) (q1_0_1 : List (List PV)) (q1_0_2 : Int) (q1_0_3 : Int) : lfunP T f94c78_G f94c78_A Tryd.f94 [.pv (.list 4 a0), .clo 78 [.eptr [.int .i64 q1_0_0, .list 1 q1_0_1, .int .i64 q1_0_2, .int .i64 q1_0_3] 0]] = F94c78 a0 q1_0_0 q1_0_1 q1_0_2 q1_0_3 := by kernel_rfl
noncomputable def P94c78 : List LV → Option PV
  | [.pv (.list 4 a0), .clo 78 [.eptr [.int .i64 q1_0_0, .list 1 q1_0_1, .int .i64 q1_0_2, .int .i64 q1_0_3] 0]] => F94c78 a0 q1_0_0 q1_0_1 q1_0_2 q1_0_3
  | _ => none
noncomputable def f94c78_code : Code := (Tryd.f94).body.getD .skip
theorem f94c78_gok : GOk Tryd.prog f94c78_G := gok_of (by
  simp only [List.forall_mem_cons, List.not_mem_nil, false_implies, implies_true, and_true]
  exact f78_ok)
theorem f94c78_ok : GivenOk Tryd.prog 94 (.fcall P94c78) := given_f tok f94c78_gok mixed (A := f94c78_A) (fn := Tryd.f94) (c := f94c78_code) (by kernel_rfl) (by kernel_rfl) (loopsOk_of fun c' hc => by
    rw [show loopsIn (f94c78_code) = [f94c78_c2] from by kernel_rfl] at hc
    simp only [List.mem_cons, List.not_mem_nil, or_false] at hc
    rcases hc with rfl
    · exact f94c78_v2 (by kernel_rfl) (by kernel_rfl)) (by kernel_rfl) (by kernel_rfl) (k := 2) (Nat.le_of_ble_eq_true (by kernel_rfl)) (by
  intro ps r h
  unfold P94c78 at h
  split at h
  · exact ⟨rfl, (f94c78_eq _ _ _ _ _).trans h⟩
  · cases h)

/-! ### slices.ContainsFunc[[]bailiwick/api.Held,bailiwick/api.Held]: function 60 -/
noncomputable def f60c78_G : Nat → Option Given := assoc [(78, .fcall P78), (94, .fcall P94c78)]
noncomputable def f60c78_A : Ann := ⟨assoc [], assoc [], assoc [], none⟩
noncomputable def F60c78 (a0 : List (List PV)) (q1_0_0 : Int) (q1_0_1 : List (List PV)) (q1_0_2 : Int) (q1_0_3 : Int) : Option PV :=
  (P94c78 [.pv (.list 4 a0), .clo 78 [.eptr [.int .i64 q1_0_0, .list 1 q1_0_1, .int .i64 q1_0_2, .int .i64 q1_0_3] 0]]).bind fun r1 => (pbin .geq r1 (.int .i64 0)).bind fun r2 => some r2
theorem f60c78_eq (a0 : List (List PV)) (q1_0_0 : Int) (q1_0_1 : List (List PV)) (q1_0_2 : Int) (q1_0_3 : Int) : lfunP T f60c78_G f60c78_A Tryd.f60 [.pv (.list 4 a0), .clo 78 [.eptr [.int .i64 q1_0_0, .list 1 q1_0_1, .int .i64 q1_0_2, .int .i64 q1_0_3] 0]] = F60c78 a0 q1_0_0 q1_0_1 q1_0_2 q1_0_3 := by kernel_rfl
noncomputable def P60c78 : List LV → Option PV
  | [.pv (.list 4 a0), .clo 78 [.eptr [.int .i64 q1_0_0, .list 1 q1_0_1, .int .i64 q1_0_2, .int .i64 q1_0_3] 0]] => F60c78 a0 q1_0_0 q1_0_1 q1_0_2 q1_0_3
  | _ => none
noncomputable def f60c78_code : Code := (Tryd.f60).body.getD .skip
theorem f60c78_gok : GOk Tryd.prog f60c78_G := gok_of (by
  simp only [List.forall_mem_cons, List.not_mem_nil, false_implies, implies_true, and_true]
  exact ⟨f78_ok, f94c78_ok⟩)
theorem f60c78_ok : GivenOk Tryd.prog 60 (.fcall P60c78) := given_f tok f60c78_gok mixed (A := f60c78_A) (fn := Tryd.f60) (c := f60c78_code) (by kernel_rfl) (by kernel_rfl) (loopsOk_of fun c' hc => by rw [show loopsIn (f60c78_code) = [] from by kernel_rfl] at hc; cases hc) (by kernel_rfl) (by kernel_rfl) (k := 2) (Nat.le_of_ble_eq_true (by kernel_rfl)) (by
  intro ps r h
  unfold P60c78 at h
  split at h
  · exact ⟨rfl, (f60c78_eq _ _ _ _ _).trans h⟩
  · cases h)

/-! ### bailiwick/held.Right: function 40 -/
noncomputable def f40_G : Nat → Option Given := assoc [(58, .pcall P58), (60, .fcall P60c78), (78, .fcall P78)]
/-! loop 4 -/
noncomputable def f40_c4 : Code := ((Tryd.f40).body.bind (findLoop 4)).getD .skip
noncomputable def f40_m4 (x0 : List (List PV)) (x8 : List (List PV)) (x9 : Int) (x10 : Int) : LS := ⟨supd (supd (supd (supd (fun _ => .any) 10 (.pv (.int .i64 x10))) 9 (.pv (.int .i64 x9))) 8 (.pv (.list 4 x8))) 0 (.pv (.list 4 x0)), (fun _ => none), 7, 0⟩
noncomputable def f40_e4_0 : LS := ⟨(fun _ => .any), (fun _ => none), 8, 0⟩
noncomputable def f40_r4 (x2 : Bool) : LS := ⟨supd (fun _ => .any) 2 (.pv (.bool x2)), (fun _ => none), 40, 0⟩
noncomputable def f40_A4 : Ann := ⟨assoc [], assoc [(4, ⟨[0, 8, 9, 10], [], 7, false, []⟩)], assoc [(0, ⟨[], [], 8, false, []⟩)], some ⟨[2], [], 40, false, []⟩⟩
noncomputable def f40_l4 (k0 : Option PV) (kr : Bool → Option PV) : Nat → (List (List PV)) → (List (List PV)) → Int → Int → Option PV
  | 0, _, _, _, _ => none
  | n + 1, x0, x8, x9, x10 => bif decide (x10 < x9) then ((lget x8 x10).bind fun cs1 => (pext cs1 0 4).bind fun p2 => (pcells 4 p2).bind fun cs3 => (pputs [.int .i64 0, .list 1 [], .int .i64 0, .int .i64 0] 0 cs3).bind fun cs4 => ((pext cs4 0 4).bind fun p5 => (P58 [p5]).bind fun r6 => (pun .not r6).bind fun r7 => (pbool r7).bind fun b8 => bif b8 then (some (.bool true)) else (bif decide (x10 > 0) then ((cs4[0]?).bind fun p9 => (lget x0 (IntKind.i64.wrap (x10 - 1))).bind fun cs10 => (cs10[0]?).bind fun p11 => (pbin .leq p9 p11).bind fun r12 => (pbool r12).bind fun b13 => bif b13 then (some (.bool true)) else ((pslice x0 0 x10).bind fun ys14 => (P60c78 [.pv (.list 4 ys14), .clo 78 [.eptr cs4 0]]).bind fun r15 => bif PV.flat r15 then (some r15) else none)) else ((pslice x0 0 x10).bind fun ys16 => (P60c78 [.pv (.list 4 ys16), .clo 78 [.eptr cs4 0]]).bind fun r17 => bif PV.flat r17 then (some r17) else none))).bind fun g18 => (pbool g18).bind fun b19 => bif b19 then (kr false) else (f40_l4 k0 kr n x0 x8 x9 (IntKind.i64.wrap (x10 + 1)))) else k0
theorem f40_b4 (K : LOut × LS → Option PV) (x0 : List (List PV)) (x8 : List (List PV)) (x9 : Int) (x10 : Int) : (lbody T f40_G f40_A4 f40_c4 (f40_m4 x0 x8 x9 x10)).run K =
    bif decide (x10 < x9) then ((lget x8 x10).bind fun cs1 => (pext cs1 0 4).bind fun p2 => (pcells 4 p2).bind fun cs3 => (pputs [.int .i64 0, .list 1 [], .int .i64 0, .int .i64 0] 0 cs3).bind fun cs4 => ((pext cs4 0 4).bind fun p5 => (P58 [p5]).bind fun r6 => (pun .not r6).bind fun r7 => (pbool r7).bind fun b8 => bif b8 then (some (.bool true)) else (bif decide (x10 > 0) then ((cs4[0]?).bind fun p9 => (lget x0 (IntKind.i64.wrap (x10 - 1))).bind fun cs10 => (cs10[0]?).bind fun p11 => (pbin .leq p9 p11).bind fun r12 => (pbool r12).bind fun b13 => bif b13 then (some (.bool true)) else ((pslice x0 0 x10).bind fun ys14 => (P60c78 [.pv (.list 4 ys14), .clo 78 [.eptr cs4 0]]).bind fun r15 => bif PV.flat r15 then (some r15) else none)) else ((pslice x0 0 x10).bind fun ys16 => (P60c78 [.pv (.list 4 ys16), .clo 78 [.eptr cs4 0]]).bind fun r17 => bif PV.flat r17 then (some r17) else none))).bind fun g18 => (pbool g18).bind fun b19 => bif b19 then (K (.ret, f40_r4 false)) else (K (.normal, f40_m4 x0 x8 x9 (IntKind.i64.wrap (x10 + 1))))) else (K (.exit 0, f40_e4_0)) := by kernel_rfl
theorem f40_q4 (K : LOut × LS → Option PV) : ∀ (n : Nat) (x0 : List (List PV)) (x8 : List (List PV)) (x9 : Int) (x10 : Int), (liter (lbody T f40_G f40_A4 f40_c4) n (f40_m4 x0 x8 x9 x10)).run K = f40_l4 (K (.exit 0, f40_e4_0)) (fun x2 => K (.ret, f40_r4 x2)) n x0 x8 x9 x10
  | 0, _, _, _, _ => rfl
  | n + 1, x0, x8, x9, x10 => by
    rw [liter_succ, f40_b4]
    try simp only [lk_normal, lk_exit, lk_ret, f40_q4 K n]
    try rfl
noncomputable def f40_s4 (S : LS) : M (LOut × LS) := match S.sl 0, S.sl 8, S.sl 9, S.sl 10 with
  | .pv (.list 4 x0), .pv (.list 4 x8), .pv (.int .i64 x9), .pv (.int .i64 x10) => .ofEq (liter (lbody T f40_G f40_A4 f40_c4) FU (f40_m4 x0 x8 x9 x10)) (fun K => f40_l4 (K (.exit 0, f40_e4_0)) (fun x2 => K (.ret, f40_r4 x2)) FU x0 x8 x9 x10) (fun K => f40_q4 K FU x0 x8 x9 x10)
  | _, _, _, _ => .fail
theorem f40_v4 {A : Ann} (h1 : (firstRegion f40_c4).bind A.loop = some f40_s4) (h2 : (firstRegion f40_c4).bind A.head = some ⟨[0, 8, 9, 10], [], 7, false, []⟩) : LoopsOk T f40_G (.loop f40_c4) A := by
  refine loopOk_of h1 h2 (A' := f40_A4) (loopsOk_of fun c' hc => by rw [show loopsIn (f40_c4) = [] from by kernel_rfl] at hc; cases hc) fun S0 S o S' hn hs => ?_
  unfold f40_s4 at hs
  split at hs
  · exact loop_fin hs hn rfl (slots_cons (by assumption) (slots_cons (by assumption) (slots_cons (by assumption) (slots_cons (by assumption) slots_nil)))) heap_nil (by kernel_rfl) (by kernel_rfl) (by kernel_rfl) (by kernel_rfl)
  · exact (M.is_fail.1 hs).elim
noncomputable def f40_A : Ann := ⟨assoc [(4, f40_s4)], assoc [(4, ⟨[0, 8, 9, 10], [], 7, false, []⟩)], assoc [], none⟩
noncomputable def F40 (a0 : List (List PV)) : Option PV :=
  bif decide ((a0.length : Int) > 256) then (some (.bool false)) else (f40_l4 (some (.bool true)) (fun (y1 : Bool) => some (.bool y1)) FU a0 a0 (a0.length : Int) 0)
theorem f40_eq (a0 : List (List PV)) : lfunP T f40_G f40_A Tryd.f40 [.pv (.list 4 a0)] = F40 a0 := by kernel_rfl
noncomputable def P40 : List PV → Option PV
  | [.list 4 a0] => F40 a0
  | _ => none
noncomputable def f40_code : Code := (Tryd.f40).body.getD .skip
theorem f40_gok : GOk Tryd.prog f40_G := gok_of (by
  simp only [List.forall_mem_cons, List.not_mem_nil, false_implies, implies_true, and_true]
  exact ⟨f58_ok, f60c78_ok, f78_ok⟩)
theorem f40_ok : GivenOk Tryd.prog 40 (.pcall P40) := given_p tok f40_gok mixed (A := f40_A) (fn := Tryd.f40) (c := f40_code) (by kernel_rfl) (by kernel_rfl) (loopsOk_of fun c' hc => by
    rw [show loopsIn (f40_code) = [f40_c4] from by kernel_rfl] at hc
    simp only [List.mem_cons, List.not_mem_nil, or_false] at hc
    rcases hc with rfl
    · exact f40_v4 (by kernel_rfl) (by kernel_rfl)) (by kernel_rfl) (by kernel_rfl) (k := 1) (Nat.le_of_ble_eq_true (by kernel_rfl)) (by
  intro ps r h
  unfold P40 at h
  split at h
  · exact ⟨rfl, (f40_eq _).trans h⟩
  · cases h)

/-! ### cmp.isNaN[int]: function 117 -/
noncomputable def f117_G : Nat → Option Given := assoc []
noncomputable def f117_A : Ann := ⟨assoc [], assoc [], assoc [], none⟩
noncomputable def F117 (a0 : Int) : Option PV :=
  some (.bool (a0 != a0))
theorem f117_eq (a0 : Int) : lfunP T f117_G f117_A Tryd.f117 [.pv (.int .i64 a0)] = F117 a0 := by kernel_rfl
noncomputable def P117 : List PV → Option PV
  | [.int .i64 a0] => F117 a0
  | _ => none
noncomputable def f117_code : Code := (Tryd.f117).body.getD .skip
theorem f117_gok : GOk Tryd.prog f117_G := gok_of (fun p hp => by cases hp)
theorem f117_ok : GivenOk Tryd.prog 117 (.pcall P117) := given_p tok f117_gok mixed (A := f117_A) (fn := Tryd.f117) (c := f117_code) (by kernel_rfl) (by kernel_rfl) (loopsOk_of fun c' hc => by rw [show loopsIn (f117_code) = [] from by kernel_rfl] at hc; cases hc) (by kernel_rfl) (by kernel_rfl) (k := 1) (Nat.le_of_ble_eq_true (by kernel_rfl)) (by
  intro ps r h
  unfold P117 at h
  split at h
  · exact ⟨rfl, (f117_eq _).trans h⟩
  · cases h)

/-! ### cmp.Compare[int]: function 93 -/
noncomputable def f93_G : Nat → Option Given := assoc [(117, .pcall P117)]
noncomputable def f93_A : Ann := ⟨assoc [], assoc [], assoc [], none⟩
noncomputable def F93 (a0 : Int) (a1 : Int) : Option PV :=
  (P117 [.int .i64 a0]).bind fun r1 => (P117 [.int .i64 a1]).bind fun r2 => (pbool r1).bind fun b3 => bif b3 then ((pbool r2).bind fun b4 => bif b4 then (some (.int .i64 0)) else (some (.int .i64 (-1)))) else ((pbool r2).bind fun b5 => bif b5 then (some (.int .i64 1)) else (bif decide (a0 < a1) then (some (.int .i64 (-1))) else (bif decide (a0 > a1) then (some (.int .i64 1)) else (some (.int .i64 0)))))
theorem f93_eq (a0 : Int) (a1 : Int) : lfunP T f93_G f93_A Tryd.f93 [.pv (.int .i64 a0), .pv (.int .i64 a1)] = F93 a0 a1 := by kernel_rfl
noncomputable def P93 : List PV → Option PV
  | [.int .i64 a0, .int .i64 a1] => F93 a0 a1
  | _ => none
noncomputable def f93_code : Code := (Tryd.f93).body.getD .skip
theorem f93_gok : GOk Tryd.prog f93_G := gok_of (by
  simp only [List.forall_mem_cons, List.not_mem_nil, false_implies, implies_true, and_true]
  exact f117_ok)
theorem f93_ok : GivenOk Tryd.prog 93 (.pcall P93) := given_p tok f93_gok mixed (A := f93_A) (fn := Tryd.f93) (c := f93_code) (by kernel_rfl) (by kernel_rfl) (loopsOk_of fun c' hc => by rw [show loopsIn (f93_code) = [] from by kernel_rfl] at hc; cases hc) (by kernel_rfl) (by kernel_rfl) (k := 2) (Nat.le_of_ble_eq_true (by kernel_rfl)) (by
  intro ps r h
  unfold P93 at h
  split at h
  · exact ⟨rfl, (f93_eq _ _).trans h⟩
  · cases h)

/-! ### bailiwick/held.find$1: function 92 -/
noncomputable def f92_G : Nat → Option Given := assoc [(93, .pcall P93)]
noncomputable def f92_A : Ann := ⟨assoc [], assoc [], assoc [], none⟩
noncomputable def F92 (a0_0 : Int) (a0_1 : List (List PV)) (a0_2 : Int) (a0_3 : Int) (a1 : Int) : Option PV :=
  (P93 [.int .i64 a0_0, .int .i64 a1]).bind fun r1 => some r1
theorem f92_eq (a0_0 : Int) (a0_1 : List (List PV)) (a0_2 : Int) (a0_3 : Int) (a1 : Int) : lfunP T f92_G f92_A Tryd.f92 [.pv (.agg [.int .i64 a0_0, .list 1 a0_1, .int .i64 a0_2, .int .i64 a0_3]), .pv (.int .i64 a1)] = F92 a0_0 a0_1 a0_2 a0_3 a1 := by kernel_rfl
noncomputable def P92 : List PV → Option PV
  | [.agg [.int .i64 a0_0, .list 1 a0_1, .int .i64 a0_2, .int .i64 a0_3], .int .i64 a1] => F92 a0_0 a0_1 a0_2 a0_3 a1
  | _ => none
noncomputable def f92_code : Code := (Tryd.f92).body.getD .skip
theorem f92_gok : GOk Tryd.prog f92_G := gok_of (by
  simp only [List.forall_mem_cons, List.not_mem_nil, false_implies, implies_true, and_true]
  exact f93_ok)
theorem f92_ok : GivenOk Tryd.prog 92 (.pcall P92) := given_p tok f92_gok mixed (A := f92_A) (fn := Tryd.f92) (c := f92_code) (by kernel_rfl) (by kernel_rfl) (loopsOk_of fun c' hc => by rw [show loopsIn (f92_code) = [] from by kernel_rfl] at hc; cases hc) (by kernel_rfl) (by kernel_rfl) (k := 2) (Nat.le_of_ble_eq_true (by kernel_rfl)) (by
  intro ps r h
  unfold P92 at h
  split at h
  · exact ⟨rfl, (f92_eq _ _ _ _ _).trans h⟩
  · cases h)

/-! ### slices.BinarySearchFunc[[]bailiwick/api.Held,bailiwick/api.Held,int]: function 91 -/
noncomputable def f91c92_G : Nat → Option Given := assoc [(92, .pcall P92)]
/-! loop 3 -/
noncomputable def f91c92_c3 : Code := ((Tryd.f91).body.bind (findLoop 3)).getD .skip
noncomputable def f91c92_m3 (x0 : List (List PV)) (x1 : Int) (x8 : Int) (x9 : PV) (x10 : PV) : LS := ⟨supd (supd (supd (supd (supd (supd (fun _ => .any) 10 (.pv x10)) 9 (.pv x9)) 8 (.pv (.int .i64 x8))) 2 (.clo 92 [])) 1 (.pv (.int .i64 x1))) 0 (.pv (.list 4 x0)), (fun _ => none), 8, 0⟩
noncomputable def f91c92_e3_0 (x0 : List (List PV)) (x1 : Int) (x8 : Int) (x9 : PV) : LS := ⟨supd (supd (supd (supd (supd (fun _ => .any) 9 (.pv x9)) 8 (.pv (.int .i64 x8))) 2 (.clo 92 [])) 1 (.pv (.int .i64 x1))) 0 (.pv (.list 4 x0)), (fun _ => none), 11, 0⟩
noncomputable def f91c92_A3 : Ann := ⟨assoc [], assoc [(3, ⟨[0, 1, 2, 8, 9, 10], [], 8, false, []⟩)], assoc [(0, ⟨[0, 1, 2, 8, 9], [], 11, false, []⟩)], none⟩
noncomputable def f91c92_l3 (k0 : (List (List PV)) → Int → Int → PV → Option PV) : Nat → (List (List PV)) → Int → Int → PV → PV → Option PV
  | 0, _, _, _, _, _ => none
  | n + 1, x0, x1, x8, x9, x10 => (pbin .lss x9 x10).bind fun r1 => (pbool r1).bind fun b2 => bif b2 then ((pbin .add x9 x10).bind fun r3 => (pconv T 119 r3).bind fun r4 => (pbin .shr r4 (.int .u64 1)).bind fun r5 => (pconv T 3 r5).bind fun r6 => (pint r6).bind fun n7 => (lget x0 n7).bind fun cs8 => (pext cs8 0 4).bind fun p9 => (P92 [p9, .int .i64 x1]).bind fun r10 => (pbin .lss r10 (.int .i64 0)).bind fun r11 => (pbool r11).bind fun b12 => bif b12 then ((pbin .add r6 (.int .i64 1)).bind fun r13 => f91c92_l3 k0 n x0 x1 x8 r13 x10) else (f91c92_l3 k0 n x0 x1 x8 x9 r6)) else (k0 x0 x1 x8 x9)
theorem f91c92_b3 (K : LOut × LS → Option PV) (x0 : List (List PV)) (x1 : Int) (x8 : Int) (x9 : PV) (x10 : PV) : (lbody T f91c92_G f91c92_A3 f91c92_c3 (f91c92_m3 x0 x1 x8 x9 x10)).run K =
    (pbin .lss x9 x10).bind fun r1 => (pbool r1).bind fun b2 => bif b2 then ((pbin .add x9 x10).bind fun r3 => (pconv T 119 r3).bind fun r4 => (pbin .shr r4 (.int .u64 1)).bind fun r5 => (pconv T 3 r5).bind fun r6 => (pint r6).bind fun n7 => (lget x0 n7).bind fun cs8 => (pext cs8 0 4).bind fun p9 => (P92 [p9, .int .i64 x1]).bind fun r10 => (pbin .lss r10 (.int .i64 0)).bind fun r11 => (pbool r11).bind fun b12 => bif b12 then ((pbin .add r6 (.int .i64 1)).bind fun r13 => K (.normal, f91c92_m3 x0 x1 x8 r13 x10)) else (K (.normal, f91c92_m3 x0 x1 x8 x9 r6))) else (K (.exit 0, f91c92_e3_0 x0 x1 x8 x9)) := by kernel_rfl
theorem f91c92_q3 (K : LOut × LS → Option PV) : ∀ (n : Nat) (x0 : List (List PV)) (x1 : Int) (x8 : Int) (x9 : PV) (x10 : PV), (liter (lbody T f91c92_G f91c92_A3 f91c92_c3) n (f91c92_m3 x0 x1 x8 x9 x10)).run K = f91c92_l3 (fun x0 x1 x8 x9 => K (.exit 0, f91c92_e3_0 x0 x1 x8 x9)) n x0 x1 x8 x9 x10
  | 0, _, _, _, _, _ => rfl
  | n + 1, x0, x1, x8, x9, x10 => by
    rw [liter_succ, f91c92_b3]
    try simp only [lk_normal, lk_exit, lk_ret, f91c92_q3 K n]
    try rfl
noncomputable def f91c92_s3 (S : LS) : M (LOut × LS) := match S.sl 0, S.sl 1, S.sl 2, S.sl 8, S.sl 9, S.sl 10 with
  | .pv (.list 4 x0), .pv (.int .i64 x1), .clo 92 [], .pv (.int .i64 x8), .pv x9, .pv x10 => .ofEq (liter (lbody T f91c92_G f91c92_A3 f91c92_c3) FU (f91c92_m3 x0 x1 x8 x9 x10)) (fun K => f91c92_l3 (fun x0 x1 x8 x9 => K (.exit 0, f91c92_e3_0 x0 x1 x8 x9)) FU x0 x1 x8 x9 x10) (fun K => f91c92_q3 K FU x0 x1 x8 x9 x10)
  | _, _, _, _, _, _ => .fail
theorem f91c92_v3 {A : Ann} (h1 : (firstRegion f91c92_c3).bind A.loop = some f91c92_s3) (h2 : (firstRegion f91c92_c3).bind A.head = some ⟨[0, 1, 2, 8, 9, 10], [], 8, false, []⟩) : LoopsOk T f91c92_G (.loop f91c92_c3) A := by
  refine loopOk_of h1 h2 (A' := f91c92_A3) (loopsOk_of fun c' hc => by rw [show loopsIn (f91c92_c3) = [] from by kernel_rfl] at hc; cases hc) fun S0 S o S' hn hs => ?_
  unfold f91c92_s3 at hs
  split at hs
  · exact loop_fin hs hn rfl (slots_cons (by assumption) (slots_cons (by assumption) (slots_cons (by assumption) (slots_cons (by assumption) (slots_cons (by assumption) (slots_cons (by assumption) slots_nil)))))) heap_nil (by kernel_rfl) (by kernel_rfl) (by kernel_rfl) (by kernel_rfl)
  · exact (M.is_fail.1 hs).elim
noncomputable def f91c92_A : Ann := ⟨assoc [(3, f91c92_s3)], assoc [(3, ⟨[0, 1, 2, 8, 9, 10], [], 8, false, []⟩)], assoc [], none⟩
noncomputable def F91c92 (a0 : List (List PV)) (a1 : Int) : Option PV :=
  f91c92_l3 (fun (y1 : List (List PV)) (y2 : Int) (y3 : Int) (y4 : PV) => ((pbin .lss y4 (.int .i64 y3)).bind fun r5 => (pbool r5).bind fun b6 => bif b6 then ((pint y4).bind fun n7 => (lget y1 n7).bind fun cs8 => (pext cs8 0 4).bind fun p9 => (P92 [p9, .int .i64 y2]).bind fun r10 => (pbin .eql r10 (.int .i64 0)).bind fun r11 => some (.tup [r11, y4])) else (some (.tup [.bool false, y4]))).bind fun g12 => (pnth g12 0).bind fun p13 => (pnth g12 1).bind fun p14 => some (.tup [p14, p13])) FU a0 a1 (a0.length : Int) (.int .i64 0) (.int .i64 (a0.length : Int))
theorem f91c92_eq (a0 : List (List PV)) (a1 : Int) : lfunP T f91c92_G f91c92_A Tryd.f91 [.pv (.list 4 a0), .pv (.int .i64 a1), .clo 92 []] = F91c92 a0 a1 := by kernel_rfl
noncomputable def P91c92 : List LV → Option PV
  | [.pv (.list 4 a0), .pv (.int .i64 a1), .clo 92 []] => F91c92 a0 a1
  | _ => none
noncomputable def f91c92_code : Code := (Tryd.f91).body.getD .skip
theorem f91c92_gok : GOk Tryd.prog f91c92_G := gok_of (by
  simp only [List.forall_mem_cons, List.not_mem_nil, false_implies, implies_true, and_true]
  exact f92_ok)
theorem f91c92_ok : GivenOk Tryd.prog 91 (.fcall P91c92) := given_f tok f91c92_gok mixed (A := f91c92_A) (fn := Tryd.f91) (c := f91c92_code) (by kernel_rfl) (by kernel_rfl) (loopsOk_of fun c' hc => by
    rw [show loopsIn (f91c92_code) = [f91c92_c3] from by kernel_rfl] at hc
    simp only [List.mem_cons, List.not_mem_nil, or_false] at hc
    rcases hc with rfl
    · exact f91c92_v3 (by kernel_rfl) (by kernel_rfl)) (by kernel_rfl) (by kernel_rfl) (k := 3) (Nat.le_of_ble_eq_true (by kernel_rfl)) (by
  intro ps r h
  unfold P91c92 at h
  split at h
  · exact ⟨rfl, (f91c92_eq _ _).trans h⟩
  · cases h)

/-! ### bailiwick/held.find: function 59 -/
noncomputable def f59_G : Nat → Option Given := assoc [(91, .fcall P91c92), (92, .pcall P92)]
noncomputable def f59_A : Ann := ⟨assoc [], assoc [], assoc [], none⟩
noncomputable def F59 (a0 : List (List PV)) (a1 : Int) : Option PV :=
  (P91c92 [.pv (.list 4 a0), .pv (.int .i64 a1), .clo 92 []]).bind fun r1 => (pnth r1 0).bind fun p2 => (pnth r1 1).bind fun p3 => some (.tup [p2, p3])
theorem f59_eq (a0 : List (List PV)) (a1 : Int) : lfunP T f59_G f59_A Tryd.f59 [.pv (.list 4 a0), .pv (.int .i64 a1)] = F59 a0 a1 := by kernel_rfl
noncomputable def P59 : List PV → Option PV
  | [.list 4 a0, .int .i64 a1] => F59 a0 a1
  | _ => none
noncomputable def f59_code : Code := (Tryd.f59).body.getD .skip
theorem f59_gok : GOk Tryd.prog f59_G := gok_of (by
  simp only [List.forall_mem_cons, List.not_mem_nil, false_implies, implies_true, and_true]
  exact ⟨f91c92_ok, f92_ok⟩)
theorem f59_ok : GivenOk Tryd.prog 59 (.pcall P59) := given_p tok f59_gok mixed (A := f59_A) (fn := Tryd.f59) (c := f59_code) (by kernel_rfl) (by kernel_rfl) (loopsOk_of fun c' hc => by rw [show loopsIn (f59_code) = [] from by kernel_rfl] at hc; cases hc) (by kernel_rfl) (by kernel_rfl) (k := 2) (Nat.le_of_ble_eq_true (by kernel_rfl)) (by
  intro ps r h
  unfold P59 at h
  split at h
  · exact ⟨rfl, (f59_eq _ _).trans h⟩
  · cases h)

/-! ### bailiwick/held.Add$1: function 61 -/
noncomputable def f61_G : Nat → Option Given := assoc [(62, .pcall P62)]
noncomputable def f61_A : Ann := ⟨assoc [], assoc [], assoc [], none⟩
noncomputable def F61 (a0_0 : Int) (a0_1 : List (List PV)) (a0_2 : Int) (a0_3 : Int) (a1_0 : Int) (a1_1 : List (List PV)) (a1_2 : Int) (a1_3 : Int) : Option PV :=
  (P62 [.agg [.int .i64 a0_0, .list 1 a0_1, .int .i64 a0_2, .int .i64 a0_3], .agg [.int .i64 a1_0, .list 1 a1_1, .int .i64 a1_2, .int .i64 a1_3]]).bind fun r1 => some r1
theorem f61_eq (a0_0 : Int) (a0_1 : List (List PV)) (a0_2 : Int) (a0_3 : Int) (a1_0 : Int) (a1_1 : List (List PV)) (a1_2 : Int) (a1_3 : Int) : lfunP T f61_G f61_A Tryd.f61 [.pv (.agg [.int .i64 a0_0, .list 1 a0_1, .int .i64 a0_2, .int .i64 a0_3]), .eptr [.int .i64 a1_0, .list 1 a1_1, .int .i64 a1_2, .int .i64 a1_3] 0] = F61 a0_0 a0_1 a0_2 a0_3 a1_0 a1_1 a1_2 a1_3 := by kernel_rfl
noncomputable def P61 : List LV → Option PV
  | [.pv (.agg [.int .i64 a0_0, .list 1 a0_1, .int .i64 a0_2, .int .i64 a0_3]), .eptr [.int .i64 a1_0, .list 1 a1_1, .int .i64 a1_2, .int .i64 a1_3] 0] => F61 a0_0 a0_1 a0_2 a0_3 a1_0 a1_1 a1_2 a1_3
  | _ => none
noncomputable def f61_code : Code := (Tryd.f61).body.getD .skip
theorem f61_gok : GOk Tryd.prog f61_G := gok_of (by
  simp only [List.forall_mem_cons, List.not_mem_nil, false_implies, implies_true, and_true]
  exact f62_ok)
theorem f61_ok : GivenOk Tryd.prog 61 (.fcall P61) := given_f tok f61_gok mixed (A := f61_A) (fn := Tryd.f61) (c := f61_code) (by kernel_rfl) (by kernel_rfl) (loopsOk_of fun c' hc => by rw [show loopsIn (f61_code) = [] from by kernel_rfl] at hc; cases hc) (by kernel_rfl) (by kernel_rfl) (k := 2) (Nat.le_of_ble_eq_true (by kernel_rfl)) (by
  intro ps r h
  unfold P61 at h
  split at h
  · exact ⟨rfl, (f61_eq _ _ _ _ _ _ _ _).trans h⟩
  · cases h)
end Go.Bw.A
