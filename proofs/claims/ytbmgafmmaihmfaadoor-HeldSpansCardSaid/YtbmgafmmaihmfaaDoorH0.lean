/- What Go's library does to rows: plain definitions. No statement of a law is proved here. -/
import Derived.Test.YtbmgafmmaihmfaaDoorL27
import Derived.Lib.SlicesCompact
set_option linter.unusedVariables false
namespace Go.Bw

/-- Rows put in between. -/
def linsert (xs : List (List PV)) (i : Int) (ys : List (List PV)) : Option (List (List PV)) :=
  if 0 ≤ i ∧ i ≤ xs.length ∧ 0 < ys.length ∧ xs.length + ys.length ≤ LIM then some (xs.take i.toNat ++ ys ++ xs.drop i.toNat) else none
/-- Rows taken out. -/
def ldelete (xs : List (List PV)) (i j : Int) : Option (List (List PV)) :=
  if 0 ≤ i ∧ i ≤ j ∧ j ≤ xs.length ∧ xs.length ≤ LIM then some (xs.take i.toNat ++ xs.drop j.toNat) else none
/-- Rows of one whole number each. -/
def rowInts : List (List PV) → Option (List Int)
  | [] => some []
  | [.int .i64 n] :: r => (rowInts r).map (n :: ·)
  | _ :: _ => none
def intRows (l : List Int) : List (List PV) := l.map fun n => [.int .i64 n]
def lsort (xs : List (List PV)) : Option (List (List PV)) := (rowInts xs).bind fun l => if l.length ≤ LIM then some (intRows (l.mergeSort fun x y => decide (x ≤ y))) else none
def lcompact (xs : List (List PV)) : Option (List (List PV)) := (rowInts xs).bind fun l => if l.length ≤ LIM then some (intRows (Lib.compact l)) else none
/-- A whole number of 64 bits. -/
def pi64 : PV → Option Int | .int .i64 n => some n | _ => none
def kinsert (e0 s0 : Nat) : List LV → M LSem
  | [.osl id n, .pv p, .osl id2 n2] => do
    let i ← M.lift (pi64 p)
    pure (.take2 id2 id fun o2 o => match o2, o with
      | .sl _ sz2 ys _, .sl e sz xs false => bif !(Nat.beq sz2 s0 && Nat.beq sz s0 && Nat.beq e e0) then M.fail else M.ite (xs.length == n) (M.ite (ys.length == n2) (do
          let zs ← M.lift (linsert xs i ys)
          pure (.pv (.list sz zs))) M.fail) M.fail
      | _, _ => M.fail)
  | _ => M.fail
def kdelete (e0 s0 : Nat) : List LV → M LSem
  | [.osl id n, .pv p, .pv q] => do
    let i ← M.lift (pi64 p)
    let j ← M.lift (pi64 q)
    pure (.take id fun o => match o with
      | .sl e sz xs false => bif !(Nat.beq sz s0 && Nat.beq e e0) then M.fail else M.ite (xs.length == n) (do
          let zs ← M.lift (ldelete xs i j)
          pure (.pv (.list sz zs))) M.fail
      | _ => M.fail)
  | _ => M.fail
def ksort : List LV → M LSem
  | [.osl id n] => pure (.mod id fun o => match o with
    | .sl e sz xs false => M.ite (xs.length == n) (do
        let zs ← M.lift (lsort xs)
        pure (.any, .sl e sz zs false)) M.fail
    | _ => M.fail)
  | _ => M.fail
def kcompact : List LV → M LSem
  | [.osl id n] => pure (.take id fun o => match o with
    | .sl _ sz xs false => M.ite (xs.length == n) (do
        let zs ← M.lift (lcompact xs)
        pure (.pv (.list sz zs))) M.fail
    | _ => M.fail)
  | _ => M.fail
end Go.Bw
