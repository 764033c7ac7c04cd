/- Plain lemmas on tables of holdings: no program in sight. -/
import Derived.Test.YtbmgafmmaihmfaaDoorS0
set_option linter.unusedVariables false
set_option linter.unusedSimpArgs false
namespace Go.Bw

structure HeldV where
  id : Int
  things : List Int
  fr : Int
  to : Int
  deriving DecidableEq, Inhabited
def NEV : Int := 4611686018427387904
def whenR (t : Int) : Bool := decide (0 ≤ t) && decide (t ≤ NEV)
/-- Two spans have a time in common. -/
def meetsB (a b c d : Int) : Bool := decide (a < b) && decide (a < d) && decide (c < b) && decide (c < d)
def mayB (h : HeldV) : Bool := decide (0 < h.things.length) && setR h.things && whenR h.fr && whenR h.to && decide (h.fr < h.to)
/-- Something is in both. -/
def touchB (a b : List Int) : Bool := a.any fun n => b.contains n
def clashB (a b : HeldV) : Bool := meetsB a.fr a.to b.fr b.to && touchB a.things b.things
def okPair (a b : HeldV) : Bool := decide (a.id < b.id) && !clashB a b
def pairB : List HeldV → Bool
  | [] => true
  | h :: r => r.all (okPair h) && pairB r
def rightT (l : List HeldV) : Bool := decide (l.length ≤ 256) && l.all mayB && pairB l
/-- As the texts go: one behind the other. -/
def rightGo : List HeldV → List HeldV → Bool
  | _, [] => true
  | pre, h :: r => mayB h && (match pre.getLast? with | none => true | some x => decide (x.id < h.id)) && !pre.any (fun x => clashB x h) && rightGo (pre ++ [h]) r

theorem apart_touch {a b : List Int} (ha : setR a = true) (hb : setR b = true) : apartS a b = !touchB a b := by
  unfold apartS touchB
  rw [ha, hb]
  simp [List.not_any_eq_all_not]
theorem pairB_iff {l : List HeldV} : pairB l = true ↔ l.Pairwise (fun a b => okPair a b = true) := by
  induction l with
  | nil => simp [pairB]
  | cons h r ih => simp [pairB, ih, List.pairwise_cons, List.all_eq_true]
theorem okPair_id {a b : HeldV} (h : okPair a b = true) : a.id < b.id := by simp [okPair] at h; exact h.1
theorem okPair_clash {a b : HeldV} (h : okPair a b = true) : clashB a b = false := by simp [okPair] at h; exact h.2
theorem touch_comm (a b : List Int) : touchB a b = touchB b a := by
  rw [Bool.eq_iff_iff]
  simp only [touchB, List.any_eq_true, List.contains_iff_mem]
  exact ⟨fun ⟨n, h1, h2⟩ => ⟨n, h2, h1⟩, fun ⟨n, h1, h2⟩ => ⟨n, h2, h1⟩⟩
theorem meets_comm (a b c d : Int) : meetsB a b c d = meetsB c d a b := by
  rw [Bool.eq_iff_iff]; simp only [meetsB, Bool.and_eq_true, decide_eq_true_eq]; omega
theorem clash_comm (a b : HeldV) : clashB a b = clashB b a := by unfold clashB; rw [touch_comm, meets_comm]
theorem rightGo_eq (l : List HeldV) : ∀ pre : List HeldV, pairB pre = true → rightGo pre l = (l.all mayB && pairB (pre ++ l)) := by
  induction l with
  | nil => intro pre hp; simp [rightGo, hp]
  | cons h r ih =>
    intro pre hp
    have hp' := pairB_iff.1 hp
    have key : ((match pre.getLast? with | none => true | some x => decide (x.id < h.id)) && !pre.any (fun x => clashB x h)) = pairB (pre ++ [h]) := by
      rw [Bool.eq_iff_iff, pairB_iff, List.pairwise_append]
      simp only [Bool.and_eq_true, Bool.not_eq_true', List.any_eq_false, List.pairwise_cons, List.not_mem_nil, false_implies, implies_true, List.Pairwise.nil, and_self, true_and, List.mem_singleton, forall_eq]
      constructor
      · rintro ⟨h1, h2⟩
        refine ⟨hp', fun x hx => ?_⟩
        have : x.id < h.id := by
          cases hl : pre.getLast? with
          | none => rw [List.getLast?_eq_none_iff.1 hl] at hx; cases hx
          | some y =>
            simp only [hl, decide_eq_true_eq] at h1
            obtain ⟨ys, rfl⟩ := List.getLast?_eq_some_iff.1 hl
            rcases List.mem_append.1 hx with hx | hx
            · have := okPair_id ((List.pairwise_append.1 hp').2.2 x hx y (by simp)); omega
            · rw [List.mem_singleton.1 hx]; exact h1
        simp only [okPair, this, decide_true, Bool.true_and, Bool.not_eq_true']
        simpa using h2 x hx
      · rintro ⟨_, h2⟩
        refine ⟨?_, fun x hx => by simpa using okPair_clash (h2 x hx)⟩
        cases hl : pre.getLast? with
        | none => rfl
        | some y =>
          obtain ⟨ys, rfl⟩ := List.getLast?_eq_some_iff.1 hl
          simpa using okPair_id (h2 y (by simp))
    rw [rightGo, Bool.and_assoc (mayB h), key]
    cases hm : mayB h with
    | false => simp [hm]
    | true =>
      cases hk : pairB (pre ++ [h]) with
      | false =>
        simp only [Bool.and_false, Bool.false_and, List.all_cons, hm, Bool.true_and]
        symm
        rw [Bool.and_eq_false_iff]
        right
        rw [Bool.eq_false_iff] at hk ⊢
        intro hc
        refine hk (pairB_iff.2 ?_)
        have := pairB_iff.1 hc
        rw [show pre ++ h :: r = (pre ++ [h]) ++ r by simp] at this
        exact (List.pairwise_append.1 this).1
      | true =>
        rw [ih _ hk]
        simp [hm]
theorem rightGo_nil (l : List HeldV) : rightGo [] l = (l.all mayB && pairB l) := rightGo_eq l [] rfl
theorem rightT_iff {l : List HeldV} : rightT l = true ↔ l.length ≤ 256 ∧ (∀ h, h ∈ l → mayB h = true) ∧ l.Pairwise (fun a b => okPair a b = true) := by
  simp only [rightT, Bool.and_eq_true, decide_eq_true_eq, List.all_eq_true, pairB_iff, and_assoc]

/-! ### what is done with tables -/
def posT (l : List HeldV) (id : Int) : Nat := (l.takeWhile fun h => decide (h.id < id)).length
def getT (l : List HeldV) (id : Int) : Option HeldV := l.find? fun h => h.id == id
def insT (l : List HeldV) (h : HeldV) : List HeldV := (l.takeWhile fun x => decide (x.id < h.id)) ++ h :: l.dropWhile fun x => decide (x.id < h.id)
def hasId (l : List HeldV) (id : Int) : Bool := l.any fun h => h.id == id
def addT (l : List HeldV) (h : HeldV) : List HeldV × Int :=
  if !(rightT l && mayB h) then (l, 1) else if hasId l h.id then (l, 7) else if l.length == 256 || l.any (fun x => clashB x h) then (l, 5) else (insT l h, 0)
def zeroH : HeldV := ⟨0, [], 0, 0⟩
def dropT (l : List HeldV) (id : Int) : List HeldV × HeldV × Int :=
  if !rightT l then (l, zeroH, 1) else match getT l id with | none => (l, zeroH, 6) | some h => (l.filter (fun x => x.id != id), h, 0)
def getR (l : List HeldV) (id : Int) : Option HeldV := if rightT l then getT l id else none
def busyG (l : List HeldV) (f t : Int) : List Int := l.foldl (fun o h => if meetsB h.fr h.to f t then joinS o h.things else o) []
def busyT (l : List HeldV) (f t : Int) : List Int := if rightT l then busyG l f t else []
def overT (l : List HeldV) (now : Int) : List HeldV × List HeldV :=
  if rightT l then (l.filter (fun h => decide (now < h.to)), l.filter (fun h => decide (h.to ≤ now))) else (l, [])
def cutT (l : List HeldV) (id to : Int) : List HeldV × Int :=
  if !rightT l then (l, 1) else match getT l id with
    | none => (l, 6)
    | some h => if to ≤ h.fr || h.to < to then (l, 1) else (l.map (fun x => if x.id == id then { x with to := to } else x), 0)

theorem joinS_fl {p : Int → Bool} {b : List Int} (hb : setR b = true) : joinS (fl p) b = fl fun n => p n || b.contains n := by
  unfold joinS
  rw [fl_set, hb]
  refine fl_ext fun n h0 h1 => ?_
  rw [contains_fl]; simp [h0, h1]
theorem busyG_from {l : List HeldV} (hl : ∀ h, h ∈ l → setR h.things = true) (f t : Int) : ∀ p : Int → Bool,
    l.foldl (fun o h => if meetsB h.fr h.to f t then joinS o h.things else o) (fl p) = fl fun n => p n || l.any fun h => meetsB h.fr h.to f t && h.things.contains n := by
  induction l with
  | nil => intro p; simp
  | cons h r ih =>
    intro p
    have ih := ih fun x hx => hl x (List.mem_cons_of_mem _ hx)
    rw [List.foldl_cons]
    cases hm : meetsB h.fr h.to f t with
    | false => simp only [Bool.false_eq_true, if_false, ih, List.any_cons, hm, Bool.false_and, Bool.false_or]
    | true =>
      rw [if_pos rfl, joinS_fl (hl h List.mem_cons_self), ih]
      refine fl_ext fun n _ _ => ?_
      simp [hm, Bool.or_assoc]
theorem busyG_fl {l : List HeldV} (hl : ∀ h, h ∈ l → setR h.things = true) (f t : Int) : busyG l f t = fl fun n => l.any fun h => meetsB h.fr h.to f t && h.things.contains n := by
  have := busyG_from hl f t fun _ => false
  have e : fl (fun _ => false) = [] := by simp [fl]
  rw [e] at this
  unfold busyG
  rw [this]
  simp
theorem may_set {h : HeldV} (hm : mayB h = true) : setR h.things = true := by simp [mayB] at hm; exact hm.1.1.1.2
theorem right_set {l : List HeldV} (h : rightT l = true) : ∀ x, x ∈ l → setR x.things = true := fun x hx => may_set ((rightT_iff.1 h).2.1 x hx)
end Go.Bw
