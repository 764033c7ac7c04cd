/- What reads as data is told by value. No statement of a law is proved here. -/
import Derived.Test.YtbmgafmmaihmfaaDoorL27
import Derived.ChangeShapes
set_option linter.unusedVariables false
set_option linter.unusedSimpArgs false
namespace Go.Bw
open Go.RowKit M

/-- Cells of a type. -/
inductive WT (T : Nat → TI) : Nat → List PV → Prop
  | int (t : Nat) (k : IntKind) (n : Int) (h : (T t).u = .int k) (h1 : k.min ≤ n) (h2 : n ≤ k.max) : WT T t [.int k n]
  | flt (t : Nat) (k : FloatKind) (n : Nat) (h : (T t).u = .flt k) (h1 : (Lit.float k n).wf = true) : WT T t [.flt k n]
  | bool (t : Nat) (b : Bool) (h : (T t).u = .bool) : WT T t [.bool b]
  | str (t : Nat) (s : ByteArray) (h : (T t).u = .str) (h1 : s.size ≤ maxLen) : WT T t [.str s]
  | slice (t e : Nat) (xs : List (List PV)) (h : (T t).u = .slice e) (h1 : xs.length ≤ maxLen) (h2 : ∀ r, r ∈ xs → WT T e r) : WT T t [.list (T e).size xs]
  | struct (t : Nat) (fs : List (Nat × Nat)) (css : List (List PV)) (h : (T t).u = .struct fs) (hl : css.length = fs.length) (h1 : ∀ (i : Nat) (f : Nat × Nat) (cs : List PV), fs[i]? = some f → css[i]? = some cs → WT T f.1 cs) : WT T t css.flatten

/-- The parts lie one behind the other. -/
def tile (T : Nat → TI) : Nat → List (Nat × Nat) → Nat → Bool
  | k, [], n => Nat.beq k n
  | k, (t, off) :: r, n => Nat.beq k off && nz T t && tile T (k + (T t).size) r n
/-- Values of the type can be read. -/
def rdT (T : Nat → TI) : Nat → Nat → Bool
  | 0, _ => false
  | n + 1, t => match (T t).u with
    | .int _ => true | .flt _ => true | .bool => true | .str => true
    | .slice e => nz T e && rdT T n e
    | .struct fs => tile T 0 fs (T t).size && fs.all (fun f => rdT T n f.1)
    | _ => false

theorem optMapM_get {α β : Type} {f : α → Option β} : ∀ {l : List α} {r : List β}, l.mapM f = some r → r.length = l.length ∧ ∀ (i : Nat) (x : α), l[i]? = some x → ∃ y, r[i]? = some y ∧ f x = some y
  | [], r, h => by
    simp only [List.mapM_nil, Option.pure_def, Option.some.injEq] at h
    subst h
    exact ⟨rfl, by simp⟩
  | a :: l, r, h => by
    rw [List.mapM_cons] at h
    simp only [Option.bind_eq_bind, Option.pure_def, Option.bind_eq_some_iff, Option.some.injEq] at h
    obtain ⟨y, h1, ys, h2, rfl⟩ := h
    obtain ⟨g1, g2⟩ := optMapM_get h2
    refine ⟨by simp [g1], fun i x hx => ?_⟩
    cases i with
    | zero => simp at hx; subst hx; exact ⟨y, rfl, h1⟩
    | succ i => exact g2 i x (by simpa using hx)
section
variable {H : Type} {enc : TypeId × Value → H} {P : Program} {T : Nat → TI} {w : World}
/-- Cells, told. -/
def Told (T : Nat → TI) (w : World) (t : Nat) (cs : List Value) (qs : List PV) : Prop :=
  cs.length = qs.length ∧ cs.length = (T t).size ∧ (∀ q, q ∈ qs → q.scal = true) ∧ (∀ (i : Nat) (v : Value) (p : PV), cs[i]? = some v → qs[i]? = some p → PR w okAll v p) ∧ WT T t qs
theorem told_one {t : Nat} {v : Value} {q : PV} (hs : (T t).size = 1) (hq : q.scal = true) (hp : PR w okAll v q) (hw : WT T t [q]) : Told T w t [v] [q] :=
  ⟨rfl, hs.symm, by simpa using hq, fun i u p h1 h2 => by
    cases i with
    | zero => simp at h1 h2; subst h1; subst h2; exact hp
    | succ i => simp at h1, hw⟩
theorem cellsOf_fact {t : Nat} {I : TI} {i : TypeInfo} {d : TypeDesc} {z : Value} (hf : TFact P t I i d z) : P.cellsOf t = I.size := by
  unfold Program.cellsOf
  rw [hf.info]
  simpa using hf.size
theorem cells_get {a : Addr} {n : Nat} {cs : List Value} (h : w.cells? 0 a n = some cs) : cs.length = n ∧ ∀ j, j < n → ∃ u, cs[j]? = some u ∧ w.cell? (a.add j) = some u := by
  unfold World.cells? at h
  rw [if_pos (Nat.zero_le _)] at h
  obtain ⟨h1, h2⟩ := optMapM_get h
  refine ⟨by simpa using h1, fun j hj => ?_⟩
  obtain ⟨y, g1, g2⟩ := h2 j j (by simp [hj])
  exact ⟨y, g1, g2⟩
theorem flat_parts {fs : List (Nat × Nat)} (hT : TOk P T) : ∀ {k n : Nat} {cs : List Value} {css : List (List Value × List PV)}, tile T k fs n = true → k + cs.length = n → css.length = fs.length →
    (∀ (i : Nat) (f : Nat × Nat) (c : List Value × List PV), fs[i]? = some f → css[i]? = some c → c.1 = (cs.drop (f.2 - k)).take (T f.1).size ∧ c.1.length = (T f.1).size) →
    cs = (css.map (·.1)).flatten ∧ k ≤ n := by
  induction fs with
  | nil =>
    intro k n cs css ht hl hc _
    have : css = [] := List.eq_nil_of_length_eq_zero hc
    subst this
    have := Nat.eq_of_beq_eq_true ht
    have : cs = [] := List.eq_nil_of_length_eq_zero (by omega)
    subst this
    exact ⟨rfl, by omega⟩
  | cons f r ih =>
    intro k n cs css ht hl hc hh
    obtain ⟨t, off⟩ := f
    simp only [tile, Bool.and_eq_true] at ht
    obtain ⟨⟨h1, h2⟩, h3⟩ := ht
    have h1 := Nat.eq_of_beq_eq_true h1
    subst h1
    cases css with
    | nil => simp at hc
    | cons c css =>
      obtain ⟨e1, e2⟩ := hh 0 _ c rfl rfl
      simp only [Nat.sub_self, List.drop_zero] at e1 e2
      have hle : (T t).size ≤ cs.length := by
        have := congrArg List.length e1
        rw [e2, List.length_take] at this
        omega
      have htl : ∀ (i : Nat) (f : Nat × Nat) (c : List Value × List PV), r[i]? = some f → css[i]? = some c → c.1 = ((cs.drop (T t).size).drop (f.2 - (k + (T t).size))).take (T f.1).size ∧ c.1.length = (T f.1).size := by
        intro i f c g1 g2
        obtain ⟨e3, e4⟩ := hh (i + 1) f c (by simpa using g1) (by simpa using g2)
        refine ⟨?_, e4⟩
        rw [e3, List.drop_drop]
        have hoff : k + (T t).size ≤ f.2 := by
          clear ih hh e3 e4 e1 e2
          have key : ∀ (r : List (Nat × Nat)) (m : Nat), tile T m r n = true → ∀ (i : Nat) (f : Nat × Nat), r[i]? = some f → m ≤ f.2 := by
            intro r
            induction r with
            | nil => intro m _ i f hf; simp at hf
            | cons g r ih =>
              intro m hm i f hf
              obtain ⟨t', o'⟩ := g
              simp only [tile, Bool.and_eq_true] at hm
              have := Nat.eq_of_beq_eq_true hm.1.1
              cases i with
              | zero => simp at hf; subst hf; simp only; omega
              | succ i => have := ih _ hm.2 i f (by simpa using hf); omega
          exact key r _ h3 i f g1
        congr 2
        omega
      obtain ⟨e5, e6⟩ := ih h3 (cs := cs.drop (T t).size) (css := css) (by rw [List.length_drop]; omega) (by simpa using hc) htl
      refine ⟨?_, by omega⟩
      rw [List.map_cons, List.flatten_cons, ← e5, e1]
      exact (List.take_append_drop _ _).symm
theorem trod_slice_inv {t e fuel : Nat} {cs : List Value} {d : DataW H} {ps : List MemPlace} (hu : P.underlying t = some (.slice e)) (h : DataW.trod enc P w 0 (fun _ => true) true (fuel + 1) t cs = some (d, ps)) :
    cs = [.slice none 0 0] ∨ ∃ a len cap elems, cs = [.slice (some a) len cap] ∧ len ≤ cap ∧ cap ≤ maxLen ∧ ((List.range len).mapM fun i => (w.cells? 0 (a.add (i * P.cellsOf e)) (P.cellsOf e)).bind (DataW.trod enc P w 0 (fun _ => true) true fuel e)) = some elems := by
  unfold DataW.trod at h
  rw [hu] at h
  split at h <;> rename_i hq <;> first | (cases hq; done) | skip
  all_goals (try (injection hq with hq; cases hq))
  · exact .inl rfl
  · split at h
    · rename_i hc
      rw [Option.bind_eq_some_iff] at h
      obtain ⟨elems, h1, _⟩ := h
      exact .inr ⟨_, _, _, elems, rfl, hc.2.1, hc.2.2, h1⟩
    · cases h
  · cases h
theorem trod_struct_inv {t fuel : Nat} {fs : Array Field} {cs : List Value} {d : DataW H} {ps : List MemPlace} (hu : P.underlying t = some (.struct fs)) (h : DataW.trod enc P w 0 (fun _ => true) true (fuel + 1) t cs = some (d, ps)) :
    cs.length = P.cellsOf t ∧ ∃ xs, (fs.toList.mapM fun f => DataW.trod enc P w 0 (fun _ => true) true fuel f.type ((cs.drop f.offset).take (P.cellsOf f.type))) = some xs := by
  unfold DataW.trod at h
  rw [hu] at h
  split at h <;> rename_i hq <;> first | (cases hq; done) | skip
  all_goals (try (injection hq with hq; injection hq with hq; subst hq))
  all_goals first
    | exact (‹∀ fs_1 : Array Field, some (TypeDesc.struct fs) = some (TypeDesc.struct fs_1) → False› fs rfl).elim
    | (split at h
       · rename_i hc
         rw [Option.map_eq_some_iff] at h
         obtain ⟨xs, h1, _⟩ := h
         exact ⟨hc, xs, h1⟩
       · exact absurd h (by simp))
/-- What reads is told. -/
theorem trod_told (hT : TOk P T) : ∀ (n t : Nat), rdT T n t = true → ∀ (fuel : Nat) (cs : List Value) (d : DataW H) (ps : List MemPlace), DataW.trod enc P w 0 (fun _ => true) true fuel t cs = some (d, ps) → ∃ qs, Told T w t cs qs
  | 0, t, hr, _, _, _, _, _ => by cases hr
  | n + 1, t, hr, 0, cs, d, ps, h => by cases h
  | n + 1, t, hr, fuel + 1, cs, d, ps, h => by
    have fact : (T t).u ≠ .other → ∃ i d z, TFact P t (T t) i d z := nz_of hT
    cases hu : (T t).u with
    | int k =>
      obtain ⟨i, dd, z, hf⟩ := fact (by rw [hu]; intro h; cases h)
      have ht := hf.tur
      rw [hu] at ht
      have hag := hf.agg
      cases dd <;> simp only [turB, Bool.false_eq_true, beq_iff_eq] at ht
      subst ht
      have hs : (T t).size = 1 := hf.one (by simpa [aggB] using hag.symm)
      have hd := hf.und
      unfold DataW.trod at h
      rw [hd] at h
      split at h <;> simp_all
      obtain ⟨⟨rfl, h1⟩, _⟩ := h
      have h1 := h1
      simp only [Lit.wf, Bool.and_eq_true, decide_eq_true_eq] at h1
      exact ⟨_, told_one hs rfl (.int _ _) (.int t _ _ hu h1.1 h1.2)⟩
    | flt k =>
      obtain ⟨i, dd, z, hf⟩ := fact (by rw [hu]; intro h; cases h)
      have ht := hf.tur
      rw [hu] at ht
      have hag := hf.agg
      cases dd <;> simp only [turB, Bool.false_eq_true, beq_iff_eq] at ht
      subst ht
      have hs : (T t).size = 1 := hf.one (by simpa [aggB] using hag.symm)
      have hd := hf.und
      unfold DataW.trod at h
      rw [hd] at h
      split at h <;> simp_all
      obtain ⟨⟨rfl, h1⟩, _⟩ := h
      exact ⟨_, told_one hs rfl (.flt _ _) (.flt t _ _ hu h1)⟩
    | bool =>
      obtain ⟨i, dd, z, hf⟩ := fact (by rw [hu]; intro h; cases h)
      have ht := hf.tur
      rw [hu] at ht
      have hag := hf.agg
      cases dd <;> simp only [turB, Bool.false_eq_true] at ht
      have hs : (T t).size = 1 := hf.one (by simpa [aggB] using hag.symm)
      have hd := hf.und
      unfold DataW.trod at h
      rw [hd] at h
      split at h <;> simp_all
      exact ⟨_, told_one hs rfl (.bool _) (.bool t _ hu)⟩
    | str =>
      obtain ⟨i, dd, z, hf⟩ := fact (by rw [hu]; intro h; cases h)
      have ht := hf.tur
      rw [hu] at ht
      have hag := hf.agg
      cases dd <;> simp only [turB, Bool.false_eq_true] at ht
      have hs : (T t).size = 1 := hf.one (by simpa [aggB] using hag.symm)
      have hd := hf.und
      unfold DataW.trod at h
      rw [hd] at h
      split at h <;> simp_all
      exact ⟨_, told_one hs rfl (.str _) (.str t _ hu h.1)⟩
    | slice e =>
      obtain ⟨i, dd, z, hf⟩ := fact (by rw [hu]; intro h; cases h)
      have hs : (T t).size = 1 := hf.one (by
        have ht := hf.tur
        rw [hu] at ht
        have hag := hf.agg
        cases dd <;> simp only [turB, Bool.false_eq_true] at ht
        simpa [aggB] using hag.symm)
      have hd := slice_fact hT hu
      simp only [rdT, hu, Bool.and_eq_true] at hr
      obtain ⟨hne, hre⟩ := hr
      obtain ⟨ie, de, ze, hfe⟩ := nz_fact hT hne
      have hce : P.cellsOf e = (T e).size := cellsOf_fact hfe
      have hpos := hfe.pos
      rcases trod_slice_inv hd h with rfl | ⟨a, len, cap, elems, rfl, h1, h2, h3⟩
      · exact ⟨_, told_one hs rfl (.nil _ _ _) (.slice t e [] hu (Nat.zero_le _) (by simp))⟩
      · obtain ⟨g1, g2⟩ := optMapM_get h3
        simp only [List.length_range] at g1
        have key : ∀ i, i < len → ∃ cs qs, w.cells? 0 (a.add (i * (T e).size)) (T e).size = some cs ∧ Told T w e cs qs := by
          intro i hi
          obtain ⟨y, _, e2⟩ := g2 i i (by simp [hi])
          rw [Option.bind_eq_some_iff] at e2
          obtain ⟨cs, e3, e4⟩ := e2
          rw [hce] at e3
          obtain ⟨qs, hq⟩ := trod_told hT n e hre fuel cs y.1 y.2 e4
          exact ⟨cs, qs, e3, hq⟩
        classical
        let C : Nat → List Value := fun i => if h : i < len then Classical.choose (key i h) else []
        let Q : Nat → List PV := fun i => if h : i < len then Classical.choose (Classical.choose_spec (key i h)) else []
        have hCQ : ∀ i, i < len → w.cells? 0 (a.add (i * (T e).size)) (T e).size = some (C i) ∧ Told T w e (C i) (Q i) := by
          intro i hi
          simp only [C, Q, hi, dif_pos]
          exact Classical.choose_spec (Classical.choose_spec (key i hi))
        have hget : ∀ (i : Nat) (r : List PV), ((List.range len).map Q)[i]? = some r → i < len ∧ r = Q i := by
          intro i r hr
          rw [List.getElem?_map, Option.map_eq_some_iff] at hr
          obtain ⟨j, hj, rfl⟩ := hr
          obtain ⟨hlt, hj⟩ := List.getElem?_eq_some_iff.1 hj
          simp at hlt hj
          subst hj
          exact ⟨hlt, rfl⟩
        have hmem : ∀ r, r ∈ (List.range len).map Q → ∃ i, i < len ∧ r = Q i := by
          intro r hr
          obtain ⟨i, hi⟩ := List.mem_iff_getElem?.1 hr
          exact ⟨i, hget i r hi⟩
        have hp : PR w okAll (.slice (some a) ((List.range len).map Q).length cap) (.list (T e).size ((List.range len).map Q)) := by
          refine .list (some a) cap (T e).size _ (fun i j => (C i).getD j .nilFunc) (by simpa using h1) ?_ ?_ (fun hne => ?_) (fun i r j c e1 e2 => ?_)
          · intro r hr
            obtain ⟨i, hi, rfl⟩ := hmem r hr
            have := (hCQ i hi).2
            rw [← this.1, this.2.1]
          · intro r hr
            obtain ⟨i, hi, rfl⟩ := hmem r hr
            exact (hCQ i hi).2.2.2.1
          · have hlen : 0 < len := Nat.pos_of_ne_zero fun h0 => hne (by simp [h0])
            obtain ⟨b, o, sp⟩ := a
            have hz : sp = none := by
              obtain ⟨u, _, hu'⟩ := (cells_get (hCQ 0 hlen).1).2 0 hpos
              rw [Nat.zero_mul] at hu'
              simp only [Addr.add, if_true] at hu'
              cases sp with
              | none => rfl
              | some k =>
                unfold World.cell? at hu'
                split at hu'
                · simp at hu'
                · cases hu'
            subst hz
            refine ⟨b, o, rfl, fun i j hi hj => ⟨?_, trivial⟩⟩
            simp only [List.length_map, List.length_range] at hi
            obtain ⟨u, e1, e2⟩ := (cells_get (hCQ i hi).1).2 j hj
            rw [add_at, add_at] at e2
            rw [e2]
            simp [List.getD, e1]
          · obtain ⟨hi, rfl⟩ := hget i r e1
            have ht := (hCQ i hi).2
            have hj : j < (C i).length := by rw [ht.1]; exact (List.getElem?_eq_some_iff.1 e2).1
            have := ht.2.2.2.1 j _ c (List.getElem?_eq_getElem hj) e2
            simpa [List.getD, hj] using this
        refine ⟨[.list (T e).size ((List.range len).map Q)], told_one hs rfl (by simpa using hp) (.slice t e _ hu (by simp; omega) fun r hr => ?_)⟩
        obtain ⟨i, hi, rfl⟩ := hmem r hr
        exact (hCQ i hi).2.2.2.2.2
    | struct fs =>
      obtain ⟨fields, hd, hfs, hag⟩ := struct_fact hT hu
      obtain ⟨i, dd, z, hf⟩ := fact (by rw [hu]; intro h; cases h)
      obtain ⟨hl, xs, hx⟩ := trod_struct_inv hd h
      rw [cellsOf_fact hf] at hl
      simp only [rdT, hu, Bool.and_eq_true, List.all_eq_true] at hr
      obtain ⟨htile, hall⟩ := hr
      obtain ⟨g1, g2⟩ := optMapM_get hx
      have hnz : ∀ (fs : List (Nat × Nat)) (k : Nat), tile T k fs (T t).size = true → ∀ (i : Nat) (f : Nat × Nat), fs[i]? = some f → nz T f.1 = true := by
        intro fs
        induction fs with
        | nil => intro k _ i f hf; simp at hf
        | cons g r ih =>
          intro k hk i f hf
          obtain ⟨t', o'⟩ := g
          simp only [tile, Bool.and_eq_true] at hk
          cases i with
          | zero => simp at hf; subst hf; exact hk.1.2
          | succ i => exact ih _ hk.2 i f (by simpa using hf)
      have key : ∀ i, i < fs.length → ∃ qs, Told T w (fs.getD i (0, 0)).1 ((cs.drop (fs.getD i (0, 0)).2).take (T (fs.getD i (0, 0)).1).size) qs := by
        intro i hi
        have hfi : fs[i]? = some (fs.getD i (0, 0)) := by simp [List.getD, hi]
        have hfi' := hfi
        rw [← hfs, List.getElem?_map, Option.map_eq_some_iff] at hfi'
        obtain ⟨fl, hfl, e⟩ := hfi'
        obtain ⟨y, _, e2⟩ := g2 i fl hfl
        rw [hfs] at e
        have e5 : fl.type = (fs.getD i (0, 0)).1 := congrArg Prod.fst e
        have e6 : fl.offset = (fs.getD i (0, 0)).2 := congrArg Prod.snd e
        obtain ⟨ie, de, ze, hfe⟩ := nz_fact hT (hnz fs 0 htile i _ hfi)
        rw [e5, e6, cellsOf_fact hfe] at e2
        exact trod_told hT n _ (hall _ (List.mem_of_getElem? hfi)) fuel _ y.1 y.2 e2
      classical
      let Q : Nat → List PV := fun i => if h : i < fs.length then Classical.choose (key i h) else []
      have hQ : ∀ i, i < fs.length → Told T w (fs.getD i (0, 0)).1 ((cs.drop (fs.getD i (0, 0)).2).take (T (fs.getD i (0, 0)).1).size) (Q i) := by
        intro i hi
        simp only [Q, hi, dif_pos]
        exact Classical.choose_spec (key i hi)
      let css : List (List Value × List PV) := (List.range fs.length).map fun i => ((cs.drop (fs.getD i (0, 0)).2).take (T (fs.getD i (0, 0)).1).size, Q i)
      have hcss : ∀ (i : Nat) (c : List Value × List PV), css[i]? = some c → i < fs.length ∧ c = ((cs.drop (fs.getD i (0, 0)).2).take (T (fs.getD i (0, 0)).1).size, Q i) := by
        intro i c hc
        simp only [css, List.getElem?_map, Option.map_eq_some_iff] at hc
        obtain ⟨j, hj, rfl⟩ := hc
        obtain ⟨hlt, hj⟩ := List.getElem?_eq_some_iff.1 hj
        simp at hlt hj
        subst hj
        exact ⟨hlt, rfl⟩
      have hfd : ∀ (i : Nat) (f : Nat × Nat), fs[i]? = some f → fs.getD i (0, 0) = f := fun i f hf => by simp [List.getD, hf]
      obtain ⟨hcs, _⟩ := flat_parts (cs := cs) (css := css) hT htile (by omega) (by simp [css]) (fun i f c e1 e2 => by
        obtain ⟨hi, rfl⟩ := hcss i c e2
        rw [hfd i f e1]
        have := hQ i hi
        rw [hfd i f e1] at this
        exact ⟨by simp, this.2.1⟩)
      have hlen : ∀ c, c ∈ css → c.1.length = c.2.length := by
        intro c hc
        obtain ⟨i, hic⟩ := List.mem_iff_getElem?.1 hc
        obtain ⟨hi, rfl⟩ := hcss i c hic
        exact (hQ i hi).1
      have hflat : ∀ (l : List (List Value × List PV)), (∀ c, c ∈ l → c.1.length = c.2.length ∧ (∀ q, q ∈ c.2 → q.scal = true) ∧ ∀ (i : Nat) (v : Value) (p : PV), c.1[i]? = some v → c.2[i]? = some p → PR w okAll v p) →
          (l.map (·.1)).flatten.length = (l.map (·.2)).flatten.length ∧ (∀ q, q ∈ (l.map (·.2)).flatten → q.scal = true) ∧ ∀ (i : Nat) (v : Value) (p : PV), (l.map (·.1)).flatten[i]? = some v → (l.map (·.2)).flatten[i]? = some p → PR w okAll v p := by
        intro l
        induction l with
        | nil => intro _; simp
        | cons c l ih =>
          intro hc
          obtain ⟨c1, c2, c3⟩ := hc c List.mem_cons_self
          obtain ⟨i1, i2, i3⟩ := ih fun x hx => hc x (List.mem_cons_of_mem _ hx)
          simp only [List.map_cons, List.flatten_cons]
          refine ⟨by simp [List.length_append, c1, i1], fun q hq => ?_, fun i v p h1 h2 => ?_⟩
          · rcases List.mem_append.1 hq with hq | hq
            · exact c2 q hq
            · exact i2 q hq
          · by_cases hi : i < c.1.length
            · rw [List.getElem?_append_left hi] at h1
              rw [List.getElem?_append_left (by omega)] at h2
              exact c3 i v p h1 h2
            · rw [List.getElem?_append_right (by omega)] at h1
              rw [List.getElem?_append_right (by omega)] at h2
              rw [c1] at h1
              exact i3 _ v p h1 h2
      obtain ⟨q1, q2, q3⟩ := hflat css (fun c hc => by
        obtain ⟨i, hic⟩ := List.mem_iff_getElem?.1 hc
        obtain ⟨hi, rfl⟩ := hcss i c hic
        exact ⟨(hQ i hi).1, (hQ i hi).2.2.1, (hQ i hi).2.2.2.1⟩)
      rw [← hcs] at q1 q3
      refine ⟨_, q1, hl, q2, q3, .struct t fs _ hu (by simp [css]) fun i f c e1 e2 => ?_⟩
      rw [List.getElem?_map, Option.map_eq_some_iff] at e2
      obtain ⟨c', e2, rfl⟩ := e2
      obtain ⟨hi, rfl⟩ := hcss i c' e2
      have := (hQ i hi).2.2.2.2
      rw [hfd i f e1] at this
      exact this
    | arr n e => simp [rdT, hu] at hr
    | ptr e => simp [rdT, hu] at hr
    | other => simp [rdT, hu] at hr
end
end Go.Bw
