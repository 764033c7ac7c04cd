/- From a summary of a law to what its row asks of a call. No statement of a law is proved here. -/
import Derived.Test.YtbmgafmmaihmfaaDoorL28
import Derived.Carry
import Derived.ProofKit
import Derived.Lib.LaidTab
set_option linter.unusedVariables false
set_option linter.unusedSimpArgs false
namespace Go.Bw
open Go.RowKit Go.WideShapes Go.ChangeShapes M

/-- A value of a type. -/
def AW (T : Nat → TI) (t : Nat) (q : PV) : Prop := if (T t).agg = true then ∃ cs, q = .agg cs ∧ WT T t cs else WT T t [q]
def ArgW (T : Nat → TI) (ts : List Nat) (qs : List PV) : Prop := qs.length = ts.length ∧ ∀ (i : Nat) (t : Nat) (q : PV), ts[i]? = some t → qs[i]? = some q → AW T t q
section
variable {H : Type} {enc : TypeId × Value → H} {P : Program} {T : Nat → TI} {W W' : World}
theorem agg_shape (hT : TOk P T) {n t : Nat} (hr : rdT T n t = true) {w : World} {b : Nat} {v : Value} (hv : Value.okWide P w .any b t v) : if (T t).agg = true then ∃ cs, v = .agg cs else v.oneCell' = true := by
  cases n with
  | zero => cases hr
  | succ n =>
    have fact : (T t).u ≠ .other → ∃ i d z, TFact P t (T t) i d z := nz_of hT
    cases hu : (T t).u with
    | struct fs =>
      obtain ⟨fields, hd, _, hag⟩ := struct_fact hT hu
      rw [if_pos hag]
      simp only [Value.okWide, hd] at hv
      obtain ⟨cs, hv, _⟩ := hv
      exact ⟨cs, hv⟩
    | arr n' e => simp [rdT, hu] at hr
    | ptr e => simp [rdT, hu] at hr
    | other => simp [rdT, hu] at hr
    | _ =>
      obtain ⟨i, d, z, hf⟩ := fact (by rw [hu]; intro h; cases h)
      have ht := hf.tur
      have hag := hf.agg
      rw [hu] at ht
      cases d <;> simp only [turB, Bool.false_eq_true, beq_iff_eq] at ht
      simp only [aggB] at hag
      rw [if_neg (by rw [← hag]; simp)]
      simp only [Value.okWide, hf.und, Cell.okWide] at hv
      cases v <;> first | rfl | simp_all [Cell.ok]
theorem trod_arg (hT : TOk P T) {n t : Nat} (hr : rdT T n t = true) {b : Nat} {v : Value} (hv : Value.okWide P W .any b t v) {d : DataW H} {ps : List MemPlace} (h : DataW.Trod enc P W 0 (fun _ => true) true t v d ps) :
    ∃ q, PR W okAll v q ∧ AW T t q := by
  obtain ⟨fuel, h⟩ := h
  obtain ⟨qs, h1, h2, h3, h4, h5⟩ := trod_told hT n t hr fuel _ d ps h
  have hs := agg_shape hT hr hv
  unfold AW
  by_cases ha : (T t).agg = true
  · simp only [ha, if_true] at hs ⊢
    obtain ⟨cs, rfl⟩ := hs
    refine ⟨.agg qs, ?_, qs, rfl, h5⟩
    exact .agg cs.toList qs h1 h3 h4
  · simp only [ha, if_false, Bool.false_eq_true] at hs ⊢
    rw [cells_one hs] at h1 h4
    obtain ⟨q, rfl⟩ := List.length_eq_one_iff.1 (show qs.length = 1 from h1.symm)
    exact ⟨q, h4 0 v q rfl rfl, h5⟩
theorem trodAll_arg (hT : TOk P T) {n : Nat} {b : Nat} : ∀ {ts : List Nat} {vs : List Value} {ds : List (DataW H)} {ps : List MemPlace}, DataW.TrodAll enc P W 0 (fun _ => true) true ts vs ds ps → (∀ t, t ∈ ts → rdT T n t = true) →
    (∀ (j : Nat) (t : Nat) (v : Value), ts[j]? = some t → vs[j]? = some v → Value.okWide P W .any b t v) → ds.length = ts.length ∧ ∃ qs, ArgsR (PR W okAll) vs qs ∧ ArgW T ts qs
  | [], [], [], ps, h, _, _ => ⟨rfl, [], ⟨rfl, by simp⟩, rfl, by simp⟩
  | t :: ts, v :: vs, d :: ds, ps, h, hr, hv => by
    obtain ⟨p, q, h1, h2, _⟩ := h
    obtain ⟨x, hx, hw⟩ := trod_arg hT (hr t List.mem_cons_self) (hv 0 t v rfl rfl) h1
    obtain ⟨hl, qs, hq, ha⟩ := trodAll_arg hT h2 (fun t ht => hr t (List.mem_cons_of_mem _ ht)) (fun j t v e1 e2 => hv (j + 1) t v (by simpa using e1) (by simpa using e2))
    refine ⟨by simp [hl], x :: qs, ⟨by simp [hq.1], fun i u p e1 e2 => ?_⟩, by simp [ha.1], fun i t' p e1 e2 => ?_⟩
    · cases i with
      | zero => simp at e1 e2; subst e1; subst e2; exact hx
      | succ i => exact hq.2 i u p (by simpa using e1) (by simpa using e2)
    · cases i with
      | zero => simp at e1 e2; subst e1; subst e2; exact hw
      | succ i => exact ha.2 i t' p (by simpa using e1) (by simpa using e2)
  | [], _ :: _, _, _, h, _, _ => by cases h
  | [], [], _ :: _, _, h, _, _ => by cases h
  | _ :: _, [], _, _, h, _, _ => by cases h
  | _ :: _, _ :: _, [], _, h, _, _ => by cases h
theorem trodAll_stays (hl : laidOutB P = true) (hb : Below W.heap.size W W') {sp : Nat → Bool} : ∀ {ts : List Nat} {vs : List Value} {ds : List (DataW H)} {ps : List MemPlace}, DataW.TrodAll enc P W 0 (fun _ => true) true ts vs ds ps →
    (∀ t, t ∈ ts → P.readableRec t = true ∧ t < P.types.size) → (∀ p, p ∈ ps → p.block < W.heap.size ∧ sp p.block = true) → DataW.TrodAll enc P W' 0 sp true ts vs ds ps
  | [], [], [], ps, h, _, _ => h
  | t :: ts, v :: vs, d :: ds, ps, h, hr, hp => by
    obtain ⟨p, q, h1, h2, rfl⟩ := h
    obtain ⟨r1, r2⟩ := hr t List.mem_cons_self
    exact ⟨p, q, WideElems.Trod_stays hl r1 r2 h1 (fun x hx => hb.same (hp x (List.mem_append_left _ hx)).1) (fun x hx => (hp x (List.mem_append_left _ hx)).2),
      trodAll_stays hl hb h2 (fun t ht => hr t (List.mem_cons_of_mem _ ht)) (fun x hx => hp x (List.mem_append_right _ hx)), rfl⟩
  | [], _ :: _, _, _, h, _, _ => by cases h
  | [], [], _ :: _, _, h, _, _ => by cases h
  | _ :: _, [], _, _, h, _, _ => by cases h
  | _ :: _, _ :: _, [], _, h, _, _ => by cases h
/-- What a law's row asks of a call. -/
theorem law_contract {f : FuncId} {fn : Func} {F : List PV → Option PV} {s : ChangeSpec} {n : Nat} {base : Nat} {tb : Nat} {args : Array Value} {ds gs : List (DataW H)} {before : List MemPlace} (hT : TOk P T) (hl : laidOutB P = true) (hg : GivenOk P f (.pcall F))
    (hts : fn.params.toList.all (fun t => rdT T n t && (P.readableRec t && decide (t < P.types.size))) = true) (hres : fn.resultTypes = #[tb]) (htb : P.underlying tb = some .bool) (hvars : s.vars = [])
    (hfn : ∀ ds : List (DataW H), ds.length = fn.params.toList.length → s.fn H ds = { results := [.lit (.bool true)], args := ds }) (hF : ∀ qs, ArgW T fn.params.toList qs → F qs = some (.bool true))
    (hval : ∀ (j : Nat) t v, fn.params[j]? = some t → args[j]? = some v → Value.okWide P W .any base t v) (hW : DataW.Whole enc P fn.params.toList s.vars false W args.toList ds gs before) (hgl : Gl W) :
    Calls P f args W fun e W' => ∃ v, e = .returned v ∧ s.post enc P fn false true false false W args v W' := by
  have hW0 := hW
  obtain ⟨p, q, hA, hV, rfl, hfz, hnd⟩ := hW
  rw [hvars] at hV
  obtain ⟨rfl, rfl⟩ := trodVars_none hV
  simp only [List.all_eq_true, Bool.and_eq_true, decide_eq_true_eq] at hts
  obtain ⟨hlen, qs, hq, ha⟩ := trodAll_arg hT hA (fun t ht => (hts t ht).1) (fun j t v e1 e2 => hval j t v (by simpa using e1) (by simpa using e2))
  have hc := hg.2 qs _ (hF qs ha) W okAll args.toList hgl hq
  have hc : Calls P f args W fun e w' => ∃ v, e = .returned v ∧ Below W.heap.size W w' ∧ PR w' (upto W.heap.size okAll) v (.bool true) := by
    have := hc
    unfold Back at this
    simpa using this
  refine hc.mono fun e W' => ?_
  rintro ⟨v, rfl, hb, hv⟩
  have hv := hv.boolI
  subst hv
  refine ⟨_, rfl, ?_⟩
  have hlt : ∀ x, x ∈ p → x.block < W.heap.size := fun x hx => hW0.lt x (List.mem_append_left _ hx)
  have hfn' := hfn ds hlen
  refine ⟨ds, [], p ++ [], [], p, [], hW0, ?_, ?_, ?_, hb.frame _, fun h => by cases h⟩
  · simp only [List.append_nil]
    rw [hfn', hres]
    exact ⟨[], [], ⟨1, by simp [DataW.trod, Value.cells, htb]⟩, rfl, rfl⟩
  · simp only [List.append_nil]
    rw [hfn']
    exact trodAll_stays hl hb hA (fun t ht => (hts t ht).2) (fun x hx => ⟨hlt x hx, by simpa using hlt x hx⟩)
  · rw [hvars]
    simp only [List.append_nil]
    rw [hfn']
    rfl
end
end Go.Bw
