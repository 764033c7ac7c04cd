/- The evaluator's single operations against the machine's: all. No statement of a law is proved here. -/
import Derived.Test.YtbmgafmmaihmfaaDoorL16
set_option linter.unusedVariables false
set_option linter.unusedSimpArgs false
namespace Go.Bw
open Go.RowKit M

section
variable {base : Nat} {okx : Nat → Nat → Prop} {w0 : World} {P : Program} {T : Nat → TI} {o : Oper} {a : Act} {ρ : Rho} {H : Heap} {w : World} {nid lim : Nat}
theorem store_core {t : TypeId} {x y : Operand} (ho : o.op = .store t x y) {ti : TypeInfo} {td : TypeDesc} {tz : Value} (hf : TFact P t (T t) ti td tz) (hw : WR base okx w0 w ρ H) {id off : Nat} {e c d' : Cells} (hx : LR w (okF base okx H ρ) ρ H (a.eval x) (.ptr id off))
    (hid : H id = some (.box e)) {ds : List Value} (hds : (a.eval y).cells = ds.toArray) (hlen' : ds.length = (T t).size) (hcr : CellsR w (okF base okx H ρ) ρ H ds c) (h1 : (storeTo (T t).agg off e c).Is d') : Does base okx w0 P o a ρ H w nid .any (hset H id (.box d')) := by
  obtain ⟨r, hr, b, vs, et, rfl, hb, hh, hvr⟩ := hw.obj id _ hid
  obtain ⟨r', hr', hbox, _⟩ := hx.ptrI
  rw [hr] at hr'
  injection hr' with hr'
  subst hr'
  obtain ⟨b', e1, e2⟩ := hbox e hid
  injection e1 with e1
  injection e1 with e1
  injection e1 with e1
  subst e1
  obtain ⟨hle, hsp, hln⟩ := storeTo_rel h1 hvr hcr
  have hrun := store_run (P := P) (w := w) ho e2 (storeVar_run hf hds hlen' hcr.one hh hle)
  refine does_mod hw hid hr hrun undef (.inr ⟨rfl, rfl⟩) (fun k _ hk => setRow_other w b k _ (fun e => hk (by simp [blk, e]))) (fun b1 off1 u hb1 _ hno => absurd hb1 hno) (.inl rfl) rfl
    (below_setRow (w1 := w) hw.below hb hh _) (by simp) (fun hev' => ?_) (.any _)
  exact ⟨b, splice vs off ds, et, rfl, hb, setRow_heap w b _ _ _ _ hh, hsp.evo hev'⟩
theorem store_does {G : Nat → Option Given} {t : TypeId} {x y : Operand} (ho : o.op = .store t x y) (hT : TOk P T) (hw : WR base okx w0 w ρ H) {ev : Operand → LV} (hev : ∀ x, LR w (okF base okx H ρ) ρ H (a.eval x) (ev x))
    {s : LSem} (hs : (lop T G o ev nid).Is s) {v : LV} {H' : Heap} (hx : (exec s nid lim H).Is (v, H')) : Does base okx w0 P o a ρ H w nid v H' := by
  have hs' := hs
  unfold lop at hs'
  simp only [ho] at hs'
  cases hn : nz T t with
  | false => simp [hn, is_fail] at hs'
  | true =>
    obtain ⟨ti, td, tz, hf⟩ := nz_fact hT hn
    simp only [hn, Bool.not_true, cond_false, is_bind] at hs'
    obtain ⟨c, hc, hs'⟩ := hs'
    obtain ⟨ds, hds, hcr, hlen⟩ := cellsOf_rel hc (hev y)
    have hlen' : ds.length = (T t).size := by
      cases ha : (T t).agg with
      | true => simpa [ha] using hlen
      | false => rw [hf.one ha]; simpa [ha] using hlen
    cases he : ev x with
    | ptr id off =>
      have hxp : LR w (okF base okx H ρ) ρ H (a.eval x) (.ptr id off) := he ▸ hev x
      have usual : ∀ {e d' : Cells}, H id = some (.box e) → (storeTo (T t).agg off e c).Is d' → v = .any → H' = hset H id (.box d') → Does base okx w0 P o a ρ H w nid v H' := by
        rintro e d' hid h1 rfl rfl
        exact store_core ho hf hw hxp hid hds hlen' hcr h1
      simp only [he] at hs'
      split at hs'
      · rename_i i n
        simp only [is_pure] at hs'
        subst hs'
        have hx := exec_glob hx
        cases hid : H id with
        | none => simp [hid, is_fail] at hx
        | some ob =>
          cases ob with
          | sl => simp [hid, is_fail] at hx
          | box e =>
            cases e with
            | mix cs =>
              simp only [hid, is_bind, is_pure, Prod.mk.injEq] at hx
              obtain ⟨d', h1, h2, h3⟩ := hx
              exact usual hid h1 h2.symm h3.symm
            | pure cs =>
              simp only [hid, is_bind, is_pure, Prod.mk.injEq] at hx
              obtain ⟨p, hp, d', h1, rfl, rfl⟩ := hx
              obtain ⟨u, rfl⟩ := List.length_eq_one_iff.1 (show ds.length = 1 from hcr.1)
              obtain ⟨e1, w1, p1⟩ := purify_rel hw hp (hcr.2.2 0 u _ rfl rfl)
              rw [← snapL_one] at e1 w1 p1
              have hid1 : snapL H [.osl i n] id = some (.box (.pure cs)) := by
                rw [snapL_one]
                unfold snap1
                cases hh : H i with
                | none => simpa [hh] using hid
                | some o =>
                  cases o with
                  | box => simpa [hh] using hid
                  | sl e sz xs s =>
                    simp only [hh]
                    rw [hset_other _ _ _ (fun e => by subst e; rw [hid] at hh; cases hh)]
                    exact hid
              have hd := store_core (okx := okx) (w0 := w0) (nid := nid) ho hf w1 (hxp.evo e1) hid1 hds hlen' (c := .pure [p]) ⟨rfl, by simpa using purify_scal hp rfl, fun j v q h2 h3 => by
                cases j with
                | zero => simp at h2 h3; subst h2; subst h3; exact p1
                | succ j => simp at h2⟩ h1
              intro Q
              refine Oper.wp_mono (fun a' w' => ?_) (hd Q)
              rintro ⟨val, ρ', g1, g2, g3, g4, g5⟩
              exact ⟨val, ρ', g1, e1.trans g2, g3, g4, g5⟩
      · simp only [is_pure] at hs'
        subst hs'
        simp only [exec, is_cond, is_fail, and_false, or_false] at hx
        obtain ⟨_, hx⟩ := hx
        cases hid : H id with
        | none => simp [hid, is_fail] at hx
        | some ob =>
          cases ob with
          | sl => simp [hid, is_fail, is_bind] at hx
          | box e =>
            simp only [hid, is_bind, is_pure] at hx
            obtain ⟨⟨v', ob'⟩, ⟨d', h1, h2⟩, h3⟩ := hx
            injection h2 with h2 h2'
            injection h3 with h3 h3'
            subst h2
            subst h2'
            subst h3
            subst h3'
            exact usual hid h1 rfl rfl
    | optr id n i off =>
      cases c with
      | mix cs => simp [he, is_fail] at hs'
      | pure cs =>
        simp only [he, is_pure] at hs'
        subst hs'
        simp only [exec, is_cond, is_fail, and_false, or_false] at hx
        obtain ⟨_, hx⟩ := hx
        cases hid : H id with
        | none => simp [hid, is_fail] at hx
        | some ob =>
          cases ob with
          | box => simp [hid, is_fail, is_bind] at hx
          | sl e sz xs sn =>
            cases sn with
            | true => simp [hid, is_fail, is_bind] at hx
            | false =>
              simp only [hid, is_bind, is_pure, is_ite, is_fail, and_false, or_false, is_lift] at hx
              obtain ⟨⟨v', ob'⟩, ⟨hlen2, xs', h1, h2⟩, h3⟩ := hx
              injection h2 with h2 h2'
              injection h3 with h3 h3'
              subst h2
              subst h2'
              subst h3
              subst h3'
              simp only [beq_iff_eq] at hlen2
              obtain ⟨r, hr, vs, hown, hrows⟩ := hw.obj id _ hid
              obtain ⟨r', hr', hsl, _⟩ := (he ▸ hev x : LR _ _ _ _ _ (.optr id n i off)).optrI
              rw [hr] at hr'
              injection hr' with hr'
              subst hr'
              unfold lset at h1
              cases hxi : xs[i]? with
              | none => rw [hxi] at h1; cases h1
              | some row =>
                rw [hxi] at h1
                simp only [Option.bind_some, Option.map_eq_some_iff] at h1
                obtain ⟨row', hp, rfl⟩ := h1
                have hi : i < xs.length := (List.getElem?_eq_some_iff.1 hxi).1
                obtain ⟨b, hb, e2⟩ := (hsl e sz xs false hid).2 hlen2.symm (by omega)
                unfold pputs at hp
                split at hp
                · rename_i hle
                  injection hp with hp
                  have hrow : row.length = sz := hrows.1 row (List.mem_of_getElem? hxi)
                  have hdl : ds.length = cs.length := hcr.1
                  obtain ⟨A, cc, hsr, _⟩ := ownsRow_slice hown
                  rcases hown.2 with ⟨hnil, h0⟩ | ⟨g, cap, cur, hrv, hg, hh, hnc, hcm, hcs, htake⟩
                  · omega
                  · subst hrv
                    simp only [blk, Option.some.injEq] at hb
                    subst hb
                    have hvl : vs.length = xs.length * sz := hown.1
                    have hpos : i * sz + off + ds.length ≤ xs.length * sz := by
                      have : (i + 1) * sz ≤ xs.length * sz := Nat.mul_le_mul_right _ hi
                      rw [Nat.add_mul, Nat.one_mul] at this
                      omega
                    have hcl : xs.length * sz ≤ cur.size := by rw [hcs]; exact Nat.mul_le_mul_right _ hnc
                    have hst := storeVar_run (P := P) (w := w) (b := g) (o := i * sz + off) (vs := cur.toList) (e := e) hf hds hlen' hcr.one (by simpa using hh) (by simp; omega)
                    have hrun := store_run (P := P) (w := w) ho e2 hst
                    have hnewrow : (xs.set i row').length = xs.length := by simp
                    refine does_mod hw hid hr hrun undef (.inr ⟨rfl, rfl⟩) (fun k _ hk => setRow_other w g k _ (fun e => hk (by simp [blk, e]))) (fun b1 off1 u hb1 _ hno => absurd ⟨hb1, by simp⟩ hno) (.inl rfl)
                      ⟨rfl, rfl, by simp, fun _ => rfl⟩ (below_setRow (w1 := w) hw.below hg hh _) (by simp) (fun hev' => ?_) (.any _)
                    refine ⟨splice vs (i * sz + off) ds, ⟨?_, .inr ⟨g, cap, _, by rw [hnewrow], hg, setRow_heap w g _ _ _ _ hh, by rw [hnewrow]; exact hnc, hcm, ?_, ?_⟩⟩, ?_⟩
                    · rw [splice_length _ _ _ (by omega), hnewrow, hvl]
                    · simp only [List.size_toArray]
                      rw [splice_length _ _ _ (by simp; omega)]
                      simpa using hcs
                    · rw [hnewrow]
                      apply List.ext_getElem?
                      intro k
                      rw [List.getElem?_take]
                      simp only [List.toList_toArray]
                      rw [splice_get _ _ _ _ (by simp; omega), splice_get _ _ _ _ (by omega), ← htake]
                      by_cases hk : k < xs.length * sz
                      · rw [if_pos hk, List.getElem?_take, if_pos hk]
                      · rw [if_neg hk, List.getElem?_take, if_neg hk, if_neg (by omega), if_neg (by omega)]
                    · have hrows' := hrows.evo hev'
                      have hcr' := hcr.evo hev'
                      have hrl : row'.length = sz := by rw [← hp]; simp; omega
                      refine ⟨fun q hq => ?_, fun q hq c hc' => ?_, fun j q l c e3 e4 => ?_⟩
                      · rcases List.mem_or_eq_of_mem_set hq with hq | rfl
                        · exact hrows.1 q hq
                        · exact hrl
                      · rcases List.mem_or_eq_of_mem_set hq with hq | rfl
                        · exact hrows.2.1 q hq c hc'
                        · rw [← hp] at hc'
                          rcases splice_mem (xs := row) (ys := cs) (off := off) hc' with h5 | h5
                          · exact hrows.2.1 row (List.mem_of_getElem? hxi) c h5
                          · exact hcr.2.1 c h5
                      · rw [List.getElem?_set] at e3
                        split at e3
                        · rename_i hij
                          subst hij
                          first | rw [if_pos hi] at e3 | skip
                          injection e3 with e3
                          subst e3
                          have hl5 : l < sz := by rw [← hrl]; exact (List.getElem?_eq_some_iff.1 e4).1
                          rw [← hp] at e4
                          have e5 : (splice row off cs)[l]? = some c := e4
                          rw [splice_get _ _ _ _ hle] at e5
                          rw [splice_get _ _ _ _ (by omega)]
                          by_cases h6 : l < off
                          · rw [if_pos h6] at e5
                            rw [if_pos (by omega)]
                            exact hrows'.2.2 i row l c hxi e5
                          · rw [if_neg h6] at e5
                            rw [if_neg (by omega)]
                            by_cases h7 : l < off + cs.length
                            · rw [if_pos h7] at e5
                              rw [if_pos (by omega), show i * sz + l - (i * sz + off) = l - off by omega]
                              have hlt : l - off < ds.length := by omega
                              exact ⟨ds[l - off], List.getElem?_eq_getElem hlt, hcr'.2.2 _ _ _ (List.getElem?_eq_getElem hlt) e5⟩
                            · rw [if_neg h7] at e5
                              rw [if_neg (by omega)]
                              exact hrows'.2.2 i row l c hxi e5
                        · rename_i hij
                          obtain ⟨u, hu, hpu⟩ := hrows'.2.2 j q l c e3 e4
                          refine ⟨u, ?_, hpu⟩
                          have hl5 : l < sz := by rw [← hrows.1 q (List.mem_of_getElem? e3)]; exact (List.getElem?_eq_some_iff.1 e4).1
                          rw [splice_get _ _ _ _ (by omega)]
                          rcases Nat.lt_or_gt_of_ne hij with h6 | h6
                          · have : (i + 1) * sz ≤ j * sz := Nat.mul_le_mul_right _ h6
                            rw [Nat.add_mul, Nat.one_mul] at this
                            rw [if_neg (by omega), if_neg (by omega)]
                            exact hu
                          · have : (j + 1) * sz ≤ i * sz := Nat.mul_le_mul_right _ h6
                            rw [Nat.add_mul, Nat.one_mul] at this
                            rw [if_pos (by omega)]
                            exact hu
                · cases hp
    | _ => simp [he, is_fail] at hs'
end
section
variable {base : Nat} {okx : Nat → Nat → Prop} {w0 : World} {P : Program} {T : Nat → TI} {G : Nat → Option Given} {o : Oper} {a : Act} {ρ : Rho} {H : Heap} {w : World} {nid lim : Nat}
variable {ev : Operand → LV} {s : LSem} {v : LV} {H' : Heap}

theorem call_op_does {c : Call} (ho : o.op = .call c) (hT : TOk P T) (hG : GOk P G) (hw : WR base okx w0 w ρ H) (hnid : ρ nid = none) (hfree : ∀ id, nid + 4096 ≤ id → ρ id = none) (hev : ∀ x, LR w (okF base okx H ρ) ρ H (a.eval x) (ev x))
    (hs : (lop T G o ev nid).Is s) (hx : (exec s nid lim H).Is (v, H')) : Does base okx w0 P o a ρ H w nid v H' := by
  unfold lop at hs
  simp only [ho] at hs
  cases hc : c.callee with
  | builtin b => simp only [hc] at hs; exact builtin_does ho hc hT hw hev hs hx
  | value f =>
    simp only [hc] at hs
    cases hf : ev f with
    | clo fn caps =>
      simp only [hf] at hs
      cases hg : G fn with
      | none => simp [hg, is_fail] at hs
      | some g =>
        simp only [hg] at hs
        exact call_value_does ho hc (hG fn g hg) hf hw hnid hfree hev (fun vs ha => fixL_app vs ha) hs hx
    | _ => simp [hf, is_fail] at hs
  | invoke => simp [hc, is_fail] at hs
/-- An operation that no call is. -/
def plainOp : Op → Bool | .call _ => false | _ => true
theorem plain_op_does (hp : plainOp o.op = true) (hT : TOk P T) (hw : WR base okx w0 w ρ H) (hnid : ρ nid = none) (hev : ∀ x, LR w (okF base okx H ρ) ρ H (a.eval x) (ev x))
    (hs : (lop T G o ev nid).Is s) (hx : (exec s nid lim H).Is (v, H')) : Does base okx w0 P o a ρ H w nid v H' := by
  cases ho : o.op with
  | move x => exact move_does (.inl ho) hT hw hnid hev hs hx
  | assign x => exact move_does (.inr ho) hT hw hnid hev hs hx
  | pick c x y => exact pick_does ho hw hev hs hx
  | alloc t => exact alloc_does ho hT hw hnid hs hx
  | box t x => exact box_does ho hw hnid hev hs hx
  | build t parts => exact build_does ho hT hw hev hs hx
  | buildSlice t len parts => exact buildSlice_does ho hT hw hnid hev hs hx
  | load t x => exact load_does ho hT hw (hev x) hs hx
  | store t x y => exact store_does ho hT hw hev hs hx
  | nilCheck x => exact nilCheck_does ho hw hev hs hx
  | binOp op t x y t' => exact binOp_does ho hT hw hev hs hx
  | unOp op t x => exact unOp_does ho hw hev hs hx
  | convert src dst x => exact convert_does ho hT hw hev hs hx
  | makeInterface t x => exact makeInterface_does ho hT hw hev hs hx
  | makeFunc fn first caps =>
    cases fn with
    | func f => exact makeFunc_does ho hw hev hs hx
    | _ => unfold lop at hs; simp [ho, is_fail] at hs
  | makeSlice t l c => exact makeSlice_does ho hT hw hnid hev hs hx
  | slice t x lo hi mx => exact slice_does ho hT hw hev hs hx
  | fieldAddr t x f => exact fieldAddr_does ho hT hw hev hs hx
  | field t x f => exact field_does ho hT hw hev hs hx
  | indexAddr t x y => exact indexAddr_does ho hT hw hev hs hx
  | index t x y => exact index_does ho hT hw hev hs hx
  | extract x i => exact extract_does ho hw hev hs hx
  | call c => rw [ho] at hp; cases hp
  | _ => unfold lop at hs; simp [ho, is_fail] at hs
theorem op_does (hT : TOk P T) (hG : GOk P G) (hw : WR base okx w0 w ρ H) (hnid : ρ nid = none) (hfree : ∀ id, nid + 4096 ≤ id → ρ id = none) (hev : ∀ x, LR w (okF base okx H ρ) ρ H (a.eval x) (ev x))
    (hs : (lop T G o ev nid).Is s) (hx : (exec s nid lim H).Is (v, H')) : Does base okx w0 P o a ρ H w nid v H' := by
  cases hp : plainOp o.op with
  | true => exact plain_op_does hp hT hw hnid hev hs hx
  | false =>
    cases ho : o.op with
    | call c => exact call_op_does ho hT hG hw hnid hfree hev hs hx
    | _ => rw [ho] at hp; cases hp
end
end Go.Bw
