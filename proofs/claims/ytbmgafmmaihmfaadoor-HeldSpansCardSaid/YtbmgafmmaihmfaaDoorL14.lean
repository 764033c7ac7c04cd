/- The evaluator's single operations against the machine's: lengths, appends. No statement of a law is proved here. -/
import Derived.Test.YtbmgafmmaihmfaaDoorL13
set_option linter.unusedVariables false
set_option linter.unusedSimpArgs false
namespace Go.Bw
open Go.RowKit M

section
variable {base : Nat} {P : Program} {w : World}
theorem below_grown {w0 w' : World} {row : Option Nat} (hw : Below base w0 w) (hs : base ≤ w.heap.size) (hg : w.grownBy w' row) (hrow : ∀ k, row = some k → base ≤ k) : Below base w0 w' :=
  ⟨hg.os.trans hw.os, hg.tape.trans hw.tape, hg.output.trans hw.output, Nat.le_trans hw.size hg.size, fun k hk => (hg.block k (Nat.lt_of_lt_of_le hk hs) (fun e => by have := hrow k e.symm; omega)).trans (hw.block k hk)⟩
theorem append_empty {t ty e : TypeId} {i : TypeInfo} {size : Nat} (ht : P.underlying t = some (.slice e)) (hi : P.info? e = some i) {v : Value} {n : Nat} {vs : List Value} (hown : w.ownsRow base e size v n vs) (c : Nat) :
    (Builtin.append_ #[t, t] ty #[v, .slice none 0 c]).run P w = .ok v w := by
  rcases hown.2 with ⟨rfl, rfl⟩ | ⟨g, cap, cur, rfl, _, _, hnc, _⟩
  · simp [Builtin.append_, run_underlying ht, sizeOf, typeInfo, hi, Builtin.lenOf, Builtin.firstCells]
  · simp [Builtin.append_, run_underlying ht, sizeOf, typeInfo, hi, Builtin.lenOf, Builtin.firstCells, hnc, storeCells]
/-- What is appended to an own row: in its place, or at a new one; then the old one stays. -/
theorem append_own {t ty e : TypeId} {I : TI} {i : TypeInfo} {d : TypeDesc} {z : Value} (hf : TFact P e I i d z) (ht : P.underlying t = some (.slice e)) {v : Value} {n : Nat} {vs : List Value} (hown : w.ownsRow base e I.size v n vs)
    {A : Option Addr} {m c : Nat} {news : List Value} (hl : news.length = m * I.size) (hA : (A = none ∧ m = 0) ∨ ∃ ad, A = some ad ∧ ∀ j u, news[j]? = some u → w.cell? (ad.add j) = some u) (h1 : ∀ u, u ∈ news → u.oneCell' = true)
    (hlim : n + m ≤ LIM) (hbase : base ≤ w.heap.size) :
    ∃ v' w', (Builtin.append_ #[t, t] ty #[v, .slice A m c]).run P w = .ok v' w' ∧ w'.ownsRow base e I.size v' (n + m) (vs ++ news) ∧ w.grownBy w' v.ownBlock ∧ (m = 0 → v' = v) ∧
      (v'.ownBlock = v.ownBlock ∨ (∃ b, v'.ownBlock = some b ∧ w.heap.size ≤ b) ∧ w.grownBy w' none) := by
  rcases hA with ⟨rfl, rfl⟩ | ⟨ad, rfl, hnews⟩
  · have : news = [] := List.eq_nil_of_length_eq_zero (by simpa using hl)
    subst this
    exact ⟨v, w, append_empty ht hf.info hown c, by simpa using hown, ⟨rfl, rfl, rfl, Nat.le_refl _, fun _ _ _ => rfl⟩, fun _ => rfl, .inl rfl⟩
  · have hmax : n + m ≤ maxLen := by simp only [LIM, maxLen] at *; omega
    have hby : (n + m) * i.bytes ≤ 140737488355328 := by
      have h2 := Nat.mul_le_mul hlim (hf.bytes ▸ hf.bmax)
      simpa [LIM] using h2
    have h63 : n + m ≤ 9223372036854775807 := by simp only [LIM] at hlim; omega
    have hpos := hf.pos
    obtain ⟨v', w', hr, h2, h3, h4⟩ := run_append_own (P := P) w base t ty e i z I.size i.bytes ht hf.info hf.zero hf.size rfl hf.zsize hf.pos v n vs hown ad m c news hl hnews h1 hmax hby hbase
    have hi : i.size = I.size := hf.size
    refine ⟨v', w', hr, h2, h3, fun hm => ?_, ?_⟩
    · subst hm
      rcases hown.2 with ⟨rfl, rfl⟩ | ⟨g, cap, cur, rfl, hbg, hg, hnc, hcm, hcs, htake⟩
      · exact h4.2 ⟨rfl, rfl⟩
      · have hn : news = [] := List.eq_nil_of_length_eq_zero (by simpa using hl)
        subst hn
        have := run_append_room (P := P) w t ty e i ht hf.info g n cap cur hg ad 0 c [] (by simp) hnews h1 (by omega) (by rw [hcs, hi]; simpa using Nat.mul_le_mul_right _ hnc)
        rw [hr] at this
        injection this with this _
    · rcases hown.2 with ⟨rfl, rfl⟩ | ⟨g, cap, cur, rfl, hbg, hg, hnc, hcm, hcs, htake⟩
      · by_cases hm : m = 0
        · exact .inl (by rw [h4.2 ⟨rfl, hm⟩])
        · have := run_append_nil (P := P) w t ty e i z ht hf.info hf.zero ad m c news (hi.symm ▸ hl) hnews (by omega) (by omega) (by have hb := hby; simp only [Nat.zero_add] at hb; omega)
          rw [hr] at this
          injection this with q1 q2
          subst q1; subst q2
          exact .inr ⟨⟨_, rfl, Nat.le_refl _⟩, ⟨rfl, rfl, rfl, by simp, fun k hk _ => heap_alloc_old w.drew _ k hk⟩⟩
      · by_cases hroom : n + m ≤ cap
        · have := run_append_room (P := P) w t ty e i ht hf.info g n cap cur hg ad m c news (hi.symm ▸ hl) hnews h1 hroom (by rw [hcs, hi, hl, ← Nat.add_mul]; exact Nat.mul_le_mul_right _ hroom)
          rw [hr] at this
          injection this with q1 q2
          subst q1
          exact .inl rfl
        · have := run_append_grow (P := P) w t ty e i z ht hf.info hf.zero ⟨g, 0, none⟩ n cap vs (hi.symm ▸ hown.1) (hown.cells (g := g) rfl) ad m c news (hi.symm ▸ hl) hnews (by omega) (by omega) (growslice_fits (by omega) hby)
          rw [hr] at this
          injection this with q1 q2
          subst q1; subst q2
          exact .inr ⟨⟨_, rfl, Nat.le_refl _⟩, ⟨rfl, rfl, rfl, by simp, fun k hk _ => heap_alloc_old w.drew _ k hk⟩⟩
end
theorem rows_append {w : World} {ok : Nat → Nat → Prop} {sz : Nat} {vs us : List Value} {xs ys : List (List PV)} (hx : RowsR w ok sz vs xs) (hy : RowsR w ok sz us ys) (hl : vs.length = xs.length * sz) : RowsR w ok sz (vs ++ us) (xs ++ ys) := by
  refine ⟨fun cs hm => ?_, fun cs hm => ?_, fun i cs j c h1 h2 => ?_⟩
  · rcases List.mem_append.1 hm with h | h
    · exact hx.1 cs h
    · exact hy.1 cs h
  · rcases List.mem_append.1 hm with h | h
    · exact hx.2.1 cs h
    · exact hy.2.1 cs h
  · rw [List.getElem?_append] at h1
    split at h1
    · obtain ⟨u, h3, h4⟩ := hx.2.2 i cs j c h1 h2
      exact ⟨u, by rw [List.getElem?_append_left (List.getElem?_eq_some_iff.1 h3).1]; exact h3, h4⟩
    · rename_i hi
      obtain ⟨u, h3, h4⟩ := hy.2.2 _ cs j c h1 h2
      refine ⟨u, ?_, h4⟩
      have : xs.length * sz ≤ i * sz := Nat.mul_le_mul_right _ (by omega)
      rw [List.getElem?_append_right (by omega), hl]
      rw [Nat.sub_mul] at h3
      rw [show i * sz + j - xs.length * sz = i * sz - xs.length * sz + j by omega]
      exact h3
/-- A told list's cells, as a row. -/
theorem list_cells {w : World} {ok : Nat → Nat → Prop} {v : Value} {sz : Nat} {xs : List (List PV)} (h : PR w ok v (.list sz xs)) :
    ∃ A c news, v = .slice A xs.length c ∧ news.length = xs.length * sz ∧ RowsR w ok sz news xs ∧ (∀ u, u ∈ news → u.oneCell' = true) ∧
      ((A = none ∧ xs.length = 0) ∨ ∃ ad, A = some ad ∧ ∀ j u, news[j]? = some u → w.cell? (ad.add j) = some u) := by
  obtain ⟨A, c, hv, hcap, hlen, hsc, u, hA, hrel⟩ := h.listI
  refine ⟨A, c, (List.range (xs.length * sz)).map fun k => u (k / sz) (k % sz), hv, by simp, ⟨hlen, hsc, fun i cs j cc h1 h2 => ?_⟩, fun x hx => ?_, ?_⟩
  · have hi : i < xs.length := (List.getElem?_eq_some_iff.1 h1).1
    have hj : j < sz := by rw [← hlen cs (List.mem_of_getElem? h1)]; exact (List.getElem?_eq_some_iff.1 h2).1
    have hlt : i * sz + j < xs.length * sz := by
      have := Nat.mul_le_mul_right sz (show i + 1 ≤ xs.length by omega)
      rw [Nat.add_mul] at this
      omega
    refine ⟨u i j, ?_, hrel _ _ _ _ h1 h2⟩
    rw [List.getElem?_map, List.getElem?_range hlt]
    simp only [Option.map_some, Option.some.injEq]
    have e1 : (i * sz + j) / sz = i := by rw [Nat.mul_comm, Nat.mul_add_div (by omega), Nat.div_eq_of_lt hj, Nat.add_zero]
    have e2 : (i * sz + j) % sz = j := by rw [Nat.mul_comm, Nat.mul_add_mod, Nat.mod_eq_of_lt hj]
    rw [e1, e2]
  · simp only [List.mem_map, List.mem_range] at hx
    obtain ⟨k, hk, rfl⟩ := hx
    have hsz : 0 < sz := Nat.pos_of_ne_zero fun e => by simp [e] at hk
    have hi : k / sz < xs.length := Nat.div_lt_of_lt_mul (by rw [Nat.mul_comm]; exact hk)
    have hj : k % sz < sz := Nat.mod_lt _ hsz
    have h1 := List.getElem?_eq_getElem hi
    have hm := List.getElem_mem hi
    have hj' : k % sz < xs[k / sz].length := by rw [hlen _ hm]; exact hj
    exact (hrel _ _ _ _ h1 (List.getElem?_eq_getElem hj')).one (hsc _ hm _ (List.getElem_mem hj'))
  · by_cases hne : xs = []
    · subst hne
      cases A with
      | none => exact .inl ⟨rfl, rfl⟩
      | some ad => exact .inr ⟨ad, rfl, fun j u hj => by simp at hj⟩
    · obtain ⟨b, o, rfl, hc⟩ := hA hne
      refine .inr ⟨_, rfl, fun k u' hk => ?_⟩
      have hlt : k < xs.length * sz := by simpa using (List.getElem?_eq_some_iff.1 hk).1
      rw [List.getElem?_map, List.getElem?_range hlt] at hk
      simp only [Option.map_some, Option.some.injEq] at hk
      subst hk
      have hsz : 0 < sz := Nat.pos_of_ne_zero fun e => by simp [e] at hlt
      have hi : k / sz < xs.length := Nat.div_lt_of_lt_mul (by rw [Nat.mul_comm]; exact hlt)
      have := (hc (k / sz) (k % sz) hi (Nat.mod_lt _ hsz)).1
      rw [add_at]
      have e : o + k / sz * sz + k % sz = o + k := by
        have := Nat.div_add_mod k sz
        rw [Nat.mul_comm] at this
        omega
      rw [e] at this
      exact this

section
variable {base : Nat} {okx : Nat → Nat → Prop} {w0 : World} {P : Program} {T : Nat → TI} {G : Nat → Option Given} {o : Oper} {a : Act} {ρ : Rho} {H : Heap} {w : World} {nid lim : Nat} {ok : Nat → Nat → Prop}
variable {ev : Operand → LV} {s : LSem} {v : LV} {H' : Heap}

theorem run_builtin {c : Call} {b : Builtin} (ho : o.op = .call c) (hc : c.callee = .builtin b) {xs : List Operand} (hx : c.args.toList = xs) {ts : List TypeId} (ht : c.argTypes.toList = ts) :
    (execOp a.eval o).run P w = (builtin b ts.toArray o.type (c.args.map fun | .const _ => true | _ => false) (xs.map a.eval).toArray).run P w := by
  have h1 : c.args = xs.toArray := Array.ext' (by simpa using hx)
  have h2 : c.argTypes = ts.toArray := Array.ext' (by simpa using ht)
  unfold execOp
  simp only [ho, resolve, hc, Sem.run_bind, Sem.run_pure, Result.andThen_ok, invoke, h2]
  congr 2
  rw [h1]; simp

theorem append_does {c : Call} (ho : o.op = .call c) (hc : c.callee = .builtin .append) {x y : Operand} (hxs : c.args.toList = [x, y]) {t : TypeId} (hts : c.argTypes.toList = [t, t]) (hT : TOk P T) (hw : WR base okx w0 w ρ H)
    {e : Nat} (he : sliceElem T t = some e) {id : Nat} {xs ys : List (List PV)} {sn : Bool} (hid : H id = some (.sl e (T e).size xs sn)) (hx : LR w (okF base okx H ρ) ρ H (a.eval x) (.osl id xs.length))
    {A : Option Addr} {cc : Nat} {news : List Value} (hy : a.eval y = .slice A ys.length cc) (hl : news.length = ys.length * (T e).size) (hrows : RowsR w (okF base okx H ρ) (T e).size news ys)
    (hA : (A = none ∧ ys.length = 0) ∨ ∃ ad, A = some ad ∧ ∀ j u, news[j]? = some u → w.cell? (ad.add j) = some u) (h1 : ∀ u, u ∈ news → u.oneCell' = true) (hlim : xs.length + ys.length ≤ LIM) :
    Does base okx w0 P o a ρ H w nid (.osl id (xs ++ ys).length) (hset H id (.sl e (T e).size (xs ++ ys) sn)) := by
  obtain ⟨hund, ei, ed, ez, hfe⟩ := sliceElem_fact hT he
  obtain ⟨r, hr, vs, hown, hvrows⟩ := hw.obj id _ hid
  obtain ⟨r', hr', hh, A', c', hv', _⟩ := hx.oslI
  rw [hr] at hr'
  injection hr' with hr'
  subst hr'
  have hxv := (hh _ _ _ _ hid).2 rfl
  obtain ⟨v', w', hrun, hown', hg, hm0, hblk⟩ := append_own (P := P) (ty := o.type) hfe hund hown (c := cc) hl hA h1 hlim hw.size
  have hA1 := ownsRow_slice hown
  obtain ⟨A1, c1, hr1, _⟩ := hA1
  obtain ⟨A2, c2, hr2, _⟩ := ownsRow_slice hown'
  have hb1 : blk r = r.ownBlock := blk_own r A1 _ c1 hr1
  have hb2 : blk v' = v'.ownBlock := blk_own v' A2 _ c2 hr2
  have hlt : ∀ k, r.ownBlock = some k → base ≤ k := fun k hk => (hown.lt k hk).1
  have hlen : xs.length + ys.length = (xs ++ ys).length := by simp
  refine does_mod (r := r) (r' := v') (n := .value v') (w' := w') hw hid hr ?_ v' (.inl rfl) (fun k hk hne => hg.block k hk (by rw [← hb1]; exact hne)) (fun b off u hb hcell hno => ?_) ?_ ⟨rfl, rfl, by simp, fun he' => ?_⟩ (below_grown hw.below hw.size hg hlt) hg.size (fun hevo => ⟨vs ++ news, hlen ▸ hown', ?_⟩) ?_
  · rw [run_builtin ho hc hxs hts]
    simp [builtin, hxv, hy, hrun]
  · -- what was told of the row stays
    have hs' : sn = true ∧ off < xs.length * (T e).size := by
      cases hsn : sn with
      | false => exact absurd (show mutO (.sl e (T e).size xs sn) r b off from ⟨hb, fun h => by rw [hsn] at h; cases h⟩) hno
      | true =>
        refine ⟨rfl, ?_⟩
        by_cases hlt : off < xs.length * (T e).size
        · exact hlt
        · exact absurd (show mutO (.sl e (T e).size xs sn) r b off from ⟨hb, fun _ => by omega⟩) hno
    obtain ⟨rfl, hoff⟩ := hs'
    have hoff2 : off < (xs ++ ys).length * (T e).size := by
      rw [List.length_append, Nat.add_mul]; omega
    have hvo : vs[off]? = some u := by
      have hlt : off < vs.length := by rw [hown.1]; exact hoff
      have := ownsRow_cell hown hb (List.getElem?_eq_getElem hlt)
      rw [hcell] at this
      injection this with this
      rw [List.getElem?_eq_getElem hlt, this]
    refine ⟨?_, fun hm => by have := hm.2 rfl; omega⟩
    rcases hblk with hbe | ⟨⟨b', hb', hle⟩, hgn⟩
    · refine ownsRow_cell hown' (b := b) (by rw [hb2, hbe, ← hb1]; exact hb) ?_
      rw [List.getElem?_append_left (List.getElem?_eq_some_iff.1 hvo).1]
      exact hvo
    · exact cell_same (hgn.block b (cell_lt hcell) (by simp)) hcell
  · rcases hblk with hbe | ⟨⟨b', hb', hle⟩, hgn⟩
    · exact .inl (by rw [hb1, hb2, hbe])
    · exact .inr ⟨b', by rw [hb2, hb'], hle⟩
  · exact hm0 (by simpa using he')
  · exact rows_append (hvrows.evo hevo) (hrows.evo hevo) hown.1
  · refine .osl _ id _ _ (rset_same _ _ _) (fun e' sz' xs' s' hs => ?_) ⟨A2, c2, hlen ▸ hr2, fun hpos => ?_⟩
    · rw [hset_same] at hs
      injection hs with hs
      injection hs with _ _ hs _
      subst hs
      exact ⟨Nat.le_refl _, fun _ => rfl⟩
    · rcases hown'.2 with ⟨_, hz⟩ | ⟨g, cap, cur, hq, _⟩
      · omega
      · rw [hr2] at hq
        injection hq with hq
        rw [hq]; rfl
end
end Go.Bw
