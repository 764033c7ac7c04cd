/- Go's slices.Clone: what it answers, by value. No statement of a law is proved here. -/
import Derived.Test.YtbmgafmmaihmfaaDoorT0
import Derived.Test.YtbmgafmmaihmfaaDoorH0
import Derived.Shelf.SlicesE.Clone
set_option linter.unusedVariables false
set_option linter.unusedSimpArgs false
namespace Go.Bw
open Go.Proofs Go.Shelf Go.RowKit Go.Lib

section
variable {P : Program} {ρ : Ren}
set_option maxHeartbeats 2000000 in
set_option maxRecDepth 100000 in
/-- Clone of whatever is not nil, wherever it lies. -/
theorem clone_any (L : SlLaysE0.n41 P ρ) (i0 : TypeInfo) (z : Value) (size bytes : Nat) (hi : P.info? (ρ.t 23) = some i0) (hz0 : i0.zero = some z) (hz1 : i0.size = size) (hz2 : i0.bytes = bytes) (hzs : z.cells.size = size) (hsz : 0 < size)
    (z23 : ∀ w, (Go.sizeOf (ρ.t 23)).run P w = .ok size w) (ad : Addr) (n c : Nat) (news : List Value) (w : World) (hl : news.length = n * size) (hn : n ≤ maxLen) (hbig : n * bytes ≤ 140737488355328)
    (hc : ∀ j u, news[j]? = some u → w.cell? (ad.add j) = some u) (h1 : ∀ u ∈ news, u.oneCell' = true) :
    Calls P (ρ.f 41) #[.slice (some ad) n c] w fun e w' => ∃ v', e = .returned v' ∧ w'.ownsRow w.heap.size (ρ.t 23) size v' n news ∧ Below w.heap.size w w' := by
  have mixed := L.mixed; have t4 := L.t4; have a4 := L.a4; have z4 := L.z4; have v4 := L.v4; have t22 := L.t22; have a22 := L.a22; have z22 := L.z22; have v22 := L.v22
  have q22 : ∀ (w : World) (a : Option Addr) (n c n' c' : Nat), (binOp .eql (ρ.t 22) (.slice a n c) (.slice none n' c')).run P w = .ok (.bool a.isNone) w := fun w a n c n' c' => Lib.run_eql_slice_nil w _ _ a n c n' c' L.t22
  have u22 : ∀ w, Sem.run P (underlying (ρ.t 22)) w = .ok (TypeDesc.slice (ρ.t 23)) w := run_underlying t22
  have A : Aside (∀ j u, news[j]? = some u → w.cell? (ad.add j) = some u) := hc
  clear hc
  obtain ⟨_, _, FG⟩ := L.f41
  go_enter FG, SlBodyN.n41_ntmps ρ
  go_wp2_with (at_builtin; refine wpList_append_own _ rfl _ _ (ρ.t 22) rfl w.heap.size (ρ.t 23) i0 z size bytes t22 hi hz0 hz1 hz2 hzs hsz _ _ _ rfl (World.ownsRow_made w #[] 0 (Nat.le_refl _) (Nat.zero_le _) (by simp)) ad n c news rfl ?qc1 ?qc2 ?qc3 ?qc4 ?qc5 ?qc6 ?_)
  case qc1 => exact hl
  case qc2 =>
    intro j u hj
    exact Lib.cell?_alloc_some _ (A.out j u hj)
  case qc3 => exact h1
  case qc4 => rw [Nat.zero_add]; exact hn
  case qc5 => rw [Nat.zero_add]; exact hbig
  case qc6 => simp
  intro v' w1 hown hgrow hnil
  go_wp2
  go_ret
  exact ⟨v', rfl, by simpa using hown, ((Below.refl _ w).alloc (Nat.le_refl _) _).grown hgrow (by simp) (by intro k hk; simp [Value.ownBlock] at hk; omega)⟩
/-- The rows themselves. -/
def pclone (sz : Nat) : List PV → Option PV
  | [.list s xs] => if s = sz ∧ xs.length ≤ LIM then some (.list sz xs) else none
  | _ => none
def oclone (sz : Nat) : List PV → Option (List (List PV))
  | [.list s xs] => if s = sz ∧ xs.length ≤ LIM then some xs else none
  | _ => none
theorem clone_core (L : SlLaysE0.n41 P ρ) {I : TI} {i : TypeInfo} {d : TypeDesc} {z : Value} (hf : TFact P (ρ.t 23) I i d z) {ps : List PV} {xs : List (List PV)} (h : oclone I.size ps = some xs) (w : World) (okx : Nat → Nat → Prop) (vs : List Value) (ha : ArgsR (PR w okx) vs ps) :
    Back P (ρ.f 41) vs w fun v w' => Below w.heap.size w w' ∧ ∃ us, w'.ownsRow w.heap.size (ρ.t 23) I.size v xs.length us ∧ RowsR w' (fun b o => upto w.heap.size okx b o ∧ blk v ≠ some b) I.size us xs := by
  unfold oclone at h
  split at h
  case h_2 => cases h
  case h_1 s xs' =>
    split at h
    case isFalse => cases h
    case isTrue hc =>
      injection h with h
      subst h
      obtain ⟨rfl, hlim⟩ := hc
      obtain ⟨v, rfl⟩ := List.length_eq_one_iff.1 (show vs.length = 1 from ha.1)
      obtain ⟨A, c, news, rfl, hl, hrows, hone, hA⟩ := list_cells (ha.2 0 v _ rfl rfl)
      rcases hA with ⟨rfl, h0⟩ | ⟨ad, rfl, hcell⟩
      · have hx : xs' = [] := List.eq_nil_of_length_eq_zero h0
        subst hx
        refine (AnyE.slices_Clone_nil L _ c w).mono ?_
        rintro e w' ⟨rfl, rfl⟩
        exact ⟨_, rfl, Below.refl _ _, [], World.ownsRow_nil _ _ _ _, by simp, by simp, by simp⟩
      · have hb : I.bytes ≤ 256 := hf.bmax
        have hlim' : xs'.length ≤ 549755813888 := hlim
        have hmax : xs'.length ≤ maxLen := by unfold maxLen; omega
        have hbig : xs'.length * I.bytes ≤ 140737488355328 := Nat.le_trans (Nat.mul_le_mul hlim' hb) (by decide)
        refine (clone_any L i z I.size I.bytes hf.info hf.zero hf.size hf.bytes hf.zsize hf.pos (fun w => by rw [run_sizeOf hf.info, hf.size]) ad xs'.length c news w hl hmax hbig hcell hone).mono ?_
        rintro e w' ⟨v', rfl, hown, hbelow⟩
        refine ⟨v', rfl, hbelow, news, hown, hrows.1, hrows.2.1, fun i cs j cc g1 g2 => ?_⟩
        obtain ⟨u, g3, g4⟩ := hrows.2.2 i cs j cc g1 g2
        refine ⟨u, g3, g4.imp fun b o u h1 h2 => ⟨cell_same (hbelow.block b (cell_lt h1)) h1, fun _ => h2, fun hbk => ?_⟩⟩
        obtain ⟨A', c', hs', _⟩ := ownsRow_slice hown
        have := (hown.lt b (by rw [← blk_own v' A' _ c' hs']; exact hbk)).1
        have := cell_lt h1
        omega
theorem clone_o (L : SlLaysE0.n41 P ρ) {I : TI} {i : TypeInfo} {d : TypeDesc} {z : Value} (hf : TFact P (ρ.t 23) I i d z) (hc : CallOk P (ρ.f 41)) : GivenOk P (ρ.f 41) (.ocall (ρ.t 23) I.size (oclone I.size)) :=
  ⟨hc, fun ps xs h w okx vs _ ha => clone_core L hf h w okx vs ha⟩
theorem clone_p (L : SlLaysE0.n41 P ρ) {I : TI} {i : TypeInfo} {d : TypeDesc} {z : Value} (hf : TFact P (ρ.t 23) I i d z) (hc : CallOk P (ρ.f 41)) : GivenOk P (ρ.f 41) (.pcall (pclone I.size)) := by
  refine ⟨hc, fun ps r h w okx vs _ ha => ?_⟩
  have h2 : ∃ xs, oclone I.size ps = some xs ∧ r = .list I.size xs := by
    unfold pclone at h
    split at h
    · split at h
      · rename_i s xs hs
        injection h with h
        exact ⟨xs, by simp only [oclone, hs, and_self, if_true], h.symm⟩
      · cases h
    · cases h
  obtain ⟨xs, h2, rfl⟩ := h2
  refine (clone_core L hf h2 w okx vs ha).mono fun v w' ⟨hb, us, hown, hrows⟩ => ⟨hb, ?_⟩
  refine row_pr hown ⟨hrows.1, hrows.2.1, fun i cs j c g1 g2 => ?_⟩ fun b hbk o => ?_
  · obtain ⟨u, g3, g4⟩ := hrows.2.2 i cs j c g1 g2
    exact ⟨u, g3, g4.okmono fun b o _ _ h => h.1⟩
  · intro hlt
    obtain ⟨A', c', hs', _⟩ := ownsRow_slice hown
    have := (hown.lt b (by rw [← blk_own v A' _ c' hs']; exact hbk)).1
    omega
end
end Go.Bw
namespace Go.Bw.A
open Go.Proofs Go.Bw Go.Shelf
theorem fact {t : Nat} (h : (T t).u ≠ .other) : ∃ i d z, TFact Tryd.prog t (T t) i d z := nz_of tok h
def ren_cloneInts : Ren := ⟨fun | 41 => 97 | n => n, fun | 22 => 23 | 23 => 3 | 4 => 4 | n => n, fun n => n⟩
theorem lays_cloneInts : SlLaysE0.n41 Tryd.prog ren_cloneInts := {
  mixed := mixed,
  f41 := ⟨Tryd.f97.name, by kernel_rfl, by kernel_rfl⟩,
  t4 := Tryd.underlying4,
  a4 := Tryd.isAgg4,
  z4 := Tryd.sizeOf4,
  v4 := Tryd.zeroValue4,
  t22 := Tryd.underlying23,
  a22 := Tryd.isAgg23,
  z22 := Tryd.sizeOf23,
  v22 := Tryd.zeroValue23 }
noncomputable def P97 : List PV → Option PV := pclone 1
theorem f97_ok : GivenOk Tryd.prog 97 (.pcall P97) := by
  obtain ⟨i, d, z, hf⟩ := fact (t := 3) (by intro h; cases h)
  exact clone_p lays_cloneInts hf (callOk_of Tryd.func97 rfl (by kernel_rfl))
end Go.Bw.A
