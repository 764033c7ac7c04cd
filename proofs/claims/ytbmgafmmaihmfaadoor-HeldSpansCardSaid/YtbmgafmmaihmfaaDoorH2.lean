/- Go's bits.TrailingZeros64: what it answers. No statement of a law is proved here. -/
import Derived.Test.YtbmgafmmaihmfaaDoorH1
import Derived.Shelf.Spec.TrailingZeros
set_option linter.unusedVariables false
set_option linter.unusedSimpArgs false
namespace Go.Bw.A
open Go.Proofs Go.Bw Go.Shelf Go.RowKit
def ren_trail : Ren := ⟨fun | 29 => 130 | n => n, fun | 22 => 92 | 3 => 3 | 4 => 4 | 25 => 119 | 54 => 159 | 0 => 0 | 5 => 5 | n => n, fun | 1 => 0 | n => n⟩
theorem lays_trail : Lays7.n29 Tryd.prog ren_trail := {
  mixed := mixed,
  f29 := by kernel_rfl,
  t0 := by kernel_rfl,
  a0 := fun _ => by kernel_rfl,
  z0 := fun _ => by kernel_rfl,
  v0 := fun _ => by kernel_rfl,
  i0 := by kernel_rfl,
  t3 := by kernel_rfl,
  a3 := fun _ => by kernel_rfl,
  z3 := fun _ => by kernel_rfl,
  v3 := fun _ => by kernel_rfl,
  i3 := by kernel_rfl,
  t4 := by kernel_rfl,
  a4 := fun _ => by kernel_rfl,
  z4 := fun _ => by kernel_rfl,
  v4 := fun _ => by kernel_rfl,
  i4 := by kernel_rfl,
  t5 := by kernel_rfl,
  a5 := fun _ => by kernel_rfl,
  z5 := fun _ => by kernel_rfl,
  v5 := fun _ => by kernel_rfl,
  i5 := by kernel_rfl,
  t22 := by kernel_rfl,
  a22 := fun _ => by kernel_rfl,
  z22 := fun _ => by kernel_rfl,
  v22 := fun _ => by kernel_rfl,
  i22 := by kernel_rfl,
  t25 := by kernel_rfl,
  a25 := fun _ => by kernel_rfl,
  z25 := fun _ => by kernel_rfl,
  v25 := fun _ => by kernel_rfl,
  i25 := by kernel_rfl,
  t54 := by kernel_rfl,
  a54 := fun _ => by kernel_rfl,
  z54 := fun _ => by kernel_rfl,
  g1 := by kernel_rfl }

noncomputable def P130 : List PV → Option PV
  | [.int .u64 n] => if 0 ≤ n ∧ n < 18446744073709551616 then some (.int .i64 (Lib.ctz 64 n.toNat : Nat)) else none
  | _ => none
theorem f130_ok : GivenOk Tryd.prog 130 (.pcall P130) := by
  refine ⟨callOk_of Tryd.func130 rfl (by kernel_rfl), fun ps r h w okx vs hgl ha => ?_⟩
  unfold P130 at h
  split at h
  · rename_i n
    split at h
    · rename_i hn
      injection h with h
      subst h
      obtain ⟨v, rfl⟩ := List.length_eq_one_iff.1 (show vs.length = 1 from ha.1)
      have hv := (ha.2 0 v _ rfl rfl).intI
      subst hv
      have hT : TabAt (ren_trail.g 1) Lib.deBruijn64tab w := by
        intro j hj
        have e : globs = [(0, Lib.deBruijn64tab.map fun n : Nat => Value.int .u8 (n : Int))] := by kernel_rfl
        refine hgl (0, Lib.deBruijn64tab.map fun n : Nat => Value.int .u8 (n : Int)) (by rw [e]; exact List.mem_cons_self) j _ ?_
        simp [List.getD, hj]
      have := Any7.bits_TrailingZeros64 lays_trail n.toNat (by omega) w fun _ => hT
      rw [Int.toNat_of_nonneg hn.1] at this
      refine this.mono ?_
      rintro e w' ⟨rfl, rfl⟩
      exact ⟨_, rfl, Below.refl _ _, .int _ _⟩
    · cases h
  · cases h
end Go.Bw.A
