/-
  FnFirstPartsJustCoverTheLargestHash (function 7): the walk.
-/
import Derived.Test.Qxb6604625aBitLen
namespace Go.Proofs.Qxb6604625a
open Go.RowKit

/-- ZZFirstParts (function 12) at the four sizes. -/
theorem firstParts_at (s : Int) (r : Int) (h : (s = 4 ∧ r = 1) ∨ (s = 8 ∧ r = 1) ∨ (s = 16 ∧ r = 2) ∨ (s = 32 ∧ r = 4)) (w : World) :
    Calls Try.prog 12 #[.int .i64 s] w fun e w' => e = .returned (.int .i64 r) ∧ ∃ c, w' = w.alloc (.cells c 44) := by
  rcases h with ⟨rfl, rfl⟩ | ⟨rfl, rfl⟩ | ⟨rfl, rfl⟩ | ⟨rfl, rfl⟩
  all_goals
    go_enter Try.func12, Try.ntmps12
    go_wp2
    go_ret
    exact ⟨rfl, _, rfl⟩

set_option maxRecDepth 100000 in
set_option maxHeartbeats 1000000 in
theorem cover_4 (w : World) :
    Calls Try.prog 7 #[.int .i64 4] w fun e w' => e = .returned (.bool true) ∧ Grown w w' := by
  have HB : Hid (bl 4294967295 0 0 0 = 32) := by unfold Hid; decide +kernel
  go_enter Try.func7, Try.ntmps7
  go_wp2
  refine wp_loop_rounds 5 ?_
  rw [rounds_succ]
  go_wp2
  rw [rounds_succ]
  go_wp2
  rw [rounds_succ]
  go_wp2
  rw [rounds_succ]
  go_wp2
  rw [rounds_succ]
  go_wp2_with fail
  refine (zzBitLen_any 4294967295 0 0 0 _ (by omega) (by omega) (by omega) (by omega)).mono ?_
  rintro e w' ⟨rfl, rfl⟩
  rw [HB.out]
  go_wp2_with fail
  refine (firstParts_at 4 1 (by omega) _).mono ?_
  rintro e w' ⟨rfl, c, rfl⟩
  go_wp2
  go_ret
  exact ⟨rfl, by repeat (first | exact Grown.refl _ | apply Grown.drew | apply Grown.alloc)⟩

set_option maxRecDepth 100000 in
set_option maxHeartbeats 1000000 in
theorem cover_8 (w : World) :
    Calls Try.prog 7 #[.int .i64 8] w fun e w' => e = .returned (.bool true) ∧ Grown w w' := by
  have HB : Hid (bl 18446744073709551615 0 0 0 = 64) := by unfold Hid; decide +kernel
  go_enter Try.func7, Try.ntmps7
  go_wp2
  refine wp_loop_rounds 5 ?_
  rw [rounds_succ]
  go_wp2
  rw [rounds_succ]
  go_wp2
  rw [rounds_succ]
  go_wp2
  rw [rounds_succ]
  go_wp2
  rw [rounds_succ]
  go_wp2_with fail
  refine (zzBitLen_any 18446744073709551615 0 0 0 _ (by omega) (by omega) (by omega) (by omega)).mono ?_
  rintro e w' ⟨rfl, rfl⟩
  rw [HB.out]
  go_wp2_with fail
  refine (firstParts_at 8 1 (by omega) _).mono ?_
  rintro e w' ⟨rfl, c, rfl⟩
  go_wp2
  go_ret
  exact ⟨rfl, by repeat (first | exact Grown.refl _ | apply Grown.drew | apply Grown.alloc)⟩

set_option maxRecDepth 100000 in
set_option maxHeartbeats 1000000 in
theorem cover_16 (w : World) :
    Calls Try.prog 7 #[.int .i64 16] w fun e w' => e = .returned (.bool true) ∧ Grown w w' := by
  have HB : Hid (bl 18446744073709551615 18446744073709551615 0 0 = 128) := by unfold Hid; decide +kernel
  go_enter Try.func7, Try.ntmps7
  go_wp2
  refine wp_loop_rounds 5 ?_
  rw [rounds_succ]
  go_wp2
  rw [rounds_succ]
  go_wp2
  rw [rounds_succ]
  go_wp2
  rw [rounds_succ]
  go_wp2
  rw [rounds_succ]
  go_wp2_with fail
  refine (zzBitLen_any 18446744073709551615 18446744073709551615 0 0 _ (by omega) (by omega) (by omega) (by omega)).mono ?_
  rintro e w' ⟨rfl, rfl⟩
  rw [HB.out]
  go_wp2_with fail
  refine (firstParts_at 16 2 (by omega) _).mono ?_
  rintro e w' ⟨rfl, c, rfl⟩
  go_wp2
  go_ret
  exact ⟨rfl, by repeat (first | exact Grown.refl _ | apply Grown.drew | apply Grown.alloc)⟩

set_option maxRecDepth 100000 in
set_option maxHeartbeats 1000000 in
theorem cover_32 (w : World) :
    Calls Try.prog 7 #[.int .i64 32] w fun e w' => e = .returned (.bool true) ∧ Grown w w' := by
  have HB : Hid (bl 18446744073709551615 18446744073709551615 18446744073709551615 18446744073709551615 = 256) := by unfold Hid; decide +kernel
  go_enter Try.func7, Try.ntmps7
  go_wp2
  refine wp_loop_rounds 5 ?_
  rw [rounds_succ]
  go_wp2
  rw [rounds_succ]
  go_wp2
  rw [rounds_succ]
  go_wp2
  rw [rounds_succ]
  go_wp2
  rw [rounds_succ]
  go_wp2_with fail
  refine (zzBitLen_any 18446744073709551615 18446744073709551615 18446744073709551615 18446744073709551615 _ (by omega) (by omega) (by omega) (by omega)).mono ?_
  rintro e w' ⟨rfl, rfl⟩
  rw [HB.out]
  go_wp2_with fail
  refine (firstParts_at 32 4 (by omega) _).mono ?_
  rintro e w' ⟨rfl, c, rfl⟩
  go_wp2
  go_ret
  exact ⟨rfl, by repeat (first | exact Grown.refl _ | apply Grown.drew | apply Grown.alloc)⟩

theorem cover_walk (a0 : Int) (w : World) :
    Calls Try.prog 7 #[.int .i64 a0] w fun e w' => e = .returned (.bool true) ∧ Grown w w' := by
  by_cases h4 : a0 = 4
  · subst h4; exact cover_4 w
  by_cases h8 : a0 = 8
  · subst h8; exact cover_8 w
  by_cases h16 : a0 = 16
  · subst h16; exact cover_16 w
  by_cases h32 : a0 = 32
  · subst h32; exact cover_32 w
  have b4 : (a0 != 4) = true := bne_iff_ne.2 h4
  have b8 : (a0 != 8) = true := bne_iff_ne.2 h8
  have b16 : (a0 != 16) = true := bne_iff_ne.2 h16
  have b32 : (a0 != 32) = true := bne_iff_ne.2 h32
  clear h4 h8 h16 h32
  go_enter Try.func7, Try.ntmps7
  go_wp2
  go_ret
  exact ⟨rfl, by repeat (first | exact Grown.refl _ | apply Grown.drew | apply Grown.alloc)⟩
end Go.Proofs.Qxb6604625a
