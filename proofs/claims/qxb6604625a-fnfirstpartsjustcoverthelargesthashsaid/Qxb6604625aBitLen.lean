/-
  (*uint256).bitLen (function 15) and ZZBitLen (function 11): contracts.
-/
import Derived.Test.Qxb6604625aLen
import Derived.Handy
namespace Go.Proofs.Qxb6604625a
open Go.RowKit

/-- The bit length of the number whose limbs, least significant first, are v0 .. v3. -/
def bl (v0 v1 v2 v3 : Int) : Int :=
  if v3 = 0 then (if v2 = 0 then (if v1 = 0 then Lib.bitLen v0.toNat else 64 + Lib.bitLen v1.toNat) else 128 + Lib.bitLen v2.toNat) else 192 + Lib.bitLen v3.toNat

theorem bitLen64 (x : Int) (h1 : x ≤ 18446744073709551615) : Lib.bitLen x.toNat ≤ 64 := Lib.bitLen_le _ 64 (by decide) (by omega)

set_option maxHeartbeats 1000000 in
theorem bitLen_3 (b : Nat) (v3 : Int) (w : World) (a3 : 0 ≤ v3) (b3 : v3 ≤ 18446744073709551615) (n3 : (v3 != 0) = true)
    (c3 : w.cell? ⟨b, 3, none⟩ = some (.int .u64 v3)) :
    Calls Try.prog 15 #[.pointer (some ⟨b, 0, none⟩)] w fun e w' => e = .returned (.int .i64 (192 + Lib.bitLen v3.toNat)) ∧ w' = w := by
  have hl := bitLen64 v3 b3
  go_enter Try.func15, Try.ntmps15
  go_wp2
  refine wp_loop_rounds 1 ?_
  rw [rounds_succ]
  go_wp2_with (go_at_call 17; refine (len64_any v3 a3 b3 _).mono ?_; rintro e w' ⟨rfl, rfl⟩)
  go_ret
  exact ⟨rfl, rfl⟩


set_option maxHeartbeats 1000000 in
theorem bitLen_2 (b : Nat) (v2 : Int) (w : World) (a2 : 0 ≤ v2) (b2 : v2 ≤ 18446744073709551615) (n2 : (v2 != 0) = true)
    (c2 : w.cell? ⟨b, 2, none⟩ = some (.int .u64 v2)) (c3 : w.cell? ⟨b, 3, none⟩ = some (.int .u64 0)) :
    Calls Try.prog 15 #[.pointer (some ⟨b, 0, none⟩)] w fun e w' => e = .returned (.int .i64 (128 + Lib.bitLen v2.toNat)) ∧ w' = w := by
  have hl := bitLen64 v2 b2
  go_enter Try.func15, Try.ntmps15
  go_wp2
  refine wp_loop_rounds 2 ?_
  rw [rounds_succ]
  go_wp2
  rw [rounds_succ]
  go_wp2_with (go_at_call 17; refine (len64_any v2 a2 b2 _).mono ?_; rintro e w' ⟨rfl, rfl⟩)
  go_ret
  exact ⟨rfl, rfl⟩

set_option maxHeartbeats 1000000 in
theorem bitLen_1 (b : Nat) (v1 : Int) (w : World) (a1 : 0 ≤ v1) (b1 : v1 ≤ 18446744073709551615) (n1 : (v1 != 0) = true)
    (c1 : w.cell? ⟨b, 1, none⟩ = some (.int .u64 v1)) (c2 : w.cell? ⟨b, 2, none⟩ = some (.int .u64 0)) (c3 : w.cell? ⟨b, 3, none⟩ = some (.int .u64 0)) :
    Calls Try.prog 15 #[.pointer (some ⟨b, 0, none⟩)] w fun e w' => e = .returned (.int .i64 (64 + Lib.bitLen v1.toNat)) ∧ w' = w := by
  have hl := bitLen64 v1 b1
  go_enter Try.func15, Try.ntmps15
  go_wp2
  refine wp_loop_rounds 3 ?_
  rw [rounds_succ]
  go_wp2
  rw [rounds_succ]
  go_wp2
  rw [rounds_succ]
  go_wp2_with (go_at_call 17; refine (len64_any v1 a1 b1 _).mono ?_; rintro e w' ⟨rfl, rfl⟩)
  go_ret
  exact ⟨rfl, rfl⟩

set_option maxHeartbeats 1000000 in
theorem bitLen_0 (b : Nat) (v0 : Int) (w : World) (a0 : 0 ≤ v0) (b0 : v0 ≤ 18446744073709551615) (n0 : (v0 != 0) = true)
    (c0 : w.cell? ⟨b, 0, none⟩ = some (.int .u64 v0)) (c1 : w.cell? ⟨b, 1, none⟩ = some (.int .u64 0)) (c2 : w.cell? ⟨b, 2, none⟩ = some (.int .u64 0)) (c3 : w.cell? ⟨b, 3, none⟩ = some (.int .u64 0)) :
    Calls Try.prog 15 #[.pointer (some ⟨b, 0, none⟩)] w fun e w' => e = .returned (.int .i64 (Lib.bitLen v0.toNat)) ∧ w' = w := by
  have hl := bitLen64 v0 b0
  go_enter Try.func15, Try.ntmps15
  go_wp2
  refine wp_loop_rounds 4 ?_
  rw [rounds_succ]
  go_wp2
  rw [rounds_succ]
  go_wp2
  rw [rounds_succ]
  go_wp2
  rw [rounds_succ]
  go_wp2_with (go_at_call 17; refine (len64_any v0 a0 b0 _).mono ?_; rintro e w' ⟨rfl, rfl⟩)
  go_ret
  exact ⟨rfl, rfl⟩

set_option maxHeartbeats 1000000 in
theorem bitLen_none (b : Nat) (w : World)
    (c0 : w.cell? ⟨b, 0, none⟩ = some (.int .u64 0)) (c1 : w.cell? ⟨b, 1, none⟩ = some (.int .u64 0)) (c2 : w.cell? ⟨b, 2, none⟩ = some (.int .u64 0)) (c3 : w.cell? ⟨b, 3, none⟩ = some (.int .u64 0)) :
    Calls Try.prog 15 #[.pointer (some ⟨b, 0, none⟩)] w fun e w' => e = .returned (.int .i64 0) ∧ w' = w := by
  go_enter Try.func15, Try.ntmps15
  go_wp2
  refine wp_loop_rounds 5 ?_
  rw [rounds_succ]
  go_wp2
  rw [rounds_succ]
  go_wp2
  rw [rounds_succ]
  go_wp2
  rw [rounds_succ]
  go_wp2
  rw [rounds_succ]
  go_wp2
  go_ret
  exact ⟨rfl, rfl⟩

theorem bitLen_any (b : Nat) (v0 v1 v2 v3 : Int) (w : World) (h0 : 0 ≤ v0 ∧ v0 ≤ 18446744073709551615) (h1 : 0 ≤ v1 ∧ v1 ≤ 18446744073709551615) (h2 : 0 ≤ v2 ∧ v2 ≤ 18446744073709551615) (h3 : 0 ≤ v3 ∧ v3 ≤ 18446744073709551615)
    (c0 : w.cell? ⟨b, 0, none⟩ = some (.int .u64 v0)) (c1 : w.cell? ⟨b, 1, none⟩ = some (.int .u64 v1)) (c2 : w.cell? ⟨b, 2, none⟩ = some (.int .u64 v2)) (c3 : w.cell? ⟨b, 3, none⟩ = some (.int .u64 v3)) :
    Calls Try.prog 15 #[.pointer (some ⟨b, 0, none⟩)] w fun e w' => e = .returned (.int .i64 (bl v0 v1 v2 v3)) ∧ w' = w := by
  by_cases n3 : v3 = 0
  · subst n3
    by_cases n2 : v2 = 0
    · subst n2
      by_cases n1 : v1 = 0
      · subst n1
        by_cases n0 : v0 = 0
        · subst n0
          have e : bl 0 0 0 0 = 0 := by decide
          rw [e]
          exact bitLen_none b w c0 c1 c2 c3
        · have e : bl v0 0 0 0 = Lib.bitLen v0.toNat := by simp [bl]
          rw [e]
          exact bitLen_0 b v0 w h0.1 h0.2 (by simp [n0]) c0 c1 c2 c3
      · have e : bl v0 v1 0 0 = 64 + Lib.bitLen v1.toNat := by simp [bl, n1]
        rw [e]
        exact bitLen_1 b v1 w h1.1 h1.2 (by simp [n1]) c1 c2 c3
    · have e : bl v0 v1 v2 0 = 128 + Lib.bitLen v2.toNat := by simp [bl, n2]
      rw [e]
      exact bitLen_2 b v2 w h2.1 h2.2 (by simp [n2]) c2 c3
  · have e : bl v0 v1 v2 v3 = 192 + Lib.bitLen v3.toNat := by simp [bl, n3]
    rw [e]
    exact bitLen_3 b v3 w h3.1 h3.2 (by simp [n3]) c3

set_option maxHeartbeats 1000000 in
theorem zzBitLen_any (v0 v1 v2 v3 : Int) (w : World) (h0 : 0 ≤ v0 ∧ v0 ≤ 18446744073709551615) (h1 : 0 ≤ v1 ∧ v1 ≤ 18446744073709551615) (h2 : 0 ≤ v2 ∧ v2 ≤ 18446744073709551615) (h3 : 0 ≤ v3 ∧ v3 ≤ 18446744073709551615) :
    Calls Try.prog 11 #[.agg #[.int .u64 v0, .int .u64 v1, .int .u64 v2, .int .u64 v3]] w fun e w' => e = .returned (.int .i64 (bl v0 v1 v2 v3)) ∧
      w' = (w.alloc (.cells #[.int .u64 v0, .int .u64 v1, .int .u64 v2, .int .u64 v3] 26)).alloc (.cells #[.int .u64 v0, .int .u64 v1, .int .u64 v2, .int .u64 v3] 39) := by
  go_enter Try.func11, Try.ntmps11
  go_wp2_with fail
  refine (bitLen_any (w.heap.size + 1) v0 v1 v2 v3 _ h0 h1 h2 h3 (by simp [go_sem]) (by simp [go_sem]) (by simp [go_sem]) (by simp [go_sem])).mono ?_
  rintro e w' ⟨rfl, rfl⟩
  go_wp2
  go_ret
  exact ⟨rfl, rfl⟩
end Go.Proofs.Qxb6604625a
