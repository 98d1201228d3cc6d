/-
  FnBitLenHalvingDropsOneBit (function 5): the plain law and the walk.
-/
import Derived.Test.Qxb6604625aBitLen
import Derived.Laws.Bits64b
namespace Go.Proofs.Qxb6604625a
open Go.RowKit

/-! ### THE PLAIN LAW -/
theorem bitLen_zero : Lib.bitLen 0 = 0 := by decide
theorem bitLen_top (x : Nat) (h : 9223372036854775808 ≤ x) (hx : x < 18446744073709551616) : Lib.bitLen x = 64 := by
  have e := Lib.bitLen_shift 63 x h hx
  have d : x / 2 ^ 63 = 1 := by omega
  rw [e, d]
  decide
/-- One limb of the halved number. -/
def hv (a b : Nat) : Nat := a / 2 + b % 2 * 9223372036854775808
theorem hv_lt (a b : Nat) (h : a < 18446744073709551616) : hv a b < 18446744073709551616 := by unfold hv; omega

/-- The top limb that is not 0 is a; the one below it is b. -/
theorem drop (a b : Nat) (ha : a < 18446744073709551616) (hb : b < 18446744073709551616) (n : a ≠ 0) :
    (a / 2 ≠ 0 → Lib.bitLen a = 1 + Lib.bitLen (a / 2)) ∧ (a / 2 = 0 → Lib.bitLen a = 1 ∧ hv b a ≠ 0 ∧ Lib.bitLen (hv b a) = 64) := by
  refine ⟨fun _ => Lib.bitLen_half a n ha, fun h => ?_⟩
  have ea : a = 1 := by omega
  subst ea
  have : 9223372036854775808 ≤ hv b 1 := by unfold hv; omega
  exact ⟨by decide, by omega, bitLen_top _ this (hv_lt _ _ hb)⟩

theorem bl_halve (n0 n1 n2 n3 : Nat) (h0 : n0 < 18446744073709551616) (h1 : n1 < 18446744073709551616) (h2 : n2 < 18446744073709551616) (h3 : n3 < 18446744073709551616)
    (hn : ¬ (n0 = 0 ∧ n1 = 0 ∧ n2 = 0 ∧ n3 = 0)) :
    bl n0 n1 n2 n3 = bl (hv n0 n1 : Nat) (hv n1 n2 : Nat) (hv n2 n3 : Nat) (hv n3 0 : Nat) + 1 := by
  have z : ∀ a, hv a 0 = a / 2 := fun a => by unfold hv; omega
  simp only [bl, Int.toNat_natCast, Int.natCast_eq_zero]
  by_cases a3 : n3 = 0
  · subst a3
    simp only [z, Nat.zero_div, if_true]
    by_cases a2 : n2 = 0
    · subst a2
      simp only [z, Nat.zero_div, if_true]
      by_cases a1 : n1 = 0
      · subst a1
        simp only [z, Nat.zero_div, if_true]
        have := Lib.bitLen_half n0 (by omega) h0
        omega
      · obtain ⟨p, q⟩ := drop n1 n0 h1 h0 a1
        rw [if_neg a1]
        by_cases g : n1 / 2 = 0
        · obtain ⟨q1, q2, q3⟩ := q g
          rw [if_pos g, q1, q3]; rfl
        · rw [if_neg g, p g]; omega
    · obtain ⟨p, q⟩ := drop n2 n1 h2 h1 a2
      rw [if_neg a2]
      by_cases g : n2 / 2 = 0
      · obtain ⟨q1, q2, q3⟩ := q g
        rw [if_pos g, if_neg q2, q1, q3]; rfl
      · rw [if_neg g, p g]; omega
  · obtain ⟨p, q⟩ := drop n3 n2 h3 h2 a3
    rw [if_neg a3, z]
    by_cases g : n3 / 2 = 0
    · obtain ⟨q1, q2, q3⟩ := q g
      rw [if_pos g, if_neg q2, q1, q3]; rfl
    · rw [if_neg g, p g]; omega

theorem bl_bd (v0 v1 v2 v3 : Int) (h0 : v0 ≤ 18446744073709551615) (h1 : v1 ≤ 18446744073709551615) (h2 : v2 ≤ 18446744073709551615) (h3 : v3 ≤ 18446744073709551615) : 0 ≤ bl v0 v1 v2 v3 ∧ bl v0 v1 v2 v3 ≤ 256 := by
  have b0 := bitLen64 v0 h0
  have b1 := bitLen64 v1 h1
  have b2 := bitLen64 v2 h2
  have b3 := bitLen64 v3 h3
  unfold bl
  split
  · split
    · split <;> omega
    · omega
  · omega

/-- A limb of the halved number, as the walk spells it. -/
theorem hv_walk (a b : Nat) (ha : a < 18446744073709551616) : bits BinOp.or IntKind.u64 ((a : Int) / 2) (IntKind.u64.wrap ((b : Int) * 9223372036854775808)) = (hv a b : Nat) := by
  have e1 : (a : Int) / 2 = ((a / 2 : Nat) : Int) := by omega
  have e2 : IntKind.u64.wrap ((b : Int) * 9223372036854775808) = ((2 ^ 63 * (b % 2) : Nat) : Int) := by rw [IntKind.wrap_u64]; omega
  rw [e1, e2, bits_or_u64_nat _ _ (by omega) (by omega), Nat.or_comm, ← Nat.two_pow_add_eq_or_of_lt (show a / 2 < 2 ^ 63 by omega)]
  unfold hv
  omega
theorem or_zero (n0 n1 n2 n3 : Nat) (h0 : n0 < 18446744073709551616) (h1 : n1 < 18446744073709551616) (h2 : n2 < 18446744073709551616) (h3 : n3 < 18446744073709551616) :
    (bits BinOp.or IntKind.u64 (bits BinOp.or IntKind.u64 (bits BinOp.or IntKind.u64 (n0 : Int) (n1 : Int)) (n2 : Int)) (n3 : Int) == 0) = decide (n0 = 0 ∧ n1 = 0 ∧ n2 = 0 ∧ n3 = 0) := by
  have l1 : n0 ||| n1 < 2 ^ 64 := Nat.or_lt_two_pow h0 h1
  have l2 : n0 ||| n1 ||| n2 < 2 ^ 64 := Nat.or_lt_two_pow l1 h2
  rw [bits_or_u64_nat _ _ h0 h1, bits_or_u64_nat _ _ l1 h2, bits_or_u64_nat _ _ l2 h3, Bool.eq_iff_iff]
  simp [Nat.or_eq_zero_iff, and_assoc]

/-! ### THE WALK -/
set_option maxRecDepth 100000 in
set_option maxHeartbeats 1000000 in
theorem halve_zero (w : World) :
    Calls Try.prog 5 #[.agg #[.int .u64 0, .int .u64 0, .int .u64 0, .int .u64 0]] w fun e w' => e = .returned (.bool true) ∧ Grown w w' := by
  have hz : (bits BinOp.or IntKind.u64 (bits BinOp.or IntKind.u64 (bits BinOp.or IntKind.u64 0 0) 0) 0 == 0) = true := by decide +kernel
  have HB : Hid (bl 0 0 0 0 = 0) := by unfold Hid; decide
  go_enter Try.func5, Try.ntmps5
  go_wp2_with (go_at_call 11; refine (zzBitLen_any 0 0 0 0 _ (by omega) (by omega) (by omega) (by omega)).mono ?_; rintro e w' ⟨rfl, rfl⟩; rw [HB.out])
  go_ret
  exact ⟨rfl, by repeat (first | exact Grown.refl _ | apply Grown.drew | apply Grown.alloc)⟩

set_option maxRecDepth 100000 in
set_option maxHeartbeats 1000000 in
theorem halve_some (n0 n1 n2 n3 : Nat) (h0 : n0 < 18446744073709551616) (h1 : n1 < 18446744073709551616) (h2 : n2 < 18446744073709551616) (h3 : n3 < 18446744073709551616)
    (hn : ¬ (n0 = 0 ∧ n1 = 0 ∧ n2 = 0 ∧ n3 = 0)) (w : World) :
    Calls Try.prog 5 #[.agg #[.int .u64 n0, .int .u64 n1, .int .u64 n2, .int .u64 n3]] w fun e w' => e = .returned (.bool true) ∧ Grown w w' := by
  have hz : (bits BinOp.or IntKind.u64 (bits BinOp.or IntKind.u64 (bits BinOp.or IntKind.u64 (n0 : Int) (n1 : Int)) (n2 : Int)) (n3 : Int) == 0) = false := by
    rw [or_zero n0 n1 n2 n3 h0 h1 h2 h3]; simpa using hn
  have HB : Hid (bl n0 n1 n2 n3 = bl (hv n0 n1 : Nat) (hv n1 n2 : Nat) (hv n2 n3 : Nat) (hv n3 0 : Nat) + 1) := bl_halve n0 n1 n2 n3 h0 h1 h2 h3 hn
  have E0 : Hid (bits BinOp.or IntKind.u64 ((n0 : Int) / 2) (IntKind.u64.wrap ((n1 : Int) * 9223372036854775808)) = (hv n0 n1 : Nat)) := hv_walk n0 n1 h0
  have E1 : Hid (bits BinOp.or IntKind.u64 ((n1 : Int) / 2) (IntKind.u64.wrap ((n2 : Int) * 9223372036854775808)) = (hv n1 n2 : Nat)) := hv_walk n1 n2 h1
  have E2 : Hid (bits BinOp.or IntKind.u64 ((n2 : Int) / 2) (IntKind.u64.wrap ((n3 : Int) * 9223372036854775808)) = (hv n2 n3 : Nat)) := hv_walk n2 n3 h2
  have E3 : Hid ((n3 : Int) / 2 = (hv n3 0 : Nat)) := by unfold Hid hv; omega
  have l0 := hv_lt n0 n1 h0
  have l1 := hv_lt n1 n2 h1
  have l2 := hv_lt n2 n3 h2
  have l3 := hv_lt n3 0 h3
  have hbd := bl_bd (hv n0 n1 : Nat) (hv n1 n2 : Nat) (hv n2 n3 : Nat) (hv n3 0 : Nat) (by omega) (by omega) (by omega) (by omega)
  generalize hv n0 n1 = m0 at *
  generalize hv n1 n2 = m1 at *
  generalize hv n2 n3 = m2 at *
  generalize hv n3 0 = m3 at *
  obtain ⟨t, ht⟩ : ∃ t, t = bl m0 m1 m2 m3 := ⟨_, rfl⟩
  rw [← ht] at hbd HB
  have HT : Hid (t = bl m0 m1 m2 m3) := ht
  clear ht hn
  obtain ⟨hb0, hb1⟩ := hbd
  go_enter Try.func5, Try.ntmps5
  go_wp2_with fail
  refine (zzBitLen_any n0 n1 n2 n3 _ (by omega) (by omega) (by omega) (by omega)).mono ?_
  rintro e w' ⟨rfl, rfl⟩
  rw [HB.out]
  go_wp2_with fail
  rw [E0.out, E1.out, E2.out, E3.out]
  refine (zzBitLen_any m0 m1 m2 m3 _ (by omega) (by omega) (by omega) (by omega)).mono ?_
  rintro e w' ⟨rfl, rfl⟩
  rw [← HT.out]
  go_wp2
  go_ret
  exact ⟨by simp, by repeat (first | exact Grown.refl _ | apply Grown.drew | apply Grown.alloc)⟩

theorem halve_walk (n0 n1 n2 n3 : Nat) (h0 : n0 < 18446744073709551616) (h1 : n1 < 18446744073709551616) (h2 : n2 < 18446744073709551616) (h3 : n3 < 18446744073709551616) (w : World) :
    Calls Try.prog 5 #[.agg #[.int .u64 n0, .int .u64 n1, .int .u64 n2, .int .u64 n3]] w fun e w' => e = .returned (.bool true) ∧ Grown w w' := by
  by_cases hn : n0 = 0 ∧ n1 = 0 ∧ n2 = 0 ∧ n3 = 0
  · obtain ⟨rfl, rfl, rfl, rfl⟩ := hn
    exact halve_zero w
  · exact halve_some n0 n1 n2 n3 h0 h1 h2 h3 hn w
end Go.Proofs.Qxb6604625a
