/-
  mix (32), ZZMix (9), unxorshift (30), mulInverse (31), unmix (8): contracts.
-/
import Derived.Test.Qxb6003334aRows
import Derived.Test.Qxb6003334aMixPlain
import Derived.WalkKit
import Derived.Laws.Bits64b
import Derived.Handy
namespace Go.Proofs.Qxb6003334a
open Go.RowKit

/-! ### THE STEPS AS THE WALK SPELLS THEM -/
theorem w_xs (X s d : Nat) (hX : X < 18446744073709551616) (hd : d = 2 ^ s) : bits BinOp.xor IntKind.u64 (X : Int) ((X : Int) / (d : Int)) = (Mx.xs s X : Nat) := by
  rw [xorShift_u64 X d hX, hd]
  unfold Mx.xs
  rw [Nat.shiftRight_eq_div_pow]
theorem w_mul (X c : Nat) : IntKind.u64.wrap ((X : Int) * (c : Int)) = (Mx.mul c X : Nat) := by
  rw [IntKind.wrap_u64]
  unfold Mx.mul
  omega
theorem w_mix (h : Nat) (hh : h < 18446744073709551616) :
    (bits BinOp.xor IntKind.u64
      (IntKind.u64.wrap (bits BinOp.xor IntKind.u64 (IntKind.u64.wrap (bits BinOp.xor IntKind.u64 (h : Int) ((h : Int) / 1073741824) * 13787848793156543929))
        (IntKind.u64.wrap (bits BinOp.xor IntKind.u64 (h : Int) ((h : Int) / 1073741824) * 13787848793156543929) / 134217728) * 10723151780598845931))
      (IntKind.u64.wrap (bits BinOp.xor IntKind.u64 (IntKind.u64.wrap (bits BinOp.xor IntKind.u64 (h : Int) ((h : Int) / 1073741824) * 13787848793156543929))
        (IntKind.u64.wrap (bits BinOp.xor IntKind.u64 (h : Int) ((h : Int) / 1073741824) * 13787848793156543929) / 134217728) * 10723151780598845931) / 2147483648)) = (Mx.mix h : Nat) := by
  have e1 : bits BinOp.xor IntKind.u64 (h : Int) ((h : Int) / 1073741824) = (Mx.xs 30 h : Nat) := w_xs h 30 1073741824 hh (by decide)
  have e2 : IntKind.u64.wrap (((Mx.xs 30 h : Nat) : Int) * 13787848793156543929) = (Mx.mul Mx.c1 (Mx.xs 30 h) : Nat) := w_mul (Mx.xs 30 h) Mx.c1
  rw [e1, e2]
  have l2 : Mx.mul Mx.c1 (Mx.xs 30 h) < 18446744073709551616 := Mx.mul_lt _ _
  unfold Mx.mix
  generalize Mx.mul Mx.c1 (Mx.xs 30 h) = y at *
  have e3 : bits BinOp.xor IntKind.u64 (y : Int) ((y : Int) / 134217728) = (Mx.xs 27 y : Nat) := w_xs y 27 134217728 l2 (by decide)
  have e4 : IntKind.u64.wrap (((Mx.xs 27 y : Nat) : Int) * 10723151780598845931) = (Mx.mul Mx.c2 (Mx.xs 27 y) : Nat) := w_mul (Mx.xs 27 y) Mx.c2
  rw [e3, e4]
  exact w_xs _ 31 2147483648 (Mx.mul_lt _ _) (by decide)

theorem w_xsy (y x s d : Nat) (hy : y < 18446744073709551616) (hx : x < 18446744073709551616) (hd : d = 2 ^ s) : bits BinOp.xor IntKind.u64 (y : Int) ((x : Int) / (d : Int)) = ((y ^^^ (x >>> s) : Nat) : Int) := by
  rw [← Int.natCast_ediv, bits_xor_u64_nat y (x / d) hy (Nat.lt_of_le_of_lt (Nat.div_le_self _ _) hx), hd, Nat.shiftRight_eq_div_pow]
theorem w_unxs (y s d : Nat) (hy : y < 18446744073709551616) (hd : d = 2 ^ s) :
    bits BinOp.xor IntKind.u64 (y : Int) (bits BinOp.xor IntKind.u64 (y : Int) (bits BinOp.xor IntKind.u64 (y : Int) ((y : Int) / (d : Int)) / (d : Int)) / (d : Int)) = (Mx.unxs s y : Nat) := by
  have l : ∀ x, x < 18446744073709551616 → y ^^^ (x >>> s) < 18446744073709551616 := fun x hx => Nat.xor_lt_two_pow (n := 64) hy (Nat.lt_of_le_of_lt (Nat.shiftRight_le _ _) hx)
  rw [w_xsy y y s d hy hy hd, w_xsy y _ s d hy (l _ hy) hd, w_xsy y _ s d hy (l _ (l _ hy)) hd]
  rfl
theorem w_newton (a k : Nat) : IntKind.u64.wrap ((Mx.newton a k : Int) * IntKind.u64.wrap (2 - IntKind.u64.wrap ((a : Int) * (Mx.newton a k : Int)))) = (Mx.newton a (k + 1) : Nat) := by
  simp only [IntKind.wrap_u64, Mx.newton]
  generalize Mx.newton a k = x
  have e1 : ((a : Int) * (x : Int)) % 18446744073709551616 = ((a * x % 18446744073709551616 : Nat) : Int) := by rw [Int.natCast_emod, Int.natCast_mul]; rfl
  rw [e1]
  have hm : a * x % 18446744073709551616 < 18446744073709551616 := Nat.mod_lt _ (by decide)
  generalize a * x % 18446744073709551616 = m at *
  have e2 : (2 - (m : Int)) % 18446744073709551616 = (((18446744073709551618 - m) % 18446744073709551616 : Nat) : Int) := by omega
  rw [e2]
  generalize (18446744073709551618 - m) % 18446744073709551616 = z
  rw [Int.natCast_emod, Int.natCast_mul]
  rfl

set_option maxRecDepth 100000 in
theorem mix_any (h : Nat) (hh : h < 18446744073709551616) (w : World) :
    Calls Try.prog 32 #[.int .u64 h] w fun e w' => e = .returned (.int .u64 (Mx.mix h : Nat)) ∧ w' = w := by
  go_enter Try.func32, Try.ntmps32
  go_wp2
  go_ret
  refine ⟨congrArg Ending.returned (congrArg (Value.int IntKind.u64) ?_), rfl⟩
  exact w_mix h hh

theorem zzMix_any (h : Nat) (hh : h < 18446744073709551616) (w : World) :
    Calls Try.prog 9 #[.int .u64 h] w fun e w' => e = .returned (.int .u64 (Mx.mix h : Nat)) ∧ w' = w := by
  go_enter Try.func9, Try.ntmps9
  go_wp2_with (go_at_call 32; refine (mix_any h hh _).mono ?_; rintro e w' ⟨rfl, rfl⟩)
  go_ret
  exact ⟨rfl, rfl⟩

set_option maxRecDepth 100000 in
theorem unxor_any (y s : Nat) (hy : y < 18446744073709551616) (h : s = 31 ∨ s = 27 ∨ s = 30) (w : World) :
    Calls Try.prog 30 #[.int .u64 y, .int .u64 s] w fun e w' => e = .returned (.int .u64 (Mx.unxs s y : Nat)) ∧ w' = w := by
  rcases h with rfl | rfl | rfl
  all_goals
    go_enter Try.func30, Try.ntmps30
    go_wp2
    refine wp_loop_rounds 4 ?_
    rw [rounds_succ]
    go_wp2
    rw [rounds_succ]
    go_wp2
    rw [rounds_succ]
    go_wp2
    rw [rounds_succ]
    go_wp2
    go_ret
    refine ⟨congrArg Ending.returned (congrArg (Value.int IntKind.u64) ?_), rfl⟩
    first | exact w_unxs y 31 2147483648 hy (by decide) | exact w_unxs y 27 134217728 hy (by decide) | exact w_unxs y 30 1073741824 hy (by decide)

set_option maxRecDepth 100000 in
theorem inv_any (a : Nat) (w : World) :
    Calls Try.prog 31 #[.int .u64 a] w fun e w' => e = .returned (.int .u64 (Mx.newton a 5 : Nat)) ∧ w' = w := by
  go_enter Try.func31, Try.ntmps31
  go_wp2
  go_loop [3, 4] (fun x i => ∃ k : Nat, k ≤ 5 ∧ i = .int .i64 k ∧ x = .int .u64 (Mx.newton a k : Nat)) (fun _ i => 5 - (intOf i).toNat)
  case atStart => exact ⟨0, by omega, rfl, rfl⟩
  case round =>
    obtain ⟨k, hk, rfl, rfl⟩ := hrel
    by_cases hlt : k < 5
    · go_wp2
      go_round
      case rel => 
        refine ⟨k + 1, by omega, by go_num, congrArg (Value.int IntKind.u64) ?_⟩
        exact w_newton a k
      case measure => simp [intOf]; omega
    · have hk' : k = 5 := by omega
      subst hk'
      go_wp2
      go_ret
      exact ⟨rfl, rfl⟩

theorem inv_c1 (w : World) : Calls Try.prog 31 #[.int .u64 13787848793156543929] w fun e w' => e = .returned (.int .u64 (Mx.newton Mx.c1 5 : Nat)) ∧ w' = w := inv_any Mx.c1 w
theorem inv_c2 (w : World) : Calls Try.prog 31 #[.int .u64 10723151780598845931] w fun e w' => e = .returned (.int .u64 (Mx.newton Mx.c2 5 : Nat)) ∧ w' = w := inv_any Mx.c2 w
theorem unxor_30 (y : Nat) (hy : y < 18446744073709551616) (w : World) : Calls Try.prog 30 #[.int .u64 y, .int .u64 30] w fun e w' => e = .returned (.int .u64 (Mx.unxs 30 y : Nat)) ∧ w' = w := unxor_any y 30 hy (by omega) w
theorem unxor_31 (y : Nat) (hy : y < 18446744073709551616) (w : World) : Calls Try.prog 30 #[.int .u64 y, .int .u64 31] w fun e w' => e = .returned (.int .u64 (Mx.unxs 31 y : Nat)) ∧ w' = w := unxor_any y 31 hy (by omega) w
theorem unxor_27 (y : Nat) (hy : y < 18446744073709551616) (w : World) : Calls Try.prog 30 #[.int .u64 y, .int .u64 27] w fun e w' => e = .returned (.int .u64 (Mx.unxs 27 y : Nat)) ∧ w' = w := unxor_any y 27 hy (by omega) w

theorem unmix_any (y : Nat) (hy : y < 18446744073709551616) (w : World) :
    Calls Try.prog 8 #[.int .u64 y] w fun e w' => e = .returned (.int .u64 (Mx.unmix y : Nat)) ∧ w' = w := by
  have hU : Mx.unmix y = Mx.unxs 30 (Mx.mul (Mx.newton Mx.c1 5) (Mx.unxs 27 (Mx.mul (Mx.newton Mx.c2 5) (Mx.unxs 31 y)))) := rfl
  rw [hU]
  clear hU
  go_enter Try.func8, Try.ntmps8
  go_wp2_with fail
  refine (unxor_31 y hy _).mono ?_
  rintro e w' ⟨rfl, rfl⟩
  have l1 : Mx.unxs 31 y < 18446744073709551616 := Mx.unxs_lt 31 y hy
  generalize q1 : Mx.unxs 31 y = y1 at *
  have Q1 : Hid (Mx.unxs 31 y = y1) := q1
  clear q1
  go_wp2_with fail
  refine (inv_c2 _).mono ?_
  rintro e w' ⟨rfl, rfl⟩
  generalize q2 : Mx.newton Mx.c2 5 = d2 at *
  have Q2 : Hid (Mx.newton Mx.c2 5 = d2) := q2
  clear q2
  go_wp2_with fail
  rw [w_mul y1 d2]
  have l2 : Mx.mul d2 y1 < 18446744073709551616 := Mx.mul_lt d2 y1
  generalize q3 : Mx.mul d2 y1 = y2 at *
  have Q3 : Hid (Mx.mul d2 y1 = y2) := q3
  clear q3
  refine (unxor_27 y2 l2 _).mono ?_
  rintro e w' ⟨rfl, rfl⟩
  have l3 : Mx.unxs 27 y2 < 18446744073709551616 := Mx.unxs_lt 27 y2 l2
  generalize q4 : Mx.unxs 27 y2 = y3 at *
  have Q4 : Hid (Mx.unxs 27 y2 = y3) := q4
  clear q4
  go_wp2_with fail
  refine (inv_c1 _).mono ?_
  rintro e w' ⟨rfl, rfl⟩
  generalize q5 : Mx.newton Mx.c1 5 = d1 at *
  have Q5 : Hid (Mx.newton Mx.c1 5 = d1) := q5
  clear q5
  go_wp2_with fail
  rw [w_mul y3 d1]
  have l4 : Mx.mul d1 y3 < 18446744073709551616 := Mx.mul_lt d1 y3
  generalize q6 : Mx.mul d1 y3 = y4 at *
  have Q6 : Hid (Mx.mul d1 y3 = y4) := q6
  clear q6
  refine (unxor_30 y4 l4 _).mono ?_
  rintro e w' ⟨rfl, rfl⟩
  go_wp2
  go_ret
  exact ⟨by rw [Q1.out, Q2.out, Q3.out, Q4.out, Q5.out, Q6.out]; rfl, rfl⟩

/-- FnMixInverse (3). -/
theorem mixInverse_walk (h : Nat) (hh : h < 18446744073709551616) (w : World) :
    Calls Try.prog 3 #[.int .u64 h] w fun e w' => e = .returned (.bool true) ∧ w' = w := by
  have l1 : Mx.mix h < 18446744073709551616 := Mx.mix_lt h
  have l2 : Mx.unmix h < 18446744073709551616 := Mx.unmix_lt h
  have H1 : Hid (Mx.unmix (Mx.mix h) = h) := Mx.unmix_mix h hh
  have H2 : Hid (Mx.mix (Mx.unmix h) = h) := Mx.mix_unmix h hh
  go_enter Try.func3, Try.ntmps3
  go_wp2_with fail
  refine (zzMix_any h hh _).mono ?_
  rintro e w' ⟨rfl, rfl⟩
  go_wp2_with fail
  refine (unmix_any (Mx.mix h) l1 _).mono ?_
  rintro e w' ⟨rfl, rfl⟩
  rw [H1.out]
  go_wp2_with fail
  refine (unmix_any h hh _).mono ?_
  rintro e w' ⟨rfl, rfl⟩
  go_wp2_with fail
  refine (zzMix_any (Mx.unmix h) l2 _).mono ?_
  rintro e w' ⟨rfl, rfl⟩
  rw [H2.out]
  go_wp2
  go_ret
  exact ⟨by simp, rfl⟩
end Go.Proofs.Qxb6003334a
