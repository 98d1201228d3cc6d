import Derived.Test.Qxb6604625aBitLen
import Derived.Test.Qxb6604625aScanPlain
import Derived.WalkSmall
namespace Go.Proofs.Qxb6604625a
open Go.RowKit

/-- The four limbs as a function. -/
def limbs (n0 n1 n2 n3 : Nat) : Nat → Nat
  | 0 => n0 | 1 => n1 | 2 => n2 | 3 => n3 | _ => 0

theorem limb_cell (n0 n1 n2 n3 : Nat) (w : World) (k : Nat) (hk : k < 256) :
    (w.alloc (.cells #[.int .u64 n0, .int .u64 n1, .int .u64 n2, .int .u64 n3] 26)).cell? ⟨w.heap.size, k / 64, none⟩ = some (.int .u64 (limbs n0 n1 n2 n3 (k / 64) : Nat)) := by
  have : k / 64 = 0 ∨ k / 64 = 1 ∨ k / 64 = 2 ∨ k / 64 = 3 := by omega
  rcases this with h | h | h | h <;> rw [h] <;> simp [go_sem, limbs]

theorem limbs_lt (n0 n1 n2 n3 : Nat) (h0 : n0 < 18446744073709551616) (h1 : n1 < 18446744073709551616) (h2 : n2 < 18446744073709551616) (h3 : n3 < 18446744073709551616) (j : Nat) : limbs n0 n1 n2 n3 j < 18446744073709551616 := by
  unfold limbs
  split <;> omega
/-- The bit as the walk spells it. -/
theorem bit_walk (x s : Nat) (hx : x < 18446744073709551616) : (bits BinOp.and IntKind.u64 ((x : Int) / 2 ^ s) 1 == 1) = (x / 2 ^ s % 2 == 1) := by
  have e : ((x : Int) / 2 ^ s) = ((x / 2 ^ s : Nat) : Int) := by
    rw [Int.natCast_ediv, Int.natCast_pow]; rfl
  have hle : x / 2 ^ s ≤ x := Nat.div_le_self _ _
  rw [e]
  generalize x / 2 ^ s = y at *
  rw [and_one_u64 _ (by omega) (by omega)]
  rw [Bool.eq_iff_iff]
  simp
  omega
theorem scan_hit (L : Nat → Nat) (k x : Nat) (hx : x < 18446744073709551616) (e : x = L (k / 64)) (h : (bits BinOp.and IntKind.u64 ((x : Int) / 2 ^ (k % 64)) 1 == 1) = true) : Scan.scan L (k + 1) = k + 1 := by
  rw [bit_walk x _ hx, e] at h
  rw [Scan.scan]
  rw [if_pos (show Scan.bit L k = true from h)]
theorem scan_miss (L : Nat → Nat) (k x : Nat) (hx : x < 18446744073709551616) (e : x = L (k / 64)) (h : (bits BinOp.and IntKind.u64 ((x : Int) / 2 ^ (k % 64)) 1 == 1) = false) : Scan.scan L (k + 1) = Scan.scan L k := by
  rw [bit_walk x _ hx, e] at h
  rw [Scan.scan]
  rw [if_neg (by unfold Scan.bit; rw [h]; decide)]
/-- What the scan of all 256 bits comes to is bitLen's answer. -/
theorem scan_bl (n0 n1 n2 n3 : Nat) (h0 : n0 < 18446744073709551616) (h1 : n1 < 18446744073709551616) (h2 : n2 < 18446744073709551616) (h3 : n3 < 18446744073709551616) :
    bl n0 n1 n2 n3 = (Scan.scan (limbs n0 n1 n2 n3) 256 : Nat) := by
  have e := Scan.scan_256 (limbs n0 n1 n2 n3) h0 h1 h2 h3
  rw [e]
  unfold bl limbs
  simp only [Int.toNat_natCast, Int.natCast_eq_zero]
  by_cases a3 : n3 = 0 <;> by_cases a2 : n2 = 0 <;> by_cases a1 : n1 = 0 <;> simp [a3, a2, a1]

set_option maxRecDepth 100000 in
set_option maxHeartbeats 1000000 in
theorem scan_walk (n0 n1 n2 n3 : Nat) (h0 : n0 < 18446744073709551616) (h1 : n1 < 18446744073709551616) (h2 : n2 < 18446744073709551616) (h3 : n3 < 18446744073709551616) (w : World) :
    Calls Try.prog 4 #[.agg #[.int .u64 n0, .int .u64 n1, .int .u64 n2, .int .u64 n3]] w fun e w' => e = .returned (.bool true) ∧ Grown w w' := by
  go_enter Try.func4, Try.ntmps4
  go_wp2
  go_loop [3, 4] (fun t i => ∃ k : Nat, k ≤ 256 ∧ i = .int .i64 k ∧ t = .int .i64 (Scan.scan (limbs n0 n1 n2 n3) k : Nat)) (fun _ i => 256 - (intOf i).toNat)
  case atStart => exact ⟨0, by omega, rfl, rfl⟩
  case round =>
    obtain ⟨k, hk, rfl, rfl⟩ := hrel
    by_cases hlt : k < 256
    · have hc := limb_cell n0 n1 n2 n3 w k hlt
      obtain ⟨x, hx⟩ : ∃ x, x = limbs n0 n1 n2 n3 (k / 64) := ⟨_, rfl⟩
      rw [← hx] at hc
      have HX : Hid (x = limbs n0 n1 n2 n3 (k / 64)) := hx
      clear hx
      have hxl : x < 18446744073709551616 := by rw [HX.out]; exact limbs_lt n0 n1 n2 n3 h0 h1 h2 h3 _
      have hsl := Scan.scan_le (limbs n0 n1 n2 n3) k
      go_wp2
      · go_round
        case rel => exact ⟨k + 1, by omega, by go_num, by rw [scan_hit _ k x hxl HX.out (by assumption)]; go_num⟩
        case measure => simp [intOf]; omega
      · go_round
        case rel => exact ⟨k + 1, by omega, by go_num, by rw [scan_miss _ k x hxl HX.out (by assumption)]⟩
        case measure => simp [intOf]; omega
    · have hk' : k = 256 := by omega
      subst hk'
      have HB : Hid (bl n0 n1 n2 n3 = (Scan.scan (limbs n0 n1 n2 n3) 256 : Nat)) := scan_bl n0 n1 n2 n3 h0 h1 h2 h3
      generalize Scan.scan (limbs n0 n1 n2 n3) 256 = t at *
      go_wp2_with (go_at_call 11; refine (zzBitLen_any n0 n1 n2 n3 _ (by omega) (by omega) (by omega) (by omega)).mono ?_; rintro e w' ⟨rfl, rfl⟩; rw [HB.out])
      go_ret
      exact ⟨by simp, by repeat (first | exact Grown.refl _ | apply Grown.drew | apply Grown.alloc)⟩
end Go.Proofs.Qxb6604625a
