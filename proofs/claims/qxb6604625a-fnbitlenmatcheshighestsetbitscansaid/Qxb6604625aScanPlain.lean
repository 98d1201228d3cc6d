/-
  THE PLAIN LAW OF THE SCAN: no Go in sight.
-/
import Derived.Lib.BitFns
namespace Go.Proofs.Qxb6604625a
namespace Scan

/-- Bit k of the number whose limbs are L 0, L 1, .. (64 bits each, least significant first). -/
def bit (L : Nat → Nat) (k : Nat) : Bool := L (k / 64) / 2 ^ (k % 64) % 2 == 1
/-- What the upward scan holds after k bits: one more than the place of the highest set bit met. -/
def scan (L : Nat → Nat) : Nat → Nat
  | 0 => 0
  | k + 1 => if bit L k then k + 1 else scan L k
/-- The same over one limb. -/
def one (x : Nat) : Nat → Nat
  | 0 => 0
  | k + 1 => if x / 2 ^ k % 2 = 1 then k + 1 else one x k

theorem bitLen_one : Lib.bitLen 1 = 1 := by decide
theorem one_eq (x k : Nat) (hk : k ≤ 64) : one x k = Lib.bitLen (x % 2 ^ k) := by
  induction k with
  | zero => simp [one, Nat.mod_one]; rfl
  | succ k ih =>
    have hp : 0 < 2 ^ k := Nat.two_pow_pos k
    have hs : x % 2 ^ (k + 1) = x % 2 ^ k + 2 ^ k * (x / 2 ^ k % 2) := by
      rw [Nat.pow_succ, Nat.mod_mul]
    have hlt : x % 2 ^ k < 2 ^ k := Nat.mod_lt _ hp
    have h64 : 2 ^ (k + 1) ≤ 2 ^ 64 := Nat.pow_le_pow_right (by decide) hk
    unfold one
    by_cases h : x / 2 ^ k % 2 = 1
    · rw [if_pos h, hs, h, Nat.mul_one]
      have e := Lib.bitLen_shift k (x % 2 ^ k + 2 ^ k) (by omega) (by rw [Nat.pow_succ] at h64; omega)
      rw [e, Nat.add_div_right _ hp, Nat.div_eq_of_lt hlt, Nat.zero_add, bitLen_one]
    · have h0 : x / 2 ^ k % 2 = 0 := by omega
      rw [if_neg h, hs, h0, Nat.mul_zero, Nat.add_zero]
      exact ih (by omega)

theorem one_64 (x : Nat) (h : x < 2 ^ 64) : one x 64 = Lib.bitLen x := by
  rw [one_eq x 64 (Nat.le_refl _), Nat.mod_eq_of_lt h]

theorem scan_block (L : Nat → Nat) (j t : Nat) (ht : t ≤ 64) : scan L (64 * j + t) = if one (L j) t = 0 then scan L (64 * j) else 64 * j + one (L j) t := by
  induction t with
  | zero => simp [one]
  | succ t ih =>
    have hd : (64 * j + t) / 64 = j := by omega
    have hm : (64 * j + t) % 64 = t := by omega
    rw [show 64 * j + (t + 1) = (64 * j + t) + 1 from rfl, scan, one]
    by_cases h : L j / 2 ^ t % 2 = 1
    · have hb : bit L (64 * j + t) = true := by simp [bit, hd, hm, h]
      rw [if_pos hb, if_pos h, if_neg (by omega)]
      omega
    · have hb : bit L (64 * j + t) = false := by simp [bit, hd, hm, h]
      rw [if_neg (by simp [hb]), if_neg h]
      exact ih (by omega)

theorem bitLen_zero_iff (x : Nat) (h : x < 2 ^ 64) : Lib.bitLen x = 0 ↔ x = 0 := by
  constructor
  · intro e
    by_cases h0 : x = 0
    · exact h0
    · have := Lib.bitLen_half x h0 h
      omega
  · intro e; subst e; decide

theorem scan_next (L : Nat → Nat) (j : Nat) (h : L j < 2 ^ 64) : scan L (64 * j + 64) = if L j = 0 then scan L (64 * j) else 64 * j + Lib.bitLen (L j) := by
  rw [scan_block L j 64 (Nat.le_refl _), one_64 _ h]
  by_cases h0 : L j = 0
  · rw [if_pos h0, if_pos ((bitLen_zero_iff _ h).2 h0)]
  · rw [if_neg h0, if_neg (fun e => h0 ((bitLen_zero_iff _ h).1 e))]

theorem scan_le (L : Nat → Nat) (k : Nat) : scan L k ≤ k := by
  induction k with
  | zero => exact Nat.le_refl _
  | succ k ih => unfold scan; split <;> omega

theorem scan_256 (L : Nat → Nat) (h0 : L 0 < 2 ^ 64) (h1 : L 1 < 2 ^ 64) (h2 : L 2 < 2 ^ 64) (h3 : L 3 < 2 ^ 64) :
    scan L 256 = if L 3 = 0 then (if L 2 = 0 then (if L 1 = 0 then Lib.bitLen (L 0) else 64 + Lib.bitLen (L 1)) else 128 + Lib.bitLen (L 2)) else 192 + Lib.bitLen (L 3) := by
  have e3 := scan_next L 3 h3
  have e2 := scan_next L 2 h2
  have e1 := scan_next L 1 h1
  have e0 := scan_next L 0 h0
  have z : (if L 0 = 0 then scan L 0 else Lib.bitLen (L 0)) = Lib.bitLen (L 0) := by
    by_cases h : L 0 = 0
    · rw [if_pos h, h]; exact (show (0 : Nat) = Lib.bitLen 0 by decide)
    · rw [if_neg h]
  simp only [Nat.mul_zero, Nat.zero_add, Nat.reduceMul, Nat.reduceAdd] at e3 e2 e1 e0
  rw [e3, e2, e1, e0, z]
end Scan
end Go.Proofs.Qxb6604625a
