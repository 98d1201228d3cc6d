/-
  THE PLAIN LAWS OF mix AND OF THE HASH: no Go in sight. Every step is undone by another: so each is one to one.
-/
namespace Go.Proofs.Qxb6003334a
namespace Mx
/-- x ^ (x >> s). -/
def xs (s x : Nat) : Nat := x ^^^ (x >>> s)
/-- Its undoing, in three rounds (for 4 s from 64 on). -/
def unxs (s y : Nat) : Nat := y ^^^ ((y ^^^ ((y ^^^ (y >>> s)) >>> s)) >>> s)

theorem shr0 (x s : Nat) (h : x < 2 ^ 64) (hs : 64 ≤ 4 * s) : x >>> s >>> s >>> s >>> s = 0 := by
  rw [← Nat.shiftRight_add, ← Nat.shiftRight_add, ← Nat.shiftRight_add, Nat.shiftRight_eq_div_pow]
  apply Nat.div_eq_of_lt
  exact Nat.lt_of_lt_of_le h (Nat.pow_le_pow_right (by decide) (by omega))
theorem xcancel (a b c : Nat) : a ^^^ b ^^^ (b ^^^ c) = a ^^^ c := by
  rw [Nat.xor_assoc, ← Nat.xor_assoc b b c, Nat.xor_self, Nat.zero_xor]
theorem unxs_xs (s x : Nat) (h : x < 2 ^ 64) (hs : 64 ≤ 4 * s) : unxs s (xs s x) = x := by
  have h0 := shr0 x s h hs
  unfold unxs xs
  simp only [Nat.shiftRight_xor_distrib, xcancel, h0, Nat.xor_zero]
  rw [Nat.xor_assoc, Nat.xor_self, Nat.xor_zero]
theorem xs_unxs (s y : Nat) (h : y < 2 ^ 64) (hs : 64 ≤ 4 * s) : xs s (unxs s y) = y := by
  have h0 := shr0 y s h hs
  unfold unxs xs
  simp only [Nat.shiftRight_xor_distrib, h0, Nat.xor_zero]
  rw [Nat.xor_assoc, Nat.xor_self, Nat.xor_zero]
theorem xs_lt (s x : Nat) (h : x < 2 ^ 64) : xs s x < 2 ^ 64 :=
  Nat.xor_lt_two_pow h (Nat.lt_of_le_of_lt (Nat.shiftRight_le _ _) h)
theorem unxs_lt (s x : Nat) (h : x < 2 ^ 64) : unxs s x < 2 ^ 64 := by
  have a : ∀ y, y < 2 ^ 64 → x ^^^ (y >>> s) < 2 ^ 64 := fun y hy => Nat.xor_lt_two_pow h (Nat.lt_of_le_of_lt (Nat.shiftRight_le _ _) hy)
  exact a _ (a _ (a _ h))

/-- x * c modulo 2^64. -/
def mul (c x : Nat) : Nat := x * c % 18446744073709551616
theorem mul_lt (c x : Nat) : mul c x < 2 ^ 64 := Nat.mod_lt _ (by decide)
theorem mul_mul (c d x : Nat) (h : x < 2 ^ 64) (hc : c * d % 18446744073709551616 = 1) : mul d (mul c x) = x := by
  unfold mul
  rw [Nat.mod_mul_mod, Nat.mul_assoc, Nat.mul_mod, hc, Nat.mul_one, Nat.mod_mod, Nat.mod_eq_of_lt h]

/-- Newton's iteration, as mulInverse runs it. -/
def newton (a : Nat) : Nat → Nat
  | 0 => a
  | n + 1 => newton a n * ((18446744073709551618 - a * newton a n % 18446744073709551616) % 18446744073709551616) % 18446744073709551616

theorem newton_lt (a : Nat) (h : a < 2 ^ 64) (n : Nat) : newton a n < 2 ^ 64 := by
  cases n with
  | zero => exact h
  | succ n => exact Nat.mod_lt _ (by decide)

def c1 : Nat := 13787848793156543929
def c2 : Nat := 10723151780598845931
theorem inv1 : c1 * newton c1 5 % 18446744073709551616 = 1 := by decide +kernel
theorem inv2 : c2 * newton c2 5 % 18446744073709551616 = 1 := by decide +kernel
theorem inv1' : newton c1 5 * c1 % 18446744073709551616 = 1 := by rw [Nat.mul_comm]; exact inv1
theorem inv2' : newton c2 5 * c2 % 18446744073709551616 = 1 := by rw [Nat.mul_comm]; exact inv2

/-- What mix computes. -/
def mix (x : Nat) : Nat := xs 31 (mul c2 (xs 27 (mul c1 (xs 30 x))))
/-- What unmix computes. -/
def unmix (y : Nat) : Nat := unxs 30 (mul (newton c1 5) (unxs 27 (mul (newton c2 5) (unxs 31 y))))
theorem mix_lt (x : Nat) : mix x < 2 ^ 64 := xs_lt _ _ (mul_lt _ _)
theorem unmix_lt (x : Nat) : unmix x < 2 ^ 64 := unxs_lt _ _ (mul_lt _ _)

theorem unmix_mix (x : Nat) (h : x < 2 ^ 64) : unmix (mix x) = x := by
  unfold unmix mix
  rw [unxs_xs 31 _ (mul_lt _ _) (by decide), mul_mul c2 _ _ (xs_lt _ _ (mul_lt _ _)) inv2, unxs_xs 27 _ (mul_lt _ _) (by decide), mul_mul c1 _ _ (xs_lt _ _ h) inv1, unxs_xs 30 _ h (by decide)]
theorem mix_unmix (y : Nat) (h : y < 2 ^ 64) : mix (unmix y) = y := by
  unfold unmix mix
  rw [xs_unxs 30 _ (mul_lt _ _) (by decide), mul_mul _ c1 _ (unxs_lt _ _ (mul_lt _ _)) inv1', xs_unxs 27 _ (mul_lt _ _) (by decide), mul_mul _ c2 _ (unxs_lt _ _ h) inv2', xs_unxs 31 _ h (by decide)]
theorem mix_inj (x y : Nat) (hx : x < 2 ^ 64) (hy : y < 2 ^ 64) (h : mix x = mix y) : x = y := by
  rw [← unmix_mix x hx, ← unmix_mix y hy, h]

/-! ### FNV-1a, then mix -/
def prime : Nat := 1099511628211
def step (h : Nat) (b : Nat) : Nat := mul prime (h ^^^ b)
def fnv (h : Nat) (l : List Nat) : Nat := l.foldl step h
def off : Nat := 14695981039346656037
def hash (l : List Nat) : Nat := mix (fnv off l)
theorem off_lt : off < 2 ^ 64 := by decide
theorem step_lt (h b : Nat) : step h b < 2 ^ 64 := mul_lt _ _
theorem fnv_lt (l : List Nat) (h : Nat) (hh : h < 2 ^ 64) : fnv h l < 2 ^ 64 := by
  induction l generalizing h with
  | nil => exact hh
  | cons b l ih => exact ih _ (step_lt _ _)
def primeInv : Nat := 14886173955864302971
theorem prime_inv : prime * primeInv % 18446744073709551616 = 1 := by decide +kernel
theorem mulp_inj (x y : Nat) (hx : x < 2 ^ 64) (hy : y < 2 ^ 64) (h : mul prime x = mul prime y) : x = y := by
  rw [← mul_mul prime primeInv x hx prime_inv, ← mul_mul prime primeInv y hy prime_inv, h]
theorem xor_lt64 (h b : Nat) (hh : h < 2 ^ 64) (hb : b < 256) : h ^^^ b < 2 ^ 64 := Nat.xor_lt_two_pow hh (Nat.lt_trans hb (by decide))
theorem step_inj_h (h k b : Nat) (hh : h < 2 ^ 64) (hk : k < 2 ^ 64) (hb : b < 256) (e : step h b = step k b) : h = k := by
  have := mulp_inj _ _ (xor_lt64 h b hh hb) (xor_lt64 k b hk hb) e
  have e2 : h ^^^ b ^^^ b = k ^^^ b ^^^ b := by rw [this]
  rwa [Nat.xor_assoc, Nat.xor_assoc, Nat.xor_self, Nat.xor_zero, Nat.xor_zero] at e2
theorem step_inj_b (h b c : Nat) (hh : h < 2 ^ 64) (hb : b < 256) (hc : c < 256) (e : step h b = step h c) : b = c := by
  have := mulp_inj _ _ (xor_lt64 h b hh hb) (xor_lt64 h c hh hc) e
  have e2 : h ^^^ (h ^^^ b) = h ^^^ (h ^^^ c) := by rw [this]
  rwa [← Nat.xor_assoc, ← Nat.xor_assoc, Nat.xor_self, Nat.zero_xor, Nat.zero_xor] at e2
theorem fnv_inj (l : List Nat) (hl : ∀ b ∈ l, b < 256) (h k : Nat) (hh : h < 2 ^ 64) (hk : k < 2 ^ 64) (e : fnv h l = fnv k l) : h = k := by
  induction l generalizing h k with
  | nil => exact e
  | cons b l ih =>
    have := ih (fun x hx => hl x (List.mem_cons_of_mem _ hx)) (step h b) (step k b) (step_lt _ _) (step_lt _ _) e
    exact step_inj_h h k b hh hk (hl b List.mem_cons_self) this
/-- One byte turned: another hash. -/
theorem fnv_apart (l : List Nat) (hl : ∀ b ∈ l, b < 256) (i c : Nat) (hc : c < 256) (hi : i < l.length) (hne : l[i] ≠ c) (h : Nat) (hh : h < 2 ^ 64) :
    fnv h l ≠ fnv h (l.set i c) := by
  induction l generalizing i h with
  | nil => simp at hi
  | cons b l ih =>
    have hl' : ∀ x ∈ l, x < 256 := fun x hx => hl x (List.mem_cons_of_mem _ hx)
    cases i with
    | zero =>
      intro e
      have := fnv_inj l hl' (step h b) (step h c) (step_lt _ _) (step_lt _ _) e
      exact hne (step_inj_b h b c hh (hl b List.mem_cons_self) hc this)
    | succ i =>
      exact ih hl' i (by simpa using hi) (by simpa using hne) (step h b) (step_lt _ _)
theorem hash_apart (l : List Nat) (hl : ∀ b ∈ l, b < 256) (i c : Nat) (hc : c < 256) (hi : i < l.length) (hne : l[i] ≠ c) : hash l ≠ hash (l.set i c) := by
  intro e
  exact fnv_apart l hl i c hc hi hne off off_lt (mix_inj _ _ (fnv_lt _ _ off_lt) (fnv_lt _ _ off_lt) e)
end Mx
end Go.Proofs.Qxb6003334a
