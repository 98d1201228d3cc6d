/-
  math/bits.Len64 at this dump (function 17): its contract, by a walk of its own.
-/
import Derived.Test.Qxb6604625aRows
import Derived.WalkKit
import Derived.Lib.BitFns
import Derived.Deep.Light
namespace Go.Proofs.Qxb6604625a
open Go.RowKit

theorem wrapAdd (k a b : Nat) (hk : k ≤ 56) (ha : a ≤ 8) (hb : b = k + a) : wrap64 ((k : Int) + wrap64 (a : Int)) = (b : Int) := by
  unfold wrap64
  omega
theorem wrapTwo (a : Nat) (ha : a ≤ 8) : wrap64 (wrap64 (a : Int)) = (a : Int) := by
  unfold wrap64
  omega
/-- The table's byte, as an index's plain meaning reads it, is the shelf's 'Lib.len8'. -/
theorem len8_get (y : Int) (h : y.toNat < Lib.len8tab.size) : ((Lib.len8tab[y.toNat]'h).toNat : Int) = Lib.len8 y := by
  unfold Lib.len8
  rw [getElem?_pos Lib.len8tab y.toNat h]
  rfl
/-- One way through: the number y that is left is x cut by d = 2^k. -/
theorem way (x y : Int) (k d : Nat) (h0 : 0 ≤ x) (h1 : x ≤ 18446744073709551615) (hk : k ≤ 56) (hd : d = 2 ^ k) (hdx : (d : Int) ≤ x) (hy : y = x / d) (hy8 : y ≤ 255) (h : y.toNat < Lib.len8tab.size) :
    wrap64 ((k : Int) + wrap64 ((Lib.len8tab[y.toNat]'h).toNat : Int)) = (Lib.bitLen x.toNat : Int) := by
  have hd0 : 0 < d := by rw [hd]; exact Nat.two_pow_pos k
  have hy0 : 0 ≤ y := by rw [hy]; exact Int.ediv_nonneg h0 (Int.natCast_nonneg _)
  rw [len8_get y h, Lib.len8_of y hy0 hy8]
  refine wrapAdd k _ _ hk (Lib.bitLen_le8' y hy0 hy8) ?_
  have e : y.toNat = x.toNat / 2 ^ k := by
    rw [hy, ← hd]
    obtain ⟨X, rfl⟩ := Int.eq_ofNat_of_zero_le h0
    rw [← Int.natCast_ediv, Int.toNat_natCast, Int.toNat_natCast]
  rw [e]
  exact Lib.bitLen_shift k x.toNat (by rw [← hd]; omega) (by omega)

set_option maxHeartbeats 4000000 in
set_option maxRecDepth 1000000 in
theorem len64_any (x : Int) (h0 : 0 ≤ x) (h1 : x ≤ 18446744073709551615) (w : World) :
    Calls Try.prog 17 #[.int .u64 x] w fun e w' => e = .returned (.int .i64 (Lib.bitLen x.toNat)) ∧ w' = w := by
  have hsz : Lib.len8tab.size = 256 := Lib.len8tab_size
  go_enter Try.func17, Try.ntmps17
  go_wp2
  all_goals (go_ret; refine ⟨congrArg Ending.returned (congrArg (Value.int IntKind.i64) ?_), rfl⟩; go_light)
  · exact way x _ 56 72057594037927936 h0 h1 (by decide) (by decide) (by omega) (by omega) (by omega) _
  · exact way x _ 48 281474976710656 h0 h1 (by decide) (by decide) (by omega) (by omega) (by omega) _
  · exact way x _ 40 1099511627776 h0 h1 (by decide) (by decide) (by omega) (by omega) (by omega) _
  · exact way x _ 32 4294967296 h0 h1 (by decide) (by decide) (by omega) (by omega) (by omega) _
  · exact way x _ 24 16777216 h0 h1 (by decide) (by decide) (by omega) (by omega) (by omega) _
  · exact way x _ 16 65536 h0 h1 (by decide) (by decide) (by omega) (by omega) (by omega) _
  · exact way x _ 8 256 h0 h1 (by decide) (by decide) (by omega) (by omega) (by omega) _
  · rw [len8_get x _, Lib.len8_of x h0 (by omega)]
    exact wrapTwo _ (Lib.bitLen_le8' x h0 (by omega))
end Go.Proofs.Qxb6604625a
