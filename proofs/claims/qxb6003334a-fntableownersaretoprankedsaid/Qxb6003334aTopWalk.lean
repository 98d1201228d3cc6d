/-
  FnTableOwnersAreTopRanked (5): the walk, every way.
-/
import Derived.Test.Qxb6003334aTopLe
import Derived.Test.Qxb6003334aTopGt
namespace Go.Proofs.Qxb6003334a
open Go.RowKit

theorem top_walk (a : Option Addr) (len cap : Nat) (ms : List ByteArray) (o p : Int) (s : ByteArray) (q : Int) (w : World) (hms : IsStrs w a len ms) (hs : s.size ≤ maxLen) :
    Calls Try.prog 5 #[.slice a len cap, .int .i64 o, .int .i64 p, .string s, .int .i64 q] w fun e w' => e = .returned (.bool true) ∧ Below w.heap.size w w' := by
  obtain ⟨rfl, hlm, hsz, hc⟩ := hms
  by_cases h0 : ms.length = 0
  · rw [h0]
    refine (top_empty a cap s o p q w hs).mono ?_
    rintro e w' ⟨rfl, rfl⟩
    exact ⟨rfl, Below.refl _ _⟩
  rcases hc with hc | ⟨b, off, rfl, hb, hcell⟩
  · exact absurd hc h0
  unfold maxLen at hlm
  by_cases h : 65536 < (ms.length : Int) ∨ ((ms.length : Int) ≤ 65536 ∧ 1048576 < (s.size : Int)) ∨ ((ms.length : Int) ≤ 65536 ∧ (s.size : Int) ≤ 1048576 ∧ 1 ≤ (ms.length : Int) ∧ 16 < (ms.length : Int)) ∨
      ((ms.length : Int) ≤ 16 ∧ (s.size : Int) ≤ 1048576 ∧ 1 ≤ (ms.length : Int) ∧ o < 1) ∨ ((ms.length : Int) ≤ 16 ∧ (s.size : Int) ≤ 1048576 ∧ 1 ≤ (ms.length : Int) ∧ 1 ≤ o ∧ 8 < o) ∨
      ((ms.length : Int) ≤ 16 ∧ (s.size : Int) ≤ 1048576 ∧ 1 ≤ (ms.length : Int) ∧ 1 ≤ o ∧ o ≤ 8 ∧ p < 0) ∨ ((ms.length : Int) ≤ 16 ∧ (s.size : Int) ≤ 1048576 ∧ 1 ≤ (ms.length : Int) ∧ 1 ≤ o ∧ o ≤ 8 ∧ 0 ≤ p ∧ 4096 ≤ p)
  · refine (top_early b off cap ms s o p q w (by omega) hcell h).mono ?_
    rintro e w' ⟨rfl, rfl⟩
    exact ⟨rfl, Below.refl _ _⟩
  · have h1 : 1 ≤ (ms.length : Int) := by omega
    have h16 : (ms.length : Int) ≤ 16 := by omega
    have hs' : (s.size : Int) ≤ 1048576 := by omega
    have ho : 1 ≤ o ∧ o ≤ 8 := by omega
    have hp : 0 ≤ p ∧ p < 4096 := by omega
    obtain ⟨o, rfl⟩ := Int.eq_ofNat_of_zero_le (show 0 ≤ o by omega)
    obtain ⟨p, rfl⟩ := Int.eq_ofNat_of_zero_le hp.1
    by_cases hol : o ≤ ms.length
    · exact top_le b off cap ms s o p q w hb hcell hsz hs' h1 h16 ho.1 ho.2 hp.2 hol
    · exact top_gt b off cap ms s o p q w hb hcell hsz hs' h1 h16 ho.1 ho.2 hp.2 (by omega)
end Go.Proofs.Qxb6003334a
