/-
  FnTableOwnersAreTopRanked (5): the ways that end early.
-/
import Derived.Test.Qxb6003334aOwned
import Derived.Test.Qxb6003334aHelpers
namespace Go.Proofs.Qxb6003334a
open Go.RowKit

set_option maxRecDepth 100000 in
theorem top_empty (a : Option Addr) (cap : Nat) (s : ByteArray) (o p q : Int) (w : World) (hs : s.size ≤ maxLen) :
    Calls Try.prog 5 #[.slice a 0 cap, .int .i64 o, .int .i64 p, .string s, .int .i64 q] w fun e w' => e = .returned (.bool true) ∧ w' = w := by
  by_cases hx : 1048576 < (s.size : Int)
  all_goals
    go_enter Try.func5, Try.ntmps5
    go_wp2_with fail
    refine (bytes12_none a cap o p q s w hs).mono ?_
    rintro e w' ⟨⟨r, rfl⟩, rfl⟩
    cases r
    · go_wp2
      go_ret
      exact ⟨rfl, rfl⟩
  · go_wp2
    go_ret
    exact ⟨rfl, rfl⟩
  · go_wp2_with fail
    refine (stringBytes_none a cap _).mono ?_
    rintro e w' ⟨⟨r, rfl⟩, rfl⟩
    go_wp2
    all_goals
      go_ret
      exact ⟨rfl, rfl⟩

set_option maxRecDepth 100000 in
set_option maxHeartbeats 1000000 in
theorem top_early (b off cap : Nat) (ms : List ByteArray) (s : ByteArray) (o p q : Int) (w : World) (hl : (ms.length : Int) ≤ 9223372036854775807) (hcell : ∀ i (h : i < ms.length), w.cell? ⟨b, off + i, none⟩ = some (.string ms[i]))
    (h : 65536 < (ms.length : Int) ∨ ((ms.length : Int) ≤ 65536 ∧ 1048576 < (s.size : Int)) ∨ ((ms.length : Int) ≤ 65536 ∧ (s.size : Int) ≤ 1048576 ∧ 1 ≤ (ms.length : Int) ∧ 16 < (ms.length : Int)) ∨
      ((ms.length : Int) ≤ 16 ∧ (s.size : Int) ≤ 1048576 ∧ 1 ≤ (ms.length : Int) ∧ o < 1) ∨ ((ms.length : Int) ≤ 16 ∧ (s.size : Int) ≤ 1048576 ∧ 1 ≤ (ms.length : Int) ∧ 1 ≤ o ∧ 8 < o) ∨
      ((ms.length : Int) ≤ 16 ∧ (s.size : Int) ≤ 1048576 ∧ 1 ≤ (ms.length : Int) ∧ 1 ≤ o ∧ o ≤ 8 ∧ p < 0) ∨ ((ms.length : Int) ≤ 16 ∧ (s.size : Int) ≤ 1048576 ∧ 1 ≤ (ms.length : Int) ∧ 1 ≤ o ∧ o ≤ 8 ∧ 0 ≤ p ∧ 4096 ≤ p)) :
    Calls Try.prog 5 #[.slice (some ⟨b, off, none⟩) ms.length cap, .int .i64 o, .int .i64 p, .string s, .int .i64 q] w fun e w' => e = .returned (.bool true) ∧ w' = w := by
  have HC := hide hcell
  clear hcell
  rcases h with h | ⟨h, h2⟩ | ⟨h, h2, h3, h4⟩ | ⟨h, h2, h3, h4⟩ | ⟨h, h2, h3, h4, h5⟩ | ⟨h, h2, h3, h4, h5, h6⟩ | ⟨h, h2, h3, h4, h5, h6, h7⟩
  all_goals
    go_enter Try.func5, Try.ntmps5
    go_wp2_with fail
    refine (bytes12_some b off cap ms o p q s w hl HC.out).mono ?_
    rintro e w' ⟨⟨r, rfl⟩, rfl⟩
    cases r
    · go_wp2
      go_ret
      exact ⟨rfl, rfl⟩
  · go_wp2
    go_ret
    exact ⟨rfl, rfl⟩
  · go_wp2
    go_ret
    exact ⟨rfl, rfl⟩
  all_goals
    go_wp2_with fail
    refine (stringBytes_some b off cap ms _ (by omega) HC.out).mono ?_
    rintro e w' ⟨⟨r, rfl⟩, rfl⟩
    go_wp2
    all_goals
      go_ret
      exact ⟨rfl, rfl⟩
end Go.Proofs.Qxb6003334a
