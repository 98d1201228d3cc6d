/-
  A SLICE OF STRINGS THAT CAME IN, as the walks want it; the two laws' walks take it so.
-/
import Derived.Test.Qxb6003334aGain
import Derived.SliceStrings
import Derived.ProofKit
namespace Go.Proofs.Qxb6003334a
open Go.ChangeShapes Go.WideShapes Go.ChangeAt Go.RowKit

/-- What the walk is told of a slice of strings that came in. -/
def IsStrs (w : World) (a : Option Addr) (len : Nat) (ms : List ByteArray) : Prop :=
  ms.length = len ∧ len ≤ maxLen ∧ (∀ s ∈ ms, s.size ≤ maxLen) ∧ (len = 0 ∨ ∃ b off, a = some ⟨b, off, none⟩ ∧ b < w.heap.size ∧ ∀ i (h : i < ms.length), w.cell? ⟨b, off + i, none⟩ = some (.string ms[i]))

theorem lt_of_cell {w : World} {b o : Nat} {v : Value} (h : w.cell? ⟨b, o, none⟩ = some v) : b < w.heap.size := by
  rcases Nat.lt_or_ge b w.heap.size with g | g
  · exact g
  · simp [World.cell?, Array.getElem?_eq_none g] at h

theorem cells9 : Try.prog.cellsOf 9 = 1 := by kernel_rfl

theorem strs_opened {H : Type} {enc : TypeId × Value → H} {w : World} {base : Nat} {spare : Nat → Bool} {held : Bool} {a : Option Addr} {len cap : Nat} {d : DataW H} {p : List MemPlace}
    (h : DataW.Trod enc Try.prog w base spare held 28 (.slice a len cap) d p) : ∃ ms, IsStrs w a len ms := by
  obtain ⟨fuel, hf⟩ := h
  rcases open_strings Try.underlying28 Try.underlying9 cells9 hf with ⟨hcs, _⟩ | ⟨x, l, c, ss, hcs, _, hl, hm, hz, _, hcell, hws⟩
  · simp [Value.cells] at hcs
    obtain ⟨rfl, rfl, rfl⟩ := hcs
    exact ⟨[], rfl, Nat.zero_le _, by simp, .inl rfl⟩
  · simp [Value.cells] at hcs
    obtain ⟨rfl, rfl, rfl⟩ := hcs
    have hlz : len ≤ ss.length := by
      rw [hz]
      split <;> omega
    refine ⟨ss.take len, by simp; omega, by omega, fun s hs => hws s (List.mem_of_mem_take hs), ?_⟩
    by_cases h0 : len = 0
    · exact .inl h0
    · right
      obtain ⟨b, off, spot⟩ := x
      have hspot : spot = none := by simpa [Addr.add] using World.cell?_spot (hcell 0 (by omega))
      subst hspot
      have hc : ∀ i (h : i < (ss.take len).length), w.cell? ⟨b, off + i, none⟩ = some (.string (ss.take len)[i]) := by
        intro i h
        simp at h
        have := hcell i (by omega)
        rw [add_plain] at this
        rw [this, List.getElem_take, List.getD_eq_getElem?_getD, List.getElem?_eq_getElem (by omega)]
        rfl
      exact ⟨b, off, rfl, lt_of_cell (hc 0 (by simp; omega)), hc⟩

theorem gain_walk (a : Option Addr) (len cap : Nat) (ms : List ByteArray) (s : ByteArray) (o p : Int) (w : World) (hms : IsStrs w a len ms) (hs : s.size ≤ maxLen) :
    Calls Try.prog 6 #[.slice a len cap, .string s, .int .i64 o, .int .i64 p] w fun e w' => e = .returned (.bool true) ∧ Below w.heap.size w w' := by
  obtain ⟨rfl, hlm, hsz, hc⟩ := hms
  by_cases h0 : ms.length = 0
  · rw [h0]
    refine (gain_empty a cap s o p w hs).mono ?_
    rintro e w' ⟨rfl, rfl⟩
    exact ⟨rfl, Below.refl _ _⟩
  rcases hc with hc | ⟨b, off, rfl, hb, hcell⟩
  · exact absurd hc h0
  unfold maxLen at hlm
  by_cases h : 65536 < (ms.length : Int) ∨ ((ms.length : Int) ≤ 65536 ∧ 1048576 < (s.size : Int)) ∨ ((ms.length : Int) ≤ 65536 ∧ (s.size : Int) ≤ 1048576 ∧ 1 ≤ (ms.length : Int) ∧ 16 < (ms.length : Int)) ∨
      ((ms.length : Int) ≤ 16 ∧ (s.size : Int) ≤ 1048576 ∧ 1 ≤ (ms.length : Int) ∧ o < 1) ∨ ((ms.length : Int) ≤ 16 ∧ (s.size : Int) ≤ 1048576 ∧ 1 ≤ (ms.length : Int) ∧ 1 ≤ o ∧ 8 < o) ∨
      ((ms.length : Int) ≤ 16 ∧ (s.size : Int) ≤ 1048576 ∧ 1 ≤ (ms.length : Int) ∧ 1 ≤ o ∧ o ≤ 8 ∧ p < 0) ∨ ((ms.length : Int) ≤ 16 ∧ (s.size : Int) ≤ 1048576 ∧ 1 ≤ (ms.length : Int) ∧ 1 ≤ o ∧ o ≤ 8 ∧ 0 ≤ p ∧ 4096 ≤ p)
  · refine (gain_early b off cap ms s o p w (by omega) hcell h).mono ?_
    rintro e w' ⟨rfl, rfl⟩
    exact ⟨rfl, Below.refl _ _⟩
  · have h1 : 1 ≤ (ms.length : Int) := by omega
    have h16 : (ms.length : Int) ≤ 16 := by omega
    have hs' : (s.size : Int) ≤ 1048576 := by omega
    have ho : 1 ≤ o ∧ o ≤ 8 := by omega
    have hp : 0 ≤ p ∧ p < 4096 := by omega
    obtain ⟨o, rfl⟩ := Int.eq_ofNat_of_zero_le (show 0 ≤ o by omega)
    obtain ⟨p, rfl⟩ := Int.eq_ofNat_of_zero_le hp.1
    exact gain_main b off cap ms s o p w hb hcell hsz hs' h1 h16 ho.1 ho.2 hp.2
end Go.Proofs.Qxb6003334a
