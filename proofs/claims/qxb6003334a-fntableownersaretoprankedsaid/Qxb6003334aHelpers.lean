/-
  stringBytes (13), cloneStrings (14), zzBytes (12, 18): contracts. Of the three that only count bytes it is told that they return, and leave memory as it was: the laws lean on no more.
-/
import Derived.Test.Qxb6003334aMem
import Derived.Test.Qxb6003334aTable
import Derived.Lib.SliceRun
import Derived.Deep.Light
namespace Go.Proofs.Qxb6003334a
open Go.RowKit

/-- It returns some int. -/
def RetI (e : Ending) : Prop := ∃ r, e = .returned (.int .i64 r)
/-- It returns some bool. -/
def RetB (e : Ending) : Prop := ∃ r, e = .returned (.bool r)

set_option maxRecDepth 100000 in
theorem stringBytes_none (a : Option Addr) (cap : Nat) (w : World) :
    Calls Try.prog 13 #[.slice a 0 cap] w fun e w' => RetI e ∧ w' = w := by
  go_enter Try.func13, Try.ntmps13
  go_wp2
  refine wp_loop_rounds 1 ?_
  rw [rounds_succ]
  go_wp2
  go_ret
  exact ⟨⟨_, rfl⟩, rfl⟩

set_option maxRecDepth 100000 in
theorem stringBytes_some (b off cap : Nat) (ms : List ByteArray) (w : World) (hl : ms.length ≤ 65536) (hcell : ∀ i (h : i < ms.length), w.cell? ⟨b, off + i, none⟩ = some (.string ms[i])) :
    Calls Try.prog 13 #[.slice (some ⟨b, off, none⟩) ms.length cap] w fun e w' => RetI e ∧ w' = w := by
  have HC := hide hcell
  clear hcell
  go_enter Try.func13, Try.ntmps13
  go_wp2
  go_loop [3, 4] (fun t i => ∃ (k : Nat) (r : Int), k ≤ ms.length ∧ i = .int .i64 k ∧ t = .int .i64 r) (fun _ i => ms.length - (intOf i).toNat)
  case atStart => exact ⟨0, _, Nat.zero_le _, rfl, rfl⟩
  case round =>
    obtain ⟨k, r, hk, rfl, rfl⟩ := hrel
    by_cases hlt : k < ms.length
    · have hc := HC.out k hlt
      generalize ms[k] = s at *
      go_wp2
      · go_ret
        exact ⟨⟨_, rfl⟩, rfl⟩
      · go_round
        case rel => exact ⟨k + 1, _, by omega, by go_num, rfl⟩
        case measure => simp [intOf]; omega
    · go_wp2
      go_ret
      exact ⟨⟨_, rfl⟩, rfl⟩

set_option maxRecDepth 100000 in
theorem bytes12_none (a : Option Addr) (cap : Nat) (o p q : Int) (s : ByteArray) (w : World) (_hs : s.size ≤ maxLen) :
    Calls Try.prog 12 #[.slice a 0 cap, .int .i64 o, .int .i64 p, .string s, .int .i64 q] w fun e w' => RetB e ∧ w' = w := by
  go_enter Try.func12, Try.ntmps12
  go_wp2
  refine wp_loop_rounds 1 ?_
  rw [rounds_succ]
  go_wp2
  all_goals
    go_ret
    exact ⟨⟨_, rfl⟩, rfl⟩

set_option maxRecDepth 100000 in
set_option maxHeartbeats 400000 in
theorem bytes12_some (b off cap : Nat) (ms : List ByteArray) (o p q : Int) (s : ByteArray) (w : World) (hl : (ms.length : Int) ≤ 9223372036854775807) (hcell : ∀ i (h : i < ms.length), w.cell? ⟨b, off + i, none⟩ = some (.string ms[i])) :
    Calls Try.prog 12 #[.slice (some ⟨b, off, none⟩) ms.length cap, .int .i64 o, .int .i64 p, .string s, .int .i64 q] w fun e w' => RetB e ∧ w' = w := by
  have HC := hide hcell
  clear hcell
  by_cases hbig : 1048576 < (ms.length : Int)
  · go_enter Try.func12, Try.ntmps12
    go_wp2
    go_ret
    exact ⟨⟨_, rfl⟩, rfl⟩
  go_enter Try.func12, Try.ntmps12
  go_wp2
  go_loop [11, 12] (fun t i => ∃ (k : Nat) (r : Int), k ≤ ms.length ∧ i = .int .i64 k ∧ t = .int .i64 r) (fun _ i => ms.length - (intOf i).toNat)
  case atStart => exact ⟨0, _, Nat.zero_le _, rfl, rfl⟩
  case round =>
    obtain ⟨k, r, hk, rfl, rfl⟩ := hrel
    by_cases hlt : k < ms.length
    · have hc := HC.out k hlt
      generalize ms[k] = s at *
      go_wp2
      · go_ret
        exact ⟨⟨_, rfl⟩, rfl⟩
      · go_ret
        exact ⟨⟨_, rfl⟩, rfl⟩
      · go_round
        case rel => exact ⟨k + 1, _, by omega, by go_num, rfl⟩
        case measure => simp [intOf]; omega
    · go_wp2
      all_goals
        go_ret
        exact ⟨⟨_, rfl⟩, rfl⟩

set_option maxRecDepth 100000 in
theorem bytes18_none (a : Option Addr) (cap : Nat) (o p : Int) (s : ByteArray) (w : World) (_hs : s.size ≤ maxLen) :
    Calls Try.prog 18 #[.slice a 0 cap, .string s, .int .i64 o, .int .i64 p] w fun e w' => RetB e ∧ w' = w := by
  go_enter Try.func18, Try.ntmps18
  go_wp2
  refine wp_loop_rounds 1 ?_
  rw [rounds_succ]
  go_wp2
  all_goals
    go_ret
    exact ⟨⟨_, rfl⟩, rfl⟩

set_option maxRecDepth 100000 in
set_option maxHeartbeats 400000 in
theorem bytes18_some (b off cap : Nat) (ms : List ByteArray) (o p : Int) (s : ByteArray) (w : World) (hl : (ms.length : Int) ≤ 9223372036854775807) (hcell : ∀ i (h : i < ms.length), w.cell? ⟨b, off + i, none⟩ = some (.string ms[i])) :
    Calls Try.prog 18 #[.slice (some ⟨b, off, none⟩) ms.length cap, .string s, .int .i64 o, .int .i64 p] w fun e w' => RetB e ∧ w' = w := by
  have HC := hide hcell
  clear hcell
  by_cases hbig : 1048576 < (ms.length : Int)
  · go_enter Try.func18, Try.ntmps18
    go_wp2
    go_ret
    exact ⟨⟨_, rfl⟩, rfl⟩
  go_enter Try.func18, Try.ntmps18
  go_wp2
  go_loop [9, 10] (fun t i => ∃ (k : Nat) (r : Int), k ≤ ms.length ∧ i = .int .i64 k ∧ t = .int .i64 r) (fun _ i => ms.length - (intOf i).toNat)
  case atStart => exact ⟨0, _, Nat.zero_le _, rfl, rfl⟩
  case round =>
    obtain ⟨k, r, hk, rfl, rfl⟩ := hrel
    by_cases hlt : k < ms.length
    · have hc := HC.out k hlt
      generalize ms[k] = s at *
      go_wp2
      · go_ret
        exact ⟨⟨_, rfl⟩, rfl⟩
      · go_ret
        exact ⟨⟨_, rfl⟩, rfl⟩
      · go_round
        case rel => exact ⟨k + 1, _, by omega, by go_num, rfl⟩
        case measure => simp [intOf]; omega
    · go_wp2
      all_goals
        go_ret
        exact ⟨⟨_, rfl⟩, rfl⟩

/-- A row of strings that is being filled from the left. -/
def partS (A : List ByteArray) (k : Nat) : List ByteArray := A.take k ++ List.replicate (A.length - k) ByteArray.empty
theorem partS_zero (A : List ByteArray) : partS A 0 = List.replicate A.length ByteArray.empty := by simp [partS]
theorem partS_all (A : List ByteArray) : partS A A.length = A := by simp [partS]
theorem partS_length (A : List ByteArray) (k : Nat) (h : k ≤ A.length) : (partS A k).length = A.length := by simp [partS]; omega
theorem partS_set (A : List ByteArray) (k : Nat) (h : k < A.length) : (partS A k).set k A[k] = partS A (k + 1) := by
  unfold partS
  rw [List.set_append_right _ _ (by simp; omega), List.take_succ_eq_append_getElem h]
  have e : k - (A.take k).length = 0 := by simp; omega
  have e2 : A.length - k = (A.length - (k + 1)) + 1 := by omega
  rw [e, e2, List.replicate_succ, List.set_cons_zero, List.append_assoc]
  rfl

set_option maxRecDepth 100000 in
set_option maxHeartbeats 400000 in
theorem clone_any (b off cap : Nat) (ms : List ByteArray) (w : World) (hl : ms.length ≤ 17) (hb : b < w.heap.size) (hcell : ∀ i (h : i < ms.length), w.cell? ⟨b, off + i, none⟩ = some (.string ms[i])) :
    Calls Try.prog 14 #[.slice (some ⟨b, off, none⟩) ms.length cap] w fun e w' =>
      e = .returned (.slice (some ⟨w.heap.size, 0, none⟩) ms.length ms.length) ∧ Blk w' w.heap.size (rowS ms) 9 ∧ Below w.heap.size w w' := by
  have HC := hide hcell
  clear hcell
  have hnil := fun (w : World) (a : Addr) (l c : Nat) => Lib.run_eql_slice_nil (P := Try.prog) w 28 9 (some a) l c 0 0 Try.underlying28
  have hmk := makeS ms.length (by omega)
  go_enter Try.func14, Try.ntmps14
  go_wp2
  go_loopw [4] (fun i wr => ∃ k : Nat, k ≤ ms.length ∧ i = .int .i64 k ∧ Blk wr w.heap.size (rowS (partS ms k)) 9 ∧ Below w.heap.size w wr) (fun i _ => ms.length - (intOf i).toNat)
  case atStart => exact ⟨0, Nat.zero_le _, rfl, by rw [partS_zero]; exact Blk.new _ _ _, (Below.refl _ _).alloc (Nat.le_refl _) _⟩
  case round =>
    obtain ⟨k, hk, rfl, hB, hb2⟩ := hrel
    by_cases hlt : k < ms.length
    · have hc : wr.cell? ⟨b, off + k, none⟩ = some (.string ms[k]) := (hb2.cell (p := ⟨b, off + k, none⟩) hb).trans (HC.out k hlt)
      have hf := hB.free k
      have hc2 : wr.cell? ⟨w.heap.size, k, none⟩ = some (.string ((partS ms k)[k]'(by rw [partS_length _ _ (by omega)]; exact hlt))) := by rw [hB.cell, rowS_get]
      have hset := hB.set k (.string ms[k])
      rw [rowS_set, partS_set _ _ hlt] at hset
      have hbel := hb2.setCell (p := ⟨w.heap.size, k, none⟩) (Nat.le_refl _) (.string ms[k])
      have Hset := hide hset
      have Hbel := hide hbel
      clear hset hbel hB hb2
      generalize ms[k] = s at *
      generalize (partS ms k)[k]'(by rw [partS_length _ _ (by omega)]; exact hlt) = s2 at *
      go_wp2
      go_roundw
      case rel => exact ⟨k + 1, by omega, by go_num, Hset.out, Hbel.out⟩
      case measure => simp [intOf]; omega
    · have hkk : k = ms.length := by omega
      subst hkk
      rw [partS_all] at hB
      have HB := hide hB
      have Hb2 := hide hb2
      clear hB hb2
      go_wp2
      go_ret
      exact ⟨rfl, HB.out, Hb2.out⟩
end Go.Proofs.Qxb6003334a
