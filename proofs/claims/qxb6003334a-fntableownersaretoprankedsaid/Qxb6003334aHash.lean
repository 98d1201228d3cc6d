/-
  hashKey (33), ZZHashKey (11): contracts.
-/
import Derived.Test.Qxb6003334aMix
import Derived.Deep.Light
namespace Go.Proofs.Qxb6003334a
open Go.RowKit

/-- A string's bytes as numbers. -/
def nums (s : ByteArray) : List Nat := s.data.toList.map UInt8.toNat
theorem nums_length (s : ByteArray) : (nums s).length = s.size := by simp [nums]
theorem nums_snoc (s : ByteArray) (k : Nat) (h : k < s.size) : (nums s).take (k + 1) = (nums s).take k ++ [(s[k]).toNat] := by
  rw [List.take_succ_eq_append_getElem (by rw [nums_length]; exact h)]
  simp [nums]
  rfl
theorem nums_lt (s : ByteArray) : ∀ b ∈ nums s, b < 256 := by
  intro b hb
  simp only [nums, List.mem_map] at hb
  obtain ⟨x, _, rfl⟩ := hb
  exact x.toNat_lt

theorem w_step (h b : Nat) (hh : h < 18446744073709551616) (hb : b < 256) : IntKind.u64.wrap (bits BinOp.xor IntKind.u64 (h : Int) (IntKind.u64.wrap (b : Int)) * 1099511628211) = (Mx.step h b : Nat) := by
  have e : IntKind.u64.wrap (b : Int) = (b : Int) := by rw [IntKind.wrap_u64]; omega
  rw [e, bits_xor_u64_nat h b hh (by omega)]
  unfold Mx.step Mx.prime
  exact w_mul (h ^^^ b) 1099511628211
theorem foldl_snoc {α β : Type} (f : α → β → α) (a : α) (l : List β) (b : β) : (l ++ [b]).foldl f a = f (l.foldl f a) b := by simp
theorem fnv_snoc (h : Nat) (l : List Nat) (b : Nat) : Mx.fnv h (l ++ [b]) = Mx.step (Mx.fnv h l) b := by
  unfold Mx.fnv
  exact foldl_snoc Mx.step h l b

set_option maxRecDepth 100000 in
set_option maxHeartbeats 400000 in
theorem hashKey_any (s : ByteArray) (hs : s.size ≤ maxLen) (w : World) :
    Calls Try.prog 33 #[.string s] w fun e w' => e = .returned (.int .u64 (Mx.hash (nums s) : Nat)) ∧ w' = w := by
  unfold maxLen at hs
  go_enter Try.func33, Try.ntmps33
  go_wp2
  go_loop [3, 4] (fun h i => ∃ k : Nat, k ≤ s.size ∧ i = .int .i64 k ∧ h = .int .u64 (Mx.fnv Mx.off ((nums s).take k) : Nat)) (fun _ i => s.size - (intOf i).toNat)
  case atStart => exact ⟨0, Nat.zero_le _, rfl, rfl⟩
  case round =>
    obtain ⟨k, hk, rfl, rfl⟩ := hrel
    have hl : Mx.fnv Mx.off ((nums s).take k) < 18446744073709551616 := Mx.fnv_lt _ _ Mx.off_lt
    generalize q : Mx.fnv Mx.off ((nums s).take k) = h at *
    have Q : Hid (Mx.fnv Mx.off ((nums s).take k) = h) := q
    clear q
    by_cases hlt : k < s.size
    · go_wp2
      go_round
      case rel =>
        go_light
        refine ⟨k + 1, by omega, by go_num, congrArg (Value.int IntKind.u64) ?_⟩
        rw [nums_snoc s k hlt, fnv_snoc, Q.out]
        exact w_step h _ hl (UInt8.toNat_lt _)
      case measure => simp [intOf]; omega
    · have hH : Mx.hash (nums s) = Mx.mix h := by
        unfold Mx.hash
        rw [← Q.out, List.take_of_length_le (by rw [nums_length]; omega)]
      have HH : Hid (Mx.hash (nums s) = Mx.mix h) := hH
      clear hH
      go_wp2_with (go_at_call 32; refine (mix_any h hl _).mono ?_; rintro e w' ⟨rfl, rfl⟩)
      go_ret
      exact ⟨by rw [HH.out]; rfl, rfl⟩

theorem zzHashKey_any (s : ByteArray) (hs : s.size ≤ maxLen) (w : World) :
    Calls Try.prog 11 #[.string s] w fun e w' => e = .returned (.int .u64 (Mx.hash (nums s) : Nat)) ∧ w' = w := by
  go_enter Try.func11, Try.ntmps11
  go_wp2_with (go_at_call 33; refine (hashKey_any s hs _).mono ?_; rintro e w' ⟨rfl, rfl⟩)
  go_ret
  exact ⟨rfl, rfl⟩
end Go.Proofs.Qxb6003334a
