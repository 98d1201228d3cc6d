/-
  FnHashKeyOneByteApart (4): the walk.
-/
import Derived.Test.Qxb6003334aHash
import Derived.Laws.IdiomStrings
import Derived.Laws.BytesArg
namespace Go.Proofs.Qxb6003334a
open Go.RowKit

theorem bytes10_yes (s : ByteArray) (i c : Int) (h : (s.size : Int) ≤ 1048576) (w : World) :
    Calls Try.prog 10 #[.string s, .int .i64 i, .int .u8 c] w fun e w' => e = .returned (.bool true) ∧ w' = w := by
  go_enter Try.func10, Try.ntmps10
  go_wp2
  go_ret
  exact ⟨rfl, rfl⟩
theorem bytes10_no (s : ByteArray) (i c : Int) (h : 1048576 < (s.size : Int)) (w : World) :
    Calls Try.prog 10 #[.string s, .int .i64 i, .int .u8 c] w fun e w' => e = .returned (.bool false) ∧ w' = w := by
  go_enter Try.func10, Try.ntmps10
  go_wp2
  go_ret
  exact ⟨rfl, rfl⟩

set_option maxRecDepth 100000 in
theorem apart_short (s : ByteArray) (i c : Int) (h : 1048576 < (s.size : Int) ∨ ((s.size : Int) ≤ 1048576 ∧ 65536 < (s.size : Int)) ∨ ((s.size : Int) ≤ 65536 ∧ i < 0) ∨ ((s.size : Int) ≤ 65536 ∧ 0 ≤ i ∧ (s.size : Int) ≤ i)) (w : World) :
    Calls Try.prog 4 #[.string s, .int .i64 i, .int .u8 c] w fun e w' => e = .returned (.bool true) ∧ w' = w := by
  rcases h with h | ⟨h, h'⟩ | ⟨h, h'⟩ | ⟨h, h', h''⟩
  · go_enter Try.func4, Try.ntmps4
    go_wp2_with (go_at_call 10; refine (bytes10_no s i c h _).mono ?_; rintro e w' ⟨rfl, rfl⟩)
    go_ret
    exact ⟨rfl, rfl⟩
  · go_enter Try.func4, Try.ntmps4
    go_wp2_with (go_at_call 10; refine (bytes10_yes s i c h _).mono ?_; rintro e w' ⟨rfl, rfl⟩)
    go_ret
    exact ⟨rfl, rfl⟩
  · go_enter Try.func4, Try.ntmps4
    go_wp2_with (go_at_call 10; refine (bytes10_yes s i c (by omega) _).mono ?_; rintro e w' ⟨rfl, rfl⟩)
    go_ret
    exact ⟨rfl, rfl⟩
  · go_enter Try.func4, Try.ntmps4
    go_wp2_with (go_at_call 10; refine (bytes10_yes s i c (by omega) _).mono ?_; rintro e w' ⟨rfl, rfl⟩)
    go_ret
    exact ⟨rfl, rfl⟩

set_option maxRecDepth 100000 in
theorem apart_same (s : ByteArray) (k : Nat) (c : Int) (h : (s.size : Int) ≤ 65536) (hk : k < s.size) (hc : (((s[k]).toNat : Int) == c) = true) (w : World) :
    Calls Try.prog 4 #[.string s, .int .i64 k, .int .u8 c] w fun e w' => e = .returned (.bool true) ∧ w' = w := by
  go_enter Try.func4, Try.ntmps4
  go_wp2_with (go_at_call 10; refine (bytes10_yes s k c (by omega) _).mono ?_; rintro e w' ⟨rfl, rfl⟩)
  go_ret
  exact ⟨rfl, rfl⟩

/-- '[]byte(s)': what is known of the world behind it. -/
theorem conv_bytes (s : ByteArray) (w : World) : ∃ (C : Nat) (W1 : World),
    (convert 9 26 (.string s)).run Try.prog w = .ok (.slice (some ⟨w.heap.size, 0, none⟩) s.size C) W1 ∧
    (∀ (j : Nat) (h : j < s.size), W1.cell? ⟨w.heap.size, j, none⟩ = some (.int .u8 (s[j]).toNat)) ∧
    (∀ j : Nat, j < s.size → W1.frozen? ⟨w.heap.size, j, none⟩ = false) ∧ Below w.heap.size w W1 := by
  refine ⟨_, _, run_bytes_of_string (P := Try.prog) w 9 26 5 s Try.underlying9 Try.underlying26 Try.underlying5, ?_, ?_, ?_⟩
  · intro j h
    refine (World.cell?_alloc_mark w.drew _ _ _ j).trans ?_
    unfold bytesRow
    have hd : j < s.data.size := h
    rw [Array.getElem?_append_left (by simpa using hd), Array.getElem?_map, Array.getElem?_eq_getElem hd]
    rfl
  · intro j h
    refine (World.frozen?_alloc_mark w.drew _ _ _ _ j).trans ?_
    have : j < (bytesRow s (grownCap w s.size 0 5)).size := by
      unfold bytesRow
      simp
      have hd : j < s.data.size := h
      omega
    simp
    omega
  · exact (Below.refl _ _).drew.alloc (Nat.le_refl _) _

theorem list_set_map {α β : Type} (f : α → β) (l : List α) (k : Nat) (a : α) : (l.set k a).map f = (l.map f).set k (f a) := by simp
theorem nums_strOf (l : List Nat) (h : ∀ b ∈ l, b < 256) : nums (strOfNums (l.map fun n : Nat => (n : Int))) = l := by
  unfold nums
  rw [strOfNums_data, List.map_map, List.map_map]
  conv => rhs; rw [← List.map_id l]
  apply List.map_congr_left
  intro b hb
  have := h b hb
  simp
  omega

/-- 'string(b)' behind the store. -/
theorem conv_string (s : ByteArray) (k c : Nat) (hk : k < s.size) (B C : Nat) (W1 : World)
    (hcell : ∀ (j : Nat) (h : j < s.size), W1.cell? ⟨B, j, none⟩ = some (.int .u8 (s[j]).toNat)) :
    (convert 26 9 (.slice (some ⟨B, 0, none⟩) s.size C)).run Try.prog (W1.setCell ⟨B, k, none⟩ (.int .u8 c)) =
      .ok (.string (strOfNums (((nums s).set k c).map fun n : Nat => (n : Int)))) (W1.setCell ⟨B, k, none⟩ (.int .u8 c)) := by
  refine run_convert_bytes_arg (P := Try.prog) _ 26 5 Try.underlying26 Try.underlying5 B 0 s.size C (((nums s).set k c).map fun n : Nat => (n : Int)) (by simp [nums_length]) (fun j hj => ?_) 9 Try.underlying9
  rw [Nat.zero_add]
  have hjl : j < (nums s).length := by rw [nums_length]; exact hj
  have hg : (((nums s).set k c).map fun n : Nat => (n : Int)).getD j 0 = ((if k = j then c else (s[j]).toNat : Nat) : Int) := by
    rw [List.getD_eq_getElem?_getD, List.getElem?_map, List.getElem?_set]
    by_cases e : k = j
    · simp [e, hjl]
    · simp only [e, if_false]
      rw [List.getElem?_eq_getElem hjl]
      simp [nums]
      rfl
  rw [hg]
  by_cases e : k = j
  · subst e
    rw [World.cell?_setCell_same _ _ _ (hcell k hk), if_pos rfl]
  · rw [World.cell?_setCell_other _ _ _ _ (by intro h; injection h; contradiction), if_neg e]
    exact hcell j hj

theorem setCell_below (w W1 : World) (B k : Nat) (v : Value) (hB : w.heap.size ≤ B) (h : Below w.heap.size w W1) : Below w.heap.size w (W1.setCell ⟨B, k, none⟩ v) := h.setCell hB v

set_option maxRecDepth 100000 in
theorem apart_main (s : ByteArray) (k c : Nat) (h : (s.size : Int) ≤ 65536) (hk : k < s.size) (hc : (((s[k]).toNat : Int) == (c : Int)) = false) (h1 : c < 256) (w : World) :
    Calls Try.prog 4 #[.string s, .int .i64 k, .int .u8 c] w fun e w' => e = .returned (.bool true) ∧ Below w.heap.size w w' := by
  obtain ⟨C, W1, hcv, hcell, hfz, hbel⟩ := conv_bytes s w
  obtain ⟨B, hB⟩ : ∃ B, B = w.heap.size := ⟨_, rfl⟩
  have hk0 : W1.cell? ⟨B, k, none⟩ = some (.int .u8 (s[k]).toNat) := by rw [hB]; exact hcell k hk
  have hf0 : W1.frozen? ⟨B, k, none⟩ = false := by rw [hB]; exact hfz k hk
  have hcv2 := conv_string s k c hk B C W1 (by rw [hB]; exact hcell)
  rw [← hB] at hcv
  have hbel2 := setCell_below w W1 B k (.int .u8 c) (by omega) hbel
  have HBel : Hid (Below w.heap.size w (W1.setCell ⟨B, k, none⟩ (.int .u8 c))) := hbel2
  have htn : nums (strOfNums (((nums s).set k c).map fun n : Nat => (n : Int))) = (nums s).set k c := nums_strOf _ (fun b hb => by
    rcases List.mem_or_eq_of_mem_set hb with hb | hb
    · exact nums_lt s b hb
    · omega)
  have hts : (strOfNums (((nums s).set k c).map fun n : Nat => (n : Int))).size ≤ maxLen := by
    rw [strOfNums_size]; simp [nums_length]; unfold maxLen; omega
  have hap : (((Mx.hash (nums s) : Nat) : Int) != ((Mx.hash ((nums s).set k c) : Nat) : Int)) = true := by
    have hl : k < (nums s).length := by rw [nums_length]; exact hk
    have := Mx.hash_apart (nums s) (nums_lt s) k c h1 hl (by
      have e : (nums s)[k] = (s[k]).toNat := by simp [nums]; rfl
      rw [e]
      intro h2
      rw [h2] at hc
      simp at hc)
    rw [bne_iff_ne]
    omega
  rw [← htn] at hap
  generalize strOfNums (((nums s).set k c).map fun n : Nat => (n : Int)) = t at *
  clear htn hB hcell hfz hbel hbel2
  have hs : s.size ≤ maxLen := by unfold maxLen; omega
  go_enter Try.func4, Try.ntmps4
  go_wp2_with fail
  refine (bytes10_yes s k c (by omega) _).mono ?_
  rintro e w' ⟨rfl, rfl⟩
  go_wp2_with fail
  refine (zzHashKey_any s hs _).mono ?_
  rintro e w' ⟨rfl, rfl⟩
  go_wp2_with fail
  refine (zzHashKey_any t hts _).mono ?_
  rintro e w' ⟨rfl, rfl⟩
  go_wp2
  go_ret
  exact ⟨rfl, HBel.out⟩

theorem apart_walk (s : ByteArray) (i c : Int) (hc : (Lit.int .u8 c).wf = true) (w : World) :
    Calls Try.prog 4 #[.string s, .int .i64 i, .int .u8 c] w fun e w' => e = .returned (.bool true) ∧ Below w.heap.size w w' := by
  have hc' : 0 ≤ c ∧ c ≤ 255 := by
    simp [Lit.wf, IntKind.min, IntKind.max, IntKind.signed, IntKind.bits] at hc
    omega
  by_cases h : 1048576 < (s.size : Int) ∨ ((s.size : Int) ≤ 1048576 ∧ 65536 < (s.size : Int)) ∨ ((s.size : Int) ≤ 65536 ∧ i < 0) ∨ ((s.size : Int) ≤ 65536 ∧ 0 ≤ i ∧ (s.size : Int) ≤ i)
  · refine (apart_short s i c h w).mono ?_
    rintro e w' ⟨rfl, rfl⟩
    exact ⟨rfl, Below.refl _ _⟩
  · obtain ⟨k, rfl⟩ := Int.eq_ofNat_of_zero_le (show 0 ≤ i by omega)
    obtain ⟨d, rfl⟩ := Int.eq_ofNat_of_zero_le hc'.1
    have hk : k < s.size := by omega
    have hs : (s.size : Int) ≤ 65536 := by omega
    by_cases e : (((s[k]).toNat : Int) == (d : Int)) = true
    · refine (apart_same s k d hs hk e w).mono ?_
      rintro e w' ⟨rfl, rfl⟩
      exact ⟨rfl, Below.refl _ _⟩
    · exact apart_main s k d hs hk (by simpa using e) (by omega) w
end Go.Proofs.Qxb6003334a
