/-
  newTable (34): the walk.
-/
import Derived.Test.Qxb6003334aMem
import Derived.Test.Qxb6003334aRankPlain
import Derived.Deep.Light
import Derived.Deep.QuietTactic
import Derived.BigQuiet
namespace Go.Proofs.Qxb6003334a
open Go.RowKit

theorem hide {p : Prop} (h : p) : Hid p := h
/-- The table's own cells. -/
def tcells (mv : Value) (n : Nat) (self : Int) (ov : Value) : Array Value := #[.int .u64 0, mv, .slice none 0 0, .int .i64 self, .int .i64 n, ov, .int .u64 0, .slice none 0 0]
theorem tcells_self (mv : Value) (n : Nat) (self x : Int) (ov : Value) : (tcells mv n self ov).setIfInBounds 3 (.int .i64 x) = tcells mv n x ov := rfl
theorem tcells_own (mv : Value) (n : Nat) (self : Int) (ov x : Value) : (tcells mv n self ov).setIfInBounds 5 x = tcells mv n self x := rfl
/-- A row that is being filled from the left. -/
def part (A : List Nat) (k : Nat) : List Nat := A.take k ++ List.replicate (A.length - k) 0
theorem part_zero (A : List Nat) : part A 0 = List.replicate A.length 0 := by simp [part]
theorem part_all (A : List Nat) : part A A.length = A := by simp [part]
theorem part_length (A : List Nat) (k : Nat) (h : k ≤ A.length) : (part A k).length = A.length := by simp [part]; omega
theorem part_set (A : List Nat) (k : Nat) (h : k < A.length) : (part A k).set k A[k] = part A (k + 1) := by
  unfold part
  rw [List.set_append_right _ _ (by simp; omega), List.take_succ_eq_append_getElem h]
  have e : k - (A.take k).length = 0 := by simp; omega
  have e2 : A.length - k = (A.length - (k + 1)) + 1 := by omega
  rw [e, e2, List.replicate_succ, List.set_cons_zero, List.append_assoc]
  rfl
def seedsOf (ms : List ByteArray) : List Nat := ms.map fun s => Mx.hash (nums s)
theorem seedsOf_length (ms : List ByteArray) : (seedsOf ms).length = ms.length := by simp [seedsOf]

theorem rel1 {w wr : World} {B b1 b2 k : Nat} {mv : Value} {n : Nat} {self : Int} {ms : List ByteArray} (hk : k < ms.length) (h1 : B ≤ b1) (h2 : b1 < b2)
    (hT : Blk wr b1 (tcells mv n self (.slice none 0 0)) 95) (hS : Blk wr b2 (rowU (part (seedsOf ms) k)) 22) (hb : Below B w wr) :
    (Blk (wr.setCell ⟨b2, k, none⟩ (.int .u64 (Mx.hash (nums ms[k]) : Nat))) b1 (tcells mv n self (.slice none 0 0)) 95 ∧
      Blk (wr.setCell ⟨b2, k, none⟩ (.int .u64 (Mx.hash (nums ms[k]) : Nat))) b2 (rowU (part (seedsOf ms) (k + 1))) 22 ∧ Below B w (wr.setCell ⟨b2, k, none⟩ (.int .u64 (Mx.hash (nums ms[k]) : Nat)))) := by
  have hl : k < (seedsOf ms).length := by rw [seedsOf_length]; exact hk
  have hx' : Mx.hash (nums ms[k]) = (seedsOf ms)[k] := by simp [seedsOf]
  refine ⟨hT.other _ _ _ (by omega), ?_, hb.setCell (by show B ≤ b2; omega) _⟩
  have := hS.set k (.int .u64 (Mx.hash (nums ms[k]) : Nat))
  rw [rowU_set] at this
  rw [← part_set _ _ hl, ← hx']
  exact this

/-! ### The owners' row, part by part -/
theorem seeds_lt (ms : List ByteArray) (i : Nat) (h : i < ms.length) : (seedsOf ms).getD i 0 < 18446744073709551616 := by
  unfold seedsOf
  rw [List.getD_eq_getElem?_getD, List.getElem?_map, List.getElem?_eq_getElem h, Option.map_some, Option.getD_some]
  unfold Mx.hash
  exact Mx.mix_lt _
theorem mix_lt' (p : Nat) : Mx.mix p < 18446744073709551616 := Mx.mix_lt p
/-- The score of member i for part p. -/
def score (sd : List Nat) (p i : Nat) : Nat := Mx.mix (sd.getD i 0 ^^^ Mx.mix p)
theorem score_eq (sd : List Nat) (p i : Nat) : Mx.mix (sd.getD i 0 ^^^ Mx.mix p) = score sd p i := by unfold score; rfl
theorem xor_lt' (a b : Nat) (ha : a < 18446744073709551616) (hb : b < 18446744073709551616) : a ^^^ b < 18446744073709551616 := Nat.xor_lt_two_pow (n := 64) ha hb
def tab (sd : List Nat) (n : Nat) : Nat → List Nat
  | 0 => []
  | p + 1 => tab sd n p ++ Rk.owners (score sd p) sd.length n
theorem tab_length (sd : List Nat) (n p : Nat) (h : n ≤ sd.length) : (tab sd n p).length = p * n := by
  induction p with
  | zero => simp [tab]
  | succ p ih => rw [tab, List.length_append, ih, Rk.owners_length, Nat.min_eq_left h, Nat.succ_mul]

theorem tab_next (sd : List Nat) (n p : Nat) : tab sd n (p + 1) = tab sd n p ++ Rk.owners (score sd p) sd.length n := rfl
/-- What newTable leaves at block b: the table of the members ms with n owners a part. -/
def IsTable (w : World) (b : Nat) (ms : List ByteArray) (mv : Value) (n : Nat) : Prop :=
  ∃ (self : Int) (bo : Nat), Blk w b (tcells mv n self (.slice (some ⟨bo, 0, none⟩) (4096 * n) (4096 * n))) 95 ∧ Blk w bo (rowI (tab (seedsOf ms) n 4096)) 21

/-! ### The memory inside the loop over the members: a row st of entries: their scores in block b4, their positions in the middle of block b3 -/
def M3 (w : World) (b1 b2 b3 b4 : Nat) (tc : Array Value) (S pre post : List Nat) (st : List Rk.E) (wr : World) : Prop :=
  Blk wr b1 tc 95 ∧ Blk wr b2 (rowU S) 22 ∧ Blk wr b3 (rowI (pre ++ st.map Prod.snd ++ post)) 21 ∧ Blk wr b4 (rowU (st.map Prod.fst)) 22 ∧ Below w.heap.size w wr
theorem set_mid (pre mid post : List Nat) (j x : Nat) (h : j < mid.length) : (pre ++ mid ++ post).set (pre.length + j) x = pre ++ mid.set j x ++ post := by
  rw [List.append_assoc, List.set_append_right _ _ (by omega), show pre.length + j - pre.length = j by omega, List.set_append_left _ _ h, List.append_assoc]
theorem M3.put {w : World} {b1 b2 b3 b4 : Nat} {tc : Array Value} {S pre post : List Nat} {st : List Rk.E} {wr : World} (h : M3 w b1 b2 b3 b4 tc S pre post st wr)
    (h1 : w.heap.size < b1) (h2 : b1 < b2) (h3 : b2 < b3) (h4 : b3 < b4) (P j : Nat) (hP : pre.length = P) (hj : j < st.length) (x : Rk.E) :
    M3 w b1 b2 b3 b4 tc S pre post (st.set j x) ((wr.setCell ⟨b4, j, none⟩ (.int .u64 (x.1 : Int))).setCell ⟨b3, P + j, none⟩ (.int .i32 (x.2 : Int))) := by
  obtain ⟨k1, k2, k3, k4, k5⟩ := h
  refine ⟨(k1.other _ _ _ (by omega)).other _ _ _ (by omega), (k2.other _ _ _ (by omega)).other _ _ _ (by omega), ?_, ?_, (k5.setCell (by show _ ≤ b4; omega) _).setCell (by show _ ≤ b3; omega) _⟩
  · have := (k3.other b4 j (.int .u64 (x.1 : Int)) (by omega)).set (P + j) (.int .i32 (x.2 : Int))
    rw [rowI_set, ← hP, set_mid _ _ _ _ _ (by simpa using hj)] at this
    rw [← hP, List.map_set]
    exact this
  · have := (k4.set j (.int .u64 (x.1 : Int))).other b3 (P + j) (.int .i32 (x.2 : Int)) (by omega)
    rw [rowU_set] at this
    rw [List.map_set]
    exact this
theorem M3.drewN {w : World} {b1 b2 b3 b4 : Nat} {tc : Array Value} {S pre post : List Nat} {st : List Rk.E} {wr : World} (h : M3 w b1 b2 b3 b4 tc S pre post st wr) (q : Nat) : M3 w b1 b2 b3 b4 tc S pre post st (wr.drewN q) :=
  ⟨h.1, h.2.1, h.2.2.1, h.2.2.2.1, ⟨h.2.2.2.2.os, h.2.2.2.2.tape, h.2.2.2.2.output, h.2.2.2.2.size, h.2.2.2.2.block⟩⟩
theorem M3.drew {w : World} {b1 b2 b3 b4 : Nat} {tc : Array Value} {S pre post : List Nat} {st : List Rk.E} {wr : World} (h : M3 w b1 b2 b3 b4 tc S pre post st wr) : M3 w b1 b2 b3 b4 tc S pre post st wr.drew :=
  ⟨h.1, h.2.1, h.2.2.1, h.2.2.2.1, h.2.2.2.2.drew⟩
theorem M3.sc {w : World} {b1 b2 b3 b4 : Nat} {tc : Array Value} {S pre post : List Nat} {st : List Rk.E} {wr : World} (h : M3 w b1 b2 b3 b4 tc S pre post st wr) (j : Nat) (hj : j < st.length) :
    wr.cell? ⟨b4, j, none⟩ = some (.int .u64 ((st.getD j (0, 0)).1 : Nat)) := by
  rw [h.2.2.2.1.cell, rowU_get _ _ (by simpa using hj)]
  simp [hj]
theorem M3.ow {w : World} {b1 b2 b3 b4 : Nat} {tc : Array Value} {S pre post : List Nat} {st : List Rk.E} {wr : World} (h : M3 w b1 b2 b3 b4 tc S pre post st wr) (P j : Nat) (hP : pre.length = P) (hj : j < st.length) :
    wr.cell? ⟨b3, P + j, none⟩ = some (.int .i32 ((st.getD j (0, 0)).2 : Nat)) := by
  rw [h.2.2.1.cell, rowI_get _ _ (by simp; omega), ← hP]
  have e : (pre ++ st.map Prod.snd ++ post).getD (pre.length + j) 0 = (st.getD j (0, 0)).2 := by
    rw [List.append_assoc, List.getD_eq_getElem?_getD, List.getElem?_append_right (by omega), show pre.length + j - pre.length = j by omega, List.getElem?_append_left (by simpa using hj)]
    simp [hj]
  rw [e]

theorem close_full (n : Nat) (l st st' : List Rk.E) (x : Rk.E) (j : Nat) (hn : 0 < n) (hst : st.length = n) (ht : st.take n = Rk.top n l) (hs : Rk.Sorted (Rk.top n l)) (h : (st.getD (n - 1) (0, 0)).1 < x.1)
    (hst' : st'.length = n) (hsh : (st', j) = Rk.shift x.1 (n - 1) st) : (st'.set j x).take n = Rk.top n (l ++ [x]) := by
  rw [List.take_of_length_le (by omega)] at ht
  have e := Rk.step_full n l st x hn hst ht hs h
  rw [← hsh] at e
  rw [List.take_of_length_le (by simp; omega)]
  exact e
theorem close_room (n ch : Nat) (l st st' : List Rk.E) (x : Rk.E) (j : Nat) (hst : st.length = n) (hch : ch < n) (ht : st.take ch = Rk.top n l) (hs : Rk.Sorted (Rk.top n l))
    (hsh : (st', j) = Rk.shift x.1 ch st) : (st'.set j x).take (ch + 1) = Rk.top n (l ++ [x]) := by
  have e := Rk.step_room n ch l st x hst hch ht hs
  rw [← hsh] at e
  exact e
theorem shift_on (s j : Nat) (st : List Rk.E) (h : (st.getD j (0, 0)).1 < s) : Rk.shift s (j + 1) st = Rk.shift s j (st.set (j + 1) (st.getD j (0, 0))) := by
  rw [Rk.shift, if_pos h]
theorem shift_stop (s j : Nat) (st : List Rk.E) (h : ¬ (st.getD j (0, 0)).1 < s) : Rk.shift s (j + 1) st = (st, j + 1) := by
  rw [Rk.shift, if_neg h]
theorem shift_zero (s : Nat) (st : List Rk.E) : Rk.shift s 0 st = (st, 0) := rfl

set_option maxRecDepth 100000 in
set_option maxHeartbeats 4000000 in
theorem newTable_any (ms : List ByteArray) (bm cap : Nat) (own : Nat) (w : World) (hk : 1 ≤ ms.length) (hk' : ms.length ≤ 17) (ho : 1 ≤ own) (ho' : own ≤ 8)
    (n : Nat) (hn : (if ms.length < own then (ms.length : Int) else (own : Int)) = (n : Int)) (hsz : ∀ s ∈ ms, s.size ≤ maxLen) (hbm : Blk w bm (rowS ms) 9) :
    Calls Try.prog 34 #[.agg #[.string ByteArray.empty, .string ByteArray.empty, .int .u64 0, .slice (some ⟨bm, 0, none⟩) ms.length cap, .slice none 0 0, .int .u64 0, .slice none 0 0], .string ByteArray.empty, .int .i64 own] w fun e w' =>
      ∃ b, e = .returned (.pointer (some ⟨b, 0, none⟩)) ∧ w.heap.size < b ∧ IsTable w' b ms (.slice (some ⟨bm, 0, none⟩) ms.length cap) n ∧ Below w.heap.size w w' := by
  have hmk := makeU ms.length (by omega)
  have hn1 : 1 ≤ n := by split at hn <;> omega
  have hn8 : n ≤ 8 := by split at hn <;> omega
  have hnk : n ≤ ms.length := by split at hn <;> omega
  go_enter Try.func34, Try.ntmps34
  go_wp2_with fail
  clear hmk hn
  generalize hb2 : w.heap.size + 1 + 1 = b2
  generalize hb1 : w.heap.size + 1 = b1
  have g1 : w.heap.size < b1 := by omega
  have g2 : b1 < b2 := by omega
  have HB1 : Hid (w.heap.size + 1 = b1) := hb1
  have HB2 : Hid (w.heap.size + 1 + 1 = b2) := hb2
  clear hb1 hb2
  go_loopw [44] (fun i wr => ∃ k : Nat, k ≤ ms.length ∧ i = .int .i64 k ∧ ∃ self : Int, Blk wr b1 (tcells (.slice (some ⟨bm, 0, none⟩) ms.length cap) n self (.slice none 0 0)) 95 ∧
      Blk wr b2 (rowU (part (seedsOf ms) k)) 22 ∧ Below w.heap.size w wr) (fun i _ => ms.length - (intOf i).toNat)
  case atStart =>
    refine ⟨0, Nat.zero_le _, rfl, -1, ?_, ?_, ?_⟩
    · exact ((Blk.newAt _ _ _ _ (by simp; exact HB1.out.symm)).alloc _)
    · rw [part_zero, seedsOf_length]
      exact Blk.newAt _ _ _ _ (by simp; exact HB2.out.symm)
    · exact (((Below.refl _ _).alloc (Nat.le_refl _) _).alloc (by simp) _).alloc (by simp; omega) _
  case round =>
    obtain ⟨k, hkl, rfl, self, hT, hS, hB⟩ := hrel
    have hlt' := hbm.lt
    by_cases hlt : k < ms.length
    · have hc : wr.cell? ⟨bm, k, none⟩ = some (.string ms[k]) := by
        rw [(hbm.below hB hlt').cell, rowS_get ms k hlt]
      have hs : ms[k].size ≤ maxLen := hsz _ (List.getElem_mem hlt)
      obtain ⟨s, hS'⟩ : ∃ s, s = ms[k] := ⟨_, rfl⟩
      have R0 := @rel1 w wr w.heap.size b1 b2 k (.slice (some ⟨bm, 0, none⟩) ms.length cap) n self ms hlt (by omega) g2 hT hS hB
      have hT1 := hT.set 3 (.int .i64 (k : Int))
      rw [tcells_self] at hT1
      have R1 := @rel1 w (wr.setCell ⟨b1, 3, none⟩ (.int .i64 (k : Int))) w.heap.size b1 b2 k (.slice (some ⟨bm, 0, none⟩) ms.length cap) n k ms hlt (by omega) g2 hT1 (hS.other _ _ _ (by omega)) (hB.setCell (by show _ ≤ b1; omega) _)
      rw [← hS'] at hc hs R0 R1
      clear hS' hT1
      have H0 := hide R0
      have H1 := hide R1
      have hf3 := hT.free 3
      have hc3 : wr.cell? ⟨b1, 3, none⟩ = some (.int .i64 self) := by rw [hT.cell]; rfl
      have hf2 := hS.free k
      have hc2 : wr.cell? ⟨b2, k, none⟩ = some (.int .u64 ((part (seedsOf ms) k).getD k 0 : Nat)) := by rw [hS.cell, rowU_get _ _ (by rw [part_length _ _ (by rw [seedsOf_length]; omega), seedsOf_length]; exact hlt)]
      have hne : ¬ b1 = b2 := by omega
      clear R0 R1 hT hS hB
      go_wp2_with (go_at_call 33; refine (hashKey_any s hs _).mono ?_; rintro e w' ⟨rfl, rfl⟩)
      · go_roundw
        case rel => exact ⟨k + 1, by omega, by go_num, k, H1.out⟩
        case measure => simp [intOf]; omega
      · go_roundw
        case rel => exact ⟨k + 1, by omega, by go_num, self, H0.out⟩
        case measure => simp [intOf]; omega
    · have hkk : k = ms.length := by omega
      subst hkk
      rw [← seedsOf_length ms, part_all] at hS
      have hf5 := hT.free 5
      have hc5 : wr.cell? ⟨b1, 5, none⟩ = some (.slice none 0 0) := by rw [hT.cell]; rfl
      have hc4 : wr.cell? ⟨b1, 4, none⟩ = some (.int .i64 n) := by rw [hT.cell]; rfl
      have hmkI : ∀ w : World, (Instr.makeSlice 93 (.int .i64 (4096 * (n : Int))) (.int .i64 (4096 * (n : Int)))).run Try.prog w = .ok (.slice (some ⟨w.heap.size, 0, none⟩) (4096 * n) (4096 * n)) (w.alloc (.cells (rowI (List.replicate (4096 * n) 0)) 21)) := fun w => makeI (4096 * n) (by omega) w
      have hmkU := makeU n (by omega)
      have hb1 : b1 < wr.heap.size := hT.lt
      go_wp2_with fail
      clear hmkI hmkU hc5 hf5 hc4
      obtain ⟨W2, hW2⟩ : ∃ W2, W2 = ((wr.setCell ⟨b1, 5, none⟩ (.slice (some ⟨wr.heap.size, 0, none⟩) (4096 * n) (4096 * n))).alloc (.cells (rowI (List.replicate (4096 * n) 0)) 21)).alloc (.cells (rowU (List.replicate n 0)) 22) := ⟨_, rfl⟩
      rw [← hW2]
      have hT2 : Blk W2 b1 (tcells (.slice (some ⟨bm, 0, none⟩) ms.length cap) n self (.slice (some ⟨wr.heap.size, 0, none⟩) (4096 * n) (4096 * n))) 95 := by rw [hW2]; exact ((hT.set 5 _).alloc _).alloc _
      have hS2 : Blk W2 b2 (rowU (seedsOf ms)) 22 := by rw [hW2]; exact ((hS.other _ _ _ (by omega)).alloc _).alloc _
      have hO2 : Blk W2 wr.heap.size (rowI (List.replicate (4096 * n) 0)) 21 := by rw [hW2]; exact (Blk.newAt _ _ _ _ (by simp)).alloc _
      have hR2 : Blk W2 (wr.heap.size + 1) (rowU (List.replicate n 0)) 22 := by rw [hW2]; exact Blk.newAt _ _ _ _ (by simp)
      have hB2 : Below w.heap.size w W2 := by
        rw [hW2]
        have := hB.size
        exact ((hB.setCell (by show _ ≤ b1; omega) _).alloc (by simp; omega) _).alloc (by simp; omega) _
      have g3 : b2 < wr.heap.size := hS.lt
      clear hW2 hT hS hB
      generalize hb4 : wr.heap.size + 1 = b4 at *
      generalize hb3 : wr.heap.size = b3 at *
      have g4 : b3 < b4 := by omega
      clear hb3 hb4
      go_loopw [76] (fun i wr => ∃ p : Nat, p ≤ 4096 ∧ i = .int .i64 p ∧ ∃ rest sc : List Nat, rest.length = (4096 - p) * n ∧ sc.length = n ∧
          Blk wr b1 (tcells (.slice (some ⟨bm, 0, none⟩) ms.length cap) n self (.slice (some ⟨b3, 0, none⟩) (4096 * n) (4096 * n))) 95 ∧ Blk wr b2 (rowU (seedsOf ms)) 22 ∧
          Blk wr b3 (rowI (tab (seedsOf ms) n p ++ rest)) 21 ∧ Blk wr b4 (rowU sc) 22 ∧ Below w.heap.size w wr) (fun i _ => 4096 - (intOf i).toNat)
      case atStart => exact ⟨0, Nat.zero_le _, rfl, _, _, by simp, by simp, hT2, hS2, hO2, hR2, hB2⟩
      case round =>
        obtain ⟨p, hp, rfl, rest, sc, hrl, hscl, hT, hS, hO, hR, hB⟩ := hrel
        by_cases hlt : p < 4096
        · have hc5 : wr.cell? ⟨b1, 5, none⟩ = some (.slice (some ⟨b3, 0, none⟩) (4096 * n) (4096 * n)) := by rw [hT.cell]; rfl
          have hc4 : wr.cell? ⟨b1, 4, none⟩ = some (.int .i64 n) := by rw [hT.cell]; rfl
          obtain ⟨P, hPn⟩ : ∃ P : Nat, P = p * n := ⟨_, rfl⟩
          have hP : (p : Int) * (n : Int) = (P : Int) := by rw [hPn]; simp
          have hP1 : ((p : Int) + 1) * (n : Int) = (P : Int) + (n : Int) := by rw [Int.add_mul, hP]; simp
          have hPb : P + n ≤ 4096 * n := by
            have h1 : (p + 1) * n ≤ 4096 * n := Nat.mul_le_mul_right n hlt
            rw [Nat.succ_mul] at h1
            omega
          have HP : Hid (P = p * n) := hPn
          clear hPn
          go_wp2_with fail
          go_quiet (fail)
          go_wp2_with fail
          refine (mix_any p (by omega) _).mono ?_
          rintro e w' ⟨rfl, rfl⟩
          go_wp2_with fail
          have hpre : (tab (seedsOf ms) n p).length = P := by rw [HP.out]; exact tab_length _ _ _ (by rw [seedsOf_length]; exact hnk)
          obtain ⟨pre, hpr⟩ : ∃ pre, pre = tab (seedsOf ms) n p := ⟨_, rfl⟩
          obtain ⟨tc, htc⟩ : ∃ tc, tc = tcells (.slice (some ⟨bm, 0, none⟩) ms.length cap) n self (.slice (some ⟨b3, 0, none⟩) (4096 * n) (4096 * n)) := ⟨_, rfl⟩
          have htc4 : tc[4]? = some (.int .i64 n) := by rw [htc]; rfl
          have hrl' : n ≤ rest.length := by
            have : 1 * n ≤ (4096 - p) * n := Nat.mul_le_mul_right n (by omega)
            omega
          have m3 : M3 w b1 b2 b3 b4 tc (seedsOf ms) pre (rest.drop n) (List.zip sc (rest.take n)) (wr.drewN nq) := by
            refine M3.drewN ⟨by rw [htc]; exact hT, hS, ?_, ?_, hB⟩ nq
            · rw [List.map_snd_zip (by simp; omega), List.append_assoc, List.take_append_drop, hpr]
              exact hO
            · rw [List.map_fst_zip (by simp; omega)]
              exact hR
          have hzl : (List.zip sc (rest.take n)).length = n := by simp; omega
          have hpl : (rest.drop n).length = (4096 - (p + 1)) * n := by
            rw [List.length_drop, hrl, show 4096 - p = (4096 - (p + 1)) + 1 by omega, Nat.succ_mul]
            omega
          have Hpl := hide hpl
          clear hpl
          rw [← hpr] at hpre
          have Hpr := hide hpr
          have Htc := hide htc
          have Hrl := hide hrl
          clear hpr htc hT hS hO hR hB hc5 hc4 hP hP1 hrl hscl
          generalize List.zip sc (rest.take n) = st0 at *
          generalize rest.drop n = post at *
          go_loopw [15, 102] (fun c i wr => ∃ i' ch : Nat, i' ≤ ms.length ∧ i = .int .i64 i' ∧ c = .int .i64 ch ∧ ch = min n i' ∧ ∃ st : List Rk.E, st.length = n ∧ st.take ch = Rk.top n (Rk.es (score (seedsOf ms) p) i') ∧
              M3 w b1 b2 b3 b4 tc (seedsOf ms) pre post st wr) (fun _ i _ => ms.length - (intOf i).toNat)
          case atStart => exact ⟨0, 0, Nat.zero_le _, rfl, rfl, by simp, st0, hzl, by simp [Rk.top, Rk.es], m3⟩
          case round =>
            obtain ⟨i, ch, hi, rfl, rfl, hch, st, hst, htop, hM⟩ := hrel
            by_cases hil : i < ms.length
            · obtain ⟨sd, hsd0⟩ : ∃ sd, sd = (seedsOf ms).getD i 0 := ⟨_, rfl⟩
              have hsd : wr.cell? ⟨b2, i, none⟩ = some (.int .u64 (sd : Int)) := by rw [hM.2.1.cell, rowU_get _ _ (by rw [seedsOf_length]; exact hil), hsd0]
              have hc4 : wr.cell? ⟨b1, 4, none⟩ = some (.int .i64 n) := by rw [hM.1.cell]; exact htc4
              have hSl : sd < 18446744073709551616 := by
                rw [hsd0]
                exact seeds_lt ms i hil
              have hml := mix_lt' p
              have hxor := bits_xor_u64_nat _ _ hSl hml
              have hXl : sd ^^^ Mx.mix p < 18446744073709551616 := xor_lt' _ _ hSl hml
              obtain ⟨sco, hsco⟩ : ∃ sco, sco = score (seedsOf ms) p i := ⟨_, rfl⟩
              have hsco2 : Mx.mix (sd ^^^ Mx.mix p) = sco := by rw [hsco, hsd0]; exact score_eq _ _ _
              have hscl : sco < 18446744073709551616 := by rw [← hsco2]; exact mix_lt' _
              have Hsco2 := hide hsco2
              have hes := Rk.es_succ (score (seedsOf ms) p) i
              rw [← hsco] at hes
              have hsorted := Rk.top_sorted (score (seedsOf ms) p) i n
              have Hes := hide hes
              have Htop := hide htop
              have Hsorted := hide hsorted
              have Hch := hide hch
              clear hsco hsco2 hes htop hsorted hsd0
              generalize sd ^^^ Mx.mix p = X at *
              by_cases hfull : n ≤ i
              · -- the row is full
                have hcn : n = ch := by omega
                clear hch Hch
                subst hcn
                obtain ⟨last, hla⟩ : ∃ last, last = (st.getD (n - 1) (0, 0)).1 := ⟨_, rfl⟩
                have hlast := hM.sc (n - 1) (by omega)
                rw [← hla] at hlast
                have Hla := hide hla
                clear hla
                have HM := hide hM
                clear hM
                by_cases hle : sco ≤ last
                · go_wp2_with fail
                  refine (mix_any X hXl _).mono ?_
                  rintro e w' ⟨rfl, rfl⟩
                  rw [Hsco2.out]
                  go_wp2_with fail
                  go_roundw
                  case rel =>
                    refine ⟨i + 1, n, by omega, by go_num, rfl, by omega, st, hst, ?_, HM.out⟩
                    have ht := Htop.out
                    rw [List.take_of_length_le (by omega)] at ht ⊢
                    rw [Hes.out, Rk.step_skip n _ st (sco, i) (by omega) hst ht Hsorted.out (by rw [← Hla.out]; exact hle)]
                    exact ht
                  case measure => simp [intOf]; omega
                · go_wp2_with fail
                  refine (mix_any X hXl _).mono ?_
                  rintro e w' ⟨rfl, rfl⟩
                  rw [Hsco2.out]
                  have hlt2 : last < sco := by omega
                  clear hle hsd hxor
                  go_wp2_with fail
                  have hM := HM.out
                  clear HM hlast hc4
                  go_loopw [19] (fun jv wr => ∃ (j : Nat) (st' : List Rk.E), jv = .int .i64 j ∧ j < n ∧ st'.length = n ∧ Rk.shift sco j st' = Rk.shift sco (n - 1) st ∧
                      M3 w b1 b2 b3 b4 tc (seedsOf ms) pre post st' wr) (fun jv _ => (intOf jv).toNat)
                  case atStart => exact ⟨n - 1, st, by go_num, by omega, hst, rfl, hM⟩
                  case round =>
                    obtain ⟨j, st', rfl, hjn, hst', hsh, hM4⟩ := hrel
                    have Hsh := hide hsh
                    have HM4 := hide hM4
                    clear hsh
                    cases j with
                    | zero =>
                      have hfs := hM4.2.2.2.1.free 0
                      have hfo := hM4.2.2.1.free P
                      have hcs := hM4.sc 0 (by omega)
                      have hco := hM4.ow P 0 hpre (by omega)
                      rw [Nat.add_zero] at hco
                      generalize (st'.getD 0 (0, 0)).1 = a1 at hcs
                      generalize (st'.getD 0 (0, 0)).2 = a2 at hco
                      clear hM4
                      go_wp2_with fail
                      go_roundw
                      case rel =>
                        refine ⟨i + 1, n, by omega, by go_num, by go_num, by omega, st'.set 0 (sco, i), by simp [hst'], ?_, HM4.out.put g1 g2 g3 g4 P 0 hpre (by omega) (sco, i)⟩
                        rw [Hes.out]
                        exact close_full n _ st st' (sco, i) 0 (by omega) hst Htop.out Hsorted.out (by rw [← Hla.out]; exact hlt2) hst' Hsh.out
                      case measure => simp [intOf]; omega
                    | succ j' =>
                      have hfs := hM4.2.2.2.1.free (j' + 1)
                      have hfo := hM4.2.2.1.free (P + (j' + 1))
                      have hcs := hM4.sc (j' + 1) (by omega)
                      have hco := hM4.ow P (j' + 1) hpre (by omega)
                      have hcs' := hM4.sc j' (by omega)
                      have hco' := hM4.ow P j' hpre (by omega)
                      generalize (st'.getD (j' + 1) (0, 0)).1 = a1 at hcs
                      generalize (st'.getD (j' + 1) (0, 0)).2 = a2 at hco
                      obtain ⟨a3, h3⟩ : ∃ a3, a3 = (st'.getD j' (0, 0)).1 := ⟨_, rfl⟩
                      obtain ⟨a4, h4⟩ : ∃ a4, a4 = (st'.getD j' (0, 0)).2 := ⟨_, rfl⟩
                      rw [← h3] at hcs'
                      rw [← h4] at hco'
                      have H3 := hide h3
                      have H4 := hide h4
                      clear hM4 h3 h4
                      by_cases hlt4 : a3 < sco
                      · go_wp2_with fail
                        go_region
                        all_goals go_wp2_with fail
                        go_roundw
                        case rel =>
                          have e34 : st'.getD j' (0, 0) = (a3, a4) := by rw [H3.out, H4.out]
                          have m := HM4.out.put g1 g2 g3 g4 P (j' + 1) hpre (by omega) (a3, a4)
                          refine ⟨j', st'.set (j' + 1) (a3, a4), rfl, by omega, by simp [hst'], ?_, by first | exact m | exact m.drew⟩
                          rw [← Hsh.out, shift_on sco j' st' (by rw [e34]; exact hlt4), e34]
                        case measure => simp [intOf]
                      · go_wp2_with fail
                        go_roundw
                        case rel =>
                          refine ⟨i + 1, n, by omega, by go_num, by go_num, by omega, st'.set (j' + 1) (sco, i), by simp [hst'], ?_, HM4.out.put g1 g2 g3 g4 P (j' + 1) hpre (by omega) (sco, i)⟩
                          rw [Hes.out]
                          exact close_full n _ st st' (sco, i) (j' + 1) (by omega) hst Htop.out Hsorted.out (by rw [← Hla.out]; exact hlt2) hst' (by rw [← Hsh.out, shift_stop sco j' st' (by rw [← H3.out]; exact hlt4)])
                        case measure => simp [intOf]; omega
              · -- there is room
                have hci : i = ch := by omega
                clear hch Hch
                subst hci
                have hin : i < n := by omega
                have hne : ((i : Int) == (n : Int)) = false := by rw [beq_eq_false_iff_ne]; omega
                go_wp2_with fail
                refine (mix_any X hXl _).mono ?_
                rintro e w' ⟨rfl, rfl⟩
                rw [Hsco2.out]
                clear hsd hxor
                have HM := hide hM
                clear hM
                go_wp2_with fail
                have hM := HM.out
                clear HM hc4
                go_loopw [19] (fun jv wr => ∃ (j : Nat) (st' : List Rk.E), jv = .int .i64 j ∧ j < n ∧ st'.length = n ∧ Rk.shift sco j st' = Rk.shift sco (i) st ∧
                    M3 w b1 b2 b3 b4 tc (seedsOf ms) pre post st' wr) (fun jv _ => (intOf jv).toNat)
                case atStart => exact ⟨i, st, by go_num, by omega, hst, rfl, hM⟩
                case round =>
                  obtain ⟨j, st', rfl, hjn, hst', hsh, hM4⟩ := hrel
                  have Hsh := hide hsh
                  have HM4 := hide hM4
                  clear hsh
                  cases j with
                  | zero =>
                    have hfs := hM4.2.2.2.1.free 0
                    have hfo := hM4.2.2.1.free P
                    have hcs := hM4.sc 0 (by omega)
                    have hco := hM4.ow P 0 hpre (by omega)
                    rw [Nat.add_zero] at hco
                    generalize (st'.getD 0 (0, 0)).1 = a1 at hcs
                    generalize (st'.getD 0 (0, 0)).2 = a2 at hco
                    clear hM4
                    go_wp2_with fail
                    go_roundw
                    case rel =>
                      refine ⟨i + 1, i + 1, by omega, by go_num, by go_num, by omega, st'.set 0 (sco, i), by simp [hst'], ?_, HM4.out.put g1 g2 g3 g4 P 0 hpre (by omega) (sco, i)⟩
                      rw [Hes.out]
                      exact close_room n i _ st st' (sco, i) 0 hst (by omega) Htop.out Hsorted.out Hsh.out
                    case measure => simp [intOf]; omega
                  | succ j' =>
                    have hfs := hM4.2.2.2.1.free (j' + 1)
                    have hfo := hM4.2.2.1.free (P + (j' + 1))
                    have hcs := hM4.sc (j' + 1) (by omega)
                    have hco := hM4.ow P (j' + 1) hpre (by omega)
                    have hcs' := hM4.sc j' (by omega)
                    have hco' := hM4.ow P j' hpre (by omega)
                    generalize (st'.getD (j' + 1) (0, 0)).1 = a1 at hcs
                    generalize (st'.getD (j' + 1) (0, 0)).2 = a2 at hco
                    obtain ⟨a3, h3⟩ : ∃ a3, a3 = (st'.getD j' (0, 0)).1 := ⟨_, rfl⟩
                    obtain ⟨a4, h4⟩ : ∃ a4, a4 = (st'.getD j' (0, 0)).2 := ⟨_, rfl⟩
                    rw [← h3] at hcs'
                    rw [← h4] at hco'
                    have H3 := hide h3
                    have H4 := hide h4
                    clear hM4 h3 h4
                    by_cases hlt4 : a3 < sco
                    · go_wp2_with fail
                      go_region
                      all_goals go_wp2_with fail
                      go_roundw
                      case rel =>
                        have e34 : st'.getD j' (0, 0) = (a3, a4) := by rw [H3.out, H4.out]
                        have m := HM4.out.put g1 g2 g3 g4 P (j' + 1) hpre (by omega) (a3, a4)
                        refine ⟨j', st'.set (j' + 1) (a3, a4), rfl, by omega, by simp [hst'], ?_, by first | exact m | exact m.drew⟩
                        rw [← Hsh.out, shift_on sco j' st' (by rw [e34]; exact hlt4), e34]
                      case measure => simp [intOf]
                    · go_wp2_with fail
                      go_roundw
                      case rel =>
                        refine ⟨i + 1, i + 1, by omega, by go_num, by go_num, by omega, st'.set (j' + 1) (sco, i), by simp [hst'], ?_, HM4.out.put g1 g2 g3 g4 P (j' + 1) hpre (by omega) (sco, i)⟩
                        rw [Hes.out]
                        exact close_room n i _ st st' (sco, i) (j' + 1) hst (by omega) Htop.out Hsorted.out (by rw [← Hsh.out, shift_stop sco j' st' (by rw [← H3.out]; exact hlt4)])
                      case measure => simp [intOf]; omega
            · -- every member has been ranked: the part's owners stand
              have hik : i = ms.length := by omega
              subst hik
              have hcn : ch = n := by omega
              rw [hcn, List.take_of_length_le (by omega)] at htop
              have HM := hide hM
              have Htop := hide htop
              clear hM htop hch hcn
              go_wp2_with fail
              go_roundw
              case rel =>
                obtain ⟨k1, k2, k3, k4, k5⟩ := HM.out
                refine ⟨p + 1, by omega, by go_num, post, st.map Prod.fst, Hpl.out, by simp [hst], by rw [← Htc.out]; exact k1, k2, ?_, k4, k5⟩
                rw [tab_next, ← Hpr.out, Rk.owners, seedsOf_length, ← Htop.out]
                exact k3
              case measure => simp [intOf]; omega
        · have hpp : p = 4096 := by omega
          subst hpp
          have hr0 : rest = [] := List.eq_nil_of_length_eq_zero (by rw [hrl]; simp)
          rw [hr0, List.append_nil] at hO
          have HO := hide hO
          have HT := hide hT
          have HBb := hide hB
          clear hO hT hB hS hR hrl hr0
          go_wp2_with fail
          go_ret
          exact ⟨b1, rfl, by omega, ⟨self, b3, HT.out, HO.out⟩, HBb.out⟩
end Go.Proofs.Qxb6003334a
