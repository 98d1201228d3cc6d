/-
  ZZNewTable (15), ownersOf (41), ownedBy (35), ZZOwnedBy (16), index (36), ZZIndex (17): contracts.
-/
import Derived.Test.Qxb6003334aTable
namespace Go.Proofs.Qxb6003334a
open Go.RowKit

theorem zzNewTable_any (ms : List ByteArray) (bm cap : Nat) (own : Nat) (w : World) (hk : 1 ≤ ms.length) (hk' : ms.length ≤ 17) (ho : 1 ≤ own) (ho' : own ≤ 8)
    (n : Nat) (hn : (if ms.length < own then (ms.length : Int) else (own : Int)) = (n : Int)) (hsz : ∀ s ∈ ms, s.size ≤ maxLen) (hbm : Blk w bm (rowS ms) 9) :
    Calls Try.prog 15 #[.slice (some ⟨bm, 0, none⟩) ms.length cap, .string ByteArray.empty, .int .i64 own] w fun e w' =>
      ∃ b, e = .returned (.pointer (some ⟨b, 0, none⟩)) ∧ w.heap.size < b ∧ IsTable w' b ms (.slice (some ⟨bm, 0, none⟩) ms.length cap) n ∧ Below w.heap.size w w' := by
  have Hn := hide hn
  clear hn
  go_enter Try.func15, Try.ntmps15
  go_wp2_with fail
  refine (newTable_any ms bm cap own w hk hk' ho ho' n Hn.out hsz hbm).mono ?_
  rintro e w' ⟨b, rfl, hb, ht, hB⟩
  have HT := hide ht
  clear ht
  go_wp2
  go_ret
  exact ⟨b, rfl, hb, HT.out, hB⟩

set_option maxRecDepth 100000 in
theorem ownersOf_any (b bo n p P : Nat) (mv : Value) (self : Int) (w : World) (hn1 : 1 ≤ n) (hn8 : n ≤ 8) (hp : p < 4096) (hP : (p : Int) * (n : Int) = (P : Int))
    (hT : Blk w b (tcells mv n self (.slice (some ⟨bo, 0, none⟩) (4096 * n) (4096 * n))) 95) :
    Calls Try.prog 41 #[.pointer (some ⟨b, 0, none⟩), .int .i64 p] w fun e w' => e = .returned (.slice (some ⟨bo, P, none⟩) n (4096 * n - P)) ∧ ∃ q, w' = w.drewN q := by
  have hc5 : w.cell? ⟨b, 5, none⟩ = some (.slice (some ⟨bo, 0, none⟩) (4096 * n) (4096 * n)) := by rw [hT.cell]; rfl
  have hc4 : w.cell? ⟨b, 4, none⟩ = some (.int .i64 n) := by rw [hT.cell]; rfl
  have hP1 : ((p : Int) + 1) * (n : Int) = (P : Int) + (n : Int) := by rw [Int.add_mul, hP]; simp
  have hPn : P = p * n := by
    have : ((p * n : Nat) : Int) = (P : Int) := by rw [← hP]; simp
    omega
  have hPb : P + n ≤ 4096 * n := by
    have h1 : (p + 1) * n ≤ 4096 * n := Nat.mul_le_mul_right n hp
    rw [Nat.succ_mul] at h1
    omega
  clear hPn hT
  go_enter Try.func41, Try.ntmps41
  go_wp2
  go_quiet (fail)
  go_wp2
  go_ret
  exact ⟨congrArg (fun l => Ending.returned (Value.slice (some ⟨bo, P, none⟩) l (4096 * n - P))) (show P + n - P = n by omega), _, rfl⟩

/-- Is m among the owners? -/
def ownB (L : List Nat) (m : Int) : Bool := L.any fun x => (x : Int) == m
theorem ownB_snoc (L : List Nat) (x : Nat) (m : Int) : ownB (L ++ [x]) m = (ownB L m || ((x : Int) == m)) := by simp [ownB]
theorem tab_get (sd : List Nat) (n Q p j : Nat) (h : n ≤ sd.length) (hp : p < Q) (hj : j < n) : (tab sd n Q)[p * n + j]? = (Rk.owners (score sd p) sd.length n)[j]? := by
  induction Q with
  | zero => omega
  | succ Q ih =>
    have hl := tab_length sd n Q h
    by_cases e : p = Q
    · subst e
      rw [tab_next, List.getElem?_append_right (by omega), hl, show p * n + j - p * n = j by omega]
    · have hlt : p < Q := by omega
      have : p * n + j < Q * n := by
        have h1 : (p + 1) * n ≤ Q * n := Nat.mul_le_mul_right n hlt
        rw [Nat.succ_mul] at h1
        omega
      rw [tab_next, List.getElem?_append_left (by omega)]
      exact ih hlt
theorem owners_lt (f : Nat → Nat) (k n x : Nat) (h : x ∈ Rk.owners f k n) : x < k := ((Rk.mem_owners f k n x).1 h).1

set_option maxRecDepth 100000 in
set_option maxHeartbeats 400000 in
theorem ownedBy_any (b n p : Nat) (m : Int) (mv : Value) (ms : List ByteArray) (w : World) (hn1 : 1 ≤ n) (hn8 : n ≤ 8) (hnk : n ≤ ms.length) (hk : ms.length ≤ 17) (hp : p < 4096) (hT : IsTable w b ms mv n) :
    Calls Try.prog 35 #[.pointer (some ⟨b, 0, none⟩), .int .i64 p, .int .i64 m] w fun e w' =>
      e = .returned (.bool (ownB (Rk.owners (score (seedsOf ms) p) ms.length n) m)) ∧ ∃ q, w' = w.drewN q := by
  obtain ⟨self, bo, hT, hO⟩ := hT
  obtain ⟨P, hPn⟩ : ∃ P : Nat, P = p * n := ⟨_, rfl⟩
  have hP : (p : Int) * (n : Int) = (P : Int) := by rw [hPn]; simp
  have hLl : (Rk.owners (score (seedsOf ms) p) ms.length n).length = n := by rw [Rk.owners_length, Nat.min_eq_left hnk]
  have hLb : ∀ x ∈ Rk.owners (score (seedsOf ms) p) ms.length n, x < 17 := fun x hx => Nat.lt_of_lt_of_le (owners_lt _ _ _ _ hx) hk
  have hcell : ∀ j, j < n → w.cell? ⟨bo, P + j, none⟩ = some (.int .i32 ((Rk.owners (score (seedsOf ms) p) ms.length n).getD j 0 : Nat)) := by
    intro j hj
    have hg := tab_get (seedsOf ms) n 4096 p j (by rw [seedsOf_length]; exact hnk) hp hj
    rw [seedsOf_length, ← hPn] at hg
    have hlen : P + j < (tab (seedsOf ms) n 4096).length := by
      rcases Nat.lt_or_ge (P + j) (tab (seedsOf ms) n 4096).length with h | h
      · exact h
      · rw [List.getElem?_eq_none h, List.getElem?_eq_getElem (by omega)] at hg
        cases hg
    rw [hO.cell, rowI_get _ _ hlen, List.getD_eq_getElem?_getD, hg, List.getD_eq_getElem?_getD]
  generalize Rk.owners (score (seedsOf ms) p) ms.length n = L at *
  clear hPn hO
  have HP := hide hP
  clear hP
  go_enter Try.func35, Try.ntmps35
  go_wp2_with fail
  refine (ownersOf_any b bo n p P mv self w hn1 hn8 hp HP.out hT).mono ?_
  rintro e w' ⟨rfl, q, rfl⟩
  clear hT
  have HC := hide hcell
  clear hcell
  go_wp2_with fail
  go_loopw [13] (fun i wr => ∃ j : Nat, j ≤ n ∧ i = .int .i64 j ∧ ownB (L.take j) m = false ∧ wr = w.drewN q) (fun i _ => n - (intOf i).toNat)
  case atStart => exact ⟨0, Nat.zero_le _, rfl, by simp [ownB], rfl⟩
  case round =>
    obtain ⟨j, hj, rfl, hno, rfl⟩ := hrel
    have Hno := hide hno
    clear hno
    by_cases hlt : j < n
    · have hc := HC.out j hlt
      have hx : L.getD j 0 < 17 := hLb _ (by rw [List.getD_eq_getElem?_getD, List.getElem?_eq_getElem (by omega)]; exact List.getElem_mem _)
      have hsn : L.take (j + 1) = L.take j ++ [L.getD j 0] := by
        rw [List.take_succ_eq_append_getElem (by omega), List.getD_eq_getElem?_getD, List.getElem?_eq_getElem (by omega)]; rfl
      have Hsn := hide hsn
      have hmem : L.getD j 0 ∈ L := by rw [List.getD_eq_getElem?_getD, List.getElem?_eq_getElem (by omega)]; exact List.getElem_mem _
      have Hmem := hide hmem
      clear hsn hmem
      generalize L.getD j 0 = x at *
      go_wp2_with fail
      · have hyes : ownB L m = true := List.any_eq_true.2 ⟨x, Hmem.out, by assumption⟩
        go_ret
        exact ⟨by rw [hyes]; rfl, q, rfl⟩
      · have hnx : ((x : Int) == m) = false := by assumption
        go_roundw
        case rel => exact ⟨j + 1, by omega, by go_num, by rw [Hsn.out, ownB_snoc, Hno.out, hnx]; rfl, by first | rfl | trivial⟩
        case measure => simp [intOf]; omega
    · go_wp2_with fail
      go_ret
      refine ⟨?_, q, rfl⟩
      have := Hno.out
      rw [List.take_of_length_le (by omega)] at this
      rw [this]
      rfl

theorem zzOwnedBy_any (b n p : Nat) (m : Int) (mv : Value) (ms : List ByteArray) (w : World) (hn1 : 1 ≤ n) (hn8 : n ≤ 8) (hnk : n ≤ ms.length) (hk : ms.length ≤ 17) (hp : p < 4096) (hT : IsTable w b ms mv n) :
    Calls Try.prog 16 #[.pointer (some ⟨b, 0, none⟩), .int .i64 p, .int .i64 m] w fun e w' =>
      e = .returned (.bool (ownB (Rk.owners (score (seedsOf ms) p) ms.length n) m)) ∧ ∃ q, w' = w.drewN q := by
  go_enter Try.func16, Try.ntmps16
  go_wp2_with fail
  refine (ownedBy_any b n p m mv ms w hn1 hn8 hnk hk hp hT).mono ?_
  rintro e w' ⟨rfl, q, rfl⟩
  clear hT
  go_wp2
  go_ret
  exact ⟨rfl, q, rfl⟩

/-- The first position of a name, or -1. -/
def idx (ms : List ByteArray) (s : ByteArray) : Int := match ms.findIdx? (fun x => x.toList == s.toList) with | some i => i | none => -1

theorem idx_hit (ms : List ByteArray) (s : ByteArray) (j : Nat) (hj : j < ms.length) (h : (ms[j].toList == s.toList) = true) (hno : ∀ q (h : q < ms.length), q < j → (ms[q].toList == s.toList) = false) : idx ms s = j := by
  have e : ms.findIdx? (fun x => x.toList == s.toList) = some j := by
    rw [List.findIdx?_eq_some_iff_getElem]
    exact ⟨hj, h, fun q hq => by rw [hno q (by omega) hq]; decide⟩
  unfold idx
  rw [e]
theorem idx_none (ms : List ByteArray) (s : ByteArray) (hno : ∀ q (h : q < ms.length), (ms[q].toList == s.toList) = false) : idx ms s = -1 := by
  have e : ms.findIdx? (fun x => x.toList == s.toList) = none := by
    rw [List.findIdx?_eq_none_iff]
    intro x hx
    obtain ⟨q, hq, rfl⟩ := List.mem_iff_getElem.1 hx
    exact hno q hq
  unfold idx
  rw [e]

set_option maxRecDepth 100000 in
set_option maxHeartbeats 400000 in
theorem index_any (b bm cap n : Nat) (s : ByteArray) (ms : List ByteArray) (w : World) (hk : ms.length ≤ 17) (hT : IsTable w b ms (.slice (some ⟨bm, 0, none⟩) ms.length cap) n) (hbm : Blk w bm (rowS ms) 9) :
    Calls Try.prog 36 #[.pointer (some ⟨b, 0, none⟩), .string s] w fun e w' => e = .returned (.int .i64 (idx ms s)) ∧ w' = w := by
  obtain ⟨self, bo, hT, _⟩ := hT
  have hc1 : w.cell? ⟨b, 1, none⟩ = some (.slice (some ⟨bm, 0, none⟩) ms.length cap) := by rw [hT.cell]; rfl
  clear hT
  go_enter Try.func36, Try.ntmps36
  go_wp2_with fail
  clear hc1
  go_loopw [12] (fun i wr => ∃ j : Nat, j ≤ ms.length ∧ i = .int .i64 j ∧ (∀ q (h : q < ms.length), q < j → (ms[q].toList == s.toList) = false) ∧ wr = w) (fun i _ => ms.length - (intOf i).toNat)
  case atStart => exact ⟨0, Nat.zero_le _, rfl, fun q _ h => absurd h (Nat.not_lt_zero _), rfl⟩
  case round =>
    obtain ⟨j, hj, rfl, hno, rfl⟩ := hrel
    have Hno := hide hno
    clear hno
    by_cases hlt : j < ms.length
    · have hc : wr.cell? ⟨bm, j, none⟩ = some (.string ms[j]) := by rw [hbm.cell, rowS_get ms j hlt]
      obtain ⟨x, hx⟩ : ∃ x, x = ms[j] := ⟨_, rfl⟩
      rw [← hx] at hc
      have Hx := hide hx
      clear hx
      go_wp2_with fail
      · have hyes : (x.toList == s.toList) = true := by assumption
        have hid := idx_hit ms s j hlt (by rw [← Hx.out]; exact hyes) Hno.out
        go_ret
        exact ⟨by rw [hid]; rfl, rfl⟩
      · have hnx : (x.toList == s.toList) = false := by assumption
        go_roundw
        case rel =>
          refine ⟨j + 1, by omega, by go_num, fun q h hq => ?_, by first | rfl | trivial⟩
          by_cases e : q = j
          · subst e; rw [← Hx.out]; exact hnx
          · exact Hno.out q h (by omega)
        case measure => simp [intOf]; omega
    · have hid := idx_none ms s (fun q h => Hno.out q h (by omega))
      have Hid' := hide hid
      clear hid
      go_wp2_with fail
      go_ret
      exact ⟨by rw [Hid'.out]; rfl, rfl⟩

theorem zzIndex_any (b bm cap n : Nat) (s : ByteArray) (ms : List ByteArray) (w : World) (hk : ms.length ≤ 17) (hT : IsTable w b ms (.slice (some ⟨bm, 0, none⟩) ms.length cap) n) (hbm : Blk w bm (rowS ms) 9) :
    Calls Try.prog 17 #[.pointer (some ⟨b, 0, none⟩), .string s] w fun e w' => e = .returned (.int .i64 (idx ms s)) ∧ w' = w := by
  go_enter Try.func17, Try.ntmps17
  go_wp2_with fail
  refine (index_any b bm cap n s ms w hk hT hbm).mono ?_
  rintro e w' ⟨rfl, rfl⟩
  clear hT
  go_wp2
  go_ret
  exact ⟨rfl, rfl⟩
end Go.Proofs.Qxb6003334a
