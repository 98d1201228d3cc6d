/-
  FnTableGainMovesOnlyForNewcomer (6): the walk's main way.
-/
import Derived.Test.Qxb6003334aGainEarly
namespace Go.Proofs.Qxb6003334a
open Go.RowKit

theorem IsTable.below {w w' : World} {b : Nat} {ms : List ByteArray} {mv : Value} {n : Nat} (h : IsTable w b ms mv n) (hb : Below w.heap.size w w') : IsTable w' b ms mv n := by
  obtain ⟨self, bo, h1, h2⟩ := h
  exact ⟨self, bo, h1.below hb h1.lt, h2.below hb h2.lt⟩
theorem IsTable.drewN {w : World} {b : Nat} {ms : List ByteArray} {mv : Value} {n : Nat} (h : IsTable w b ms mv n) (q : Nat) : IsTable (w.drewN q) b ms mv n := h
theorem below_drewN' {B : Nat} {w w' : World} (h : Below B w w') (q : Nat) : Below B w (w'.drewN q) := ⟨h.os, h.tape, h.output, h.size, h.block⟩
theorem ownB_iff (L : List Nat) (m : Nat) : ownB L (m : Int) = decide (m ∈ L) := by
  rw [Bool.eq_iff_iff]
  simp [ownB]
  constructor
  · rintro ⟨x, hx, e⟩
    have : x = m := by omega
    subst this
    exact hx
  · intro h
    exact ⟨m, h, rfl⟩
theorem score_snoc (ms : List ByteArray) (s : ByteArray) (p i : Nat) (h : i < ms.length) : score (seedsOf (ms ++ [s])) p i = score (seedsOf ms) p i := by
  unfold score seedsOf
  rw [List.map_append, List.getD_eq_getElem?_getD, List.getElem?_append_left (by simpa using h), List.getD_eq_getElem?_getD]

/-- How many of the first i members owned under L1 and own no more under L2. -/
def cnt (L1 L2 : List Nat) (i : Nat) : Nat := (List.range i).countP (fun m => decide (m ∈ L1) && !decide (m ∈ L2))
theorem cnt_succ (L1 L2 : List Nat) (i : Nat) (a b : Bool) (ha : ownB L1 (i : Int) = a) (hb : ownB L2 (i : Int) = b) : cnt L1 L2 (i + 1) = cnt L1 L2 i + (if a && !b then 1 else 0) := by
  rw [ownB_iff] at ha hb
  unfold cnt
  rw [List.range_succ, List.countP_append, List.countP_singleton, ha, hb]
theorem cnt_le (L1 L2 : List Nat) (i : Nat) : cnt L1 L2 i ≤ i := by
  have := List.countP_le_length (p := fun m => decide (m ∈ L1) && !decide (m ∈ L2)) (l := List.range i)
  rw [List.length_range] at this
  exact this
theorem min_if (k o : Nat) : (if k < o then (k : Int) else (o : Int)) = ((min o k : Nat) : Int) := by
  split <;> omega

set_option maxRecDepth 100000 in
set_option maxHeartbeats 2000000 in
theorem gain_main (b off cap : Nat) (ms : List ByteArray) (s : ByteArray) (o p : Nat) (w : World) (hb : b < w.heap.size) (hcell : ∀ i (h : i < ms.length), w.cell? ⟨b, off + i, none⟩ = some (.string ms[i]))
    (hsz : ∀ x ∈ ms, x.size ≤ maxLen) (hs : (s.size : Int) ≤ 1048576) (h1 : 1 ≤ (ms.length : Int)) (h16 : (ms.length : Int) ≤ 16) (ho1 : 1 ≤ (o : Int)) (ho8 : (o : Int) ≤ 8) (hp : (p : Int) < 4096) :
    Calls Try.prog 6 #[.slice (some ⟨b, off, none⟩) ms.length cap, .string s, .int .i64 o, .int .i64 p] w fun e w' => e = .returned (.bool true) ∧ Below w.heap.size w w' := by
  have HC := hide hcell
  have Hsz := hide hsz
  clear hcell hsz
  have d1 : decide (65536 < (ms.length : Int)) = false := decide_eq_false (by omega)
  have d2 : decide (1048576 < (s.size : Int)) = false := decide_eq_false (by omega)
  have d3 : decide ((ms.length : Int) < 1) = false := decide_eq_false (by omega)
  have d4 : decide (16 < (ms.length : Int)) = false := decide_eq_false (by omega)
  have d5 : decide ((o : Int) < 1) = false := decide_eq_false (by omega)
  have d6 : decide (8 < (o : Int)) = false := decide_eq_false (by omega)
  have d7 : decide ((p : Int) < 0) = false := decide_eq_false (by omega)
  have d8 : decide (4096 ≤ (p : Int)) = false := decide_eq_false (by omega)
  go_enter Try.func6, Try.ntmps6
  go_wp2_with fail
  refine (bytes18_some b off cap ms o p s w (by omega) HC.out).mono ?_
  rintro e wx ⟨⟨r, rfl⟩, hwx⟩
  have hwx := hwx.symm
  subst hwx
  cases r
  · go_wp2
    go_ret
    exact ⟨rfl, Below.refl _ _⟩
  go_wp2_with fail
  refine (stringBytes_some b off cap ms _ (by omega) HC.out).mono ?_
  rintro e wx ⟨⟨r, rfl⟩, hwx⟩
  have hwx := hwx.symm
  subst hwx
  by_cases hr : 1048576 < wrap64 (r + (s.size : Int))
  · go_wp2
    go_ret
    exact ⟨rfl, Below.refl _ _⟩
  have d9 : decide (1048576 < wrap64 (r + (s.size : Int))) = false := decide_eq_false hr
  go_wp2_with fail
  refine (clone_any b off cap ms _ (by omega) hb HC.out).mono ?_
  rintro e w1 ⟨rfl, hbm, hB1⟩
  have hbml := hbm.lt
  have hBs := hB1.size
  have Hbm := hide hbm
  have HB1 := hide hB1
  clear hbm hB1 HC
  have hmk : ∀ w : World, (Instr.makeSlice 28 (.int .i64 ((ms.length : Int) + 1)) (.int .i64 ((ms.length : Int) + 1))).run Try.prog w = .ok (.slice (some ⟨w.heap.size, 0, none⟩) (ms.length + 1) (ms.length + 1)) (w.alloc (.cells (rowS (List.replicate (ms.length + 1) ByteArray.empty)) 9)) := fun w => makeS (ms.length + 1) (by omega) w
  go_wp2_with fail
  clear hmk d1 d2 d3 d4 d5 d6 d7 d8 d9 hr hb
  obtain ⟨W2, hW2⟩ : ∃ W2, W2 = w1.alloc (.cells (rowS (List.replicate (ms.length + 1) ByteArray.empty)) 9) := ⟨_, rfl⟩
  rw [← hW2]
  obtain ⟨g, hg⟩ : ∃ g, g = ms ++ [s] := ⟨_, rfl⟩
  have hgl : g.length = ms.length + 1 := by rw [hg]; simp
  have k1 : Blk W2 w.heap.size (rowS ms) 9 := by rw [hW2]; exact Hbm.out.alloc _
  have k2 : Blk W2 w1.heap.size (rowS (partS g 0)) 9 := by rw [hW2, partS_zero, hgl]; exact Blk.new _ _ _
  have k3 : Below w.heap.size w W2 := by rw [hW2]; exact HB1.out.alloc hBs _
  have Hg := hide hg
  clear hW2 hg Hbm HB1
  generalize hbm : w.heap.size = bm at *
  generalize hbg : w1.heap.size = bg at *
  have Hbm := hide hbm
  clear hbm hbg
  go_loopw [11] (fun i wr => ∃ k : Nat, k ≤ ms.length ∧ i = .int .i64 k ∧ Blk wr bm (rowS ms) 9 ∧ Blk wr bg (rowS (partS g k)) 9 ∧ Below bm w wr) (fun i _ => ms.length - (intOf i).toNat)
  case atStart => exact ⟨0, Nat.zero_le _, rfl, k1, k2, k3⟩
  case round =>
    obtain ⟨k, hk, rfl, m1, m2, m3⟩ := hrel
    clear k1 k2 k3
    by_cases hlt : k < ms.length
    · have hc : wr.cell? ⟨bm, k, none⟩ = some (.string ms[k]) := by rw [m1.cell, rowS_get ms k hlt]
      have hf := m2.free k
      have hkg : k < g.length := by omega
      have hc2 : wr.cell? ⟨bg, k, none⟩ = some (.string ((partS g k)[k]'(by rw [partS_length _ _ (by omega)]; exact hkg))) := by rw [m2.cell, rowS_get]
      have hgk : g[k] = ms[k] := by
        have : g[k]? = ms[k]? := by rw [Hg.out, List.getElem?_append_left hlt]
        rw [List.getElem?_eq_getElem hkg, List.getElem?_eq_getElem hlt] at this
        exact Option.some.inj this
      have n2 := m2.set k (.string ms[k])
      rw [rowS_set, ← hgk, partS_set _ _ hkg, hgk] at n2
      have n1 := m1.other bg k (.string ms[k]) (by omega)
      have n3 := m3.setCell (p := ⟨bg, k, none⟩) (by show bm ≤ bg; omega) (.string ms[k])
      have N1 := hide n1
      have N2 := hide n2
      have N3 := hide n3
      clear n1 n2 n3 m1 m2 m3 hgk
      generalize ms[k] = x at *
      generalize (partS g k)[k]'(by rw [partS_length _ _ (by omega)]; exact hkg) = s2 at *
      go_wp2_with fail
      go_roundw
      case rel => exact ⟨k + 1, by omega, by go_num, N1.out, N2.out, N3.out⟩
      case measure => simp [intOf]; omega
    · have hkk : k = ms.length := by omega
      subst hkk
      have hkg : ms.length < g.length := by omega
      have hf := m2.free ms.length
      have hc2 : wr.cell? ⟨bg, ms.length, none⟩ = some (.string ((partS g ms.length)[ms.length]'(by rw [partS_length _ _ (by omega)]; exact hkg))) := by rw [m2.cell, rowS_get]
      have hgk : g[ms.length] = s := by
        have : g[ms.length]? = some s := by rw [Hg.out]; simp
        rw [List.getElem?_eq_getElem hkg] at this
        exact Option.some.inj this
      have n2 := m2.set ms.length (.string s)
      rw [rowS_set, ← hgk, partS_set _ _ hkg, hgk, ← hgl, partS_all] at n2
      have n1 := m1.other bg ms.length (.string s) (by omega)
      have n3 := m3.setCell (p := ⟨bg, ms.length, none⟩) (by show bm ≤ bg; omega) (.string s)
      have N1 := hide n1
      have N2 := hide n2
      have N3 := hide n3
      clear n1 n2 n3 m1 m2 m3 hgk
      generalize (partS g ms.length)[ms.length]'(by rw [partS_length _ _ (by omega)]; exact hkg) = s2 at *
      go_wp2_with fail
      rw [show ({ data := #[] } : ByteArray) = ByteArray.empty from rfl]
      have hbg : bg < (wr.setCell ⟨bg, ms.length, none⟩ (.string s)).heap.size := N2.out.lt
      have hbml2 : bm ≤ (wr.setCell ⟨bg, ms.length, none⟩ (.string s)).heap.size := Nat.le_of_lt N1.out.lt
      generalize wr.setCell ⟨bg, ms.length, none⟩ (.string s) = W3 at *
      clear hf hc2
      refine (zzNewTable_any ms bm ms.length o W3 (by omega) (by omega) (by omega) (by omega) (min o ms.length) (min_if _ _) Hsz.out N1.out).mono ?_
      rintro e w3 ⟨t1, rfl, ht1, hT1, hB3⟩
      have q3 : Below bm w w3 := N3.out.trans (hB3.mono hbml2)
      have q2 : Blk w3 bg (rowS g) 9 := N2.out.below hB3 hbg
      have hs3 := hB3.size
      have HT1 := hide hT1
      have Q3 := hide q3
      have Q2 := hide q2
      have hbg3 : bg < w3.heap.size := by omega
      clear hT1 hB3 q3 q2 N1 N2 N3
      go_wp2_with fail
      rw [show ({ data := #[] } : ByteArray) = ByteArray.empty from rfl, ← hgl]
      refine (zzNewTable_any g bg g.length o w3 (by omega) (by omega) (by omega) (by omega) (min o g.length) (min_if _ _) (by
        intro x hx
        rw [Hg.out] at hx
        rcases List.mem_append.1 hx with hx | hx
        · exact Hsz.out x hx
        · simp at hx; subst hx; unfold maxLen; omega) Q2.out).mono ?_
      rintro e w4 ⟨t2, rfl, ht2, hT2, hB4⟩
      have r1 : IsTable w4 t1 ms (.slice (some ⟨bm, 0, none⟩) ms.length ms.length) (min o ms.length) := HT1.out.below hB4
      have r3 : Below bm w w4 := Q3.out.trans (hB4.mono (by omega))
      have R1 := hide r1
      have R2 := hide hT2
      have R3 := hide r3
      clear r1 r3 hT2 hB4 HT1 Q3 Q2
      obtain ⟨L1, hL1⟩ : ∃ L1, L1 = Rk.owners (score (seedsOf ms) p) ms.length (min o ms.length) := ⟨_, rfl⟩
      obtain ⟨L2, hL2⟩ : ∃ L2, L2 = Rk.owners (score (seedsOf g) p) g.length (min o g.length) := ⟨_, rfl⟩
      have hfg : ∀ j, j < ms.length → score (seedsOf g) p j = score (seedsOf ms) p j := fun j hj => by rw [Hg.out]; exact score_snoc ms s p j hj
      have hmono : ∀ i, i < ms.length → i ∈ L2 → i ∈ L1 := fun i hi h => by
        rw [hL2, hgl] at h
        rw [hL1]
        exact Rk.gain_mono _ _ _ o hfg i hi h
      have hlost : cnt L1 L2 ms.length = if ownB L2 (ms.length : Int) && decide (o ≤ ms.length) then 1 else 0 := by
        have := Rk.gain_lost (score (seedsOf ms) p) (score (seedsOf g) p) ms.length o hfg
        rw [← hgl, ← hL1, ← hL2] at this
        rw [ownB_iff]
        exact this
      have HL1 := hide hL1
      have HL2 := hide hL2
      have Hmono := hide hmono
      have Hlost := hide hlost
      clear hL1 hL2 hmono hlost hfg
      go_wp2_with fail
      go_loopw [14, 15] (fun c i wr => ∃ j : Nat, j ≤ ms.length ∧ i = .int .i64 j ∧ c = .int .i64 (cnt L1 L2 j : Nat) ∧ IsTable wr t1 ms (.slice (some ⟨bm, 0, none⟩) ms.length ms.length) (min o ms.length) ∧
          IsTable wr t2 g (.slice (some ⟨bg, 0, none⟩) g.length g.length) (min o g.length) ∧ Below bm w wr) (fun _ i _ => ms.length - (intOf i).toNat)
      case atStart => exact ⟨0, Nat.zero_le _, rfl, rfl, R1.out, R2.out, R3.out⟩
      case round =>
        obtain ⟨j, hj, rfl, rfl, m1, m2, m3⟩ := hrel
        have M1 := hide m1
        have M2 := hide m2
        have M3' := hide m3
        clear m1 m2 m3 R1 R2 R3
        have hcl := cnt_le L1 L2 j
        by_cases hlt : j < ms.length
        · obtain ⟨ba, hba⟩ : ∃ ba, ownB L1 (j : Int) = ba := ⟨_, rfl⟩
          obtain ⟨bb, hbb⟩ : ∃ bb, ownB L2 (j : Int) = bb := ⟨_, rfl⟩
          have hcs := cnt_succ L1 L2 j ba bb hba hbb
          have Hcs := hide hcs
          have Hba := hide hba
          have Hbb := hide hbb
          have himp : bb = true → ba = true := fun h => by
            rw [← hba, ownB_iff, decide_eq_true_eq]
            rw [← hbb, ownB_iff, decide_eq_true_eq] at h
            exact Hmono.out j hlt h
          have Himp := hide himp
          clear hcs hba hbb himp
          go_wp2_with fail
          refine (zzOwnedBy_any t1 (min o ms.length) p j (.slice (some ⟨bm, 0, none⟩) ms.length ms.length) ms wr (by omega) (by omega) (by omega) (by omega) (by omega) M1.out).mono ?_
          rintro e w5 ⟨rfl, q, hw5⟩
          rw [← HL1.out, Hba.out]
          have M2' := hide (M2.out.drewN q)
          rw [← hw5] at M2'
          have M1' := hide (M1.out.drewN q)
          rw [← hw5] at M1'
          have M3'' := hide (below_drewN' M3'.out q)
          rw [← hw5] at M3''
          clear hw5 M1 M2 M3'
          go_wp2_with fail
          refine (zzOwnedBy_any t2 (min o g.length) p j (.slice (some ⟨bg, 0, none⟩) g.length g.length) g w5 (by omega) (by omega) (by omega) (by omega) (by omega) M2'.out).mono ?_
          rintro e w6 ⟨rfl, q2, hw6⟩
          rw [← HL2.out, Hbb.out]
          have M2 := hide (M2'.out.drewN q2)
          rw [← hw6] at M2
          have M1 := hide (M1'.out.drewN q2)
          rw [← hw6] at M1
          have M3' := hide (below_drewN' M3''.out q2)
          rw [← hw6] at M3'
          clear hw6 M1' M2' M3''
          cases ba <;> cases bb
          · go_wp2_with fail
            go_roundw
            case rel => exact ⟨j + 1, by omega, by go_num, by rw [Hcs.out]; rfl, M1.out, M2.out, M3'.out⟩
            case measure => simp [intOf]; omega
          · have := Himp.out rfl
            cases this
          · go_wp2_with fail
            go_roundw
            case rel => exact ⟨j + 1, by omega, by go_num, by rw [Hcs.out]; go_num, M1.out, M2.out, M3'.out⟩
            case measure => simp [intOf]; omega
          · go_wp2_with fail
            go_roundw
            case rel => exact ⟨j + 1, by omega, by go_num, by rw [Hcs.out]; rfl, M1.out, M2.out, M3'.out⟩
            case measure => simp [intOf]; omega
        · have hjj : j = ms.length := by omega
          subst hjj
          obtain ⟨bb, hbb⟩ : ∃ bb, ownB L2 (ms.length : Int) = bb := ⟨_, rfl⟩
          have hfin := Hlost.out
          rw [hbb] at hfin
          have Hfin := hide hfin
          have Hbb := hide hbb
          clear hbb hfin Hlost
          go_wp2_with fail
          refine (zzOwnedBy_any t2 (min o g.length) p ms.length (.slice (some ⟨bg, 0, none⟩) g.length g.length) g wr (by omega) (by omega) (by omega) (by omega) (by omega) M2.out).mono ?_
          rintro e w5 ⟨rfl, q, hw5⟩
          rw [← HL2.out, Hbb.out]
          have M3'' := hide (below_drewN' M3'.out q)
          rw [← hw5, ← Hbm.out] at M3''
          clear hw5 M1 M2 M3'
          by_cases hol : o ≤ ms.length
          · have dol : decide (o ≤ ms.length) = true := decide_eq_true hol
            have hfin := Hfin.out
            rw [dol] at hfin
            clear Hfin
            cases bb
            · have hf0 : cnt L1 L2 ms.length = 0 := by rw [hfin]; rfl
              clear hfin
              go_wp2_with fail
              go_ret
              exact ⟨rfl, M3''.out⟩
            · have hf1 : cnt L1 L2 ms.length = 1 := by rw [hfin]; rfl
              clear hfin
              go_wp2_with fail
              go_ret
              exact ⟨rfl, M3''.out⟩
          · have dol : decide (o ≤ ms.length) = false := decide_eq_false hol
            have hfin := Hfin.out
            rw [dol, Bool.and_false] at hfin
            have hf0 : cnt L1 L2 ms.length = 0 := by rw [hfin]; rfl
            clear Hfin hfin
            cases bb
            · go_wp2_with fail
              go_ret
              exact ⟨rfl, M3''.out⟩
            · go_wp2_with fail
              go_ret
              exact ⟨rfl, M3''.out⟩
end Go.Proofs.Qxb6003334a
