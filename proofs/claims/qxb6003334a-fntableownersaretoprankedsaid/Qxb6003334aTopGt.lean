/-
  FnTableOwnersAreTopRanked (5): the walk's main way, where there are fewer members than owners asked for.
-/
import Derived.Test.Qxb6003334aTopPre
namespace Go.Proofs.Qxb6003334a
open Go.RowKit

set_option maxRecDepth 100000 in
set_option maxHeartbeats 4000000 in
theorem top_gt (b off cap : Nat) (ms : List ByteArray) (s : ByteArray) (o p : Nat) (q : Int) (w : World) (hb : b < w.heap.size) (hcell : ∀ i (h : i < ms.length), w.cell? ⟨b, off + i, none⟩ = some (.string ms[i]))
    (hsz : ∀ x ∈ ms, x.size ≤ maxLen) (hs : (s.size : Int) ≤ 1048576) (h1 : 1 ≤ (ms.length : Int)) (h16 : (ms.length : Int) ≤ 16) (ho1 : 1 ≤ (o : Int)) (ho8 : (o : Int) ≤ 8) (hp : (p : Int) < 4096)
    (hNo : ms.length < o) :
    Calls Try.prog 5 #[.slice (some ⟨b, off, none⟩) ms.length cap, .int .i64 o, .int .i64 p, .string s, .int .i64 q] w fun e w' => e = .returned (.bool true) ∧ Below w.heap.size w w' := by
  have HC := hide hcell
  have Hsz := hide hsz
  clear hcell hsz
  have d1 : decide (65536 < (ms.length : Int)) = false := decide_eq_false (by omega)
  have d2 : decide (1048576 < (s.size : Int)) = false := decide_eq_false (by omega)
  have d3 : decide ((ms.length : Int) < 1) = false := decide_eq_false (by omega)
  have d4 : decide (16 < (ms.length : Int)) = false := decide_eq_false (by omega)
  have d5 : decide ((o : Int) < 1) = false := decide_eq_false (by omega)
  have d6 : decide (8 < (o : Int)) = false := decide_eq_false (by omega)
  have d7 : decide ((p : Int) < 0) = false := decide_eq_false (by omega)
  have d8 : decide (4096 ≤ (p : Int)) = false := decide_eq_false (by omega)
  have hmp := mix_lt' p
  have hminN : min o ms.length = ms.length := by omega
  obtain ⟨f, hf⟩ : ∃ f, f = score (seedsOf ms) p := ⟨_, rfl⟩
  obtain ⟨L, hL⟩ : ∃ L, L = Rk.owners f ms.length ms.length := ⟨_, rfl⟩
  obtain ⟨wf, hwf⟩ : ∃ wf : Nat → Bool, wf = fun m => decide (Rk.beats f ms.length m < ms.length) := ⟨_, rfl⟩
  have hown : ∀ m, m < ms.length → ownB L (m : Int) = wf m := fun m hm => by rw [hL, hwf]; exact owned_iff f ms.length ms.length m hm
  have hout : ∀ x : Int, (x < 0 ∨ (ms.length : Int) ≤ x) → ownB L x = false := fun x hx => by rw [hL]; exact owned_out f ms.length ms.length x hx
  have hcount : (List.range ms.length).countP wf = ms.length := by rw [hwf, Rk.count_owners]; omega
  have hbeat : ∀ m, decide (Rk.beats f ms.length m < ms.length) = wf m := fun m => by rw [hwf]
  have hL2 : Rk.owners (score (seedsOf ms) p) ms.length (min o ms.length) = L := by rw [hL, hf, hminN]
  have Hf := hide hf
  have Hown := hide hown
  have Hout := hide hout
  have Hcount := hide hcount
  have Hbeat := hide hbeat
  have HL2 := hide hL2
  clear hf hL hwf hown hout hcount hbeat hL2 hminN
  have d10 : decide (ms.length < o) = true := decide_eq_true hNo
  go_enter Try.func5, Try.ntmps5
  go_wp2_with fail
  refine (bytes12_some b off cap ms o p q s w (by omega) HC.out).mono ?_
  rintro e wx ⟨⟨r, rfl⟩, hwx⟩
  have hwx := hwx.symm
  subst hwx
  cases r
  · go_wp2
    go_ret
    exact ⟨rfl, Below.refl _ _⟩
  go_wp2_with fail
  refine (stringBytes_some b off cap ms _ (by omega) HC.out).mono ?_
  rintro e wx ⟨⟨r, rfl⟩, hwx⟩
  have hwx := hwx.symm
  subst hwx
  by_cases hr : 1048576 < wrap64 (r + (s.size : Int))
  · go_wp2
    go_ret
    exact ⟨rfl, Below.refl _ _⟩
  have d9 : decide (1048576 < wrap64 (r + (s.size : Int))) = false := decide_eq_false hr
  go_wp2_with fail
  refine (clone_any b off cap ms _ (by omega) hb HC.out).mono ?_
  rintro e w1 ⟨rfl, hbm, hB1⟩
  have hBs := hB1.size
  have Hbm := hide hbm
  have HB1 := hide hB1
  have hbml := hbm.lt
  clear hbm hB1 HC
  go_wp2_with fail
  rw [show ({ data := #[] } : ByteArray) = ByteArray.empty from rfl]
  refine (zzNewTable_any ms w.heap.size ms.length o w1 (by omega) (by omega) (by omega) (by omega) (min o ms.length) (min_if _ _) Hsz.out Hbm.out).mono ?_
  rintro e w2 ⟨t, rfl, ht, hT, hB2⟩
  have k1 : Blk w2 w.heap.size (rowS ms) 9 := Hbm.out.below hB2 hbml
  have k3 : Below w.heap.size w w2 := HB1.out.trans (hB2.mono hBs)
  have hk3s := k3.size
  have K1 := hide k1
  have K2 := hide hT
  have K3 := hide k3
  clear k1 hT k3 hB2 Hbm HB1
  have hmk := makeU ms.length (by omega)
  go_wp2_with fail
  refine (zzMix_any p (by omega) _).mono ?_
  rintro e wx ⟨rfl, hwx⟩
  have hwx := hwx.symm
  subst hwx
  go_wp2_with fail
  clear hmk d1 d2 d3 d4 d5 d6 d7 d8 d9 d10 hr hb
  obtain ⟨W2, hW2⟩ : ∃ W2, W2 = w2.alloc (.cells (rowU (List.replicate ms.length 0)) 22) := ⟨_, rfl⟩
  rw [← hW2]
  obtain ⟨sc, hsc⟩ : ∃ sc, sc = scoresOf ms p := ⟨_, rfl⟩
  have hscl : sc.length = ms.length := by rw [hsc]; exact scoresOf_length ms p
  have T0 : TM w w.heap.size w2.heap.size t ms (min o ms.length) (part sc 0) W2 := by
    rw [hW2]
    refine ⟨?_, K1.out.alloc _, ?_, K3.out.alloc hk3s _⟩
    · obtain ⟨self, bo, e1, e2⟩ := K2.out
      exact ⟨self, bo, e1.alloc _, e2.alloc _⟩
    · rw [part_zero, hscl]
      exact Blk.new _ _ _
  have hgb : w.heap.size < w2.heap.size := K1.out.lt
  have HT0 := hide T0
  have Hsc := hide hsc
  have Hscl := hide hscl
  clear hW2 T0 hsc hscl K1 K2 K3
  generalize hbm : w.heap.size = bm at *
  generalize hbs : w2.heap.size = bs at *
  have Hbm := hide hbm
  clear hbm hbs
  go_loopw [15] (fun i wr => ∃ k : Nat, k ≤ ms.length ∧ i = .int .i64 k ∧ TM w bm bs t ms (min o ms.length) (part sc k) wr) (fun i _ => ms.length - (intOf i).toNat)
  case atStart => exact ⟨0, Nat.zero_le _, rfl, HT0.out⟩
  case round =>
    obtain ⟨k, hk, rfl, hTM⟩ := hrel
    clear HT0
    have HTM := hide hTM
    by_cases hlt : k < ms.length
    · have hc : wr.cell? ⟨bm, k, none⟩ = some (.string ms[k]) := by rw [hTM.2.1.cell, rowS_get ms k hlt]
      have hxs : ms[k].size ≤ maxLen := Hsz.out _ (List.getElem_mem hlt)
      have hkl : k < (part sc k).length := by rw [part_length _ _ (by rw [Hscl.out]; omega), Hscl.out]; exact hlt
      have hfr := hTM.2.2.1.free k
      have hc2 : wr.cell? ⟨bs, k, none⟩ = some (.int .u64 ((part sc k).getD k 0 : Nat)) := by rw [hTM.2.2.1.cell, rowU_get _ _ hkl]
      have hsck := score_at ms p k hlt
      have hX := xor_lt' _ _ (hash_lt' (nums ms[k])) hmp
      have hxor := bits_xor_u64_nat _ _ (hash_lt' (nums ms[k])) hmp
      have hkl2 : k < sc.length := by rw [Hscl.out]; exact hlt
      have hsce : sc[k] = score (seedsOf ms) p k := by
        have : sc[k]? = some (score (seedsOf ms) p k) := by rw [Hsc.out]; simp [scoresOf, hlt]
        rw [List.getElem?_eq_getElem hkl2] at this
        exact Option.some.inj this
      have hnext := hTM.put hgb k (score (seedsOf ms) p k)
      rw [← hsce, part_set _ _ hkl2, hsce] at hnext
      have Hnext := hide hnext
      have Hsck := hide hsck
      clear hnext hsck hsce hTM HTM
      obtain ⟨x, hx⟩ : ∃ x, x = ms[k] := ⟨_, rfl⟩
      rw [← hx] at hc hxs hX hxor Hsck
      clear hx
      generalize (part sc k).getD k 0 = old at *
      generalize score (seedsOf ms) p k = fk at *
      go_wp2_with fail
      refine (zzHashKey_any x hxs _).mono ?_
      rintro e wx ⟨rfl, hwx⟩
      have hwx := hwx.symm
      subst hwx
      generalize Mx.hash (nums x) = hx at *
      generalize hx ^^^ Mx.mix p = X at *
      go_wp2_with fail
      refine (zzMix_any X hX _).mono ?_
      rintro e wx ⟨rfl, hwx⟩
      have hwx := hwx.symm
      subst hwx
      rw [Hsck.out]
      clear hxor
      go_wp2_with fail
      go_roundw
      case rel => exact ⟨k + 1, by omega, by go_num, Hnext.out⟩
      case measure => simp [intOf]; omega
    · have hkk : k = ms.length := by omega
      subst hkk
      have hTM2 : TM w bm bs t ms (min o ms.length) sc wr := by
        have := hTM
        rw [← Hscl.out, part_all] at this
        rw [← Hscl.out]
        exact this
      have HTM2 := hide hTM2
      clear hTM HTM hTM2
      go_wp2_with fail
      go_loopw [16, 17] (fun c i wr => ∃ j : Nat, j ≤ ms.length ∧ i = .int .i64 j ∧ c = .int .i64 ((List.range j).countP wf : Nat) ∧ TM w bm bs t ms (min o ms.length) sc wr) (fun _ i _ => ms.length - (intOf i).toNat)
      case atStart => exact ⟨0, Nat.zero_le _, rfl, rfl, HTM2.out⟩
      case round =>
        obtain ⟨j, hj, rfl, rfl, hTM⟩ := hrel
        clear HTM2
        have HTM := hide hTM
        clear hTM
        have hwc := wcnt_le wf j
        by_cases hjl : j < ms.length
        · go_wp2_with fail
          go_loopw [18, 19] (fun c i wr => ∃ i' : Nat, i' ≤ ms.length ∧ i = .int .i64 i' ∧ c = .int .i64 (bcnt f j i' : Nat) ∧ TM w bm bs t ms (min o ms.length) sc wr) (fun _ i _ => ms.length - (intOf i).toNat)
          case atStart => exact ⟨0, Nat.zero_le _, rfl, rfl, HTM.out⟩
          case round =>
            obtain ⟨i, hi, rfl, rfl, hTM⟩ := hrel
            clear HTM
            have hbc := bcnt_le f j i
            by_cases hil : i < ms.length
            · have hci := hTM.at Hsc.out Hf.out i hil
              have hcj := hTM.at Hsc.out Hf.out j hjl
              have hbs := bcnt_succ f j i
              have Hbs := hide hbs
              have HTM := hide hTM
              clear hbs hTM
              obtain ⟨si, hsi⟩ : ∃ si, f i = si := ⟨_, rfl⟩
              obtain ⟨sj, hsj⟩ : ∃ sj, f j = sj := ⟨_, rfl⟩
              rw [hsi] at hci
              rw [hsj] at hcj
              rw [hsi, hsj] at Hbs
              clear hsi hsj
              rcases Nat.lt_trichotomy sj si with hlt3 | heq3 | hgt3
              · have e1 : decide (sj < si) = true := decide_eq_true hlt3
                have hbt : Rk.bt (si, i) (sj, j) = true := by simp [Rk.bt, hlt3]
                rw [hbt] at Hbs
                clear hbt
                go_wp2_with fail
                go_quiet (fail)
                go_wp2_with fail
                go_roundw
                case rel => exact ⟨i + 1, by omega, by go_num, by rw [Hbs.out]; go_num, HTM.out.drewN _⟩
                case measure => simp [intOf]; omega
              · subst heq3
                by_cases hij : i < j
                · have e2 : decide (i < j) = true := decide_eq_true hij
                  have hbt : Rk.bt (sj, i) (sj, j) = true := by simp [Rk.bt, hij]
                  rw [hbt] at Hbs
                  clear hbt
                  go_wp2_with fail
                  go_quiet (fail)
                  go_wp2_with fail
                  go_roundw
                  case rel => exact ⟨i + 1, by omega, by go_num, by rw [Hbs.out]; go_num, HTM.out.drewN _⟩
                  case measure => simp [intOf]; omega
                · have e2 : decide (i < j) = false := decide_eq_false hij
                  have hbt : Rk.bt (sj, i) (sj, j) = false := by simp [Rk.bt, hij]
                  rw [hbt] at Hbs
                  clear hbt
                  go_wp2_with fail
                  go_quiet (fail)
                  go_wp2_with fail
                  go_roundw
                  case rel => exact ⟨i + 1, by omega, by go_num, by rw [Hbs.out]; rfl, HTM.out.drewN _⟩
                  case measure => simp [intOf]; omega
              · have e1 : decide (sj < si) = false := decide_eq_false (by omega)
                have e3 : ((si : Int) == (sj : Int)) = false := by rw [beq_eq_false_iff_ne]; omega
                have hbt : Rk.bt (si, i) (sj, j) = false := by simp [Rk.bt]; omega
                rw [hbt] at Hbs
                clear hbt
                go_wp2_with fail
                go_quiet (fail)
                go_wp2_with fail
                go_roundw
                case rel => exact ⟨i + 1, by omega, by go_num, by rw [Hbs.out]; rfl, HTM.out.drewN _⟩
                case measure => simp [intOf]; omega
            · have hii : i = ms.length := by omega
              subst hii
              have hbe := Hbeat.out j
              rw [← bcnt_all] at hbe
              have how := Hown.out j hjl
              have hwcs := wcnt_succ wf j (wf j) rfl
              have HTM := hide hTM
              clear hTM
              generalize bcnt f j ms.length = bj at *
              generalize hwj : wf j = wj at hbe how hwcs
              clear hwj
              cases wj
              all_goals
                have How := hide how
                have Hwcs := hide hwcs
                clear how hwcs
                go_wp2_with fail
                refine (zzOwnedBy_any t (min o ms.length) p j (.slice (some ⟨bm, 0, none⟩) ms.length ms.length) ms wr (by omega) (by omega) (by omega) (by omega) (by omega) HTM.out.1).mono ?_
                rintro e wx ⟨rfl, q2, hwx⟩
                rw [HL2.out, How.out]
                have HTM2 := hide (HTM.out.drewN q2)
                rw [← hwx] at HTM2
                clear hwx HTM
                go_wp2_with fail
                go_roundw
                case rel => exact ⟨j + 1, by omega, by go_num, by rw [Hwcs.out]; first | rfl | go_num, HTM2.out⟩
                case measure => simp [intOf]; omega
        · have hjj : j = ms.length := by omega
          subst hjj
          have hcn := Hcount.out
          rw [hcn]
          have hm1 := Hout.out (-1) (by omega)
          have hm2 := Hout.out (ms.length : Int) (by omega)
          have Hm1 := hide hm1
          have Hm2 := hide hm2
          have HTM3 := HTM
          clear hcn hm1 hm2 hwc HTM
          go_wp2_with fail
          refine (zzOwnedBy_any t (min o ms.length) p (-1) (.slice (some ⟨bm, 0, none⟩) ms.length ms.length) ms wr (by omega) (by omega) (by omega) (by omega) (by omega) HTM3.out.1).mono ?_
          rintro e wx ⟨rfl, q2, hwx⟩
          rw [HL2.out, Hm1.out]
          have HTM := hide (HTM3.out.drewN q2)
          rw [← hwx] at HTM
          clear hwx HTM3
          go_wp2_with fail
          refine (zzOwnedBy_any t (min o ms.length) p ms.length (.slice (some ⟨bm, 0, none⟩) ms.length ms.length) ms wx (by omega) (by omega) (by omega) (by omega) (by omega) HTM.out.1).mono ?_
          rintro e wy ⟨rfl, q3, hwy⟩
          rw [HL2.out, Hm2.out]
          have HTM2 := hide (HTM.out.drewN q3)
          rw [← hwy] at HTM2
          clear hwy HTM Hm1 Hm2
          go_upto_region 43 with fail
          obtain ⟨bq, hbq⟩ : ∃ bq, bq = (decide (q < 0) || decide ((ms.length : Int) ≤ q)) := ⟨_, rfl⟩
          have Hbq := hide hbq
          clear hbq
          go_cut [173] (fun s173 wx => s173 = .bool bq ∧ TM w bm bs t ms (min o ms.length) sc wx)
          case first =>
            by_cases hq0 : q < 0
            · have e1 : decide (q < 0) = true := decide_eq_true hq0
              have e2 : bq = true := by rw [Hbq.out, e1]; rfl
              subst e2
              go_wp2_with fail
              go_meet
              exact ⟨rfl, HTM2.out⟩
            · have e1 : decide (q < 0) = false := decide_eq_false hq0
              by_cases hq1 : (ms.length : Int) ≤ q
              · have e3 : decide ((ms.length : Int) ≤ q) = true := decide_eq_true hq1
                have e2 : bq = true := by rw [Hbq.out, e1, e3]; rfl
                subst e2
                go_wp2_with fail
                go_meet
                exact ⟨rfl, HTM2.out⟩
              · have e3 : decide ((ms.length : Int) ≤ q) = false := decide_eq_false hq1
                have e2 : bq = false := by rw [Hbq.out, e1, e3]; rfl
                subst e2
                go_wp2_with fail
                go_meet
                exact ⟨rfl, HTM2.out⟩
          case rest =>
            obtain ⟨rfl, hTM⟩ := hcut
            have HTM := hide hTM
            clear hTM HTM2
            go_upto_if 173 with fail
            go_cut [] (fun wx => TM w bm bs t ms (min o ms.length) sc wx)
            case first =>
              cases bq
              · go_wp2_with fail
                go_meet
                exact HTM.out
              · have hoq := Hout.out q (by
                  have := Hbq.out
                  rw [eq_comm, Bool.or_eq_true, decide_eq_true_eq, decide_eq_true_eq] at this
                  exact this)
                have Hoq := hide hoq
                clear hoq
                go_wp2_with fail
                refine (zzOwnedBy_any t (min o ms.length) p q (.slice (some ⟨bm, 0, none⟩) ms.length ms.length) ms _ (by omega) (by omega) (by omega) (by omega) (by omega) HTM.out.1).mono ?_
                rintro e wz ⟨rfl, q4, hwz⟩
                rw [HL2.out, Hoq.out]
                have HTM2 := hide (HTM.out.drewN q4)
                rw [← hwz] at HTM2
                clear hwz HTM
                go_wp2_with fail
                go_meet
                exact HTM2.out
            case rest =>
              have HTM2 := hide hcut
              clear hcut HTM
              go_wp2_with fail
              clear Hsc Hscl Hf Hown Hout Hcount Hbeat HL2 Hbq
              go_loopw [21] (fun i wr => ∃ i' : Nat, i' ≤ ms.length ∧ i = .int .i64 i' ∧ TM w bm bs t ms (min o ms.length) sc wr) (fun i _ => ms.length - (intOf i).toNat)
              case atStart => exact ⟨0, Nat.zero_le _, rfl, HTM2.out⟩
              case round =>
                obtain ⟨i, hi, rfl, hTM⟩ := hrel
                clear HTM2
                have HTM := hide hTM
                clear hTM
                by_cases hil : i < ms.length
                · go_wp2_with fail
                  go_loopw [22, 23] (fun fi jv wr => ∃ j : Nat, j ≤ i ∧ jv = .int .i64 j ∧ fi = .int .i64 i ∧ (∀ q (h : q < ms.length), q < j → (ms[q].toList == ms[i].toList) = false) ∧ TM w bm bs t ms (min o ms.length) sc wr) (fun _ jv _ => i - (intOf jv).toNat)
                  case atStart => exact ⟨0, Nat.zero_le _, rfl, rfl, fun q _ h => absurd h (Nat.not_lt_zero _), HTM.out⟩
                  case round =>
                    obtain ⟨j, hj, rfl, rfl, hno, hTM⟩ := hrel
                    clear HTM
                    have Hno := hide hno
                    have HTM := hide hTM
                    have hci : wr.cell? ⟨bm, i, none⟩ = some (.string ms[i]) := by rw [hTM.2.1.cell, rowS_get ms i hil]
                    clear hno
                    by_cases hji : j < i
                    · have hjl : j < ms.length := by omega
                      have hcj : wr.cell? ⟨bm, j, none⟩ = some (.string ms[j]) := by rw [hTM.2.1.cell, rowS_get ms j hjl]
                      clear hTM
                      obtain ⟨x, hx⟩ : ∃ x, x = ms[i] := ⟨_, rfl⟩
                      obtain ⟨y, hy⟩ : ∃ y, y = ms[j] := ⟨_, rfl⟩
                      rw [← hx] at hci
                      rw [← hy] at hcj
                      have Hx := hide hx
                      have Hy := hide hy
                      clear hx hy
                      by_cases hxy : (y.toList == x.toList) = true
                      · have hid := idx_hit ms ms[i] j hjl (by rw [← Hx.out, ← Hy.out]; exact hxy) Hno.out
                        rw [← Hx.out] at hid
                        have Hid' := hide hid
                        clear hid
                        go_wp2_with fail
                        go_quiet (fail)
                        go_wp2_with fail
                        refine (zzIndex_any t bm ms.length (min o ms.length) x ms _ (by omega) (HTM.out.1.drewN _) (HTM.out.2.1.drewN _)).mono ?_
                        rintro e wz ⟨rfl, hwz⟩
                        have hwz := hwz.symm
                        subst hwz
                        rw [Hid'.out]
                        go_wp2_with fail
                        go_roundw
                        case rel => exact ⟨i + 1, by omega, by go_num, HTM.out.drewN _⟩
                        case measure => simp [intOf]; omega
                      · have hxy : (y.toList == x.toList) = false := by simpa using hxy
                        go_wp2_with fail
                        go_quiet (fail)
                        go_wp2_with fail
                        go_roundw
                        case rel =>
                          refine ⟨j + 1, by omega, by go_num, rfl, fun q h hq => ?_, HTM.out.drewN _⟩
                          by_cases e : q = j
                          · subst e; rw [← Hx.out, ← Hy.out]; exact hxy
                          · exact Hno.out q h (by omega)
                        case measure => simp [intOf]; omega
                    · have hjj : j = i := by omega
                      subst hjj
                      clear hTM
                      have hid := idx_hit ms ms[j] j hil (by simp) Hno.out
                      obtain ⟨x, hx⟩ : ∃ x, x = ms[j] := ⟨_, rfl⟩
                      rw [← hx] at hci hid
                      have Hid' := hide hid
                      clear hid hx
                      go_wp2_with fail
                      refine (zzIndex_any t bm ms.length (min o ms.length) x ms _ (by omega) HTM.out.1 HTM.out.2.1).mono ?_
                      rintro e wz ⟨rfl, hwz⟩
                      have hwz := hwz.symm
                      subst hwz
                      rw [Hid'.out]
                      go_wp2_with fail
                      go_roundw
                      case rel => exact ⟨j + 1, by omega, by go_num, HTM.out⟩
                      case measure => simp [intOf]; omega
                · go_wp2_with fail
                  go_loopw [24, 25] (fun fd iv wr => ∃ j : Nat, j ≤ ms.length ∧ iv = .int .i64 j ∧ fd = .bool ((ms.take j).any (fun x => x.toList == s.toList)) ∧ TM w bm bs t ms (min o ms.length) sc wr) (fun _ iv _ => ms.length - (intOf iv).toNat)
                  case atStart => exact ⟨0, Nat.zero_le _, rfl, rfl, HTM.out⟩
                  case round =>
                    obtain ⟨j, hj, rfl, rfl, hTM⟩ := hrel
                    clear HTM
                    have HTM := hide hTM
                    by_cases hjl : j < ms.length
                    · have hcj : wr.cell? ⟨bm, j, none⟩ = some (.string ms[j]) := by rw [hTM.2.1.cell, rowS_get ms j hjl]
                      clear hTM
                      obtain ⟨bb, hbb⟩ : ∃ bb, (ms[j].toList == s.toList) = bb := ⟨_, rfl⟩
                      have hany := any_succ ms s j hjl bb hbb
                      have Hany := hide hany
                      clear hany
                      generalize ms[j] = y at *
                      generalize (ms.take j).any (fun x => x.toList == s.toList) = fb at *
                      cases bb
                      · go_wp2_with fail
                        go_roundw
                        case rel => exact ⟨j + 1, by omega, by go_num, by rw [Hany.out, Bool.or_false], HTM.out⟩
                        case measure => simp [intOf]; omega
                      · go_wp2_with fail
                        go_roundw
                        case rel => exact ⟨j + 1, by omega, by go_num, by rw [Hany.out, Bool.or_true], HTM.out⟩
                        case measure => simp [intOf]; omega
                    · have hjj : j = ms.length := by omega
                      subst hjj
                      clear hTM
                      obtain ⟨fb, hfb⟩ : ∃ fb, (ms.take ms.length).any (fun x => x.toList == s.toList) = fb := ⟨_, rfl⟩
                      rw [hfb]
                      have Hfb := hide hfb
                      clear hfb
                      cases fb
                      · have hid := idx_none ms s (fun q h => by
                          have := Hfb.out
                          rw [List.take_length, List.any_eq_false] at this
                          simpa using this ms[q] (List.getElem_mem h))
                        have Hid' := hide hid
                        clear hid
                        go_wp2_with fail
                        refine (zzIndex_any t bm ms.length (min o ms.length) s ms _ (by omega) HTM.out.1 HTM.out.2.1).mono ?_
                        rintro e wz ⟨rfl, hwz⟩
                        have hwz := hwz.symm
                        subst hwz
                        rw [Hid'.out]
                        go_wp2_with fail
                        go_ret
                        exact ⟨rfl, by rw [Hbm.out]; exact HTM.out.2.2.2⟩
                      · go_wp2_with fail
                        go_ret
                        exact ⟨rfl, by rw [Hbm.out]; exact HTM.out.2.2.2⟩
end Go.Proofs.Qxb6003334a
