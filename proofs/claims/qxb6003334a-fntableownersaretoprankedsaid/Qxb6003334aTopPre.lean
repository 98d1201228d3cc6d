/-
  FnTableOwnersAreTopRanked (5): what the walk's main way wants: the memory, the counts.
-/
import Derived.Test.Qxb6003334aTopEarly
import Derived.Test.Qxb6003334aStrArg
import Derived.Deep.DeepCutAuto
namespace Go.Proofs.Qxb6003334a
open Go.RowKit

/-- The memory behind the making of the table and of the scores: draws alone turn it no more. -/
def TM (w : World) (bm bs t : Nat) (ms : List ByteArray) (n : Nat) (sc : List Nat) (wr : World) : Prop :=
  IsTable wr t ms (.slice (some ⟨bm, 0, none⟩) ms.length ms.length) n ∧ Blk wr bm (rowS ms) 9 ∧ Blk wr bs (rowU sc) 22 ∧ Below bm w wr
theorem TM.drewN {w : World} {bm bs t : Nat} {ms : List ByteArray} {n : Nat} {sc : List Nat} {wr : World} (h : TM w bm bs t ms n sc wr) (q : Nat) : TM w bm bs t ms n sc (wr.drewN q) :=
  ⟨h.1.drewN q, h.2.1.drewN q, h.2.2.1.drewN q, below_drewN' h.2.2.2 q⟩
theorem TM.drew {w : World} {bm bs t : Nat} {ms : List ByteArray} {n : Nat} {sc : List Nat} {wr : World} (h : TM w bm bs t ms n sc wr) : TM w bm bs t ms n sc wr.drew := h.drewN 1
theorem Blk.ne {w : World} {a b : Nat} {x y : Array Value} {t u : TypeId} (h : Blk w a x t) (k : Blk w b y u) (htu : t ≠ u) : a ≠ b := by
  intro e
  subst e
  unfold Blk at h k
  rw [h] at k
  injection k with k
  injection k with _ k _
  exact htu k
theorem TM.put {w : World} {bm bs t : Nat} {ms : List ByteArray} {n : Nat} {sc : List Nat} {wr : World} (h : TM w bm bs t ms n sc wr) (hb : bm < bs) (k x : Nat) :
    TM w bm bs t ms n (sc.set k x) (wr.setCell ⟨bs, k, none⟩ (.int .u64 (x : Int))) := by
  obtain ⟨⟨self, bo, e1, e2⟩, e3, e4, e5⟩ := h
  refine ⟨⟨self, bo, e1.other _ _ _ (e1.ne e4 (by decide)), e2.other _ _ _ (e2.ne e4 (by decide))⟩, e3.other _ _ _ (e3.ne e4 (by decide)), ?_, e5.setCell (by show bm ≤ bs; omega) _⟩
  rw [← rowU_set]
  exact e4.set k _
/-- The scores of all members for part p. -/
def scoresOf (ms : List ByteArray) (p : Nat) : List Nat := (List.range ms.length).map (score (seedsOf ms) p)
theorem scoresOf_length (ms : List ByteArray) (p : Nat) : (scoresOf ms p).length = ms.length := by simp [scoresOf]
theorem scoresOf_get (ms : List ByteArray) (p i : Nat) (h : i < ms.length) : (scoresOf ms p)[i]'(by rw [scoresOf_length]; exact h) = score (seedsOf ms) p i := by simp [scoresOf]
theorem map_range_getD (g : Nat → Nat) (k x : Nat) (h : x < k) : ((List.range k).map g).getD x 0 = g x := by
  simp [h]
theorem scoresOf_getD (ms : List ByteArray) (p x : Nat) (h : x < ms.length) : (scoresOf ms p).getD x 0 = score (seedsOf ms) p x := by
  unfold scoresOf
  exact map_range_getD (score (seedsOf ms) p) ms.length x h
theorem TM.at {w : World} {bm bs t : Nat} {ms : List ByteArray} {n p : Nat} {sc : List Nat} {wr : World} {f : Nat → Nat} (h : TM w bm bs t ms n sc wr) (hsc : sc = scoresOf ms p) (hf : f = score (seedsOf ms) p) (x : Nat) (hx : x < ms.length) :
    wr.cell? ⟨bs, x, none⟩ = some (.int .u64 (f x : Nat)) := by
  rw [h.2.2.1.cell, rowU_get _ _ (by rw [hsc, scoresOf_length]; exact hx), hsc, hf, scoresOf_getD ms p x hx]
theorem score_at (ms : List ByteArray) (p i : Nat) (h : i < ms.length) : Mx.mix (Mx.hash (nums ms[i]) ^^^ Mx.mix p) = score (seedsOf ms) p i := by
  rw [← score_eq]
  have e : (seedsOf ms).getD i 0 = Mx.hash (nums ms[i]) := by
    unfold seedsOf
    rw [List.getD_eq_getElem?_getD, List.getElem?_map, List.getElem?_eq_getElem h, Option.map_some, Option.getD_some]
  rw [e]
theorem hash_lt' (l : List Nat) : Mx.hash l < 18446744073709551616 := by
  unfold Mx.hash
  exact Mx.mix_lt _

theorem any_succ (ms : List ByteArray) (s : ByteArray) (i : Nat) (h : i < ms.length) (b : Bool) (hb : (ms[i].toList == s.toList) = b) :
    (ms.take (i + 1)).any (fun x => x.toList == s.toList) = ((ms.take i).any (fun x => x.toList == s.toList) || b) := by
  rw [List.take_succ_eq_append_getElem h, List.any_append, List.any_cons, List.any_nil, Bool.or_false, hb]
/-- How many of the first i members beat member j. -/
def bcnt (f : Nat → Nat) (j i : Nat) : Nat := (List.range i).countP fun x => Rk.bt (f x, x) (f j, j)
theorem bcnt_all (f : Nat → Nat) (k j : Nat) : bcnt f j k = Rk.beats f k j := rfl
theorem bcnt_succ (f : Nat → Nat) (j i : Nat) : bcnt f j (i + 1) = bcnt f j i + (if Rk.bt (f i, i) (f j, j) then 1 else 0) := by
  unfold bcnt
  rw [List.range_succ, List.countP_append, List.countP_singleton]
theorem bcnt_le (f : Nat → Nat) (j i : Nat) : bcnt f j i ≤ i := by
  have := List.countP_le_length (p := fun x => Rk.bt (f x, x) (f j, j)) (l := List.range i)
  rw [List.length_range] at this
  exact this
theorem wcnt_succ (wf : Nat → Bool) (j : Nat) (b : Bool) (h : wf j = b) : (List.range (j + 1)).countP wf = (List.range j).countP wf + (if b then 1 else 0) := by
  rw [List.range_succ, List.countP_append, List.countP_singleton, h]
theorem wcnt_le (wf : Nat → Bool) (j : Nat) : (List.range j).countP wf ≤ j := by
  have := List.countP_le_length (p := wf) (l := List.range j)
  rw [List.length_range] at this
  exact this
/-- What the ranking says of part p's owners L: its n is N. -/
theorem owned_iff (f : Nat → Nat) (k N m : Nat) (hm : m < k) : ownB (Rk.owners f k N) (m : Int) = decide (Rk.beats f k m < N) := by
  rw [ownB_iff]
  apply decide_eq_decide.2
  rw [Rk.mem_owners]
  exact ⟨fun h => h.2, fun h => ⟨hm, h⟩⟩
theorem owned_out (f : Nat → Nat) (k N : Nat) (x : Int) (hx : x < 0 ∨ (k : Int) ≤ x) : ownB (Rk.owners f k N) x = false := by
  unfold ownB
  rw [List.any_eq_false]
  intro y hy
  have := ((Rk.mem_owners f k N y).1 hy).1
  simp
  omega

end Go.Proofs.Qxb6003334a
