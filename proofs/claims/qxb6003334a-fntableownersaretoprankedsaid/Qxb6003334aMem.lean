/-
  MEMORY THAT THE CALL ITSELF MADE, TOLD BLOCK BY BLOCK; rows of numbers and strings.
-/
import Derived.Test.Qxb6003334aHash
import Derived.Deep.OwnRows
import Derived.Deep.QuietTactic
namespace Go.Proofs.Qxb6003334a
open Go.RowKit

/-- Block b holds the cells cs, of element type t; none is frozen. -/
def Blk (w : World) (b : Nat) (cs : Array Value) (t : TypeId) : Prop := w.heap[b]? = some (.cells cs t (0, 0))
theorem Blk.cell {w : World} {b : Nat} {cs : Array Value} {t : TypeId} (h : Blk w b cs t) (i : Nat) : w.cell? ⟨b, i, none⟩ = cs[i]? := by
  unfold Blk at h
  simp [World.cell?, h]
theorem Blk.free {w : World} {b : Nat} {cs : Array Value} {t : TypeId} (h : Blk w b cs t) (i : Nat) : w.frozen? ⟨b, i, none⟩ = false := by
  unfold Blk at h
  simp [World.frozen?, h]
theorem Blk.lt {w : World} {b : Nat} {cs : Array Value} {t : TypeId} (h : Blk w b cs t) : b < w.heap.size := by
  unfold Blk at h
  rcases Nat.lt_or_ge b w.heap.size with g | g
  · exact g
  · rw [Array.getElem?_eq_none g] at h; cases h
theorem Blk.set {w : World} {b : Nat} {cs : Array Value} {t : TypeId} (h : Blk w b cs t) (i : Nat) (v : Value) : Blk (w.setCell ⟨b, i, none⟩ v) b (cs.setIfInBounds i v) t := by
  unfold Blk at *
  simp [World.setCell, Array.getElem?_modify, h]
theorem Blk.other {w : World} {b : Nat} {cs : Array Value} {t : TypeId} (h : Blk w b cs t) (g i : Nat) (v : Value) (hg : b ≠ g) : Blk (w.setCell ⟨g, i, none⟩ v) b cs t := by
  unfold Blk at *
  rw [Below.heap_setCell w ⟨g, i, none⟩ v b hg]
  exact h
theorem Blk.alloc {w : World} {b : Nat} {cs : Array Value} {t : TypeId} (h : Blk w b cs t) (o : Obj) : Blk (w.alloc o) b cs t := by
  have hl := h.lt
  unfold Blk at *
  rw [Below.heap_alloc w o b hl]
  exact h
theorem Blk.new (w : World) (cs : Array Value) (t : TypeId) : Blk (w.alloc (.cells cs t)) w.heap.size cs t := by
  show (w.heap.push (.cells cs t))[w.heap.size]? = _
  simp
theorem Blk.newAt (w : World) (cs : Array Value) (t : TypeId) (b : Nat) (hb : b = w.heap.size) : Blk (w.alloc (.cells cs t)) b cs t := by subst hb; exact Blk.new w cs t
theorem Blk.drew {w : World} {b : Nat} {cs : Array Value} {t : TypeId} (h : Blk w b cs t) : Blk w.drew b cs t := h
theorem Blk.drewN {w : World} {b : Nat} {cs : Array Value} {t : TypeId} (h : Blk w b cs t) (n : Nat) : Blk (w.drewN n) b cs t := h
theorem Blk.below {w w' : World} {B b : Nat} {cs : Array Value} {t : TypeId} (h : Blk w b cs t) (k : Below B w w') (hb : b < B) : Blk w' b cs t := by
  unfold Blk at *
  rw [k.block b hb]
  exact h

/-! ### Rows -/
def rowU (l : List Nat) : Array Value := (l.map fun x : Nat => Value.int .u64 (x : Int)).toArray
def rowI (l : List Nat) : Array Value := (l.map fun x : Nat => Value.int .i32 (x : Int)).toArray
def rowS (l : List ByteArray) : Array Value := (l.map Value.string).toArray
theorem rowU_get (l : List Nat) (i : Nat) (h : i < l.length) : (rowU l)[i]? = some (.int .u64 (l.getD i 0 : Nat)) := by
  simp [rowU, h]
theorem rowI_get (l : List Nat) (i : Nat) (h : i < l.length) : (rowI l)[i]? = some (.int .i32 (l.getD i 0 : Nat)) := by
  simp [rowI, h]
theorem rowS_get (l : List ByteArray) (i : Nat) (h : i < l.length) : (rowS l)[i]? = some (.string l[i]) := by
  simp [rowS, h]
theorem rowU_set (l : List Nat) (i x : Nat) : (rowU l).setIfInBounds i (.int .u64 (x : Int)) = rowU (l.set i x) := by
  simp [rowU, List.map_set]
theorem rowI_set (l : List Nat) (i x : Nat) : (rowI l).setIfInBounds i (.int .i32 (x : Int)) = rowI (l.set i x) := by
  simp [rowI, List.map_set]
theorem rowS_set (l : List ByteArray) (i : Nat) (x : ByteArray) : (rowS l).setIfInBounds i (.string x) = rowS (l.set i x) := by
  simp [rowS, List.map_set]
theorem made_one (z : Value) (n : Nat) : madeCells #[z] n = (List.replicate n z).toArray := by
  apply Array.ext
  · simp [madeCells]
  · intro i h1 h2
    simp [madeCells, Nat.mod_one]
theorem madeU (n : Nat) : madeCells #[.int .u64 0] n = rowU (List.replicate n 0) := by rw [made_one]; simp [rowU]
theorem madeI (n : Nat) : madeCells #[.int .i32 0] n = rowI (List.replicate n 0) := by rw [made_one]; simp [rowI]
theorem madeS (n : Nat) : madeCells #[.string ByteArray.empty] n = rowS (List.replicate n ByteArray.empty) := by rw [made_one]; simp [rowS]

theorem info22 : (Try.prog.info? 22).map (fun i => (i.zero, i.size, i.bytes)) = some (some (.int .u64 0), 1, 8) := by kernel_rfl
theorem info21 : (Try.prog.info? 21).map (fun i => (i.zero, i.size, i.bytes)) = some (some (.int .i32 0), 1, 4) := by kernel_rfl
theorem info9 : (Try.prog.info? 9).map (fun i => (i.zero, i.size, i.bytes)) = some (some (.string ByteArray.empty), 1, 16) := by kernel_rfl
theorem makeU (n : Nat) (h : n ≤ 1000000) (w : World) : (Instr.makeSlice 34 (.int .i64 (n : Int)) (.int .i64 (n : Int))).run Try.prog w = .ok (.slice (some ⟨w.heap.size, 0, none⟩) n n) (w.alloc (.cells (rowU (List.replicate n 0)) 22)) := by
  rw [← madeU]; exact run_make_row' 34 22 (.int .u64 0) 8 Try.underlying34 info22 rfl .i64 .i64 n (by omega) (by omega) w
theorem makeI (n : Nat) (h : n ≤ 1000000) (w : World) : (Instr.makeSlice 93 (.int .i64 (n : Int)) (.int .i64 (n : Int))).run Try.prog w = .ok (.slice (some ⟨w.heap.size, 0, none⟩) n n) (w.alloc (.cells (rowI (List.replicate n 0)) 21)) := by
  rw [← madeI]; exact run_make_row' 93 21 (.int .i32 0) 4 Try.underlying93 info21 rfl .i64 .i64 n (by omega) (by omega) w
theorem makeS (n : Nat) (h : n ≤ 1000000) (w : World) : (Instr.makeSlice 28 (.int .i64 (n : Int)) (.int .i64 (n : Int))).run Try.prog w = .ok (.slice (some ⟨w.heap.size, 0, none⟩) n n) (w.alloc (.cells (rowS (List.replicate n ByteArray.empty)) 9)) := by
  rw [← madeS]; exact run_make_row' 28 9 (.string ByteArray.empty) 16 Try.underlying28 info9 rfl .i64 .i64 n (by omega) (by omega) w
end Go.Proofs.Qxb6003334a
