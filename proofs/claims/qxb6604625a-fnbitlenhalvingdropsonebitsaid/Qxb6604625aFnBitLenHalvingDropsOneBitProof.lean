/-
  THE ROW's STEP FOR 'Rows.FnBitLenHalvingDropsOneBitSaid': the guide's template (howto/template/XProofs.lean), one array of four uint64 by value in (after IdRangearrayProofs.lean), one bool out.
-/
import Derived.Test.Qxb6604625aRows
import Derived.Test.Qxb6604625aHalve
import Derived.WalkKit
import Derived.ProofKit
import Derived.Laws.IdiomArrays
namespace Go.Proofs.Qxb6604625a.fnBitLenHalvingDropsOneBit
open Go.ChangeShapes Go.WideShapes Go.ChangeAt Go.RowKit

theorem own : ownKnob Try.prog.godebug = none := by kernel_rfl
theorem cells25 : Try.prog.cellsOf 25 = 1 := by kernel_rfl
theorem cells26 : Try.prog.cellsOf 26 = 4 := by kernel_rfl
theorem list4 {α : Type} (l : List α) (h : (⟨l⟩ : Array α).size = 4) : ∃ a b c d, l = [a, b, c, d] := by
  match l, h with
  | [a, b, c, d], _ => exact ⟨a, b, c, d, rfl⟩
theorem word_of_wf {x : Int} (h : (Lit.int .u64 x).wf = true) : ∃ n : Nat, x = n ∧ n < 18446744073709551616 := by
  simp [Lit.wf, IntKind.min, IntKind.max, IntKind.signed, IntKind.bits] at h
  obtain ⟨n, rfl⟩ := Int.eq_ofNat_of_zero_le (show 0 ≤ x by omega)
  exact ⟨n, rfl, by omega⟩

set_option maxHeartbeats 400000 in
set_option maxRecDepth 100000 in
theorem lifted (os : Os) (started : os.Started) (H : Type) (enc : TypeId × Value → H) :
    ReturnsInHanded {} Try.checked os 5 .any (Rows.fnBitLenHalvingDropsOneBitSpec.pre6 enc Try.prog Try.f5 Rows.fnBitLenHalvingDropsOneBitRow.domain false) (Rows.fnBitLenHalvingDropsOneBitSpec.post enc Try.prog Try.f5 false true false false) := by
  refine returnsInHanded_of_change (C := Try.checked) own started (by kernel_rfl) Try.func5
    (ChangeSpec.witness6 (enc := enc) (C := Try.checked) false ⟨#[], #[.agg #[.int .u64 0, .int .u64 0, .int .u64 0, .int .u64 0]], []⟩ 8 (by kernel_rfl) (by kernel_rfl) (by kernel_rfl) (by kernel_rfl)) ?_
  intro W base args ds gs before hval0 hW hcnd _
  have hval : ∀ (j : Nat) t v, Try.f5.params[j]? = some t → args[j]? = some v → Value.okWide Try.prog W .any base t v := hval0
  have hW' := hW
  obtain ⟨p, q, hA0, hV, rfl, hfz, hnd⟩ := hW
  have hA : DataW.TrodAll enc Try.prog W 0 (fun _ => true) true Try.f5.params.toList args.toList ds p := hA0
  rw [Try.params5] at hA hval
  obtain ⟨v0, d0, rfl, rfl, h0⟩ := trodAll_one hA
  obtain ⟨rfl, rfl⟩ := trodVars_none hV
  obtain ⟨cs, rfl, hsz, _⟩ : ∃ cs, v0 = .agg cs ∧ cs.size = Try.prog.cellsOf 26 ∧ Row.okWide Try.prog W .any base 26 cs := by
    have := hval 0 26 v0 rfl rfl
    simpa [Value.okWide, Try.underlying26] using this
  rw [cells26] at hsz
  obtain ⟨l⟩ := cs
  obtain ⟨c0, c1, c2, c3, rfl⟩ := list4 l hsz
  obtain ⟨fuel, hf⟩ := h0
  obtain ⟨y0, y1, y2, y3, m, hx, hy0, hy1, hy2, hy3⟩ := trod_array4 Try.underlying26 cells25 hf
  obtain ⟨x0, e0, rfl, w0⟩ := DataW.trod_int Try.underlying25 hy0
  obtain ⟨x1, e1, rfl, w1⟩ := DataW.trod_int Try.underlying25 hy1
  obtain ⟨x2, e2, rfl, w2⟩ := DataW.trod_int Try.underlying25 hy2
  obtain ⟨x3, e3, rfl, w3⟩ := DataW.trod_int Try.underlying25 hy3
  simp at e0 e1 e2 e3
  subst e0 e1 e2 e3
  simp only [Prod.mk.injEq] at hx
  obtain ⟨rfl, rfl⟩ := hx
  clear hA0 hval0
  simp only [List.append_nil] at hW'
  obtain ⟨n0, rfl, k0⟩ := word_of_wf w0
  obtain ⟨n1, rfl, k1⟩ := word_of_wf w1
  obtain ⟨n2, rfl, k2⟩ := word_of_wf w2
  obtain ⟨n3, rfl, k3⟩ := word_of_wf w3
  refine (halve_walk n0 n1 n2 n3 k0 k1 k2 k3 W).mono fun e W' ⟨he, hg⟩ => ?_
  subst he
  have rdA : ∀ sp : Nat → Bool, DataW.Trod enc Try.prog W' 0 sp true 26 (.agg #[.int .u64 n0, .int .u64 n1, .int .u64 n2, .int .u64 n3]) (DataW.agg [.lit (.int .u64 n0), .lit (.int .u64 n1), .lit (.int .u64 n2), .lit (.int .u64 n3)]) [] := fun sp => ⟨2, by simp [DataW.trod, Value.cells, Try.underlying26, Try.underlying25, cells26, cells25, w0, w1, w2, w3, show List.range 4 = [0, 1, 2, 3] from rfl]⟩
  exact ⟨_, rfl, post_of_same (pa := []) (pv := []) hW' (fun _ _ _ => trodAll_mk1 (shut_bool Try.underlying4 _)) (fun sp _ => trodAll_mk1 (rdA sp)) (fun _ _ => rfl) rfl
    (hg.frame _) hg.2.1 (ok_one (by kernel_rfl) rfl (okWide_bool_mk Try.underlying4 _))⟩

theorem over : Rows.fnBitLenHalvingDropsOneBitRow.holds Try.pinned (OpenSpec.ofChange Rows.fnBitLenHalvingDropsOneBitSpec) :=
  OpenClaim.holds_of_wide 5 Try.f5 rfl rfl rfl rfl rfl rfl rfl ⟨rfl, rfl, rfl, rfl, rfl⟩ rfl rfl rfl rfl rfl (by kernel_rfl) Try.func5 (by kernel_rfl)
    (of_decide_eq_true (by kernel_rfl)) (by unfold Func.isWrapper; first | (rw [if_pos (by decide +kernel)]; kernel_rfl) | (rw [if_neg (by decide +kernel)]; exact ⟨rfl, rfl⟩))
    (fun os started H enc _ => lifted os started H enc)

/-- THE STATEMENT -/
theorem proved : Rows.FnBitLenHalvingDropsOneBitSaid :=
  over
#print axioms proved
end Go.Proofs.Qxb6604625a.fnBitLenHalvingDropsOneBit
