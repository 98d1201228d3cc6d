/-
  THE PLAIN LAW OF THE NEWCOMER: no Go in sight.
-/
import Derived.Test.Qxb6003334aRankPlain
namespace Go.Proofs.Qxb6003334a
namespace Rk

theorem beats_lt (f : Nat → Nat) (k i : Nat) (h : i < k) : beats f k i < k := by
  have h1 : beats f k i ≤ (List.range k).length := List.countP_le_length
  rw [List.length_range] at h1
  rcases Nat.lt_or_ge (beats f k i) k with h2 | h2
  · exact h2
  · exfalso
    have h3 : (List.range k).countP (fun j => bt (f j, j) (f i, i)) = (List.range k).length := by
      rw [List.length_range]
      unfold beats at h1 h2
      omega
    have h4 := List.countP_eq_length.1 h3 i (List.mem_range.2 h)
    rw [bt_irrefl] at h4
    cases h4
theorem beats_grow (f g : Nat → Nat) (k i : Nat) (hi : i < k) (hfg : ∀ j, j < k → g j = f j) : beats f k i ≤ beats g (k + 1) i := by
  unfold beats
  rw [List.range_succ, List.countP_append]
  have e : (List.range k).countP (fun j => bt (g j, j) (g i, i)) = (List.range k).countP (fun j => bt (f j, j) (f i, i)) := by
    apply List.countP_congr
    intro j hj
    rw [hfg j (List.mem_range.1 hj), hfg i hi]
  rw [e]
  omega

theorem gain_mono (f g : Nat → Nat) (k own : Nat) (hfg : ∀ j, j < k → g j = f j) (i : Nat) (hi : i < k) (h : i ∈ owners g (k + 1) (min own (k + 1))) : i ∈ owners f k (min own k) := by
  rw [mem_owners] at *
  refine ⟨hi, ?_⟩
  have h1 := beats_grow f g k i hi hfg
  have h2 := beats_lt f k i hi
  omega

theorem countP_owners (f : Nat → Nat) (k n : Nat) : (List.range k).countP (fun m => decide (m ∈ owners f k n)) = min n k := by
  rw [← count_owners f k n]
  apply List.countP_congr
  intro m hm
  have := List.mem_range.1 hm
  simp only [mem_owners, decide_eq_true_eq]
  exact ⟨fun h => h.2, fun h => ⟨this, h⟩⟩

theorem countP_split {α : Type} (a b : α → Bool) (l : List α) (h : ∀ x ∈ l, b x = true → a x = true) : l.countP a = l.countP (fun x => a x && !b x) + l.countP b := by
  induction l with
  | nil => rfl
  | cons x l ih =>
    have ih' := ih (fun y hy => h y (List.mem_cons_of_mem _ hy))
    have hx := h x List.mem_cons_self
    rw [List.countP_cons, List.countP_cons, List.countP_cons, ih']
    cases ha : a x <;> cases hb : b x <;> simp_all <;> omega

/-- Old owners lose the part only to the newcomer. -/
theorem gain_lost (f g : Nat → Nat) (k own : Nat) (hfg : ∀ j, j < k → g j = f j) :
    (List.range k).countP (fun m => decide (m ∈ owners f k (min own k)) && !decide (m ∈ owners g (k + 1) (min own (k + 1)))) =
      if decide (k ∈ owners g (k + 1) (min own (k + 1))) && decide (own ≤ k) then 1 else 0 := by
  have h1 := countP_owners f k (min own k)
  have h2 := countP_owners g (k + 1) (min own (k + 1))
  rw [List.range_succ, List.countP_append, List.countP_singleton] at h2
  have h3 := countP_split (fun m => decide (m ∈ owners f k (min own k))) (fun m => decide (m ∈ owners g (k + 1) (min own (k + 1)))) (List.range k)
    (fun m hm hb => by
      simp only [decide_eq_true_eq] at *
      exact gain_mono f g k own hfg m (List.mem_range.1 hm) hb)
  have h4 : (List.range k).countP (fun m => decide (m ∈ owners g (k + 1) (min own (k + 1)))) ≤ (List.range k).length := List.countP_le_length
  rw [List.length_range] at h4
  generalize (List.range k).countP (fun m => decide (m ∈ owners f k (min own k)) && !decide (m ∈ owners g (k + 1) (min own (k + 1)))) = L at *
  generalize (List.range k).countP (fun m => decide (m ∈ owners g (k + 1) (min own (k + 1)))) = B at *
  by_cases hk : k ∈ owners g (k + 1) (min own (k + 1)) <;> by_cases ho : own ≤ k <;> simp [hk, ho] at h2 ⊢ <;> omega
end Rk
end Go.Proofs.Qxb6003334a
