/-
  THE PLAIN LAW OF THE RANKING: no Go in sight. Entries (score, position); x beats y: a higher score, or the same score and an earlier position.
-/
namespace Go.Proofs.Qxb6003334a
namespace Rk
abbrev E := Nat × Nat
def bt (x y : E) : Bool := decide (y.1 < x.1) || (decide (x.1 = y.1) && decide (x.2 < y.2))
/-- Put x ahead of the first entry with a smaller score. -/
def ins (x : E) : List E → List E
  | [] => [x]
  | y :: l => if y.1 < x.1 then x :: y :: l else y :: ins x l

theorem ins_perm (x : E) (l : List E) : (ins x l).Perm (x :: l) := by
  induction l with
  | nil => exact List.Perm.refl _
  | cons y l ih =>
    unfold ins
    split
    · exact List.Perm.refl _
    · exact (ih.cons y).trans (List.Perm.swap x y l)
theorem ins_length (x : E) (l : List E) : (ins x l).length = l.length + 1 := by simpa using (ins_perm x l).length_eq
theorem mem_ins (x z : E) (l : List E) : z ∈ ins x l ↔ z = x ∨ z ∈ l := by rw [(ins_perm x l).mem_iff]; simp
theorem bt_irrefl (x : E) : bt x x = false := by simp [bt]
theorem bt_asymm {x y : E} (h : bt x y = true) : bt y x = false := by
  simp [bt] at h ⊢; omega
theorem bt_trans {x y z : E} (h : bt x y = true) (k : bt y z = true) : bt x z = true := by
  simp [bt] at h k ⊢; omega
theorem bt_ge {x y : E} (h : bt x y = true) : y.1 ≤ x.1 := by
  simp [bt] at h; omega

def Sorted (l : List E) : Prop := l.Pairwise (fun a b => bt a b = true)

theorem ins_sorted (x : E) (l : List E) (hl : Sorted l) (hx : ∀ y ∈ l, y.2 < x.2) : Sorted (ins x l) := by
  unfold Sorted at *
  induction l with
  | nil => simp [ins]
  | cons y l ih =>
    rw [List.pairwise_cons] at hl
    unfold ins
    split
    · rename_i h
      have hxy : bt x y = true := by simp [bt, h]
      refine List.pairwise_cons.2 ⟨fun z hz => ?_, List.pairwise_cons.2 hl⟩
      rcases List.mem_cons.1 hz with rfl | hz
      · exact hxy
      · exact bt_trans hxy (hl.1 z hz)
    · rename_i h
      refine List.pairwise_cons.2 ⟨fun z hz => ?_, ih hl.2 (fun w hw => hx w (List.mem_cons_of_mem _ hw))⟩
      rcases (mem_ins x z l).1 hz with rfl | hz
      · have := hx y List.mem_cons_self
        simp [bt]; omega
      · exact hl.1 z hz

theorem take_ins (x : E) (n : Nat) (l : List E) : (ins x (l.take n)).take n = (ins x l).take n := by
  induction l generalizing n with
  | nil => simp
  | cons y l ih =>
    cases n with
    | zero => simp
    | succ n =>
      simp only [List.take_succ_cons, ins]
      split
      · simp only [List.take_succ_cons]
        congr 1
        cases n with
        | zero => simp
        | succ n => simp [List.take_take]
      · simp only [List.take_succ_cons, ih]

/-- All ranked: the insertion sort. -/
def rank (l : List E) : List E := l.foldl (fun a x => ins x a) []
/-- The first n, as the program keeps them. -/
def top (n : Nat) (l : List E) : List E := l.foldl (fun a x => (ins x a).take n) []
theorem rank_snoc (l : List E) (x : E) : rank (l ++ [x]) = ins x (rank l) := by simp [rank]
theorem top_snoc (n : Nat) (l : List E) (x : E) : top n (l ++ [x]) = (ins x (top n l)).take n := by simp [top]
theorem top_eq (n : Nat) (l : List E) : top n l = (rank l).take n := by
  rw [← List.reverse_reverse l]
  induction l.reverse with
  | nil => simp [top, rank]
  | cons x r ih => rw [List.reverse_cons, top_snoc, rank_snoc, ih, take_ins]
theorem rank_perm (l : List E) : (rank l).Perm l := by
  rw [← List.reverse_reverse l]
  induction l.reverse with
  | nil => exact List.Perm.refl _
  | cons x r ih =>
    rw [List.reverse_cons, rank_snoc]
    refine (ins_perm x _).trans ?_
    refine (ih.cons x).trans ?_
    exact (List.perm_append_comm (l₁ := [x]))

theorem map_countP (l : List E) (hl : Sorted l) : l.map (fun x => l.countP (fun y => bt y x)) = List.range l.length := by
  unfold Sorted at *
  induction l with
  | nil => rfl
  | cons a l ih =>
    rw [List.pairwise_cons] at hl
    rw [List.map_cons, List.length_cons, List.range_succ_eq_map]
    congr 1
    · rw [List.countP_cons, bt_irrefl]
      simp only [Bool.false_eq_true, if_false, Nat.add_zero]
      rw [List.countP_eq_zero]
      intro b hb
      simp [bt_asymm (hl.1 b hb)]
    · rw [← ih hl.2, List.map_map]
      apply List.map_congr_left
      intro b hb
      simp [hl.1 b hb]

theorem mem_take_iff (l : List E) (hl : Sorted l) (n : Nat) (x : E) : x ∈ l.take n ↔ x ∈ l ∧ l.countP (fun y => bt y x) < n := by
  unfold Sorted at *
  induction l generalizing n with
  | nil => simp
  | cons a l ih =>
    rw [List.pairwise_cons] at hl
    cases n with
    | zero => simp
    | succ n =>
      rw [List.take_succ_cons, List.mem_cons, ih hl.2, List.mem_cons, List.countP_cons]
      by_cases hxa : x = a
      · subst hxa
        have : l.countP (fun y => bt y x) = 0 := by
          rw [List.countP_eq_zero]; intro b hb; simp [bt_asymm (hl.1 b hb)]
        simp [bt_irrefl, this]
      · by_cases hx : x ∈ l
        · simp [hxa, hx, hl.1 x hx]
        · simp [hxa, hx]

/-! ### The entries of k members with the scores f 0, f 1, .. -/
def es (f : Nat → Nat) (k : Nat) : List E := (List.range k).map fun i => (f i, i)
theorem es_succ (f : Nat → Nat) (k : Nat) : es f (k + 1) = es f k ++ [(f k, k)] := by simp [es, List.range_succ]
theorem es_length (f : Nat → Nat) (k : Nat) : (es f k).length = k := by simp [es]
theorem mem_es (f : Nat → Nat) (k : Nat) (x : E) : x ∈ es f k ↔ x.2 < k ∧ x.1 = f x.2 := by
  simp only [es, List.mem_map, List.mem_range]
  constructor
  · rintro ⟨i, hi, rfl⟩; exact ⟨hi, rfl⟩
  · rintro ⟨h1, h2⟩; exact ⟨x.2, h1, by rw [← h2]⟩
theorem rank_sorted (f : Nat → Nat) (k : Nat) : Sorted (rank (es f k)) := by
  induction k with
  | zero => exact List.Pairwise.nil
  | succ k ih =>
    rw [es_succ, rank_snoc]
    refine ins_sorted _ _ ih (fun y hy => ?_)
    have := (mem_es f k y).1 ((rank_perm _).mem_iff.1 hy)
    exact this.1
theorem top_sorted (f : Nat → Nat) (k n : Nat) : Sorted (top n (es f k)) := by
  rw [top_eq]
  exact List.Pairwise.sublist (List.take_sublist _ _) (rank_sorted f k)
theorem top_length (f : Nat → Nat) (k n : Nat) : (top n (es f k)).length = min n k := by
  rw [top_eq, List.length_take, (rank_perm _).length_eq, es_length]

/-- How many of the k members beat member m. -/
def beats (f : Nat → Nat) (k m : Nat) : Nat := (List.range k).countP fun i => bt (f i, i) (f m, m)
/-- The owners: the positions of the first n. -/
def owners (f : Nat → Nat) (k n : Nat) : List Nat := (top n (es f k)).map Prod.snd
theorem owners_length (f : Nat → Nat) (k n : Nat) : (owners f k n).length = min n k := by simp [owners, top_length]

theorem countP_rank (f : Nat → Nat) (k : Nat) (x : E) : (rank (es f k)).countP (fun y => bt y x) = (List.range k).countP (fun i => bt (f i, i) x) := by
  rw [(rank_perm _).countP_eq, es, List.countP_map]
  rfl
theorem mem_owners (f : Nat → Nat) (k n m : Nat) : m ∈ owners f k n ↔ m < k ∧ beats f k m < n := by
  unfold owners beats
  rw [top_eq]
  simp only [List.mem_map]
  constructor
  · rintro ⟨x, hx, rfl⟩
    rw [mem_take_iff _ (rank_sorted f k)] at hx
    obtain ⟨h1, h2⟩ := hx
    have h3 := (mem_es f k x).1 ((rank_perm _).mem_iff.1 h1)
    rw [countP_rank] at h2
    refine ⟨h3.1, ?_⟩
    have : x = (f x.2, x.2) := by rw [← h3.2]
    rw [this] at h2
    exact h2
  · rintro ⟨h1, h2⟩
    refine ⟨(f m, m), ?_, rfl⟩
    rw [mem_take_iff _ (rank_sorted f k), countP_rank]
    exact ⟨(rank_perm _).mem_iff.2 ((mem_es f k _).2 ⟨h1, rfl⟩), h2⟩

theorem countP_lt_range (n k : Nat) : (List.range k).countP (fun q => decide (q < n)) = min n k := by
  induction k with
  | zero => simp
  | succ k ih =>
    rw [List.range_succ, List.countP_append, ih, List.countP_singleton]
    by_cases h : k < n
    · simp [h]; omega
    · simp [h]; omega
/-- Just n members own (where there are that many). -/
theorem count_owners (f : Nat → Nat) (k n : Nat) : (List.range k).countP (fun m => decide (beats f k m < n)) = min n k := by
  have h1 : (List.range k).countP (fun m => decide (beats f k m < n)) = (es f k).countP (fun x => decide ((List.range k).countP (fun i => bt (f i, i) x) < n)) := by
    rw [es, List.countP_map]
    rfl
  have h2 := map_countP (rank (es f k)) (rank_sorted f k)
  have h3 := congrArg (List.countP (fun q => decide (q < n))) h2
  rw [List.countP_map, countP_lt_range, (rank_perm _).length_eq, es_length] at h3
  rw [h1, ← (rank_perm (es f k)).countP_eq, ← h3]
  congr 1
  funext x
  simp only [Function.comp]
  exact decide_eq_decide.2 (by rw [countP_rank])

/-! ### The program's own insertion: a row st of n entries; the first ch of them are what is ranked so far -/
/-- Shift the entries with a smaller score than s one place on, from place j down; hand back the row and the free place. -/
def shift (s : Nat) : Nat → List E → List E × Nat
  | 0, st => (st, 0)
  | j + 1, st => if (st.getD j (0, 0)).1 < s then shift s j (st.set (j + 1) (st.getD j (0, 0))) else (st, j + 1)

theorem shift_length (s j : Nat) (st : List E) : (shift s j st).1.length = st.length := by
  induction j generalizing st with
  | zero => rfl
  | succ j ih =>
    unfold shift
    split
    · rw [ih]; simp
    · rfl
theorem shift_le (s j : Nat) (st : List E) : (shift s j st).2 ≤ j := by
  induction j generalizing st with
  | zero => exact Nat.le_refl _
  | succ j ih =>
    unfold shift
    split
    · have := ih (st.set (j + 1) (st.getD j (0, 0))); omega
    · exact Nat.le_refl _

theorem ins_small (x y : E) (A : List E) (h : y.1 < x.1) : ins x (A ++ [y]) = ins x A ++ [y] := by
  induction A with
  | nil => simp [ins, h]
  | cons a A ih =>
    simp only [List.cons_append, ins]
    split
    · rfl
    · rw [ih]; rfl
theorem ins_last (x : E) (A : List E) (h : ∀ a ∈ A, x.1 ≤ a.1) : ins x A = A ++ [x] := by
  induction A with
  | nil => rfl
  | cons a A ih =>
    have ha := h a List.mem_cons_self
    rw [ins, if_neg (by omega), ih (fun b hb => h b (List.mem_cons_of_mem _ hb))]
    rfl
theorem getD_eq (st : List E) (j : Nat) (h : j < st.length) : st.getD j (0, 0) = st[j] := by
  rw [List.getD_eq_getElem?_getD, List.getElem?_eq_getElem h]; rfl
theorem take_set_succ (st : List E) (j : Nat) (x : E) (h : j < st.length) : (st.set j x).take (j + 1) = st.take j ++ [x] := by
  rw [List.take_succ_eq_append_getElem (by simpa using h), List.take_set_of_le (Nat.le_refl _)]
  simp

theorem shift_spec (x : E) (j : Nat) (st : List E) (hj : j < st.length) (hs : (st.take j).Pairwise (fun a b => b.1 ≤ a.1)) :
    ((shift x.1 j st).1.set (shift x.1 j st).2 x).take (j + 1) = ins x (st.take j) := by
  induction j generalizing st with
  | zero =>
    simp only [shift]
    rw [take_set_succ st 0 x hj]
    rfl
  | succ j ih =>
    have hj' : j < st.length := by omega
    have hgd := getD_eq st j hj'
    have htk : st.take (j + 1) = st.take j ++ [st[j]] := List.take_succ_eq_append_getElem hj'
    unfold shift
    by_cases h : (st.getD j (0, 0)).1 < x.1
    · rw [if_pos h]
      have l1 : (st.set (j + 1) (st.getD j (0, 0))).take j = st.take j := by
        rw [List.take_set_of_le (by omega)]
      have hs' : ((st.set (j + 1) (st.getD j (0, 0))).take j).Pairwise (fun a b => b.1 ≤ a.1) := by
        rw [l1]
        rw [htk] at hs
        exact (List.pairwise_append.1 hs).1
      have e := ih (st.set (j + 1) (st.getD j (0, 0))) (by simp; omega) hs'
      have hle := shift_le x.1 j (st.set (j + 1) (st.getD j (0, 0)))
      have hlen := shift_length x.1 j (st.set (j + 1) (st.getD j (0, 0)))
      have keep : ∀ (j : Nat) (r : List E) (q : Nat), j < q → (shift x.1 j r).1[q]? = r[q]? := by
        intro j
        induction j with
        | zero => intro r q _; rfl
        | succ j ih2 =>
          intro r q hq
          unfold shift
          split
          · rw [ih2 _ _ (by omega), List.getElem?_set_ne (by omega)]
          · rfl
      have k1 := keep j (st.set (j + 1) (st.getD j (0, 0))) (j + 1) (by omega)
      generalize shift x.1 j (st.set (j + 1) (st.getD j (0, 0))) = r at *
      have hl2 : j + 1 < (r.1.set r.2 x).length := by simp [hlen]; omega
      rw [List.take_succ_eq_append_getElem hl2, e, l1, htk, ins_small x st[j] (st.take j) (by rw [← hgd]; exact h)]
      congr 1
      have hq : (r.1.set r.2 x)[j + 1]? = some st[j] := by
        rw [List.getElem?_set_ne (by omega), k1, List.getElem?_set_self (by omega), hgd]
      rw [List.getElem?_eq_getElem hl2] at hq
      simpa using hq
    · rw [if_neg h]
      simp only
      rw [take_set_succ st (j + 1) x hj, ins_last]
      intro a ha
      rw [htk] at ha hs
      have hxj : x.1 ≤ st[j].1 := by rw [← hgd]; omega
      rcases List.mem_append.1 ha with ha | ha
      · have := (List.pairwise_append.1 hs).2.2 a ha st[j] (by simp)
        omega
      · simp at ha; subst ha; exact hxj

theorem sorted_ge (l : List E) (h : Sorted l) : l.Pairwise (fun a b => b.1 ≤ a.1) :=
  List.pairwise_iff_getElem.2 (fun i j hi hj hij => bt_ge (List.pairwise_iff_getElem.1 h i j hi hj hij))

/-- (a) The row is full and the newcomer's score is not above the last: nothing turns. -/
theorem step_skip (n : Nat) (l st : List E) (x : E) (hn : 0 < n) (hst : st.length = n) (ht : st = top n l) (hs : Sorted (top n l)) (h : x.1 ≤ (st.getD (n - 1) (0, 0)).1) :
    top n (l ++ [x]) = top n l := by
  rw [top_snoc]
  have hlen : (top n l).length = n := by rw [← ht, hst]
  have hge := sorted_ge _ hs
  rw [ins_last, List.take_append_of_le_length (by omega), List.take_of_length_le (by omega)]
  intro a ha
  rw [← ht] at ha hge
  obtain ⟨i, hi, rfl⟩ := List.mem_iff_getElem.1 ha
  have hl : n - 1 < st.length := by omega
  rw [getD_eq st (n - 1) hl] at h
  by_cases e : i = n - 1
  · subst e; exact h
  · have := List.pairwise_iff_getElem.1 hge i (n - 1) hi hl (by omega)
    omega
/-- (b) The row is full and the newcomer's score is above the last: the last falls out. -/
theorem step_full (n : Nat) (l st : List E) (x : E) (hn : 0 < n) (hst : st.length = n) (ht : st = top n l) (hs : Sorted (top n l)) (h : (st.getD (n - 1) (0, 0)).1 < x.1) :
    (shift x.1 (n - 1) st).1.set (shift x.1 (n - 1) st).2 x = top n (l ++ [x]) := by
  have hl : n - 1 < st.length := by omega
  have hge : (st.take (n - 1)).Pairwise (fun a b => b.1 ≤ a.1) := by
    refine List.Pairwise.sublist (List.take_sublist _ _) ?_
    rw [ht]
    exact sorted_ge _ hs
  have e := shift_spec x (n - 1) st hl hge
  have hlen := shift_length x.1 (n - 1) st
  rw [List.take_of_length_le (by simp [hlen]; omega)] at e
  rw [e, top_snoc, ← ht]
  have htk : st = st.take (n - 1) ++ [st[n - 1]] := by
    rw [← List.take_succ_eq_append_getElem hl, List.take_of_length_le (by omega)]
  rw [getD_eq st (n - 1) hl] at h
  have hi := ins_small x st[n - 1] (st.take (n - 1)) h
  rw [← htk] at hi
  have hil : (ins x (st.take (n - 1))).length = n := by rw [ins_length, List.length_take]; omega
  rw [hi, List.take_append_of_le_length (by omega)]
  exact (List.take_of_length_le (by omega)).symm
/-- (c) There is room. -/
theorem step_room (n ch : Nat) (l st : List E) (x : E) (hst : st.length = n) (hch : ch < n) (ht : st.take ch = top n l) (hs : Sorted (top n l)) :
    ((shift x.1 ch st).1.set (shift x.1 ch st).2 x).take (ch + 1) = top n (l ++ [x]) := by
  have hl : ch < st.length := by omega
  have e := shift_spec x ch st hl (by rw [ht]; exact sorted_ge _ hs)
  rw [e, ht, top_snoc, List.take_of_length_le]
  rw [ins_length, ← ht]
  simp
  omega
end Rk
end Go.Proofs.Qxb6003334a
