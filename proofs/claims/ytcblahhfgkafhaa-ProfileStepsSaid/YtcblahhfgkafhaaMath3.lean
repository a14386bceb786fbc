/-
  The plain mathematics of layer 49, continued: sums of the distances while braking.
-/
import Derived.Test.YtcblahhfgkafhaaMath2
namespace Go.Proofs.Ytcblahhfgkafhaa

theorem brakes_nonneg (s a j : Int) (hv : vld s a j = true) : ∀ (k : Nat) (v b : Int), saf s a j v b = true → ∀ x ∈ brakes a j k v b, 0 ≤ x ∧ x ≤ s := by
  intro k
  induction k with
  | zero => intro v b _ x hx; simp [brakes] at hx
  | succ k ih =>
    intro v b hs x hx
    have hs' := (brk_props s a j v b hv hs).1
    simp only [brakes] at hx
    split at hx
    · cases hx
    · rcases List.mem_cons.1 hx with rfl | hx
      · obtain ⟨⟨v1, v2⟩, _, _⟩ := (saf_iff _ _ _ _ _).1 hs'
        exact ⟨v1, v2⟩
      · exact ih _ _ hs' x hx

theorem sum_filter_pos : ∀ l : List Int, (∀ x ∈ l, 0 ≤ x) → (l.filter fun x => decide (0 < x)).sum = l.sum := by
  intro l
  induction l with
  | nil => intro _; rfl
  | cons x l ih =>
    intro h
    have hx := h x (by simp)
    rw [List.filter_cons, List.sum_cons, ← ih (fun y hy => h y (by simp [hy]))]
    by_cases h0 : 0 < x
    · simp [h0]
    · have : x = 0 := by omega
      simp [this]

theorem stops_sum (s a j v b : Int) (hv : vld s a j = true) (hs : saf s a j v b = true) : (stops s a j v b).sum = dsum s a j v b :=
  sum_filter_pos _ fun x hx => (brakes_nonneg s a j hv _ v b hs x hx).1
theorem stops_pos (s a j v b : Int) (hv : vld s a j = true) (hs : saf s a j v b = true) : ∀ x ∈ stops s a j v b, 0 < x ∧ x ≤ s := by
  intro x hx
  obtain ⟨h1, h2⟩ := List.mem_filter.1 hx
  exact ⟨by simpa using h2, (brakes_nonneg s a j hv _ v b hs x h1).2⟩

end Go.Proofs.Ytcblahhfgkafhaa
