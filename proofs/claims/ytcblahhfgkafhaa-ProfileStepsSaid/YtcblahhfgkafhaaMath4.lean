/-
  The plain mathematics of layer 49, continued: braking ends at rest, within the limits.
-/
import Derived.Test.YtcblahhfgkafhaaMath3
namespace Go.Proofs.Ytcblahhfgkafhaa

theorem fad_pos (j n : Int) (hj : 2 ≤ j) (h : fad j n ≤ 0) : n ≤ j := by
  rcases Int.lt_or_le j n with h1 | h1
  · rw [fad_rec j n hj, if_neg (by omega)] at h
    have := fad_nonneg j (n - j) hj
    omega
  · exact h1

theorem rest_smooth (s a j : Int) (hv : vld s a j = true) : ∀ (k : Nat) (v b : Int), saf s a j v b = true → mu s v b ≤ k → smGo s a j v b (stops s a j v b ++ [0, 0]) = true := by
  obtain ⟨⟨s1, s2⟩, ⟨a1, a2⟩, ⟨j1, j2⟩⟩ := (vld_iff s a j).1 hv
  intro k
  induction k with
  | zero =>
    intro v b hs hm
    have h0 : v = 0 ∧ b = 0 := Classical.byContradiction fun h => by
      have := mu_lt s a j v b hv hs h; omega
    obtain ⟨rfl, rfl⟩ := h0
    rw [stops_rest]
    simp [smGo, inR]; omega
  | succ k ih =>
    intro v b hs hm
    by_cases h0 : v = 0 ∧ b = 0
    · obtain ⟨rfl, rfl⟩ := h0
      rw [stops_rest]
      simp [smGo, inR]; omega
    · have hlt := mu_lt s a j v b hv hs h0
      have hs' := (brk_props s a j v b hv hs).1
      obtain ⟨⟨v1, v2⟩, ⟨b1, b2⟩, h3⟩ := (saf_iff s a j v b).1 hs
      obtain ⟨c1, c2, -⟩ := brk_walk a j v b j1 b1 b2
      obtain ⟨⟨n1, n2⟩, ⟨n3, n4⟩, n5⟩ := (saf_iff _ _ _ _ _).1 hs'
      rw [stops_cons s a j v b hv hs h0]
      have IH := ih _ _ hs' (by omega)
      generalize hc : brk a j v b = c at *
      by_cases hp : 0 < v + c
      · rw [if_pos hp]
        simp only [List.cons_append, smGo, Bool.and_eq_true, inR_iff]
        have e1 : v + c - v = c := by omega
        refine ⟨⟨⟨by omega, by omega⟩, by omega⟩, ?_⟩
        rw [e1]; exact IH
      · rw [if_neg hp]
        have hvc : v + c = 0 := by omega
        have hst : stops s a j (v + c) c = [] := by
          rw [hvc]
          rw [hvc] at hs'
          by_cases hc0 : c = 0
          · subst hc0; exact stops_rest s a j
          · rw [stops_cons s a j 0 c hv hs' (by omega)]
            have h5 := (brk_props s a j 0 c hv hs').2.2.2.2 (by omega) rfl
            rw [h5, if_neg (by omega)]
            exact stops_rest s a j
        rw [hst]
        have hcj : -c ≤ j := by
          by_cases hc0 : c = 0
          · omega
          · rw [if_neg (by omega), hvc] at n5
            exact fad_pos j (-c) j1 n5
        simp only [List.nil_append, smGo, Bool.and_eq_true, inR_iff, Bool.and_true]
        omega

end Go.Proofs.Ytcblahhfgkafhaa
