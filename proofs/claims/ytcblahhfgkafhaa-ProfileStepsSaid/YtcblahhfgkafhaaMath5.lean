/-
  The plain mathematics of layer 49, continued: the states of a smooth list are safe.
-/
import Derived.Test.YtcblahhfgkafhaaMath4
namespace Go.Proofs.Ytcblahhfgkafhaa

theorem smooth_safe (s a j : Int) (hj : 2 ≤ j) : ∀ (r : List Int) (v b : Int), 0 ≤ v → v ≤ s → -a ≤ b → b ≤ a → smGo s a j v b (r ++ [0, 0]) = true → saf s a j v b = true := by
  intro r
  induction r with
  | nil =>
    intro v b v1 v2 b1 b2 h
    simp only [List.nil_append, smGo, Bool.and_eq_true, inR_iff, Bool.and_true] at h
    rw [saf_iff]
    refine ⟨⟨v1, v2⟩, ⟨b1, b2⟩, ?_⟩
    by_cases hb : 0 < b
    · rw [if_pos hb, fad_zero j b (by omega)]; omega
    · rw [if_neg hb]
      by_cases hbj : -b ≤ j
      · rw [fad_zero j _ hbj]; exact v1
      · rw [fad_rec j (-b) hj, if_neg hbj, fad_zero j (-b - j) (by omega)]; omega
  | cons x r ih =>
    intro v b v1 v2 b1 b2 h
    simp only [List.cons_append, smGo, Bool.and_eq_true, inR_iff] at h
    obtain ⟨⟨⟨⟨x1, x2⟩, x3, x4⟩, x5, x6⟩, h2⟩ := h
    have hs := ih x (x - v) x1 x2 x3 x4 h2
    obtain ⟨_, _, h3⟩ := (saf_iff _ _ _ _ _).1 hs
    rw [saf_iff]
    refine ⟨⟨v1, v2⟩, ⟨b1, b2⟩, ?_⟩
    by_cases hb : 0 < b
    · rw [if_pos hb]
      by_cases hbj : b ≤ j
      · rw [fad_zero j b hbj]; omega
      · rw [fad_rec j b hj, if_neg hbj]
        rw [if_pos (by omega)] at h3
        have := fad_mono j (b - j) (x - v) hj (by omega)
        omega
    · rw [if_neg hb]
      by_cases hbj : -b ≤ j
      · rw [fad_zero j _ hbj]; exact v1
      · rw [fad_rec j (-b) hj, if_neg hbj]
        rw [if_neg (by omega)] at h3
        have := fad_mono j (-b - j) (-(x - v)) hj (by omega)
        omega

end Go.Proofs.Ytcblahhfgkafhaa
