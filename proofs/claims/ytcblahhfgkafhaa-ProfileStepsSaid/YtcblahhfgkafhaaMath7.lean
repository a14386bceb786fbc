/-
  The plain mathematics of layer 49, continued: what is true of the lists of Steps.
-/
import Derived.Test.YtcblahhfgkafhaaMath6
namespace Go.Proofs.Ytcblahhfgkafhaa

theorem fastGo_props (s a j most N : Int) : ∀ (k : Nat) (v b rest : Int) (out l : List Int), fastGo s a j most k v b rest out = some l → (∀ x ∈ out, 0 < x) → out.sum + rest = N → (out.length : Int) ≤ most → 0 ≤ rest → rest.toNat ≤ k →
    (∀ x ∈ l, 0 < x) ∧ l.sum = N ∧ (l.length : Int) ≤ most := by
  intro k
  induction k with
  | zero =>
    intro v b rest out l h h1 h2 h3 h4 h5
    simp only [fastGo, Option.some.injEq] at h
    subst h
    exact ⟨h1, by omega, h3⟩
  | succ k ih =>
    intro v b rest out l h h1 h2 h3 h4 h5
    simp only [fastGo] at h
    by_cases hr : 0 < rest
    · rw [if_pos hr] at h
      cases hn : nxt s a j v b rest with
      | none => rw [hn] at h; cases h
      | some c =>
        rw [hn] at h
        simp only at h
        split at h
        · cases h
        · obtain ⟨n2, n3, n4⟩ := nxt_some hn
          obtain ⟨g1, g2, g3⟩ := fitsB_saf n4
          have g4 : 1 ≤ v + c := by unfold nlo at n2; omega
          refine ih _ _ _ _ l h (fun x hx => ?_) ?_ ?_ (by omega) (by omega)
          · rcases List.mem_append.1 hx with hx | hx
            · exact h1 x hx
            · simp at hx; omega
          · rw [List.sum_append]; simp; omega
          · simp; omega
    · rw [if_neg hr] at h
      simp only [Option.some.injEq] at h
      subst h
      exact ⟨h1, by omega, h3⟩

theorem smGo_small (s a j u : Int) (h1 : u ≤ s) (h2 : u ≤ a) (h3 : 2 * u ≤ j) : ∀ (l : List Int) (v b : Int), 0 ≤ v → v ≤ u → -u ≤ b → b ≤ u → (∀ x ∈ l, 0 ≤ x ∧ x ≤ u) → smGo s a j v b l = true := by
  intro l
  induction l with
  | nil => intros; rfl
  | cons x l ih =>
    intro v b v1 v2 b1 b2 h
    obtain ⟨x1, x2⟩ := h x (by simp)
    simp only [smGo, Bool.and_eq_true, inR_iff]
    refine ⟨⟨⟨by omega, by omega⟩, by omega⟩, ih x (x - v) x1 x2 (by omega) (by omega) (fun y hy => h y (by simp [hy]))⟩

theorem cnt_step (rest u : Int) (hu : 1 ≤ u) (_hr : 0 < rest) : (rest - ((rest - 1) % u + 1) + u - 1) / u + 1 = (rest + u - 1) / u := by
  have h := Int.mul_ediv_add_emod (rest - 1) u
  have h1 := Int.emod_nonneg (rest - 1) (show u ≠ 0 by omega)
  have h2 := Int.emod_lt_of_pos (rest - 1) (show 0 < u by omega)
  generalize (rest - 1) / u = q at *
  generalize (rest - 1) % u = r at *
  have e1 : rest - (r + 1) + u - 1 = (u - 1) + u * q := by omega
  have e2 : rest + u - 1 = r + u * (q + 1) := by rw [Int.mul_add]; omega
  rw [e1, e2, Int.add_mul_ediv_left _ _ (by omega), Int.add_mul_ediv_left _ _ (by omega), Int.ediv_eq_zero_of_lt (by omega) (by omega), Int.ediv_eq_zero_of_lt h1 h2]
  omega

theorem simpGo_props (u N T : Int) (hu : 1 ≤ u) : ∀ (k : Nat) (rest : Int) (out : List Int), (∀ x ∈ out, 0 < x ∧ x ≤ u) → out.sum + rest = N → (out.length : Int) + (rest + u - 1) / u = T → 0 ≤ rest → rest.toNat ≤ k →
    (∀ x ∈ simpGo u k rest out, 0 < x ∧ x ≤ u) ∧ (simpGo u k rest out).sum = N ∧ ((simpGo u k rest out).length : Int) ≤ T := by
  intro k
  induction k with
  | zero =>
    intro rest out h1 h2 h3 h4 h5
    obtain rfl : rest = 0 := by omega
    have : (0 + u - 1) / u = 0 := Int.ediv_eq_zero_of_lt (by omega) (by omega)
    simp only [simpGo]
    exact ⟨h1, by omega, by omega⟩
  | succ k ih =>
    intro rest out h1 h2 h3 h4 h5
    simp only [simpGo]
    by_cases hr : 0 < rest
    · rw [if_pos hr]
      have m1 := Int.emod_nonneg (rest - 1) (show u ≠ 0 by omega)
      have m2 := Int.emod_lt_of_pos (rest - 1) (show 0 < u by omega)
      have m3 : (rest - 1) % u ≤ rest - 1 := by
        have h6 := Int.mul_ediv_add_emod (rest - 1) u
        have h7 : 0 ≤ u * ((rest - 1) / u) := Int.mul_nonneg (by omega) (Int.ediv_nonneg (by omega) (by omega))
        omega
      have hc := cnt_step rest u hu hr
      refine ih _ _ (fun x hx => ?_) ?_ ?_ (by omega) (by omega)
      · rcases List.mem_append.1 hx with hx | hx
        · exact h1 x hx
        · simp at hx; omega
      · rw [List.sum_append]; simp; omega
      · simp only [List.length_append, List.length_cons, List.length_nil]; omega
    · rw [if_neg hr]
      obtain rfl : rest = 0 := by omega
      have : (0 + u - 1) / u = 0 := Int.ediv_eq_zero_of_lt (by omega) (by omega)
      exact ⟨h1, by omega, by omega⟩

theorem smp_bounds' (s a j : Int) (hs : 1 ≤ s) (ha : 1 ≤ a) (hj : 2 ≤ j) : 1 ≤ smp s a j ∧ smp s a j ≤ s ∧ smp s a j ≤ a ∧ 2 * smp s a j ≤ j := by
  unfold smp; omega

/-- Steps: a smooth list of positive distances with the length as their sum, of at most Ticks elements. -/
theorem stepsL_props (n s a j : Int) (hv : vld s a j = true) (n0 : 0 ≤ n) :
    (∀ x ∈ stepsL n s a j, 0 < x) ∧ (stepsL n s a j).sum = n ∧ ((stepsL n s a j).length : Int) ≤ (n + smp s a j - 1) / smp s a j ∧ smth s a j (stepsL n s a j) = true := by
  obtain ⟨⟨s1, s2⟩, ⟨a1, a2⟩, ⟨j1, j2⟩⟩ := (vld_iff s a j).1 hv
  obtain ⟨u1, u2, u3, u4⟩ := smp_bounds' s a j s1 a1 j1
  have hT : 0 ≤ (n + smp s a j - 1) / smp s a j := Int.ediv_nonneg (by omega) (by omega)
  have hsimp : (∀ x ∈ simpGo (smp s a j) n.toNat n [], 0 < x) ∧ (simpGo (smp s a j) n.toNat n []).sum = n ∧ ((simpGo (smp s a j) n.toNat n []).length : Int) ≤ (n + smp s a j - 1) / smp s a j ∧ smth s a j (simpGo (smp s a j) n.toNat n []) = true := by
    obtain ⟨h1, h2, h3⟩ := simpGo_props (smp s a j) n ((n + smp s a j - 1) / smp s a j) u1 n.toNat n [] (by simp) (by simp) (by simp) n0 (Nat.le_refl _)
    refine ⟨fun x hx => (h1 x hx).1, h2, h3, ?_⟩
    unfold smth
    rw [hv, Bool.true_and]
    refine smGo_small s a j (smp s a j) u2 u3 u4 _ 0 0 (by omega) (by omega) (by omega) (by omega) fun x hx => ?_
    rcases List.mem_append.1 hx with hx | hx
    · have := h1 x hx; omega
    · simp at hx; omega
  unfold stepsL
  split
  · rename_i l hl
    split
    · rename_i hsm
      have hf : fastGo s a j ((n + smp s a j - 1) / smp s a j) n.toNat 0 0 n [] = some l := by
        unfold fastL stepsL.tickN' at hl
        split at hl
        · cases hl
        · exact hl
      obtain ⟨h1, h2, h3⟩ := fastGo_props s a j _ n n.toNat 0 0 n [] l hf (by simp) (by simp) (by simpa using hT) n0 (Nat.le_refl _)
      exact ⟨h1, h2, h3, hsm⟩
    · exact hsimp
  · exact hsimp

end Go.Proofs.Ytcblahhfgkafhaa
