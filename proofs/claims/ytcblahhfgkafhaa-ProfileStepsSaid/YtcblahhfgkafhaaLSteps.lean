/-
  ProfileSteps, walked.
-/
import Derived.Test.YtcblahhfgkafhaaW19
import Derived.Test.YtcblahhfgkafhaaMath7
import Derived.Test.YtcblahhfgkafhaaLStop
namespace Go.Proofs.Ytcblahhfgkafhaa
open Go.RowKit

/-- What Steps returns. -/
def stepsR (n s a j : Int) : List Int := if stepsE n s a j = 0 then stepsL n s a j else []

theorem stepsE_zero {n s a j : Int} (h : stepsE n s a j = 0) : tickE n s a j = 0 ∧ ¬ 100000 < tickN n s a j := by
  unfold stepsE at h
  split at h
  · rename_i h1
    split at h
    · omega
    · exact ⟨h1, by assumption⟩
  · contradiction

theorem tickN_nonneg {n s a j : Int} (h : tickE n s a j = 0) : 0 ≤ tickN n s a j := by
  obtain ⟨hv, n0, n1⟩ := tickE_zero h
  obtain ⟨⟨s1, s2⟩, ⟨a1, a2⟩, ⟨j1, j2⟩⟩ := (vld_iff s a j).1 hv
  obtain ⟨u1, u2, u3, u4⟩ := smp_bounds s a j s1 a1 j1
  rw [tickN_eq h]
  exact Int.ediv_nonneg (by omega) (by omega)

theorem steps_any (n s a j : Int) (w : World) :
    Calls Try.prog 29 #[.int .i64 n, Lm s a j] w (RetInts w (stepsR n s a j) (stepsE n s a j)) := by
  by_cases h : tickE n s a j = 0
  · by_cases hl : 100000 < tickN n s a j
    · have e : stepsE n s a j = 3 := by simp [stepsE, h, hl]
      have e2 : stepsR n s a j = [] := by simp [stepsR, e]
      rw [e, e2]; exact steps_large n s a j w h hl
    · have e : stepsE n s a j = 0 := by simp [stepsE, h, hl]
      have e2 : stepsR n s a j = stepsL n s a j := by simp [stepsR, e]
      rw [e, e2]
      have t0 := tickN_nonneg h
      have hT : stepsL.tickN' n s a j = tickN n s a j := by rw [tickN_eq h]; rfl
      unfold stepsL
      rw [hT]
      cases hf : fastL s a j n (tickN n s a j) with
      | none => exact steps_simple n s a j w h hl t0 (.inl hf)
      | some l =>
        simp only
        cases hs : smth s a j l
        · exact steps_simple n s a j w h hl t0 (.inr ⟨l, hf, hs⟩)
        · exact steps_fast n s a j l w h hl t0 hf hs
  · have e : stepsE n s a j = tickE n s a j := by simp [stepsE, h]
    have e2 : stepsR n s a j = [] := by unfold stepsR; rw [if_neg (by rw [e]; exact h)]
    rw [e, e2]; exact steps_err n s a j w h

set_option maxHeartbeats 1000000 in
theorem rerror_any (n s a j : Int) (w : World) :
    Calls Try.prog 30 #[.int .i64 n, Lm s a j] w fun e w' => e = .returned (.int .i64 (stepsE n s a j)) ∧ Ext w w' := by
  by_cases h : tickE n s a j = 0
  · have H := Lib.hid h
    by_cases hl : 100000 < tickN n s a j
    · have e : stepsE n s a j = 3 := by simp [stepsE, h, hl]
      rw [e]; clear e h
      go_enter Try.func30, Try.ntmps30
      go_wp2_with fail
      refine (rticks_any n s a j _).mono ?_
      rw [H.out]
      rintro e w1 ⟨rfl, he⟩
      go_wp2
      go_ret
      exact ⟨rfl, ((Ext.refl w).alloc _).trans he⟩
    · have e : stepsE n s a j = 0 := by simp [stepsE, h, hl]
      rw [e]; clear e h
      have hl' : decide (100000 < tickN n s a j) = false := by simpa using hl
      go_enter Try.func30, Try.ntmps30
      go_wp2_with fail
      refine (rticks_any n s a j _).mono ?_
      rw [H.out]
      rintro e w1 ⟨rfl, he⟩
      go_wp2
      go_ret
      exact ⟨rfl, ((Ext.refl w).alloc _).trans he⟩
  · have e : stepsE n s a j = tickE n s a j := by simp [stepsE, h]
    have hb : (tickE n s a j == 0) = false := by simpa using h
    rw [e]; clear e h
    go_enter Try.func30, Try.ntmps30
    go_wp2_with fail
    refine (rticks_any n s a j _).mono ?_
    rintro e w1 ⟨rfl, he⟩
    go_wp2
    go_ret
    exact ⟨rfl, ((Ext.refl w).alloc _).trans he⟩

set_option maxHeartbeats 2000000 in
theorem lawSteps_err (n s a j : Int) (w : World) (h : ¬ stepsE n s a j = 0) :
    Calls Try.prog 10 #[.int .i64 n, Lm s a j] w fun e w' => e = .returned (.bool true) ∧ Ext w w' := by
  have hne : (stepsE n s a j != 0) = true := by simpa using h
  have e2 : stepsR n s a j = [] := by unfold stepsR; rw [if_neg h]
  have H2 := Lib.hid e2; clear e2
  have htests : (tickE n s a j == 0) = false ∨ ((tickE n s a j == 0) = true ∧ 100000 < tickN n s a j) := by
    by_cases h1 : tickE n s a j = 0
    · right
      refine ⟨by simpa using h1, ?_⟩
      unfold stepsE at h
      rw [if_pos h1] at h
      split at h
      · assumption
      · contradiction
    · left; simpa using h1
  clear h
  rcases htests with ht | ⟨ht1, ht2⟩
  · go_enter Try.func10, Try.ntmps10
    go_wp2_with fail
    refine (awake_any _).mono ?_
    rintro e w1 ⟨rfl, he1⟩
    have b1 := LBox.mk' he1
    have k0 := b1.c0; have k1 := b1.c1; have k2 := b1.c2
    clear he1
    go_wp2_with fail
    refine (rticks_any n s a j _).mono ?_
    rintro e w2 ⟨rfl, he2⟩
    have b2 := b1.later he2
    clear b1 he2 k0 k1 k2
    have k0 := b2.c0; have k1 := b2.c1; have k2 := b2.c2
    go_wp2_with fail
    refine (theirs_any s a j _).mono ?_
    rintro e w3 ⟨rfl, he3⟩
    have b3 := b2.later he3
    clear b2 he3 k0 k1 k2
    go_wp2_with fail
    refine (steps_any n s a j _).mono ?_
    rw [H2.out]
    rintro e w4 ⟨v, rfl, hown, he4⟩
    obtain ⟨ad, cap, hform⟩ := hown.sl.form
    simp only [List.length_nil] at hform
    subst hform
    have b4 := b3.later he4
    clear b3 he4 hown
    have k0 := b4.c0; have k1 := b4.c1; have k2 := b4.c2
    go_wp2_with fail
    refine (rerror_any n s a j _).mono ?_
    rintro e w5 ⟨rfl, he5⟩
    have hE := (b4.later he5).ext
    go_wp2
    go_ret
    exact ⟨rfl, hE⟩
  · have ht3 : 3000 < tickN n s a j := by omega
    have ht4 : decide (tickN n s a j ≤ 100000) = false := by rw [decide_eq_false_iff_not]; omega
    go_enter Try.func10, Try.ntmps10
    go_wp2_with fail
    refine (awake_any _).mono ?_
    rintro e w1 ⟨rfl, he1⟩
    have b1 := LBox.mk' he1
    have k0 := b1.c0; have k1 := b1.c1; have k2 := b1.c2
    clear he1
    go_wp2_with fail
    refine (rticks_any n s a j _).mono ?_
    rintro e w2 ⟨rfl, he2⟩
    have b2 := b1.later he2
    clear b1 he2 k0 k1 k2
    have k0 := b2.c0; have k1 := b2.c1; have k2 := b2.c2
    go_wp2_with fail
    refine (theirs_any s a j _).mono ?_
    rintro e w3 ⟨rfl, he3⟩
    have b3 := b2.later he3
    clear b2 he3 k0 k1 k2
    go_wp2_with fail
    refine (steps_any n s a j _).mono ?_
    rw [H2.out]
    rintro e w4 ⟨v, rfl, hown, he4⟩
    obtain ⟨ad, cap, hform⟩ := hown.sl.form
    simp only [List.length_nil] at hform
    subst hform
    have b4 := b3.later he4
    clear b3 he4 hown
    have k0 := b4.c0; have k1 := b4.c1; have k2 := b4.c2
    go_wp2_with fail
    refine (rerror_any n s a j _).mono ?_
    rintro e w5 ⟨rfl, he5⟩
    have hE := (b4.later he5).ext
    go_wp2
    go_ret
    exact ⟨rfl, hE⟩

set_option maxHeartbeats 2000000 in
theorem lawSteps_ok (n s a j : Int) (w : World) (h : stepsE n s a j = 0) :
    Calls Try.prog 10 #[.int .i64 n, Lm s a j] w fun e w' => e = .returned (.bool true) ∧ Ext w w' := by
  obtain ⟨h1, h2⟩ := stepsE_zero h
  obtain ⟨hv, n0, n1⟩ := tickE_zero h1
  obtain ⟨p1, p2, p3, p4⟩ := stepsL_props n s a j hv n0
  rw [← tickN_eq h1] at p3
  have e2 : stepsR n s a j = stepsL n s a j := by simp [stepsR, h]
  have t0 := tickN_nonneg h1
  have H := Lib.hid (And.intro h (And.intro h1 (And.intro e2 (And.intro p1 (And.intro p2 (And.intro p3 p4))))))
  have hlen : (stepsL n s a j).length ≤ 100000 := by omega
  clear h h1 e2 p1 p2 p3 p4 hv
  by_cases hbig : 3000 < tickN n s a j
  · have ht4 : tickN n s a j ≤ 100000 := by omega
    go_enter Try.func10, Try.ntmps10
    go_wp2_with fail
    refine (awake_any _).mono ?_
    rintro e w1 ⟨rfl, he1⟩
    have b1 := LBox.mk' he1
    have k0 := b1.c0; have k1 := b1.c1; have k2 := b1.c2
    clear he1
    go_wp2_with fail
    refine (rticks_any n s a j _).mono ?_
    rw [H.out.2.1]
    rintro e w2 ⟨rfl, he2⟩
    have hE := (b1.later he2).ext
    go_wp2
    go_ret
    exact ⟨rfl, hE⟩
  · have hbig' : decide (3000 < tickN n s a j) = false := by simpa using hbig
    go_enter Try.func10, Try.ntmps10
    go_wp2_with fail
    refine (awake_any _).mono ?_
    rintro e w1 ⟨rfl, he1⟩
    have b1 := LBox.mk' he1
    have k0 := b1.c0; have k1 := b1.c1; have k2 := b1.c2
    clear he1
    go_wp2_with fail
    refine (rticks_any n s a j _).mono ?_
    rw [H.out.2.1]
    rintro e w2 ⟨rfl, he2⟩
    have b2 := b1.later he2
    clear b1 he2 k0 k1 k2
    have k0 := b2.c0; have k1 := b2.c1; have k2 := b2.c2
    go_wp2_with fail
    refine (theirs_any s a j _).mono ?_
    rintro e w3 ⟨rfl, he3⟩
    have b3 := b2.later he3
    clear b2 he3 k0 k1 k2
    go_wp2_with fail
    refine (steps_any n s a j _).mono ?_
    rw [H.out.1, H.out.2.2.1]
    rintro e w4 ⟨v, rfl, hown, he4⟩
    have b4 := b3.later he4
    clear b3 he4
    have k0 := b4.c0; have k1 := b4.c1; have k2 := b4.c2
    go_wp2_with fail
    refine (rerror_any n s a j _).mono ?_
    rw [H.out.1]
    rintro e w5 ⟨rfl, he5⟩
    have b5 := b4.later he5
    have hown5 := hown.later he5
    clear b4 he5 hown k0 k1 k2
    have k0 := b5.c0; have k1 := b5.c1; have k2 := b5.c2
    obtain ⟨ad, N, cap, b, off, hform, hN, had, hc⟩ := hown5.sl
    subst hform
    have hlt : decide (tickN n s a j < (N : Int)) = false := by rw [decide_eq_false_iff_not, hN]; have := H.out.2.2.2.2.2.1; omega
    have hN2 : N ≤ 100000 := by omega
    have HN := Lib.hid (And.intro hN (And.intro had hc)); clear hN had hc
    go_wp2_with fail
    refine (rsmooth_any _ (stepsL n s a j) s a j _ hown5.sl (by omega)).mono ?_
    rw [H.out.2.2.2.2.2.2]
    rintro e w6 ⟨rfl, he6⟩
    have b6 := b5.later he6
    have hown6 := hown5.later he6
    have E56 := he6
    clear b5 hown5 k0 k1 k2 he6
    go_wp2
    go_loop [66] (fun t => ∃ k : Nat, k ≤ N ∧ t = .int .i64 k) (fun t => N - (intOf t).toNat)
    case atStart => exact ⟨0, by omega, rfl⟩
    case round =>
      obtain ⟨k, hk, rfl⟩ := hrel
      by_cases hkn : k < N
      · obtain ⟨hbl, hcell⟩ := HN.out.2.2 k hkn
        have hcell2 := hcell
        rw [← E56.cell (p := ⟨b, off + k, none⟩) hbl] at hcell2
        obtain rfl : ad = some ⟨b, off, none⟩ := (HN.out.2.1).resolve_left (by omega)
        have hpos : 0 < (stepsL n s a j).getD k 0 := by
          have hkl : k < (stepsL n s a j).length := by rw [← HN.out.1]; exact hkn
          have := H.out.2.2.2.1 _ (List.getElem_mem hkl)
          simpa [hkl] using this
        clear hcell
        generalize (stepsL n s a j).getD k 0 = x at hpos hcell2
        have hx : decide (x ≤ 0) = false := by rw [decide_eq_false_iff_not]; omega
        go_wp2
        go_round
        case rel => exact ⟨k + 1, by omega, by go_num⟩
        case measure => simp [intOf]; omega
      · have hE := b6.ext
        go_wp2_with fail
        refine (sum_any _ (stepsL n s a j) _ hown6.sl (by omega) (fun x hx => Int.le_of_lt (H.out.2.2.2.1 x hx)) (by rw [H.out.2.2.2.2.1]; omega)).mono ?_
        rw [H.out.2.2.2.2.1]
        rintro e w' ⟨rfl, rfl⟩
        go_wp2
        go_ret
        exact ⟨rfl, hE⟩

theorem lawSteps (n s a j : Int) (w : World) :
    Calls Try.prog 10 #[.int .i64 n, Lm s a j] w fun e w' => e = .returned (.bool true) ∧ Ext w w' := by
  by_cases h : stepsE n s a j = 0
  · exact lawSteps_ok n s a j w h
  · exact lawSteps_err n s a j w h

end Go.Proofs.Ytcblahhfgkafhaa
