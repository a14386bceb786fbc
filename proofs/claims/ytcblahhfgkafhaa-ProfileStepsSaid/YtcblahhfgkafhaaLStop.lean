/-
  ProfileStop, walked.
-/
import Derived.Test.YtcblahhfgkafhaaW15
import Derived.Test.YtcblahhfgkafhaaMath3
namespace Go.Proofs.Ytcblahhfgkafhaa
open Go.RowKit

theorem SlI.form {w : World} {v : Value} {l : List Int} (h : SlI w v l) : ∃ ad cap, v = .slice ad l.length cap := by
  obtain ⟨a, n, cap, b, off, rfl, rfl, _, _⟩ := h; exact ⟨a, cap, rfl⟩

set_option maxHeartbeats 2000000 in
theorem lawStop (p q s a j : Int) (w : World) :
    Calls Try.prog 5 #[.int .i64 p, .int .i64 q, Lm s a j] w fun e w' => e = .returned (.bool true) ∧ Ext w w' := by
  cases hsl : slw s a j
  · go_enter Try.func5, Try.ntmps5
    go_wp2_with fail
    refine (awake_any _).mono ?_
    rintro e w1 ⟨rfl, he1⟩
    have b1 := LBox.mk' he1
    have k0 := b1.c0; have k1 := b1.c1; have k2 := b1.c2
    go_wp2_with fail
    refine (slow_any s a j _).mono ?_
    rintro e w2 ⟨rfl, he2⟩
    rw [hsl]
    go_wp2_with fail
    refine (awake_any _).mono ?_
    rintro e w3 ⟨rfl, he3⟩
    have hE := (b1.later he2).ext.trans he3
    go_wp2
    go_ret
    exact ⟨rfl, hE⟩
  · have HSL := Lib.hid hsl; clear hsl
    cases hmv : mvg s a j p q
    · have HM := Lib.hid hmv; clear hmv
      go_enter Try.func5, Try.ntmps5
      go_wp2_with fail
      refine (awake_any _).mono ?_
      rintro e w1 ⟨rfl, he1⟩
      have b1 := LBox.mk' he1
      have k0 := b1.c0; have k1 := b1.c1; have k2 := b1.c2
      clear he1
      go_wp2_with fail
      refine (slow_any s a j _).mono ?_
      rintro e w2 ⟨rfl, he2⟩
      rw [HSL.out]
      have b2 := b1.later he2
      clear b1 he2 k0 k1 k2
      have k0 := b2.c0; have k1 := b2.c1; have k2 := b2.c2
      go_wp2_with fail
      refine (theirs_any s a j _).mono ?_
      rintro e w3 ⟨rfl, he3⟩
      have b3 := b2.later he3
      clear b2 he3 k0 k1 k2
      go_wp2_with fail
      refine (stop_no s a j p q _ HM.out).mono ?_
      rintro e w4 ⟨v, rfl, hown, he4⟩
      have b4 := b3.later he4
      obtain ⟨ad, cap, hform⟩ := hown.sl.form
      simp only [List.length_nil] at hform
      subst hform
      clear b3 he4 hown
      have k0 := b4.c0; have k1 := b4.c1; have k2 := b4.c2
      go_wp2_with fail
      refine (theirs_any s a j _).mono ?_
      rintro e w5 ⟨rfl, he5⟩
      have b5 := b4.later he5
      clear b4 he5 k0 k1 k2
      go_wp2_with fail
      refine (needed_no s a j p q _ HM.out).mono ?_
      rintro e w6 ⟨rfl, he6⟩
      have b6 := b5.later he6
      clear b5 he6
      have k0 := b6.c0; have k1 := b6.c1; have k2 := b6.c2
      have hbc : bcode s a j p q = 1 := by simp [bcode, HM.out]
      go_wp2_with fail
      refine (rbrakes_any s a j p q _).mono ?_
      rw [hbc]
      rintro e w7 ⟨rfl, he7⟩
      have hE := (b6.later he7).ext
      go_wp2
      go_ret
      exact ⟨rfl, hE⟩
    · obtain ⟨hv, -, -, hs⟩ := (mvg_iff _ _ _ _ _).1 hmv
      have hsum := stops_sum s a j q (q - p) hv hs
      have hlen := stops_len s a j q (q - p) hv hs
      have hpos := stops_pos s a j q (q - p) hv hs
      obtain ⟨d1, d2⟩ := dsum_le s a j q (q - p) hv hs
      have HX := Lib.hid (And.intro hsum (And.intro hlen hpos))
      clear hsum hlen hpos hv hs
      have HM := Lib.hid hmv; clear hmv
      go_enter Try.func5, Try.ntmps5
      go_wp2_with fail
      refine (awake_any _).mono ?_
      rintro e w1 ⟨rfl, he1⟩
      have b1 := LBox.mk' he1
      have k0 := b1.c0; have k1 := b1.c1; have k2 := b1.c2
      clear he1
      go_wp2_with fail
      refine (slow_any s a j _).mono ?_
      rintro e w2 ⟨rfl, he2⟩
      rw [HSL.out]
      have b2 := b1.later he2
      clear b1 he2 k0 k1 k2
      have k0 := b2.c0; have k1 := b2.c1; have k2 := b2.c2
      go_wp2_with fail
      refine (theirs_any s a j _).mono ?_
      rintro e w3 ⟨rfl, he3⟩
      have b3 := b2.later he3
      clear b2 he3 k0 k1 k2
      go_wp2_with fail
      refine (stop_yes s a j p q _ HM.out).mono ?_
      rintro e w4 ⟨v, rfl, hown, he4⟩
      have b4 := b3.later he4
      clear b3 he4
      have k0 := b4.c0; have k1 := b4.c1; have k2 := b4.c2
      go_wp2_with fail
      refine (theirs_any s a j _).mono ?_
      rintro e w5 ⟨rfl, he5⟩
      have b5 := b4.later he5
      have hown5 := hown.later he5
      clear b4 he5 hown k0 k1 k2
      go_wp2_with fail
      refine (needed_yes s a j p q _ HM.out).mono ?_
      rintro e w6 ⟨rfl, he6⟩
      have b6 := b5.later he6
      have hown6 := hown5.later he6
      clear b5 he6 hown5
      have k0 := b6.c0; have k1 := b6.c1; have k2 := b6.c2
      have hbc : bcode s a j p q = 0 := by simp [bcode, HM.out]
      go_wp2_with fail
      refine (rbrakes_any s a j p q _).mono ?_
      rw [hbc]
      rintro e w7 ⟨rfl, he7⟩
      have b7 := b6.later he7
      have hown7 := hown6.later he7
      clear b6 he7 hown6 hbc k0 k1 k2
      have k0 := b7.c0; have k1 := b7.c1; have k2 := b7.c2
      go_wp2_with fail
      refine (rstop_yes s a j p q _ HM.out).mono ?_
      rintro e w8 ⟨v2, rfl, hownr, he8⟩
      have b8 := b7.later he8
      have hown8 := hown7.later he8
      clear b7 he8 hown7 k0 k1 k2
      obtain ⟨hsum, hlen, hpos⟩ := HX.out
      go_wp2_with fail
      refine (same_any v v2 _ _ _ hown8.sl hownr.sl (by omega) (by omega)).mono ?_
      rintro e w9 ⟨rfl, he9⟩
      rw [decide_eq_true (rfl : stops s a j q (q - p) = stops s a j q (q - p))]
      have hownr9 := hownr.later he9
      have hE := (b8.later he9).ext
      clear b8 he9 hown8 hownr
      have HY := Lib.hid (And.intro hsum (And.intro hlen hpos))
      clear hsum hlen hpos
      go_wp2_with fail
      refine (sum_any v2 _ _ hownr9.sl (by have := HY.out.2.1; omega) (fun x hx => Int.le_of_lt (HY.out.2.2 x hx).1) (by rw [HY.out.1]; omega)).mono ?_
      rw [HY.out.1]
      rintro e w' ⟨rfl, rfl⟩
      go_wp2
      go_ret
      exact ⟨rfl, hE⟩

end Go.Proofs.Ytcblahhfgkafhaa
