/-
  ProfileSafe, walked.
-/
import Derived.Test.YtcblahhfgkafhaaW14
import Derived.Test.YtcblahhfgkafhaaMath5
import Derived.Test.YtcblahhfgkafhaaApp
namespace Go.Proofs.Ytcblahhfgkafhaa
open Go.RowKit

theorem getElem_app (l : List Int) (k : Nat) (h : k < l.length) : (l ++ [0, 0]).drop k = l.getD k 0 :: (l.drop (k + 1) ++ [0, 0]) := by
  rw [getD_app2 l k (by omega), if_pos h, List.drop_append_of_le_length (by omega)]

set_option maxHeartbeats 2000000 in
theorem lawSafe (v : Value) (l : List Int) (s a j : Int) (w : World) (hv : ArgI w v l) :
    Calls Try.prog 7 #[v, Lm s a j] w fun e w' => e = .returned (.bool true) ∧ Ext w w' := by
  obtain ⟨ad, n, cap, rfl, hn⟩ : ∃ ad n cap, v = .slice ad n cap ∧ n = l.length := by
    rcases hv with ⟨rfl, rfl⟩ | ⟨x, cap, rfl, h0, h3, h2⟩
    · exact ⟨_, _, _, rfl, rfl⟩
    · exact ⟨_, _, _, rfl, rfl⟩
  cases hsl : slw s a j
  · clear hn
    go_enter Try.func7, Try.ntmps7
    go_wp2_with fail
    refine (awake_any _).mono ?_
    rintro e w1 ⟨rfl, he1⟩
    have b1 := LBox.mk' he1
    have k0 := b1.c0; have k1 := b1.c1; have k2 := b1.c2
    go_wp2_with fail
    refine (slow_any s a j _).mono ?_
    rintro e w2 ⟨rfl, he2⟩
    rw [hsl]
    go_wp2_with fail
    refine (awake_any _).mono ?_
    rintro e w3 ⟨rfl, he3⟩
    have hE := (b1.later he2).ext.trans he3
    go_wp2
    go_ret
    exact ⟨rfl, hE⟩
  · have HSL := Lib.hid hsl; clear hsl
    by_cases hl : n ≤ 60
    · have hgt : decide (60 < (n : Int)) = false := by rw [decide_eq_false_iff_not]; omega
      have HN := Lib.hid hn; clear hn
      cases hsm : smth s a j l
      · have HSM := Lib.hid hsm; clear hsm
        go_enter Try.func7, Try.ntmps7
        go_wp2_with fail
        refine (awake_any _).mono ?_
        rintro e w1 ⟨rfl, he1⟩
        have b1 := LBox.mk' he1
        have k0 := b1.c0; have k1 := b1.c1; have k2 := b1.c2
        clear he1
        go_wp2_with fail
        refine (slow_any s a j _).mono ?_
        rintro e w2 ⟨rfl, he2⟩
        rw [HSL.out]
        have b2 := b1.later he2
        clear b1 he2 k0 k1 k2
        have k0 := b2.c0; have k1 := b2.c1; have k2 := b2.c2
        go_wp2_with fail
        refine (rsmooth_any _ l s a j _ (hv.later b2.ext).sl (by have := HN.out; omega)).mono ?_
        rw [HSM.out]
        rintro e w3 ⟨rfl, he3⟩
        go_wp2_with fail
        refine (awake_any _).mono ?_
        rintro e w4 ⟨rfl, he4⟩
        have hE := (b2.later he3).ext.trans he4
        go_wp2
        go_ret
        exact ⟨rfl, hE⟩
      · have hvs : vld s a j = true ∧ smGo s a j 0 0 (l ++ [0, 0]) = true := by simpa [smth] using hsm
        obtain ⟨hvl, hgo⟩ := hvs
        obtain ⟨⟨s1, s2⟩, ⟨a1, a2⟩, ⟨j1, j2⟩⟩ := (vld_iff s a j).1 hvl
        have HVL := Lib.hid hvl; clear hvl
        have HGO := Lib.hid hgo; clear hgo
        have HSM := Lib.hid hsm; clear hsm
        go_enter Try.func7, Try.ntmps7
        go_wp2_with fail
        refine (awake_any _).mono ?_
        rintro e w1 ⟨rfl, he1⟩
        have b1 := LBox.mk' he1
        have k0 := b1.c0; have k1 := b1.c1; have k2 := b1.c2
        clear he1
        go_wp2_with fail
        refine (slow_any s a j _).mono ?_
        rintro e w2 ⟨rfl, he2⟩
        rw [HSL.out]
        have b2 := b1.later he2
        clear b1 he2 k0 k1 k2
        have k0 := b2.c0; have k1 := b2.c1; have k2 := b2.c2
        go_wp2_with fail
        refine (rsmooth_any _ l s a j _ (hv.later b2.ext).sl (by have := HN.out; omega)).mono ?_
        rw [HSM.out]
        rintro e w3 ⟨rfl, he3⟩
        have b3 := b2.later he3
        have v3 := hv.later b3.ext
        clear b2 he3 k0 k1 k2 hv
        obtain ⟨ad', n', cap', b, off, hform, hn', had, hc⟩ := v3.sl
        simp only [Value.slice.injEq] at hform
        obtain ⟨rfl, rfl, rfl⟩ := hform
        have HAD := Lib.hid had; clear had
        have HC := Lib.hid hc; clear hc
        clear hn' v3
        go_wp2
        go_loopw [5, 31] (fun x t wr => ∃ (k : Nat) (u z : Int), k ≤ n ∧ t = .int .i64 k ∧ x = .int .i64 u ∧ LBox w wr w.heap.size s a j ∧ Ext w3 wr ∧ 0 ≤ u ∧ u ≤ s ∧ -a ≤ z ∧ z ≤ a ∧ smGo s a j u z ((l ++ [0, 0]).drop k) = true) (fun _ t _ => n - (intOf t).toNat)
        case atStart => exact ⟨0, 0, 0, by omega, rfl, rfl, b3, Ext.refl _, by omega, by omega, by omega, by omega, HGO.out⟩
        case round =>
          obtain ⟨k, u, z, hk, rfl, rfl, hb, hE3, u1, u2, z1, z2, hsm⟩ := hrel
          by_cases hlt : k < n
          · have hkl : k < l.length := by have := HN.out; omega
            obtain ⟨hbl, hcell⟩ := HC.out k hlt
            have hcell2 := hcell
            rw [← hE3.cell (p := ⟨b, off + k, none⟩) hbl] at hcell2
            obtain rfl : ad = some ⟨b, off, none⟩ := (HAD.out).resolve_left (by omega)
            rw [getElem_app l k hkl] at hsm
            have hdr : (l ++ [0, 0]).drop (k + 1) = l.drop (k + 1) ++ [0, 0] := List.drop_append_of_le_length (by omega)
            clear hcell
            generalize l.getD k 0 = x at hsm hcell2
            simp only [smGo, Bool.and_eq_true, inR_iff] at hsm
            obtain ⟨⟨⟨⟨x1, x2⟩, x3, x4⟩, x5, x6⟩, hsm2⟩ := hsm
            have hmv : mvg s a j u x = true := (mvg_iff _ _ _ _ _).2 ⟨HVL.out, ⟨u1, u2⟩, ⟨x1, x2⟩, smooth_safe s a j j1 _ x (x - u) x1 x2 x3 x4 hsm2⟩
            have HMV := Lib.hid hmv; clear hmv
            rw [← hdr] at hsm2
            have HS2 := Lib.hid hsm2; clear hsm2 hdr
            have c0 := hb.c0; have c1 := hb.c1; have c2 := hb.c2
            go_wp2_with fail
            refine (theirs_any s a j _).mono ?_
            rintro e w4 ⟨rfl, he4⟩
            have hb4 := hb.later he4
            go_wp2_with fail
            refine (needed_yes s a j u x _ HMV.out).mono ?_
            rintro e w5 ⟨rfl, he5⟩
            have hb5 := hb4.later he5
            clear hb4 hb c0 c1 c2
            go_wp2
            go_roundw
            case rel => exact ⟨k + 1, x, x - u, by omega, by go_num, rfl, hb5, (hE3.trans he4).trans he5, x1, x2, x3, x4, HS2.out⟩
            case measure => simp [intOf]; omega
          · clear hsm
            have hE := hb.ext
            go_wp2
            go_ret
            exact ⟨rfl, hE⟩
    · have hgt : decide (60 < (n : Int)) = true := by rw [decide_eq_true_iff]; omega
      clear hn
      go_enter Try.func7, Try.ntmps7
      go_wp2_with fail
      refine (awake_any _).mono ?_
      rintro e w1 ⟨rfl, he1⟩
      have b1 := LBox.mk' he1
      have k0 := b1.c0; have k1 := b1.c1; have k2 := b1.c2
      clear he1
      go_wp2_with fail
      refine (slow_any s a j _).mono ?_
      rintro e w2 ⟨rfl, he2⟩
      rw [HSL.out]
      go_wp2_with fail
      refine (awake_any _).mono ?_
      rintro e w3 ⟨rfl, he3⟩
      have hE := (b1.later he2).ext.trans he3
      go_wp2
      go_ret
      exact ⟨rfl, hE⟩

end Go.Proofs.Ytcblahhfgkafhaa
