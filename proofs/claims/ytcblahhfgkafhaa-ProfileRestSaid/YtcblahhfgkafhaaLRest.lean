/-
  ProfileRest, walked.
-/
import Derived.Test.YtcblahhfgkafhaaLStop
import Derived.Test.YtcblahhfgkafhaaMath4
import Derived.Test.YtcblahhfgkafhaaApp
namespace Go.Proofs.Ytcblahhfgkafhaa
open Go.RowKit

theorem smGo_drop (s a j : Int) : ∀ (l : List Int) (v b : Int) (k : Nat), smGo s a j v b l = true → k < l.length →
    0 ≤ l.getD k 0 ∧ l.getD k 0 ≤ s := by
  intro l
  induction l with
  | nil => intro v b k _ hk; simp at hk
  | cons x l ih =>
    intro v b k h hk
    simp only [smGo, Bool.and_eq_true, inR_iff] at h
    cases k with
    | zero => simpa using h.1.1.1
    | succ k => simpa using ih _ _ k h.2 (by simpa using hk)

set_option maxHeartbeats 2000000 in
theorem lawRest (p q s a j : Int) (w : World) :
    Calls Try.prog 6 #[.int .i64 p, .int .i64 q, Lm s a j] w fun e w' => e = .returned (.bool true) ∧ Ext w w' := by
  cases hsl : slw s a j
  · go_enter Try.func6, Try.ntmps6
    go_wp2_with fail
    refine (awake_any _).mono ?_
    rintro e w1 ⟨rfl, he1⟩
    have b1 := LBox.mk' he1
    have k0 := b1.c0; have k1 := b1.c1; have k2 := b1.c2
    go_wp2_with fail
    refine (slow_any s a j _).mono ?_
    rintro e w2 ⟨rfl, he2⟩
    rw [hsl]
    go_wp2_with fail
    refine (awake_any _).mono ?_
    rintro e w3 ⟨rfl, he3⟩
    have hE := (b1.later he2).ext.trans he3
    go_wp2
    go_ret
    exact ⟨rfl, hE⟩
  · have HSL := Lib.hid hsl; clear hsl
    cases hmv : mvg s a j p q
    · have hbc : bcode s a j p q = 1 := by simp [bcode, hmv]
      have HM := Lib.hid hmv; clear hmv
      go_enter Try.func6, Try.ntmps6
      go_wp2_with fail
      refine (awake_any _).mono ?_
      rintro e w1 ⟨rfl, he1⟩
      have b1 := LBox.mk' he1
      have k0 := b1.c0; have k1 := b1.c1; have k2 := b1.c2
      clear he1
      go_wp2_with fail
      refine (slow_any s a j _).mono ?_
      rintro e w2 ⟨rfl, he2⟩
      rw [HSL.out]
      have b2 := b1.later he2
      clear b1 he2 k0 k1 k2
      have k0 := b2.c0; have k1 := b2.c1; have k2 := b2.c2
      go_wp2_with fail
      refine (rbrakes_any s a j p q _).mono ?_
      rw [hbc]
      rintro e w3 ⟨rfl, he3⟩
      go_wp2_with fail
      refine (awake_any _).mono ?_
      rintro e w4 ⟨rfl, he4⟩
      have hE := (b2.later he3).ext.trans he4
      go_wp2
      go_ret
      exact ⟨rfl, hE⟩
    · obtain ⟨hv, ⟨p1, p2⟩, ⟨q1, q2⟩, hs⟩ := (mvg_iff _ _ _ _ _).1 hmv
      obtain ⟨⟨s1, s2⟩, ⟨a1, a2⟩, ⟨j1, j2⟩⟩ := (vld_iff s a j).1 hv
      have hlen := stops_len s a j q (q - p) hv hs
      have hrest := rest_smooth s a j hv _ q (q - p) hs (Nat.le_refl _)
      obtain ⟨-, ⟨r1, r2⟩, -⟩ := (saf_iff _ _ _ _ _).1 hs
      clear hs hv
      have hbc : bcode s a j p q = 0 := by simp [bcode, hmv]
      have HM := Lib.hid hmv; clear hmv
      have HR := Lib.hid hrest; clear hrest
      go_enter Try.func6, Try.ntmps6
      go_wp2_with fail
      refine (awake_any _).mono ?_
      rintro e w1 ⟨rfl, he1⟩
      have b1 := LBox.mk' he1
      have k0 := b1.c0; have k1 := b1.c1; have k2 := b1.c2
      clear he1
      go_wp2_with fail
      refine (slow_any s a j _).mono ?_
      rintro e w2 ⟨rfl, he2⟩
      rw [HSL.out]
      have b2 := b1.later he2
      clear b1 he2 k0 k1 k2
      have k0 := b2.c0; have k1 := b2.c1; have k2 := b2.c2
      go_wp2_with fail
      refine (rbrakes_any s a j p q _).mono ?_
      rw [hbc]
      rintro e w3 ⟨rfl, he3⟩
      have b3 := b2.later he3
      clear b2 he3 k0 k1 k2 hbc
      have k0 := b3.c0; have k1 := b3.c1; have k2 := b3.c2
      go_wp2_with fail
      refine (theirs_any s a j _).mono ?_
      rintro e w4 ⟨rfl, he4⟩
      have b4 := b3.later he4
      clear b3 he4 k0 k1 k2
      go_wp2_with fail
      refine (stop_yes s a j p q _ HM.out).mono ?_
      rintro e w5 ⟨v, rfl, hown, he5⟩
      have b5 := b4.later he5
      clear b4 he5
      generalize stops s a j q (q - p) = l at hlen HR hown
      have harg := hown.arg (by simp [maxLen]; omega)
      clear hown
      -- the copy, and two zeros behind it
      have hE6 : Ext w5 (w5.alloc (.cells #[] 2)) := (Ext.refl w5).alloc _
      have hown6 : Own w5.heap.size (w5.alloc (.cells #[] 2)) (.slice (some ⟨w5.heap.size, 0, none⟩) 0 0) [] := (Own.made (w := w5) []).resolve_right (by simp [maxLen])
      go_wp2_with ((at_builtin; refine app_arg rfl _ _ rfl w5.heap.size _ _ [] l rfl rfl hown6 (harg.later hE6) (by simp; omega) hE6.size ?_))
      intro v7 w7 hown7 hg7
      have hE7 : Ext w5 w7 := Below.grown hE6.out hg7 hE6.size (fun k hk => by simp [Value.ownBlock] at hk; omega)
      have hE8 : Ext w7 (w7.alloc (.cells #[.int .i64 0, .int .i64 0] 2)) := (Ext.refl w7).alloc _
      have hown8 := hown7.later hE8
      have hlit : ArgI (w7.alloc (.cells #[.int .i64 0, .int .i64 0] 2)) (.slice (some ⟨w7.heap.size, 0, none⟩) 2 2) [0, 0] := ArgI.lit [0, 0] 2 2 2 _ rfl rfl rfl (by simp [maxLen]) (Ext.refl _)
      clear hown6 harg hg7
      go_wp2_with ((at_builtin; refine app_arg rfl _ _ rfl w5.heap.size _ _ l [0, 0] rfl rfl hown8 hlit (by simp; omega) (Nat.le_trans hE7.size hE8.size) ?_))
      intro v9 w9 hown9 hg9
      have hE9 : Ext w5 w9 := Below.grown (hE7.trans hE8).out hg9 (hE7.trans hE8).size (fun k hk => by have := World.ownsRow.lt hown7 k hk; omega)
      have b9 := b5.later hE9
      clear b5 hE6 hE7 hE8 hown8 hlit hown7 hg9 hE9
      obtain ⟨ad, n, cap, b, off, hform, hn, had, hc⟩ := hown9.sl
      have hn' : n = l.length + 2 := by simpa using hn
      generalize hL : l ++ [0, 0] = L at HR hc hn
      clear hown9 hL
      subst hform
      have HAD := Lib.hid had; clear had
      have HC := Lib.hid hc; clear hc
      have HN := Lib.hid hn; clear hn
      have hn2 : n ≤ 300000 := by omega
      have hn3 : 2 ≤ n := by omega
      clear hn' hlen
      obtain rfl : ad = some ⟨b, off, none⟩ := (HAD.out).resolve_left (by omega)
      have c0 := b9.c0; have c1 := b9.c1; have c2 := b9.c2
      go_wp2
      go_loop [9, 10, 49] (fun x y t => ∃ (k : Nat) (u z : Int), k ≤ n ∧ t = .int .i64 k ∧ x = .int .i64 u ∧ y = .int .i64 z ∧ 0 ≤ u ∧ u ≤ s ∧ -a ≤ z ∧ z ≤ a ∧ smGo s a j u z (L.drop k) = true) (fun _ _ t => n - (intOf t).toNat)
      case atStart => exact ⟨0, q, q - p, by omega, rfl, rfl, rfl, q1, q2, r1, r2, HR.out⟩
      case round =>
        obtain ⟨k, u, z, hk, rfl, rfl, rfl, u1, u2, z1, z2, hsm⟩ := hrel
        by_cases hlt : k < n
        · have hkL : k < L.length := by rw [← HN.out]; exact hlt
          have hcell := (HC.out k hlt).2
          rw [List.drop_eq_getElem_cons hkL] at hsm
          have hget : L.getD k 0 = L[k] := by simp [hkL]
          rw [hget] at hcell
          generalize L[k] = x at hcell hsm
          simp only [smGo, Bool.and_eq_true, inR_iff] at hsm
          obtain ⟨⟨⟨⟨x1, x2⟩, x3, x4⟩, x5, x6⟩, hsm2⟩ := hsm
          have HSM := Lib.hid hsm2
          clear hsm2 hget
          have g1 : decide (x < 0) = false := by rw [decide_eq_false_iff_not]; omega
          have g2 : decide (s < x) = false := by rw [decide_eq_false_iff_not]; omega
          have g3 : decide (a < x - u) = false := by rw [decide_eq_false_iff_not]; omega
          have g4 : decide (x - u < -a) = false := by rw [decide_eq_false_iff_not]; omega
          have g5 : decide (j < x - u - z) = false := by rw [decide_eq_false_iff_not]; omega
          have g6 : decide (j < z - (x - u)) = false := by rw [decide_eq_false_iff_not]; omega
          go_wp2
          go_round
          case rel => exact ⟨k + 1, x, x - u, by omega, by go_num, rfl, rfl, by omega, by omega, by omega, by omega, HSM.out⟩
          case measure => simp [intOf]; omega
        · have hE := b9.ext
          clear hsm
          go_wp2
          go_ret
          exact ⟨rfl, hE⟩

end Go.Proofs.Ytcblahhfgkafhaa
