/-
  ControllerNew, walked.
  ControllerNew: New returns a controller at rest, or the specified error: for every input the law returns true. No condition.
-/
import Derived.Test.YtfmjmabaabmgcaaQB16
import Derived.Test.YtfmjmabaabmgcaaQB13
namespace Go.Proofs.Ytfmjmabaabmgcaa
open Go.RowKit
set_option maxRecDepth 100000

set_option maxHeartbeats 8000000 in
theorem lawNew (v : Value) (l : List Mot) (s a j : Int) (w : World) (h : SlM w v l) (hw : ∀ i, i < l.length → (l.getD i Mot.zero).wf) (hn : l.length ≤ 9223372036854775807) :
    Calls Try.prog 3 #[v, Lm s a j] w fun e w' => e = .returned (.bool true) ∧ Ext w w' := by
  have ks := small_any s a j (w.alloc (.cells #[.int .i64 s, .int .i64 a, .int .i64 j] 23))
  have KS := Lib.hid ks; clear ks
  have HS := Lib.hid h; have HW := Lib.hid hw
  clear h hw
  obtain ⟨ad, n, cap, b, off, hv, hnl, -⟩ := HS.out
  subst hv
  have hn2 : n ≤ 9223372036854775807 := by omega
  by_cases h8 : 8 < n
  · have h8' : decide ((n : Int) > 8) = true := by simp; omega
    go_enter Try.func3, Try.ntmps3
    go_wp2_with fail
    refine KS.out.mono ?_
    rintro e w1 ⟨rfl, hx1⟩
    have hE1 := ((Ext.refl w).alloc (.cells #[.int .i64 s, .int .i64 a, .int .i64 j] 23)).trans hx1
    clear hx1 KS
    go_wp2_with fail
    obtain ⟨W2, hW2, L2, hx2⟩ := B3.mk' w1 (.int .i64 s) (.int .i64 a) (.int .i64 j) 25
    rw [hW2]; clear hW2
    have hE2 := hE1.trans hx2
    generalize w1.heap.size = M at *
    clear hx2 hE1
    refine (awake_any W2).mono ?_
    rintro e w3 ⟨rfl, hx3⟩
    have hE3 := hE2.trans hx3
    go_wp2_with fail
    refine (awake_any _).mono ?_
    rintro e w4 ⟨rfl, hx4⟩
    go_wp2
    go_ret
    exact ⟨rfl, hE3.trans hx4⟩
  have h8' : decide ((n : Int) > 8) = false := by simp; omega
  have kc : ∀ w', Ext w w' → Calls Try.prog 13 #[.slice ad n cap] w' fun e w'' => e = .returned (.int .i64 (conn l)) ∧ Ext w' w'' := fun w' he => connected_any _ l w' (HS.out.later he) hn HW.out
  have KC := Lib.hid kc; clear kc
  have HNL := Lib.hid hnl
  have hlen : l.length ≤ 1000000000 := by omega
  clear hnl hn
  cases hV : vld s a j
  · have hc1 : chk l s a j = 1 := by unfold chk; rw [if_pos hV]
    have hck : chk l s a j ≠ 0 := by rw [hc1]; decide
    rw [hV] at KS
    clear hV
    go_enter Try.func3, Try.ntmps3
    go_wp2_with fail
    refine KS.out.mono ?_
    rintro e w1 ⟨rfl, hx1⟩
    have hE1 := ((Ext.refl w).alloc (.cells #[.int .i64 s, .int .i64 a, .int .i64 j] 23)).trans hx1
    clear hx1 KS
    go_wp2_with fail
    obtain ⟨W2, hW2, L2, hx2⟩ := B3.mk' w1 (.int .i64 s) (.int .i64 a) (.int .i64 j) 25
    rw [hW2]; clear hW2
    have hE2 := hE1.trans hx2
    generalize w1.heap.size = M at *
    clear hx2 hE1
    refine (awake_any W2).mono ?_
    rintro e w3 ⟨rfl, hx3⟩
    have L3 := L2.later hx3
    have hE3 := hE2.trans hx3
    clear hx3 L2 hE2
    have l0 := L3.c0; have l1 := L3.c1; have l2 := L3.c2
    go_wp2_with fail
    refine (new_err _ l s a j w3 (HS.out.later hE3) hlen HW.out hck).mono ?_
    rintro e w4 ⟨rfl, hE4⟩
    clear l0 l1 l2
    have L4 := L3.later hE4
    have hE4' := hE3.trans hE4
    go_wp2_with fail
    refine (KC.out _ hE4').mono ?_
    rintro e w5 ⟨rfl, hx5⟩
    have L5 := L4.later hx5
    have hE5 := hE4'.trans hx5
    clear L3 L4 hE4' hx5 KC

    go_wp2_with fail
    go_loopw [9, 10] (fun u t wr => u = .int .i64 1 ∧ t = .int .i64 0 ∧ wr = w5) (fun _ _ _ => 0)
    case atStart => exact ⟨rfl, rfl, rfl⟩
    case round =>
      obtain ⟨rfl, rfl, rfl⟩ := hrel
      by_cases hz : 0 < n
      · have hz' : decide ((0 : Int) < (n : Int)) = true := by simp; omega
        go_wp2
        go_ret
        exact ⟨rfl, hE5⟩
      · have hz' : decide ((0 : Int) < (n : Int)) = false := by simp; omega
        go_wp2
        go_ret
        exact ⟨rfl, hE5⟩
  by_cases hC : conn l = 0
  case neg =>
    have hc1 : chk l s a j = conn l := by unfold chk; rw [if_neg (by rw [hV]; decide), if_neg hC]
    have hck : chk l s a j ≠ 0 := by rw [hc1]; exact hC
    rw [hV] at KS
    clear hV
    go_enter Try.func3, Try.ntmps3
    go_wp2_with fail
    refine KS.out.mono ?_
    rintro e w1 ⟨rfl, hx1⟩
    have hE1 := ((Ext.refl w).alloc (.cells #[.int .i64 s, .int .i64 a, .int .i64 j] 23)).trans hx1
    clear hx1 KS
    go_wp2_with fail
    obtain ⟨W2, hW2, L2, hx2⟩ := B3.mk' w1 (.int .i64 s) (.int .i64 a) (.int .i64 j) 25
    rw [hW2]; clear hW2
    have hE2 := hE1.trans hx2
    generalize w1.heap.size = M at *
    clear hx2 hE1
    refine (awake_any W2).mono ?_
    rintro e w3 ⟨rfl, hx3⟩
    have L3 := L2.later hx3
    have hE3 := hE2.trans hx3
    clear hx3 L2 hE2
    have l0 := L3.c0; have l1 := L3.c1; have l2 := L3.c2
    go_wp2_with fail
    refine (new_err _ l s a j w3 (HS.out.later hE3) hlen HW.out hck).mono ?_
    rintro e w4 ⟨rfl, hE4⟩
    clear l0 l1 l2
    have L4 := L3.later hE4
    have hE4' := hE3.trans hE4
    go_wp2_with fail
    refine (KC.out _ hE4').mono ?_
    rintro e w5 ⟨rfl, hx5⟩
    have L5 := L4.later hx5
    have hE5 := hE4'.trans hx5
    clear L3 L4 hE4' hx5 KC
    generalize conn l = c at *
    go_wp2_with fail
    go_loopw [9, 10] (fun u t wr => u = .int .i64 c ∧ t = .int .i64 0 ∧ wr = w5) (fun _ _ _ => 0)
    case atStart => exact ⟨rfl, rfl, rfl⟩
    case round =>
      obtain ⟨rfl, rfl, rfl⟩ := hrel
      by_cases hz : 0 < n
      · have hz' : decide ((0 : Int) < (n : Int)) = true := by simp; omega
        go_wp2
        go_ret
        exact ⟨rfl, hE5⟩
      · have hz' : decide ((0 : Int) < (n : Int)) = false := by simp; omega
        go_wp2
        go_ret
        exact ⟨rfl, hE5⟩
  have hc1 : chk l s a j = stpTo l s a j l.length := by unfold chk; rw [if_neg (by rw [hV]; decide), if_pos hC]
  have hrg : ∀ i, i < l.length → (l.getD i Mot.zero).rng := fun i hi => rngTo_at (conn_zero hC).2.1 i hi
  have HRG := Lib.hid hrg
  have HC1 := Lib.hid hc1
  have hsb : -9000000000000000 ≤ s ∧ s ≤ 9000000000000000 := by have := (vld_iff s a j).1 hV; omega
  have HSB := Lib.hid hsb
  rw [hV] at KS
  rw [hC] at KC
  clear hV hC hrg hc1 hsb
  by_cases hck : chk l s a j = 0
  · go_enter Try.func3, Try.ntmps3
    go_wp2_with fail
    refine KS.out.mono ?_
    rintro e w1 ⟨rfl, hx1⟩
    have hE1 := ((Ext.refl w).alloc (.cells #[.int .i64 s, .int .i64 a, .int .i64 j] 23)).trans hx1
    clear hx1 KS
    go_wp2_with fail
    obtain ⟨W2, hW2, L2, hx2⟩ := B3.mk' w1 (.int .i64 s) (.int .i64 a) (.int .i64 j) 25
    rw [hW2]; clear hW2
    have hE2 := hE1.trans hx2
    generalize w1.heap.size = M at *
    clear hx2 hE1
    refine (awake_any W2).mono ?_
    rintro e w3 ⟨rfl, hx3⟩
    have L3 := L2.later hx3
    have hE3 := hE2.trans hx3
    clear hx3 L2 hE2
    have l0 := L3.c0; have l1 := L3.c1; have l2 := L3.c2
    go_wp2_with fail
    refine (new_ok _ l s a j w3 (HS.out.later hE3) hlen HW.out HRG.out hck).mono ?_
    rintro e w4 ⟨N, vm, rfl, hI4, hE4, hlm⟩
    have hA4 : CAt w3.heap.size w4 N vm (.slice none 0 0) (.slice none 0 0) (Ctl.new l s a j) := ⟨hI4, (fun b hb => by cases hb), fun b hb => (hlm b hb).2, new_Ok hck HW.out⟩
    have HA4 := Lib.hid hA4
    clear l0 l1 l2 hI4 hlm hA4
    have L4 := L3.later hE4
    have hE4' := hE3.trans hE4
    go_wp2_with fail
    refine (KC.out _ hE4').mono ?_
    rintro e w5 ⟨rfl, hx5⟩
    have L5 := L4.later hx5
    have hE5 := hE4'.trans hx5
    have HE45 := Lib.hid hx5
    clear L3 L4 hE4' hx5 KC
    go_wp2_with fail
    go_loopw [9, 10] (fun u t wr => ∃ (k : Nat) (x : Later w5), k ≤ n ∧ u = .int .i64 (stpTo l s a j k) ∧ t = .int .i64 k ∧ wr = x.w) (fun _ t _ => n - (intOf t).toNat)
    case atStart => exact ⟨0, Later.self w5, by omega, rfl, rfl, rfl⟩
    case round =>
      obtain ⟨k, x, hk, rfl, rfl, rfl⟩ := hrel
      by_cases hlt : k < n
      · have hlt' : decide ((k : Int) < (n : Int)) = true := by simp; omega
        by_cases hz : stpTo l s a j k = 0
        · have hnx : stpTo l s a j (k + 1) = stepsE (l.getD k Mot.zero).len ((l.getD k Mot.zero).spd s) a j := by
            show (if stpTo l s a j k = 0 then _ else _) = _
            rw [if_pos hz]
          rw [hz]
          have HX := Lib.hid hnx
          clear hnx
          obtain ⟨a1, n1, c1, b1, o1, hv1, hn1, h31, -, h41⟩ := (HS.out.later hE5).later x.ext
          cases hv1
          obtain ⟨hb1, hb2⟩ := h41 k hlt
          obtain rfl : ad = some ⟨b1, o1, none⟩ := h31.resolve_left (by omega)
          clear h31 h41 hn1 hz
          have hrg := HRG.out k (by rw [← HNL.out]; exact hlt)
          have HRK := Lib.hid hrg; clear hrg
          generalize l.getD k Mot.zero = p at *
          have Lx := L5.later x.ext
          have e0 := Lx.c0; have e1 := Lx.c1; have e2 := Lx.c2
          go_wp2_with fail
          obtain ⟨W6, hW6, L6, hx6⟩ := B3.mk' x.w (.int .i64 s) (.int .i64 a) (.int .i64 j) 25
          rw [hW6]; clear hW6
          have hM6 : w5.heap.size ≤ x.w.heap.size := x.ext.size
          have hs6 := hx6.size
          have hx6' : Ext w5 W6 := x.ext.trans hx6
          have Ly := Lx.later hx6
          have hb3 := hb2.later hb1 hx6
          generalize x.w.heap.size = M6 at *
          clear hb2 e0 e1 e2 Lx
          have e0 := Later.cell Ly.c0
          have g0 := Later.cell hb3.c0; have g1 := Later.cell hb3.c1; have g2 := Later.cell hb3.c2; have g3 := Later.cell hb3.c3; have g4 := Later.cell hb3.c4; have g5 := Later.cell hb3.c5; have g6 := Later.cell hb3.c6; have g7 := Later.cell hb3.c7; have g8 := Later.cell hb3.c8
          have ksp := fun w => speed_any p s w HSB.out.1 HSB.out.2
          have KSP := Lib.hid ksp; clear ksp
          refine wp_region_tail 7 (by kernel_rfl) (by kernel_rfl) (by kernel_rfl) ?_
          simp only [List.take_succ_cons, List.take_zero, List.drop_succ_cons, List.drop_zero]
          repeat (go_big_quiet_step ((go_at_call 14; exact Calls.later (KSP.out _))))
          refine wpQuiet_nil ?_
          rintro _ ⟨y, rfl⟩
          have L7 := L6.later y.ext
          have hx7 := hx6'.trans y.ext
          have hb4 := hb3.later (by omega) y.ext
          have hb1' : b1 < y.w.heap.size := Nat.lt_of_lt_of_le hb1 (Nat.le_trans hs6 y.ext.size)
          clear e0 g0 g1 g2 g3 g4 g5 g6 g7 g8 hb3 L6 Ly
          generalize y.w = W7 at *
          clear y
          have q0 := L7.c0; have q1 := L7.c1; have q2 := L7.c2; have z0 := L7.f0
          go_wp2_with fail
          have hO8 : Only (fun k => k = M6) W7 (W7.setCell ⟨M6, 0, none⟩ (.int .i64 (p.spd s))) := (Only.refl (fun k => k = M6) W7).set (.inl rfl) _
          have hE8 : Ext w5 (W7.setCell ⟨M6, 0, none⟩ (.int .i64 (p.spd s))) := hx7.setCell (p := ⟨M6, 0, none⟩) hM6 _
          have m0 : (W7.setCell ⟨M6, 0, none⟩ (.int .i64 (p.spd s))).cell? ⟨M6, 0, none⟩ = some (.int .i64 (p.spd s)) := by simp [go_sem, q0]
          have m1 : (W7.setCell ⟨M6, 0, none⟩ (.int .i64 (p.spd s))).cell? ⟨M6, 1, none⟩ = some (.int .i64 a) := cell_set_off _ _ (by decide) q1
          have m2 : (W7.setCell ⟨M6, 0, none⟩ (.int .i64 (p.spd s))).cell? ⟨M6, 2, none⟩ = some (.int .i64 j) := cell_set_off _ _ (by decide) q2
          generalize W7.setCell ⟨M6, 0, none⟩ (.int .i64 (p.spd s)) = W8 at *
          have hbn : ¬ b1 = M6 := by omega
          have o0 := Later.cell m0; have o1' := Later.cell m1; have o2 := Later.cell m2
          have hb5 := hb4.only hO8 hb1' hbn
          have g0 := Later.cell hb5.c0; have g1 := Later.cell hb5.c1; have g2 := Later.cell hb5.c2; have g3 := Later.cell hb5.c3; have g4 := Later.cell hb5.c4; have g5 := Later.cell hb5.c5; have g6 := Later.cell hb5.c6; have g7 := Later.cell hb5.c7; have g8 := Later.cell hb5.c8
          clear q0 q1 q2 z0 m0 m1 m2 L7
          refine wp_region_plan (fun w' => ∃ y : Later W8, w' = y.w) 10 [([0, 1, 2, 3, 5], 4), ([], 6)] [7, 8, 9] (by kernel_rfl) (by kernel_rfl) (by kernel_rfl) ⟨⟨_, (Ext.refl W8).drew⟩, rfl⟩ ?_
          simp only [List.take_succ_cons, List.take_zero, List.map_cons, List.map_nil, pickSeg, pickOp, List.getElem?_cons_zero, List.getElem?_cons_succ, Option.getD_some]
          refine segs_cons fun K hK => ?_
          repeat (go_big_quiet_step (fail))
          refine wpQuiet_nil ?_
          go_wp2_with ((go_at_call 16; with_reducible refine (rlength_any p _ HRK.out).mono ?_); rintro e w9 ⟨rfl, he9⟩)
          have he9' : Ext W8 w9 := ((Ext.refl W8).drew).trans he9
          refine onlyK_normal (hK _ _ ⟨⟨w9, he9'⟩, rfl⟩ ?_); clear hK K
          refine segs_cons fun K hK => wpQuiet_nil ?_
          go_wp2_with ((go_at_call 15; with_reducible refine (steps_any p.len (p.spd s) a j _).mono ?_); rintro e w10 ⟨v10, rfl, hown10, he10⟩)
          have hE10 := hE8.trans (he9'.trans he10)
          refine onlyK_normal (hK _ _ ⟨⟨w10, he9'.trans he10⟩, rfl⟩ ?_); clear hK K
          refine segs_last ?_
          simp only [List.drop_succ_cons, List.drop_zero]
          repeat (go_big_quiet_step (fail))
          refine wpQuiet_nil ?_
          clear o0 o1' o2 g0 g1 g2 g3 g4 g5 g6 g7 g8 hb4 hb5 hO8 hE8 hx7
          go_wp2
          go_roundw
          case rel => exact ⟨k + 1, ⟨w10, hE10⟩, by omega, by rw [HX.out], by go_num, rfl⟩
          case measure => simp [intOf]; omega
        · exact absurd (by rw [← hck, HC1.out]; exact (stpTo_keep hz l.length (by have := HNL.out; omega)).symm) hz
      · have hlt' : decide ((k : Int) < (n : Int)) = false := by simp; omega
        have hE : stpTo l s a j k = 0 := by rw [← hck, HC1.out, show k = l.length by have := HNL.out; omega]
        rw [hE]
        clear hE
        have hA5 := HA4.out.later (HE45.out.trans x.ext)
        have hE0x : Ext w3 x.w := hE4.trans (HE45.out.trans x.ext)
        have Lx := L5.later x.ext
        have hSx := (HS.out.later hE5).later x.ext
        generalize x.w = W6 at *
        have e0 := Lx.c0; have e1 := Lx.c1; have e2 := Lx.c2
        go_wp2_with fail
        refine (start_any _ l s a j _ hSx hlen HRG.out).mono ?_
        rintro e w8 ⟨G, rfl, hI8, hE8, hG8⟩
        have hP8 := Pair.start hA5 hI8 hE8 hE0x hG8 (fun hl b hb => Nat.lt_of_lt_of_le (HS.out.lt hl hb) hE3.size)
        have hE8' := hE0x.trans hE8
        clear e0 e1 e2 hI8 hE8 hA5 hSx
        go_wp2_with fail
        refine (same_any hP8 (Sim.new l s a j)).mono ?_
        rintro e w9 ⟨rfl, hP9, hO9⟩
        have hE9 := hP8.extG hE8' hO9
        clear hP8 hO9
        have hdl : (Ctl.new l s a j).doneL = [] := by simp [Ctl.doneL, Ctl.new]
        have kd := done_any hP9.c.inv hP9.c.ok.posOk (by show 0 ≤ 999999999; omega)
        rw [hdl] at kd
        go_wp2_with fail
        refine kd.mono ?_
        rintro e w10 ⟨v10, rfl, own10, hx10⟩
        obtain ⟨a10, n10, c10, b10, o10, hv10, hn10, -⟩ := own10.sl
        subst hv10
        simp only [List.length_nil] at hn10
        subst hn10
        clear kd
        go_wp2
        go_ret
        exact ⟨rfl, hE3.trans (hE9.trans hx10)⟩
  · go_enter Try.func3, Try.ntmps3
    go_wp2_with fail
    refine KS.out.mono ?_
    rintro e w1 ⟨rfl, hx1⟩
    have hE1 := ((Ext.refl w).alloc (.cells #[.int .i64 s, .int .i64 a, .int .i64 j] 23)).trans hx1
    clear hx1 KS
    go_wp2_with fail
    obtain ⟨W2, hW2, L2, hx2⟩ := B3.mk' w1 (.int .i64 s) (.int .i64 a) (.int .i64 j) 25
    rw [hW2]; clear hW2
    have hE2 := hE1.trans hx2
    generalize w1.heap.size = M at *
    clear hx2 hE1
    refine (awake_any W2).mono ?_
    rintro e w3 ⟨rfl, hx3⟩
    have L3 := L2.later hx3
    have hE3 := hE2.trans hx3
    clear hx3 L2 hE2
    have l0 := L3.c0; have l1 := L3.c1; have l2 := L3.c2
    go_wp2_with fail
    refine (new_err _ l s a j w3 (HS.out.later hE3) hlen HW.out hck).mono ?_
    rintro e w4 ⟨rfl, hE4⟩
    clear l0 l1 l2
    have L4 := L3.later hE4
    have hE4' := hE3.trans hE4
    go_wp2_with fail
    refine (KC.out _ hE4').mono ?_
    rintro e w5 ⟨rfl, hx5⟩
    have L5 := L4.later hx5
    have hE5 := hE4'.trans hx5
    clear L3 L4 hE4' hx5 KC
    generalize chk l s a j = c at *
    go_wp2_with fail
    go_loopw [9, 10] (fun u t wr => ∃ (k : Nat) (x : Later w5), k ≤ n ∧ u = .int .i64 (stpTo l s a j k) ∧ t = .int .i64 k ∧ wr = x.w) (fun _ t _ => n - (intOf t).toNat)
    case atStart => exact ⟨0, Later.self w5, by omega, rfl, rfl, rfl⟩
    case round =>
      obtain ⟨k, x, hk, rfl, rfl, rfl⟩ := hrel
      by_cases hlt : k < n
      · have hlt' : decide ((k : Int) < (n : Int)) = true := by simp; omega
        by_cases hz : stpTo l s a j k = 0
        · have hnx : stpTo l s a j (k + 1) = stepsE (l.getD k Mot.zero).len ((l.getD k Mot.zero).spd s) a j := by
            show (if stpTo l s a j k = 0 then _ else _) = _
            rw [if_pos hz]
          rw [hz]
          have HX := Lib.hid hnx
          clear hnx
          obtain ⟨a1, n1, c1, b1, o1, hv1, hn1, h31, -, h41⟩ := (HS.out.later hE5).later x.ext
          cases hv1
          obtain ⟨hb1, hb2⟩ := h41 k hlt
          obtain rfl : ad = some ⟨b1, o1, none⟩ := h31.resolve_left (by omega)
          clear h31 h41 hn1 hz
          have hrg := HRG.out k (by rw [← HNL.out]; exact hlt)
          have HRK := Lib.hid hrg; clear hrg
          generalize l.getD k Mot.zero = p at *
          have Lx := L5.later x.ext
          have e0 := Lx.c0; have e1 := Lx.c1; have e2 := Lx.c2
          go_wp2_with fail
          obtain ⟨W6, hW6, L6, hx6⟩ := B3.mk' x.w (.int .i64 s) (.int .i64 a) (.int .i64 j) 25
          rw [hW6]; clear hW6
          have hM6 : w5.heap.size ≤ x.w.heap.size := x.ext.size
          have hs6 := hx6.size
          have hx6' : Ext w5 W6 := x.ext.trans hx6
          have Ly := Lx.later hx6
          have hb3 := hb2.later hb1 hx6
          generalize x.w.heap.size = M6 at *
          clear hb2 e0 e1 e2 Lx
          have e0 := Later.cell Ly.c0
          have g0 := Later.cell hb3.c0; have g1 := Later.cell hb3.c1; have g2 := Later.cell hb3.c2; have g3 := Later.cell hb3.c3; have g4 := Later.cell hb3.c4; have g5 := Later.cell hb3.c5; have g6 := Later.cell hb3.c6; have g7 := Later.cell hb3.c7; have g8 := Later.cell hb3.c8
          have ksp := fun w => speed_any p s w HSB.out.1 HSB.out.2
          have KSP := Lib.hid ksp; clear ksp
          refine wp_region_tail 7 (by kernel_rfl) (by kernel_rfl) (by kernel_rfl) ?_
          simp only [List.take_succ_cons, List.take_zero, List.drop_succ_cons, List.drop_zero]
          repeat (go_big_quiet_step ((go_at_call 14; exact Calls.later (KSP.out _))))
          refine wpQuiet_nil ?_
          rintro _ ⟨y, rfl⟩
          have L7 := L6.later y.ext
          have hx7 := hx6'.trans y.ext
          have hb4 := hb3.later (by omega) y.ext
          have hb1' : b1 < y.w.heap.size := Nat.lt_of_lt_of_le hb1 (Nat.le_trans hs6 y.ext.size)
          clear e0 g0 g1 g2 g3 g4 g5 g6 g7 g8 hb3 L6 Ly
          generalize y.w = W7 at *
          clear y
          have q0 := L7.c0; have q1 := L7.c1; have q2 := L7.c2; have z0 := L7.f0
          go_wp2_with fail
          have hO8 : Only (fun k => k = M6) W7 (W7.setCell ⟨M6, 0, none⟩ (.int .i64 (p.spd s))) := (Only.refl (fun k => k = M6) W7).set (.inl rfl) _
          have hE8 : Ext w5 (W7.setCell ⟨M6, 0, none⟩ (.int .i64 (p.spd s))) := hx7.setCell (p := ⟨M6, 0, none⟩) hM6 _
          have m0 : (W7.setCell ⟨M6, 0, none⟩ (.int .i64 (p.spd s))).cell? ⟨M6, 0, none⟩ = some (.int .i64 (p.spd s)) := by simp [go_sem, q0]
          have m1 : (W7.setCell ⟨M6, 0, none⟩ (.int .i64 (p.spd s))).cell? ⟨M6, 1, none⟩ = some (.int .i64 a) := cell_set_off _ _ (by decide) q1
          have m2 : (W7.setCell ⟨M6, 0, none⟩ (.int .i64 (p.spd s))).cell? ⟨M6, 2, none⟩ = some (.int .i64 j) := cell_set_off _ _ (by decide) q2
          generalize W7.setCell ⟨M6, 0, none⟩ (.int .i64 (p.spd s)) = W8 at *
          have hbn : ¬ b1 = M6 := by omega
          have o0 := Later.cell m0; have o1' := Later.cell m1; have o2 := Later.cell m2
          have hb5 := hb4.only hO8 hb1' hbn
          have g0 := Later.cell hb5.c0; have g1 := Later.cell hb5.c1; have g2 := Later.cell hb5.c2; have g3 := Later.cell hb5.c3; have g4 := Later.cell hb5.c4; have g5 := Later.cell hb5.c5; have g6 := Later.cell hb5.c6; have g7 := Later.cell hb5.c7; have g8 := Later.cell hb5.c8
          clear q0 q1 q2 z0 m0 m1 m2 L7
          refine wp_region_plan (fun w' => ∃ y : Later W8, w' = y.w) 10 [([0, 1, 2, 3, 5], 4), ([], 6)] [7, 8, 9] (by kernel_rfl) (by kernel_rfl) (by kernel_rfl) ⟨⟨_, (Ext.refl W8).drew⟩, rfl⟩ ?_
          simp only [List.take_succ_cons, List.take_zero, List.map_cons, List.map_nil, pickSeg, pickOp, List.getElem?_cons_zero, List.getElem?_cons_succ, Option.getD_some]
          refine segs_cons fun K hK => ?_
          repeat (go_big_quiet_step (fail))
          refine wpQuiet_nil ?_
          go_wp2_with ((go_at_call 16; with_reducible refine (rlength_any p _ HRK.out).mono ?_); rintro e w9 ⟨rfl, he9⟩)
          have he9' : Ext W8 w9 := ((Ext.refl W8).drew).trans he9
          refine onlyK_normal (hK _ _ ⟨⟨w9, he9'⟩, rfl⟩ ?_); clear hK K
          refine segs_cons fun K hK => wpQuiet_nil ?_
          go_wp2_with ((go_at_call 15; with_reducible refine (steps_any p.len (p.spd s) a j _).mono ?_); rintro e w10 ⟨v10, rfl, hown10, he10⟩)
          have hE10 := hE8.trans (he9'.trans he10)
          refine onlyK_normal (hK _ _ ⟨⟨w10, he9'.trans he10⟩, rfl⟩ ?_); clear hK K
          refine segs_last ?_
          simp only [List.drop_succ_cons, List.drop_zero]
          repeat (go_big_quiet_step (fail))
          refine wpQuiet_nil ?_
          clear o0 o1' o2 g0 g1 g2 g3 g4 g5 g6 g7 g8 hb4 hb5 hO8 hE8 hx7
          go_wp2
          go_roundw
          case rel => exact ⟨k + 1, ⟨w10, hE10⟩, by omega, by rw [HX.out], by go_num, rfl⟩
          case measure => simp [intOf]; omega
        · have hE : stpTo l s a j k = c := by rw [HC1.out]; exact (stpTo_keep hz l.length (by have := HNL.out; omega)).symm
          rw [hE]
          clear hE hz
          go_wp2
          go_ret
          exact ⟨rfl, hE5.trans x.ext⟩
      · have hlt' : decide ((k : Int) < (n : Int)) = false := by simp; omega
        have hE : stpTo l s a j k = c := by rw [HC1.out, show k = l.length by have := HNL.out; omega]
        rw [hE]
        clear hE
        go_wp2
        go_ret
        exact ⟨rfl, hE5.trans x.ext⟩

end Go.Proofs.Ytfmjmabaabmgcaa

namespace Go.Proofs.Ytfmjmabaabmgcaa
open Go.ChangeShapes Go.WideShapes Go.ChangeAt Go.RowKit Go.Joins

set_option maxRecDepth 100000 in
theorem liftControllerNew (os : Os) (started : os.Started) (H : Type) (enc : TypeId × Value → H) :
    ReturnsInHanded {} Try.checked os 3 .any (Rows.controllerNewSpec.pre6 enc Try.prog Try.f3 Rows.controllerNewRow.domain false) (Rows.controllerNewSpec.post enc Try.prog Try.f3 false true false false) := by
  refine returnsInHanded_of_change (C := Try.checked) Try.own started (by kernel_rfl) Try.func3
    (ChangeSpec.witness6 (enc := enc) (C := Try.checked) false ⟨#[], #[.slice none 0 0, .agg #[.int .i64 0, .int .i64 0, .int .i64 0]], []⟩ 8 (by kernel_rfl) (by kernel_rfl) (by kernel_rfl) (by kernel_rfl)) ?_
  intro W base args ds gs before hval0 hW hcnd _
  have hval : ∀ (j : Nat) t v, Try.f3.params[j]? = some t → args[j]? = some v → Value.okWide Try.prog W .any base t v := hval0
  have hW' := hW
  obtain ⟨p, q, hA0, hV, rfl, hfz, hnd⟩ := hW
  have hA : DataW.TrodAll enc Try.prog W 0 (fun _ => true) true Try.f3.params.toList args.toList ds p := hA0
  rw [Try.params3] at hA hval
  obtain ⟨v0, vs0, d0, ds0, p0, q0, hargs, rfl, rfl, h0, r0⟩ := trodAll_cons hA
  obtain ⟨v1, vs1, d1, ds1, p1, q1, rfl, rfl, rfl, h1, r1⟩ := trodAll_cons r0
  obtain ⟨rfl, rfl, rfl⟩ := trodAll_nil r1
  obtain rfl : args = #[v0, v1] := by cases args; simp_all
  obtain ⟨rfl, rfl⟩ := trodVars_none hV
  have lt0 : ∀ x ∈ p0, x.block < W.heap.size := by obtain ⟨m, hm⟩ := h0; exact DataW.trod_lt m _ _ _ hm
  have lt1 : ∀ x ∈ p1, x.block < W.heap.size := by obtain ⟨m, hm⟩ := h1; exact DataW.trod_lt m _ _ _ hm
  obtain ⟨l0, a0, w0, n0⟩ := argM_of (hval 0 22 v0 rfl rfl) h0
  obtain ⟨x1, y1, z1, e1⟩ := arr3_of Try.underlying23 (by kernel_rfl) (hval 1 23 v1 rfl rfl) h1
  subst e1
  clear hA0 hval0
  refine (lawNew v0 l0 x1 y1 z1 W a0 w0 n0).mono fun e W' ⟨he, bel⟩ => ?_
  subst he
  exact ⟨_, rfl, _, _, _, [], _, [], hW', trodAll_mk1 (shut_bool Try.underlying4 _), (trodAll_cons_mk (Below.trod Try.laidOut (by kernel_rfl) (of_decide_eq_true (by kernel_rfl)) h0 bel.out lt0) (trodAll_cons_mk (Below.trod Try.laidOut (by kernel_rfl) (of_decide_eq_true (by kernel_rfl)) h1 bel.out lt1) trodAll_mk0)), rfl, bel.out.frame _, fun h => by cases h⟩

/-- The statement. -/
theorem cnew_holds : Rows.ControllerNewSaid :=
  OpenClaim.holds_of_wide 3 Try.f3 rfl rfl rfl rfl rfl rfl rfl ⟨rfl, rfl, rfl, rfl, rfl⟩ rfl rfl rfl rfl rfl (by kernel_rfl) Try.func3 (by kernel_rfl)
    (of_decide_eq_true (by kernel_rfl)) (by unfold Func.isWrapper; first | (rw [if_pos (by decide +kernel)]; kernel_rfl) | (rw [if_neg (by decide +kernel)]; exact ⟨rfl, rfl⟩))
    (fun os started H enc _ => liftControllerNew os started H enc)

#print axioms cnew_holds
end Go.Proofs.Ytfmjmabaabmgcaa
