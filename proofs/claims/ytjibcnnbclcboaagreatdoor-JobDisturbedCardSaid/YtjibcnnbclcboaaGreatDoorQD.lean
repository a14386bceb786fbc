/-
  The law JobDisturbed, walked: for every trip and all events it returns true.
  JobDisturbed: Disturbed returns the pieces that controllers perform by the rule, or the specified error: for every input the law returns true, and its arguments stay as they were. Condition: the listed tables of Go's library are as the program's text lays them (the card ties them).
-/
import Derived.Test.YtjibcnnbclcboaaGreatDoorQB34
import Derived.Test.YtjibcnnbclcboaaGreatDoorQB36
import Derived.Test.YtjibcnnbclcboaaGreatDoorQB35
import Derived.Test.YtjibcnnbclcboaaGreatDoorCards
import Derived.Test.YtjibcnnbclcboaaGreatDoorTie
import Derived.OpenShut
import Derived.LaidMore
import Derived.Lay
import Derived.SevenTiedAt
import Derived.Stop.Joined
namespace Go.Proofs.YtjibcnnbclcboaaGreatDoor
open Go.RowKit
set_option maxRecDepth 8000
set_option maxHeartbeats 16000000 in
theorem jdisturbed_law {x y z : Int} {vw : Value} {s a j safe : Int} {ways : List Way} {ve : Value} {es : List (Int × Int)} {w : World} (h : LawIn x y z vw s a j safe ways ve es w) :
    Calls Tryz.prog 3 #[TripV x y z vw s a j safe, ve] w fun e w' => e = .returned (.bool true) ∧ Ext w w' := by
  have H := Lib.hid h
  obtain ⟨xe, ce, hve⟩ := slE_is h.se
  have kf := fun (w' : World) (he : Ext w w') => tfast_any x y z vw s a j safe ways w' (h.sw.later he) h.small h.wl
  have kv := fun (w' : World) (he : Ext w w') => evalid_any ve es w' (h.se.later he) (by have := h.el; omega)
  have hel : es.length ≤ 9000000000000 := by have := h.el; omega
  obtain ⟨xw, cw, hvw⟩ := slW_is h.sw
  clear h
  subst hve hvw
  obtain ⟨W1, hW1, hb1, hE1, hz1⟩ := row_alloc w #[.int .i16 x, .int .i16 y, .int .i16 z, .slice xw ways.length cw, .int .i64 s, .int .i64 a, .int .i64 j, .int .i64 safe] 28
  have HB1 := Lib.hid hb1; have HE1 := Lib.hid hE1; have KF := Lib.hid kf; have KV := Lib.hid kv
  clear hb1 hE1 hz1 kf kv
  go_enter Tryz.func3, Tryz.ntmps3
  unfold TripV
  go_wp2_with fail
  clear hW1
  refine (awake_any W1).mono ?_
  rintro e W2 ⟨rfl, hx2⟩
  have HE2 := Lib.hid (HE1.out.trans hx2); have HB2 := Lib.hid (heap_ext hx2 HB1.out)
  have KF2 := Lib.hid (KF.out W2 HE2.out)
  unfold TripV at KF2
  clear HE1 HB1 hx2 KF
  clear W1
  have b2 := HB2.out
  have t0 := cell_at b2 0 (v := .int .i16 x) rfl; have t1 := cell_at b2 1 (v := .int .i16 y) rfl; have t2 := cell_at b2 2 (v := .int .i16 z) rfl; have t3 := cell_at b2 3 (v := .slice xw ways.length cw) rfl; have t4 := cell_at b2 4 (v := .int .i64 s) rfl; have t5 := cell_at b2 5 (v := .int .i64 a) rfl; have t6 := cell_at b2 6 (v := .int .i64 j) rfl; have t7 := cell_at b2 7 (v := .int .i64 safe) rfl
  clear b2
  cases hf : fastB ways s a j safe
  · rw [hf] at KF2
    go_wp2_with ((go_at_call 7; with_reducible refine (KF2.out).mono ?_); rintro e W3 ⟨rfl, hx3⟩)
    refine (awake_any W3).mono ?_
    rintro e W4 ⟨rfl, hx4⟩
    go_wp2
    go_ret
    exact ⟨rfl, (HE2.out.trans hx3).trans hx4⟩
  rw [hf] at KF2
  have hwl := fast_len hf
  have HF := Lib.hid hf
  clear hf
  have HWF : Hid (WfL (route (x, y, z) ways)) := Lib.hid (route_wf H.out.small H.out.near hwl)
  have HRL : Hid ((route (x, y, z) ways).length = ways.length) := Lib.hid (routeGo_length _ _ _)
  cases hl : decide ((es.length : Int) > 4)
  · cases hv : validE es
    · go_wp2_with ((go_at_call 7; with_reducible refine (KF2.out).mono ?_); rintro e W3 ⟨rfl, hx3⟩; have HE3 := Lib.hid (HE2.out.trans hx3); have HB3 := Lib.hid (heap_ext hx3 HB2.out); have b3 := HB3.out; have u4 := cell_at b3 4 (v := .int .i64 s) rfl; have u5 := cell_at b3 5 (v := .int .i64 a) rfl; have u6 := cell_at b3 6 (v := .int .i64 j) rfl; clear b3)
      clear t0 t1 t2 t3 t4 t5 t6 t7
      obtain ⟨V, hV, L1, hEV⟩ := B3.mk' W3 (.int .i64 s) (.int .i64 a) (.int .i64 j) 32
      rw [hV]; clear hV
      have HBV := Lib.hid (heap_ext hEV HB3.out); have HLV := Lib.hid L1; have HEV := Lib.hid (HE3.out.trans hEV)
      clear L1 hEV
      generalize W3.heap.size = LB at *
      have bV := HBV.out; have lV := HLV.out
      have k0 := Later.block bV 0 (v := .int .i16 x) rfl; have k1 := Later.block bV 1 (v := .int .i16 y) rfl; have k2 := Later.block bV 2 (v := .int .i16 z) rfl; have k3 := Later.block bV 3 (v := .slice xw ways.length cw) rfl; have k4 := Later.block bV 4 (v := .int .i64 s) rfl; have k5 := Later.block bV 5 (v := .int .i64 a) rfl; have k6 := Later.block bV 6 (v := .int .i64 j) rfl; have k7 := Later.block bV 7 (v := .int .i64 safe) rfl
      have l0 := Later.cell lV.c0; have l1 := Later.cell lV.c1; have l2 := Later.cell lV.c2
      clear bV lV
      refine wp_region_tree (fun w' => ∃ y : Later V, w' = y.w) 12 (.one [0, 2, 3, 5, 6] 1 (.one [] 4 (.one [] 7 (.leaf [8, 9, 10, 11])))) (by kernel_rfl) (by kernel_rfl) (by kernel_rfl) ⟨⟨_, (Ext.refl V).drew⟩, rfl⟩ ?_
      simp only [List.take_succ_cons, List.take_zero]
      refine tree_one fun K hK => ?_
      simp only [List.map_cons, List.map_nil, pickOp, List.getElem?_cons_zero, List.getElem?_cons_succ, Option.getD_some]
      repeat (go_big_quiet_step (fail))
      refine wpQuiet_nil ?_
      clear k0 k1 k2 k3 k4 k5 k6 k7 l0 l1 l2
      have hxV : Ext V V.drew := (Ext.refl V).drew
      have KM := Lib.hid (motions_any x y z _ s a j safe ways V.drew (H.out.sw.later (HEV.out.trans hxV)) H.out.small hwl H.out.near)
      unfold TripV at KM
      go_wp2_with ((go_at_call 10; with_reducible refine (KM.out).mono ?_); rintro e V2 ⟨v2, rfl, own2, hy2⟩)
      clear KM
      have hxV2 := hxV.trans hy2
      refine onlyK_normal (hK _ _ ⟨⟨_, hxV2⟩, rfl⟩ ?_); clear hK K
      refine tree_one0 fun K hK => ?_
      simp only [pickOp, List.getElem?_cons_zero, List.getElem?_cons_succ, Option.getD_some]
      have KE := Lib.hid (events_any _ es V2 (H.out.se.later (HEV.out.trans hxV2)) H.out.el)
      go_wp2_with ((go_at_call 11; with_reducible refine (KE.out).mono ?_); rintro e V3 ⟨v3, rfl, own3, hy3⟩)
      clear KE
      have hxV3 := hxV2.trans hy3
      refine onlyK_normal (hK _ _ ⟨⟨_, hxV3⟩, rfl⟩ ?_); clear hK K
      refine tree_one0 fun K hK => ?_
      simp only [pickOp, List.getElem?_cons_zero, List.getElem?_cons_succ, Option.getD_some]
      have KJ := Lib.hid (jdist_any v2 v3 (route (x, y, z) ways) es s a j safe V3 (own2.sl.later hy3) own3.sl (by rw [HRL.out]; omega) (by omega) HWF.out H.out.sf)
      go_wp2_with ((go_at_call 9; with_reducible refine (KJ.out).mono ?_); rintro e V4 ⟨v4, rfl, S4, hy4, cap4⟩)
      clear KJ
      have hxV4 := hxV3.trans hy4
      refine onlyK_normal (hK _ _ ⟨⟨_, hxV4⟩, rfl⟩ ?_); clear hK K
      have HS4 := Lib.hid S4
      have HC4 := Lib.hid cap4
      clear S4 cap4 own2 own3 hy2 hy3 hy4 hxV hxV2 hxV3
      refine tree_leaf ?_
      simp only [List.map_cons, List.map_nil, pickOp, List.getElem?_cons_zero, List.getElem?_cons_succ, Option.getD_some]
      repeat (go_big_quiet_step (fail))
      refine wpQuiet_nil ?_
      simp only [List.drop_succ_cons, List.drop_zero]
      have HX4 := Lib.hid hxV4
      clear hxV4
      have KV4 := Lib.hid (KV.out V4 (HEV.out.trans HX4.out))
      rw [hv] at KV4
      have hR : distE (route (x, y, z) ways) s a j safe es = (1, []) := by unfold distE; rw [if_neg (by rw [hv]; decide)]
      rw [hR] at HS4 ⊢
      obtain ⟨x4, c4, hv4⟩ := HS4.out.is
      subst hv4
      clear hR
      go_wp2_with ((go_at_call 8; with_reducible refine (KV4.out).mono ?_); rintro e V5 ⟨rfl, hy5⟩)
      go_ret
      exact ⟨rfl, (HEV.out.trans HX4.out).trans hy5⟩
    · go_wp2_with ((go_at_call 7; with_reducible refine (KF2.out).mono ?_); rintro e W3 ⟨rfl, hx3⟩; have HE3 := Lib.hid (HE2.out.trans hx3); have HB3 := Lib.hid (heap_ext hx3 HB2.out); have b3 := HB3.out; have u4 := cell_at b3 4 (v := .int .i64 s) rfl; have u5 := cell_at b3 5 (v := .int .i64 a) rfl; have u6 := cell_at b3 6 (v := .int .i64 j) rfl; clear b3)
      clear t0 t1 t2 t3 t4 t5 t6 t7
      obtain ⟨V, hV, L1, hEV⟩ := B3.mk' W3 (.int .i64 s) (.int .i64 a) (.int .i64 j) 32
      rw [hV]; clear hV
      have HBV := Lib.hid (heap_ext hEV HB3.out); have HLV := Lib.hid L1; have HEV := Lib.hid (HE3.out.trans hEV)
      clear L1 hEV
      generalize W3.heap.size = LB at *
      have bV := HBV.out; have lV := HLV.out
      have k0 := Later.block bV 0 (v := .int .i16 x) rfl; have k1 := Later.block bV 1 (v := .int .i16 y) rfl; have k2 := Later.block bV 2 (v := .int .i16 z) rfl; have k3 := Later.block bV 3 (v := .slice xw ways.length cw) rfl; have k4 := Later.block bV 4 (v := .int .i64 s) rfl; have k5 := Later.block bV 5 (v := .int .i64 a) rfl; have k6 := Later.block bV 6 (v := .int .i64 j) rfl; have k7 := Later.block bV 7 (v := .int .i64 safe) rfl
      have l0 := Later.cell lV.c0; have l1 := Later.cell lV.c1; have l2 := Later.cell lV.c2
      clear bV lV
      refine wp_region_tree (fun w' => ∃ y : Later V, w' = y.w) 12 (.one [0, 2, 3, 5, 6] 1 (.one [] 4 (.one [] 7 (.leaf [8, 9, 10, 11])))) (by kernel_rfl) (by kernel_rfl) (by kernel_rfl) ⟨⟨_, (Ext.refl V).drew⟩, rfl⟩ ?_
      simp only [List.take_succ_cons, List.take_zero]
      refine tree_one fun K hK => ?_
      simp only [List.map_cons, List.map_nil, pickOp, List.getElem?_cons_zero, List.getElem?_cons_succ, Option.getD_some]
      repeat (go_big_quiet_step (fail))
      refine wpQuiet_nil ?_
      clear k0 k1 k2 k3 k4 k5 k6 k7 l0 l1 l2
      have hxV : Ext V V.drew := (Ext.refl V).drew
      have KM := Lib.hid (motions_any x y z _ s a j safe ways V.drew (H.out.sw.later (HEV.out.trans hxV)) H.out.small hwl H.out.near)
      unfold TripV at KM
      go_wp2_with ((go_at_call 10; with_reducible refine (KM.out).mono ?_); rintro e V2 ⟨v2, rfl, own2, hy2⟩)
      clear KM
      have hxV2 := hxV.trans hy2
      refine onlyK_normal (hK _ _ ⟨⟨_, hxV2⟩, rfl⟩ ?_); clear hK K
      refine tree_one0 fun K hK => ?_
      simp only [pickOp, List.getElem?_cons_zero, List.getElem?_cons_succ, Option.getD_some]
      have KE := Lib.hid (events_any _ es V2 (H.out.se.later (HEV.out.trans hxV2)) H.out.el)
      go_wp2_with ((go_at_call 11; with_reducible refine (KE.out).mono ?_); rintro e V3 ⟨v3, rfl, own3, hy3⟩)
      clear KE
      have hxV3 := hxV2.trans hy3
      refine onlyK_normal (hK _ _ ⟨⟨_, hxV3⟩, rfl⟩ ?_); clear hK K
      refine tree_one0 fun K hK => ?_
      simp only [pickOp, List.getElem?_cons_zero, List.getElem?_cons_succ, Option.getD_some]
      have KJ := Lib.hid (jdist_any v2 v3 (route (x, y, z) ways) es s a j safe V3 (own2.sl.later hy3) own3.sl (by rw [HRL.out]; omega) (by omega) HWF.out H.out.sf)
      go_wp2_with ((go_at_call 9; with_reducible refine (KJ.out).mono ?_); rintro e V4 ⟨v4, rfl, S4, hy4, cap4⟩)
      clear KJ
      have hxV4 := hxV3.trans hy4
      refine onlyK_normal (hK _ _ ⟨⟨_, hxV4⟩, rfl⟩ ?_); clear hK K
      have HS4 := Lib.hid S4
      have HC4 := Lib.hid cap4
      clear S4 cap4 own2 own3 hy2 hy3 hy4 hxV hxV2 hxV3
      refine tree_leaf ?_
      simp only [List.map_cons, List.map_nil, pickOp, List.getElem?_cons_zero, List.getElem?_cons_succ, Option.getD_some]
      repeat (go_big_quiet_step (fail))
      refine wpQuiet_nil ?_
      simp only [List.drop_succ_cons, List.drop_zero]
      have HX4 := Lib.hid hxV4
      clear hxV4
      have KV4 := Lib.hid (KV.out V4 (HEV.out.trans HX4.out))
      rw [hv] at KV4
      have hR : distE (route (x, y, z) ways) s a j safe es = dist (route (x, y, z) ways) s a j safe es := by unfold distE; rw [if_pos hv]
      rw [hR] at HS4 ⊢
      have HDL : Hid ((dist (route (x, y, z) ways) s a j safe es).2.length ≤ 1000000) := Lib.hid (dist_len HWF.out H.out.sf (validE_ok hv).2)
      clear hR
      obtain ⟨R, hRR⟩ : ∃ R, R = dist (route (x, y, z) ways) s a j safe es := ⟨_, rfl⟩
      rw [← hRR] at HS4 HDL ⊢
      have HRR := Lib.hid hRR; clear hRR
      obtain ⟨x4, c4, hv4⟩ := HS4.out.is
      subst hv4
      have HVV := Lib.hid hv
      go_wp2_with ((go_at_call 8; with_reducible refine (KV4.out).mono ?_); rintro e V5 ⟨rfl, hy5⟩)
      clear KV4 hv
      have HS5 := Lib.hid (HS4.out.later hy5)
      have HX5 := Lib.hid (HX4.out.trans hy5)
      have HBV5 := Lib.hid (heap_ext HX5.out HBV.out); have HLV5 := Lib.hid (HLV.out.later HX5.out); have HEV5 := Lib.hid (HEV.out.trans HX5.out)
      clear HS4 HX4 HBV HLV HEV hy5 HX5 HC4
      clear V4 V V2 V3
      obtain ⟨V, rfl⟩ : ∃ X, X = V5 := ⟨_, rfl⟩
      obtain ⟨HBV, HLV, HEV⟩ := And.intro HBV5 (And.intro HLV5 HEV5)
      clear HBV5 HLV5 HEV5
      have bV := HBV.out; have lV := HLV.out
      have k0 := Later.block bV 0 (v := .int .i16 x) rfl; have k1 := Later.block bV 1 (v := .int .i16 y) rfl; have k2 := Later.block bV 2 (v := .int .i16 z) rfl; have k3 := Later.block bV 3 (v := .slice xw ways.length cw) rfl; have k4 := Later.block bV 4 (v := .int .i64 s) rfl; have k5 := Later.block bV 5 (v := .int .i64 a) rfl; have k6 := Later.block bV 6 (v := .int .i64 j) rfl; have k7 := Later.block bV 7 (v := .int .i64 safe) rfl
      have l0 := Later.cell lV.c0; have l1 := Later.cell lV.c1; have l2 := Later.cell lV.c2
      clear bV lV
      refine wp_region_tree (fun w' => ∃ y : Later V, w' = y.w) 12 (.one [0, 2, 3, 5, 6] 1 (.one [] 4 (.one [] 7 (.leaf [8, 9, 10, 11])))) (by kernel_rfl) (by kernel_rfl) (by kernel_rfl) ⟨⟨_, (Ext.refl V).drew⟩, rfl⟩ ?_
      simp only [List.take_succ_cons, List.take_zero]
      refine tree_one fun K hK => ?_
      simp only [List.map_cons, List.map_nil, pickOp, List.getElem?_cons_zero, List.getElem?_cons_succ, Option.getD_some]
      repeat (go_big_quiet_step (fail))
      refine wpQuiet_nil ?_
      clear k0 k1 k2 k3 k4 k5 k6 k7 l0 l1 l2
      have hxV : Ext V V.drew := (Ext.refl V).drew
      have KM := Lib.hid (motions_any x y z _ s a j safe ways V.drew (H.out.sw.later (HEV.out.trans hxV)) H.out.small hwl H.out.near)
      unfold TripV at KM
      go_wp2_with ((go_at_call 10; with_reducible refine (KM.out).mono ?_); rintro e V2 ⟨v2, rfl, own2, hy2⟩)
      clear KM
      have hxV2 := hxV.trans hy2
      refine onlyK_normal (hK _ _ ⟨⟨_, hxV2⟩, rfl⟩ ?_); clear hK K
      refine tree_one0 fun K hK => ?_
      simp only [pickOp, List.getElem?_cons_zero, List.getElem?_cons_succ, Option.getD_some]
      have KE := Lib.hid (cloneE_any _ es V2 (H.out.se.later (HEV.out.trans hxV2)) H.out.ne H.out.el)
      go_wp2_with ((go_at_call 13; with_reducible refine (KE.out).mono ?_); rintro e V3 ⟨v3, rfl, own3, hy3⟩)
      clear KE
      have hxV3 := hxV2.trans hy3
      refine onlyK_normal (hK _ _ ⟨⟨_, hxV3⟩, rfl⟩ ?_); clear hK K
      refine tree_one0 fun K hK => ?_
      simp only [pickOp, List.getElem?_cons_zero, List.getElem?_cons_succ, Option.getD_some]
      have KJ := Lib.hid (ldist_any v2 v3 (route (x, y, z) ways) es s a j safe V3 (own2.sl.later hy3) own2.cap own3.sl (by rw [HRL.out]; omega) HWF.out H.out.sf HVV.out)
      go_wp2_with ((go_at_call 12; with_reducible refine (KJ.out).mono ?_); rintro e V4 ⟨v4, rfl, S4, hy4, cap4⟩)
      clear KJ
      have hxV4 := hxV3.trans hy4
      refine onlyK_normal (hK _ _ ⟨⟨_, hxV4⟩, rfl⟩ ?_); clear hK K
      have HS4 := Lib.hid S4
      have HC4 := Lib.hid cap4
      clear S4 cap4 own2 own3 hy2 hy3 hy4 hxV hxV2 hxV3
      refine tree_leaf ?_
      simp only [List.map_cons, List.map_nil, pickOp, List.getElem?_cons_zero, List.getElem?_cons_succ, Option.getD_some]
      repeat (go_big_quiet_step (fail))
      refine wpQuiet_nil ?_
      simp only [List.drop_succ_cons, List.drop_zero]
      have HX4 := Lib.hid hxV4
      clear hxV4
      rw [← HRR.out] at HS4 ⊢
      obtain ⟨x6, c6, hv6⟩ := HS4.out.is
      subst hv6
      have KQ := Lib.hid (same47_any _ _ R.2 R.2 V4 (HS5.out.later HX4.out) HS4.out (by have := HDL.out; omega) (by have := HDL.out; omega))
      rw [show decide (R.2 = R.2) = true by simp] at KQ
      go_wp2_with ((go_at_call 14; with_reducible refine (KQ.out).mono ?_); rintro e V6 ⟨rfl, hy6⟩)
      go_ret
      exact ⟨rfl, (HEV.out.trans HX4.out).trans hy6⟩
  · cases hv : validE es
    · go_wp2_with ((go_at_call 7; with_reducible refine (KF2.out).mono ?_); rintro e W3 ⟨rfl, hx3⟩; have HE3 := Lib.hid (HE2.out.trans hx3); have HB3 := Lib.hid (heap_ext hx3 HB2.out); have b3 := HB3.out; have u4 := cell_at b3 4 (v := .int .i64 s) rfl; have u5 := cell_at b3 5 (v := .int .i64 a) rfl; have u6 := cell_at b3 6 (v := .int .i64 j) rfl; clear b3)
      clear t0 t1 t2 t3 t4 t5 t6 t7
      refine (KV.out W3 HE3.out).mono ?_
      rw [hv]
      rintro e W5 ⟨rfl, hx5⟩
      have HE3' := HE3; have HB3' := HB3
      have HE5 := Lib.hid (HE3.out.trans hx5); have HB5 := Lib.hid (heap_ext hx5 HB3.out)
      clear HE3 HB3 HE3' HB3' u4 u5 u6 hx5 hx3
      clear W3
      obtain ⟨W3, rfl⟩ : ∃ X, X = W5 := ⟨_, rfl⟩
      obtain ⟨HE3, HB3⟩ := And.intro HE5 HB5
      clear HE5 HB5
      have b3 := HB3.out
      have u4 := cell_at b3 4 (v := .int .i64 s) rfl; have u5 := cell_at b3 5 (v := .int .i64 a) rfl; have u6 := cell_at b3 6 (v := .int .i64 j) rfl
      clear b3
      go_wp2_with fail
      obtain ⟨V, hV, L1, hEV⟩ := B3.mk' W3 (.int .i64 s) (.int .i64 a) (.int .i64 j) 32
      rw [hV]; clear hV
      have HBV := Lib.hid (heap_ext hEV HB3.out); have HLV := Lib.hid L1; have HEV := Lib.hid (HE3.out.trans hEV)
      clear L1 hEV
      generalize W3.heap.size = LB at *
      have bV := HBV.out; have lV := HLV.out
      have k0 := Later.block bV 0 (v := .int .i16 x) rfl; have k1 := Later.block bV 1 (v := .int .i16 y) rfl; have k2 := Later.block bV 2 (v := .int .i16 z) rfl; have k3 := Later.block bV 3 (v := .slice xw ways.length cw) rfl; have k4 := Later.block bV 4 (v := .int .i64 s) rfl; have k5 := Later.block bV 5 (v := .int .i64 a) rfl; have k6 := Later.block bV 6 (v := .int .i64 j) rfl; have k7 := Later.block bV 7 (v := .int .i64 safe) rfl
      have l0 := Later.cell lV.c0; have l1 := Later.cell lV.c1; have l2 := Later.cell lV.c2
      clear bV lV
      refine wp_region_tree (fun w' => ∃ y : Later V, w' = y.w) 12 (.one [0, 2, 3, 5, 6] 1 (.one [] 4 (.one [] 7 (.leaf [8, 9, 10, 11])))) (by kernel_rfl) (by kernel_rfl) (by kernel_rfl) ⟨⟨_, (Ext.refl V).drew⟩, rfl⟩ ?_
      simp only [List.take_succ_cons, List.take_zero]
      refine tree_one fun K hK => ?_
      simp only [List.map_cons, List.map_nil, pickOp, List.getElem?_cons_zero, List.getElem?_cons_succ, Option.getD_some]
      repeat (go_big_quiet_step (fail))
      refine wpQuiet_nil ?_
      clear k0 k1 k2 k3 k4 k5 k6 k7 l0 l1 l2
      have hxV : Ext V V.drew := (Ext.refl V).drew
      have KM := Lib.hid (motions_any x y z _ s a j safe ways V.drew (H.out.sw.later (HEV.out.trans hxV)) H.out.small hwl H.out.near)
      unfold TripV at KM
      go_wp2_with ((go_at_call 10; with_reducible refine (KM.out).mono ?_); rintro e V2 ⟨v2, rfl, own2, hy2⟩)
      clear KM
      have hxV2 := hxV.trans hy2
      refine onlyK_normal (hK _ _ ⟨⟨_, hxV2⟩, rfl⟩ ?_); clear hK K
      refine tree_one0 fun K hK => ?_
      simp only [pickOp, List.getElem?_cons_zero, List.getElem?_cons_succ, Option.getD_some]
      have KE := Lib.hid (events_any _ es V2 (H.out.se.later (HEV.out.trans hxV2)) H.out.el)
      go_wp2_with ((go_at_call 11; with_reducible refine (KE.out).mono ?_); rintro e V3 ⟨v3, rfl, own3, hy3⟩)
      clear KE
      have hxV3 := hxV2.trans hy3
      refine onlyK_normal (hK _ _ ⟨⟨_, hxV3⟩, rfl⟩ ?_); clear hK K
      refine tree_one0 fun K hK => ?_
      simp only [pickOp, List.getElem?_cons_zero, List.getElem?_cons_succ, Option.getD_some]
      have KJ := Lib.hid (jdist_any v2 v3 (route (x, y, z) ways) es s a j safe V3 (own2.sl.later hy3) own3.sl (by rw [HRL.out]; omega) (by omega) HWF.out H.out.sf)
      go_wp2_with ((go_at_call 9; with_reducible refine (KJ.out).mono ?_); rintro e V4 ⟨v4, rfl, S4, hy4, cap4⟩)
      clear KJ
      have hxV4 := hxV3.trans hy4
      refine onlyK_normal (hK _ _ ⟨⟨_, hxV4⟩, rfl⟩ ?_); clear hK K
      have HS4 := Lib.hid S4
      have HC4 := Lib.hid cap4
      clear S4 cap4 own2 own3 hy2 hy3 hy4 hxV hxV2 hxV3
      refine tree_leaf ?_
      simp only [List.map_cons, List.map_nil, pickOp, List.getElem?_cons_zero, List.getElem?_cons_succ, Option.getD_some]
      repeat (go_big_quiet_step (fail))
      refine wpQuiet_nil ?_
      simp only [List.drop_succ_cons, List.drop_zero]
      have HX4 := Lib.hid hxV4
      clear hxV4
      have KV4 := Lib.hid (KV.out V4 (HEV.out.trans HX4.out))
      rw [hv] at KV4
      have hR : distE (route (x, y, z) ways) s a j safe es = (1, []) := by unfold distE; rw [if_neg (by rw [hv]; decide)]
      rw [hR] at HS4 ⊢
      obtain ⟨x4, c4, hv4⟩ := HS4.out.is
      subst hv4
      clear hR
      go_wp2_with ((go_at_call 8; with_reducible refine (KV4.out).mono ?_); rintro e V5 ⟨rfl, hy5⟩)
      go_ret
      exact ⟨rfl, (HEV.out.trans HX4.out).trans hy5⟩
    · go_wp2_with ((go_at_call 7; with_reducible refine (KF2.out).mono ?_); rintro e W3 ⟨rfl, hx3⟩; have HE3 := Lib.hid (HE2.out.trans hx3); have HB3 := Lib.hid (heap_ext hx3 HB2.out); have b3 := HB3.out; have u4 := cell_at b3 4 (v := .int .i64 s) rfl; have u5 := cell_at b3 5 (v := .int .i64 a) rfl; have u6 := cell_at b3 6 (v := .int .i64 j) rfl; clear b3)
      clear t0 t1 t2 t3 t4 t5 t6 t7
      refine (KV.out W3 HE3.out).mono ?_
      rw [hv]
      rintro e W5 ⟨rfl, hx5⟩
      go_wp2_with fail
      refine (awake_any W5).mono ?_
      rintro e W6 ⟨rfl, hx6⟩
      go_wp2
      go_ret
      exact ⟨rfl, (HE3.out.trans hx5).trans hx6⟩
end Go.Proofs.YtjibcnnbclcboaaGreatDoor

namespace Go.Proofs.YtjibcnnbclcboaaGreatDoor
open Go.ChangeShapes Go.WideShapes Go.ChangeAt Go.RowKit Go.Joins

set_option maxRecDepth 100000 in
theorem liftJobDisturbed (os : Os) (started : os.Started) (H : Type) (enc : TypeId × Value → H) :
    ReturnsInHanded {} Tryz.checked os 3 .any (fun w args => (Rows.jobDisturbedSpec.pre enc Tryz.prog Tryz.f3 Rows.jobDisturbedRow.domain false w args ∧ laidMetH Tryz.prog Rows.jobDisturbedRow.laid w) ∧ sizedMet enc Tryz.prog Tryz.f3 (OpenSpec.ofChange Rows.jobDisturbedSpec) false w args) (Rows.jobDisturbedSpec.post enc Tryz.prog Tryz.f3 false true false false) := by
  refine returnsInHanded_of_change_and (C := Tryz.checked) (X := fun w _ => laidMetH Tryz.prog Rows.jobDisturbedRow.laid w) (fun _ _ _ hh h => h.of_heap hh) Tryz.own started (by kernel_rfl) Tryz.func3
    (ChangeSpec.witness_shaped (enc := enc) (C := Tryz.checked) (os := os) (X := fun w _ => laidMetH Tryz.prog Rows.jobDisturbedRow.laid w) false (World.laidAll Tryz.prog os Rows.jobDisturbedRow.laid) #[.agg #[.int .i16 0, .int .i16 0, .int .i16 0, .slice none 0 0, .int .i64 0, .int .i64 0, .int .i64 0, .int .i64 0], .slice none 0 0] 8 (World.laidAll_os _ _ _)
      (World.shaped_of_ZipB (by kernel_rfl) (by kernel_rfl)) (by kernel_rfl) (by kernel_rfl) (by kernel_rfl)
      (by rw [MakeChecks.laidMetH_plain _ _ _ (by kernel_rfl)]; exact laidMet_laidAll _ (by kernel_rfl) (by kernel_rfl))) ?_
  intro W base args ds gs before hval0 hW _ hwt _ _
  have hval : ∀ (j : Nat) t v, Tryz.f3.params[j]? = some t → args[j]? = some v → Value.okWide Tryz.prog W .any base t v := hval0
  have hW' := hW
  obtain ⟨p, q, hA0, hV, rfl, hfz, hnd⟩ := hW
  have hA : DataW.TrodAll enc Tryz.prog W 0 (fun _ => true) true Tryz.f3.params.toList args.toList ds p := hA0
  rw [Tryz.params3] at hA hval
  obtain ⟨v0, vs0, d0, ds0, p0, q0, hargs, rfl, rfl, h0, r0⟩ := trodAll_cons hA
  obtain ⟨v1, vs1, d1, ds1, p1, q1, rfl, rfl, rfl, h1, r1⟩ := trodAll_cons r0
  obtain ⟨rfl, rfl, rfl⟩ := trodAll_nil r1
  obtain rfl : args = #[v0, v1] := by cases args; simp_all
  obtain ⟨rfl, rfl⟩ := trodVars_none hV
  have hw1 : (d1.weights Tryz.prog 29).all (· ≤ reachBytes) = true := by
    have e : Tryz.f3.params.toList = [28, 29] := by rw [Tryz.params3]
    rw [e] at hwt
    simp only [List.cons_append, DataW.weightsEach, List.all_append, Bool.and_eq_true] at hwt
    exact hwt.2.1
  have lt0 : ∀ x ∈ p0, x.block < W.heap.size := by obtain ⟨m, hm⟩ := h0; exact DataW.trod_lt m _ _ _ hm
  have lt1 : ∀ x ∈ p1, x.block < W.heap.size := by obtain ⟨m, hm⟩ := h1; exact DataW.trod_lt m _ _ _ hm
  obtain ⟨x, y, z, vw, s, a, j, safe, ways, e0, a1, a2, a3, a4, a5⟩ := trip_of (hval 0 28 v0 rfl rfl) h0
  subst e0
  obtain ⟨es, b1, b2, b3⟩ := evs_of (hval 1 29 v1 rfl rfl) h1 hw1
  clear hA0 hval0
  refine (jdisturbed_law ⟨a1, a2, a3, a4, b1, b2, b3, a5⟩).mono fun e W' ⟨he, bel⟩ => ?_
  subst he
  exact ⟨_, rfl, _, _, _, [], _, [], hW', trodAll_mk1 (shut_bool Tryz.underlying4 _), (trodAll_cons_mk (Below.trod Tryz.laidOut (by kernel_rfl) (of_decide_eq_true (by kernel_rfl)) h0 bel.out lt0) (trodAll_cons_mk (Below.trod Tryz.laidOut (by kernel_rfl) (of_decide_eq_true (by kernel_rfl)) h1 bel.out lt1) trodAll_mk0)), rfl, bel.out.frame _, fun h => by cases h⟩

/-- The row. -/
theorem jdisturbed_row : Rows.JobDisturbedSaid :=
  OpenClaim.holds_of_wide 3 Tryz.f3 rfl rfl rfl rfl rfl rfl rfl ⟨rfl, rfl, rfl, rfl, rfl⟩ rfl rfl rfl rfl rfl (by kernel_rfl) Tryz.func3 (by kernel_rfl)
    (of_decide_eq_true (by kernel_rfl)) (by unfold Func.isWrapper; first | (rw [if_pos (by decide +kernel)]; kernel_rfl) | (rw [if_neg (by decide +kernel)]; exact ⟨rfl, rfl⟩))
    (fun os started H enc _ => liftJobDisturbed os started H enc)

/-- The tied card. -/
theorem jdisturbed_holds : Rows.JobDisturbedCardSaid :=
  Claim7.holds_tied_plain_at .later [] [.data, .data, .data, .data, .pinned] true Rows.jobDisturbedCard.stood.harness false
    jdisturbed_row (fun _ h => by cases h) (by kernel_rfl) (fun _ h => by cases h) jobDisturbed_row_tie rfl ⟨rfl, rfl⟩ (by kernel_rfl) rfl
    (fun f fn hf hfn => by
      obtain rfl : f = 3 := Option.some.inj ((show Tryz.prog.funcNamed "swarf/swarflaw55.JobDisturbed" = some 3 by kernel_rfl).symm.trans hf) |>.symm
      obtain rfl : fn = Tryz.f3 := (Option.some.inj (Tryz.func3.symm.trans hfn)).symm
      exact ⟨by kernel_rfl, fun j t ht => by
        rw [Tryz.params3] at ht
        have hm : t ∈ [28, 29] := by simpa using Array.mem_of_getElem? ht
        have hall : ([28, 29].all fun u => !Tryz.prog.wantsStandIn u) = true := by kernel_rfl
        exact (show Tryz.prog.wantsStandIn t = false by simpa using List.all_eq_true.1 hall t hm)⟩)
    (by kernel_rfl)

#print axioms jdisturbed_holds
end Go.Proofs.YtjibcnnbclcboaaGreatDoor
