/-
  The law JobHolds, walked: for every trip and all events it returns true.
  JobHolds: without breakages the pieces with the same Block lead from the beginning of its motion to its end: for every input the law returns true, and its arguments stay as they were. Condition: the listed tables of Go's library are as the program's text lays them (the card ties them).
-/
import Derived.Test.YtjibcnnbclcboaaGreatDoorQB34
import Derived.Test.YtjibcnnbclcboaaGreatDoorQB37
import Derived.Test.YtjibcnnbclcboaaGreatDoorQB35
import Derived.Test.YtjibcnnbclcboaaGreatDoorCards
import Derived.Test.YtjibcnnbclcboaaGreatDoorTie
import Derived.OpenShut
import Derived.LaidMore
import Derived.Lay
import Derived.SevenTiedAt
import Derived.Stop.Joined
namespace Go.Proofs.YtjibcnnbclcboaaGreatDoor
open Go.RowKit
set_option maxRecDepth 8000

theorem fast_l1 {l : List Way} {s a j safe : Int} (h : fastB l s a j safe = true) : l1sum l ≤ 4000 := by
  unfold fastB at h
  simp only [Bool.and_eq_true] at h
  have := h.2.1
  unfold shortW at this
  simp only [Bool.and_eq_true, decide_eq_true_eq] at this
  omega
set_option maxHeartbeats 16000000 in
theorem jholds_law {x y z : Int} {vw : Value} {s a j safe : Int} {ways : List Way} {ve : Value} {es : List (Int × Int)} {w : World} (h : LawIn x y z vw s a j safe ways ve es w) :
    Calls Tryz.prog 4 #[TripV x y z vw s a j safe, ve] w fun e w' => e = .returned (.bool true) ∧ Ext w w' := by
  have H := Lib.hid h
  obtain ⟨xe, ce, hve⟩ := slE_is h.se
  have kf := fun (w' : World) (he : Ext w w') => tfast_any x y z vw s a j safe ways w' (h.sw.later he) h.small h.wl
  have kv := fun (w' : World) (he : Ext w w') => evalid_any ve es w' (h.se.later he) (by have := h.el; omega)
  have hel : es.length ≤ 9000000000000 := by have := h.el; omega
  obtain ⟨xw, cw, hvw⟩ := slW_is h.sw
  clear h
  subst hve hvw
  obtain ⟨W1, hW1, hb1, hE1, hz1⟩ := row_alloc w #[.int .i16 x, .int .i16 y, .int .i16 z, .slice xw ways.length cw, .int .i64 s, .int .i64 a, .int .i64 j, .int .i64 safe] 28
  have HB1 := Lib.hid hb1; have HE1 := Lib.hid hE1; have KF := Lib.hid kf; have KV := Lib.hid kv
  clear hb1 hE1 hz1 kf kv
  go_enter Tryz.func4, Tryz.ntmps4
  unfold TripV
  go_wp2_with fail
  clear hW1
  refine (awake_any W1).mono ?_
  rintro e W2 ⟨rfl, hx2⟩
  have HE2 := Lib.hid (HE1.out.trans hx2); have HB2 := Lib.hid (heap_ext hx2 HB1.out)
  have KF2 := Lib.hid (KF.out W2 HE2.out)
  unfold TripV at KF2
  clear HE1 HB1 hx2 KF
  clear W1
  have b2 := HB2.out
  have t0 := cell_at b2 0 (v := .int .i16 x) rfl; have t1 := cell_at b2 1 (v := .int .i16 y) rfl; have t2 := cell_at b2 2 (v := .int .i16 z) rfl; have t3 := cell_at b2 3 (v := .slice xw ways.length cw) rfl; have t4 := cell_at b2 4 (v := .int .i64 s) rfl; have t5 := cell_at b2 5 (v := .int .i64 a) rfl; have t6 := cell_at b2 6 (v := .int .i64 j) rfl; have t7 := cell_at b2 7 (v := .int .i64 safe) rfl
  clear b2
  cases hf : fastB ways s a j safe
  · rw [hf] at KF2
    go_wp2_with ((go_at_call 7; with_reducible refine (KF2.out).mono ?_); rintro e W3 ⟨rfl, hx3⟩)
    refine (awake_any W3).mono ?_
    rintro e W4 ⟨rfl, hx4⟩
    go_wp2
    go_ret
    exact ⟨rfl, (HE2.out.trans hx3).trans hx4⟩
  rw [hf] at KF2
  have hwl := fast_len hf
  have HF := Lib.hid hf
  clear hf
  have HWF : Hid (WfL (route (x, y, z) ways)) := Lib.hid (route_wf H.out.small H.out.near hwl)
  have HRL : Hid ((route (x, y, z) ways).length = ways.length) := Lib.hid (routeGo_length _ _ _)
  have HLS : Hid (lsum (route (x, y, z) ways) (route (x, y, z) ways).length ≤ 100000) := Lib.hid (route_lsum H.out.small H.out.near hwl (fast_l1 HF.out))
  cases hl : decide ((es.length : Int) > 4)
  rotate_left
  · go_wp2_with ((go_at_call 7; with_reducible refine (KF2.out).mono ?_); rintro e W3 ⟨rfl, hx3⟩; have HE3 := Lib.hid (HE2.out.trans hx3); have HB3 := Lib.hid (heap_ext hx3 HB2.out); have b3 := HB3.out; have u4 := cell_at b3 4 (v := .int .i64 s) rfl; have u5 := cell_at b3 5 (v := .int .i64 a) rfl; have u6 := cell_at b3 6 (v := .int .i64 j) rfl; clear b3)
    refine (awake_any W3).mono ?_
    rintro e W4 ⟨rfl, hx4⟩
    go_wp2
    go_ret
    exact ⟨rfl, HE3.out.trans hx4⟩
  go_wp2_with ((go_at_call 7; with_reducible refine (KF2.out).mono ?_); rintro e W3 ⟨rfl, hx3⟩; have HE3 := Lib.hid (HE2.out.trans hx3); have HB3 := Lib.hid (heap_ext hx3 HB2.out); have b3 := HB3.out; have u4 := cell_at b3 4 (v := .int .i64 s) rfl; have u5 := cell_at b3 5 (v := .int .i64 a) rfl; have u6 := cell_at b3 6 (v := .int .i64 j) rfl; clear b3)
  clear t0 t1 t2 t3 t4 t5 t6 t7 u4 u5 u6
  refine (cloneE_any _ es W3 (H.out.se.later HE3.out) H.out.ne H.out.el).mono ?_
  rintro e A1 ⟨v1, rfl, own1, hy1⟩
  obtain ⟨x1, c1, hv1⟩ := slE_is own1.sl
  subst hv1
  have HO1 := Lib.hid own1; have HA1 := Lib.hid hy1
  clear own1 hy1 hl KF2 hx3 HB2 HE2
  go_wp2_with fail
  go_loopw [35] (fun t wr => ∃ (k : Nat), k ≤ es.length ∧ t = .int .i64 k ∧ Hid (Ext W3 wr) ∧ Hid (OwnE 43 W3.heap.size wr (.slice x1 es.length c1) (tkTo es k))) (fun t _ => es.length - (intOf t).toNat)
  case atStart => exact ⟨0, by omega, rfl, HA1, HO1⟩
  case round =>
    clear HO1 HA1
    obtain ⟨k, hk, rfl, HX, HO⟩ := hrel
    by_cases hlt : k < es.length
    · obtain ⟨g, cg, hvg, hgb⟩ := HO.out.form' (by rw [tkTo_length]; omega)
      have hxe : x1 = some ⟨g, 0, none⟩ := by injection hvg
      subst hxe
      have hsl := HO.out.sl
      obtain ⟨ad, n', cap', b', o', hv', hn', h3', h5', h4'⟩ := hsl
      cases hv'
      have hbo : b' = g ∧ o' = 0 := by
        have := h3'.resolve_left (by omega)
        cases this
        exact ⟨rfl, rfl⟩
      obtain ⟨rfl, rfl⟩ := hbo
      obtain ⟨-, -, q2⟩ := h4' k hlt
      rw [tkTo_get hlt, Nat.zero_add] at q2
      have hput := HO.out
      have hln : es.length = (tkTo es k).length := (tkTo_length es k).symm
      have fz : wr.frozen? ⟨b', k * 2 + 1, none⟩ = false := by
        have := HO.out
        unfold OwnE at this
        rw [tkTo_length] at this
        exact this.frozenAt (k * 2 + 1)
      have HP : ∀ u, OwnE 43 W3.heap.size (wr.setCell ⟨b', k * 2 + 1, none⟩ (.int .i64 u)) (.slice (some ⟨b', 0, none⟩) es.length c1) ((tkTo es k).set k ((es.getD k (0, 0)).1, u)) := fun u => by
        have h0 := HO.out
        rw [hln] at h0
        have := h0.put k (by omega) u
        rw [tkTo_get hlt, ← hln] at this
        exact this
      have HPP := Lib.hid HP; have HS1 := Lib.hid (tkTo_succ hlt)
      clear HP hput h4' h3' h5' hvg hn' hln
      unfold tk at HS1
      generalize es.getD k (0, 0) = ev at *
      obtain ⟨e1, e2⟩ := ev
      simp only at q2 HS1 HPP
      rw [show (if (1 : Int) < e2 then e2 else 1) = max 1 e2 by split <;> omega] at HS1
      go_wp2
      go_roundw
      case rel => exact ⟨k + 1, by omega, by go_num, Lib.hid (HX.out.setCell hgb _), Lib.hid (by rw [HS1.out]; exact HPP.out _)⟩
      case measure => simp [intOf]; omega
    obtain rfl : k = es.length := by omega
    rw [tkTo_all] at HO
    have HSE := Lib.hid HO.out.sl
    have HB3' := Lib.hid (heap_ext HX.out HB3.out); have HE3' := Lib.hid (HE3.out.trans HX.out)
    clear HB3 HE3 HX hlt hk HO
    obtain ⟨Z1, hZ1⟩ : ∃ Z1 : World, Z1 = wr := ⟨_, rfl⟩
    subst hZ1
    have bZ := HB3'.out
    have t0 := cell_at bZ 0 (v := .int .i16 x) rfl; have t1 := cell_at bZ 1 (v := .int .i16 y) rfl; have t2 := cell_at bZ 2 (v := .int .i16 z) rfl; have t3 := cell_at bZ 3 (v := .slice xw ways.length cw) rfl; have t4 := cell_at bZ 4 (v := .int .i64 s) rfl; have t5 := cell_at bZ 5 (v := .int .i64 a) rfl; have t6 := cell_at bZ 6 (v := .int .i64 j) rfl; have t7 := cell_at bZ 7 (v := .int .i64 safe) rfl
    clear bZ
    have KM := Lib.hid (motions_any x y z _ s a j safe ways Z1 (H.out.sw.later HE3'.out) H.out.small hwl H.out.near)
    unfold TripV at KM
    go_wp2_with ((go_at_call 10; with_reducible refine (KM.out).mono ?_); rintro e Z2 ⟨v2, rfl, own2, hy2⟩; obtain ⟨x2, c2, hv2⟩ := own2.sl.is; subst hv2; have HO2 := Lib.hid own2; clear own2)
    clear t0 t1 t2 t3 t4 t5 t6 t7 KM
    have HS2 := Lib.hid HO2.out.sl
    have HBZ := Lib.hid (heap_ext hy2 HB3'.out); have HEZ := Lib.hid (HE3'.out.trans hy2); have HSEZ := Lib.hid (HSE.out.later hy2)
    have hrt : (route (x, y, z) ways).length ≤ 6 := by rw [HRL.out]; exact hwl
    clear HB3' HE3' HSE hy2 HO2
    go_loopw [6, 52] (fun u t wr => ∃ (k : Nat), k ≤ (route (x, y, z) ways).length ∧ t = .int .i64 k ∧ Hid (Ext Z2 wr) ∧ Hid (OwnM Z2.heap.size wr u (Go.Proofs.YtjibcnnbclcboaaGreatDoor.ways ((route (x, y, z) ways).take k)))) (fun _ t _ => (route (x, y, z) ways).length - (intOf t).toNat)
    case atStart => exact ⟨0, by omega, rfl, Lib.hid (Ext.refl _), Lib.hid (OwnM.nil _ _)⟩
    case round =>
      obtain ⟨k, hk, rfl, HX, HO⟩ := hrel
      by_cases hlt : k < (route (x, y, z) ways).length
      · obtain ⟨ad, n', cap', b', o', hv', hn', h3', -, h4'⟩ := HS2.out.later HX.out
        cases hv'
        obtain ⟨hb1, hb2⟩ := h4' k hlt
        have had := h3'.resolve_left (by omega)
        subst had
        have WS := Lib.hid (ways_succ hlt)
        have WL : Hid ((Go.Proofs.YtjibcnnbclcboaaGreatDoor.ways ((route (x, y, z) ways).take k)).length ≤ 6) := Lib.hid (by have := ways_len ((route (x, y, z) ways).take k); rw [List.length_take] at this; omega)
        unfold wayB at WS
        generalize (route (x, y, z) ways).getD k Mot.zero = m at *
        generalize Go.Proofs.YtjibcnnbclcboaaGreatDoor.ways ((route (x, y, z) ways).take k) = acc at *
        have c0 := hb2.c0; have c1' := hb2.c1; have c2' := hb2.c2; have c3 := hb2.c3; have c4 := hb2.c4; have c5 := hb2.c5; have c6 := hb2.c6; have c7 := hb2.c7; have c8 := hb2.c8
        obtain ⟨X1, hX1, hbx1, hex1, hzx1⟩ := row_alloc wr #[.int .i64 m.fx, .int .i64 m.fy, .int .i64 m.fz, .int .i64 m.tx, .int .i64 m.ty, .int .i64 m.tz, .int .i64 m.rate, .int .i64 m.tool, .int .i64 m.block] 49
        obtain ⟨X2, hX2, hbx2, hex2, hzx2⟩ := row_alloc X1 #[.int .i64 m.fx, .int .i64 m.fy, .int .i64 m.fz, .int .i64 m.tx, .int .i64 m.ty, .int .i64 m.tz, .int .i64 m.rate, .int .i64 m.tool, .int .i64 m.block] 49
        rw [hzx1] at hbx2 hzx2
        have d0 := cell_at hbx1 0 (v := .int .i64 m.fx) rfl; have d1 := cell_at hbx1 1 (v := .int .i64 m.fy) rfl; have d2 := cell_at hbx1 2 (v := .int .i64 m.fz) rfl; have d3 := cell_at hbx1 3 (v := .int .i64 m.tx) rfl; have d4 := cell_at hbx1 4 (v := .int .i64 m.ty) rfl; have d5 := cell_at hbx1 5 (v := .int .i64 m.tz) rfl; have d6 := cell_at hbx1 6 (v := .int .i64 m.rate) rfl; have d7 := cell_at hbx1 7 (v := .int .i64 m.tool) rfl; have d8 := cell_at hbx1 8 (v := .int .i64 m.block) rfl
        have HSX := Lib.hid (slM_row hbx2 (by omega)); have HOX := Lib.hid (HO.out.later (hex1.trans hex2)); have HBX : Hid (Z2.heap.size ≤ X2.heap.size) := Lib.hid ((HX.out.trans hex1).trans hex2).size
        have hne := fun w => Tryz.neq_pos m.fx m.fy m.fz m.tx m.ty m.tz w
        have HLX : Hid (acc.length + [m].length ≤ 1000000000) := Lib.hid (by have := WL.out; simp only [List.length_cons, List.length_nil]; omega)
        clear hb2 hb1 h4' h3' hn' hbx1 hbx2
        cases he : eqP m.fx m.fy m.fz m.tx m.ty m.tz
        · have hw1 : (!eq3 m.f3 m.t3) = true := by show (!eqP m.fx m.fy m.fz m.tx m.ty m.tz) = true; rw [he]; rfl
          rw [hw1, if_pos rfl] at WS
          rw [he] at hne
          clear he hw1
          go_wp2_with ((at_builtin; refine appM_at rfl _ _ rfl Z2.heap.size _ _ acc [m] rfl rfl HOX.out HSX.out HLX.out HBX.out ?_; intro v6 w6 own6 hg6 hloc6))
          have hO6 := (Only.of_grown hg6)
          have E6 : Ext Z2 w6 := ((HX.out.trans hex1).trans hex2).only hO6 (fun i hi e => by have := HOX.out.base e; omega)
          go_roundw
          case rel => exact ⟨k + 1, by omega, by go_num, Lib.hid E6, Lib.hid (by rw [WS.out]; exact own6)⟩
          case measure => simp [intOf]; omega
        · have hw1 : (!eq3 m.f3 m.t3) = false := by show (!eqP m.fx m.fy m.fz m.tx m.ty m.tz) = false; rw [he]; rfl
          rw [hw1, if_neg (by decide), List.append_nil] at WS
          rw [he] at hne
          clear he hw1
          go_wp2
          go_roundw
          case rel => exact ⟨k + 1, by omega, by go_num, Lib.hid (HX.out.trans hex1), Lib.hid (by rw [WS.out]; exact HO.out.later hex1)⟩
          case measure => simp [intOf]; omega
      obtain rfl : k = (route (x, y, z) ways).length := by omega
      rw [List.take_length] at HO
      clear hlt hk
      obtain ⟨x5, c5, hv5⟩ := HO.out.sl.is
      subst hv5
      have HSW := Lib.hid HO.out.sl
      have HB3 := Lib.hid (heap_ext HX.out HBZ.out); have HE3 := Lib.hid (HEZ.out.trans HX.out); have HSE := Lib.hid (HSEZ.out.later HX.out)
      clear HO HBZ HEZ HSEZ HX HS2
      obtain ⟨W9, hW9⟩ : ∃ W9 : World, W9 = wr := ⟨_, rfl⟩
      subst hW9
      have b3 := HB3.out
      have u4 := cell_at b3 4 (v := .int .i64 s) rfl; have u5 := cell_at b3 5 (v := .int .i64 a) rfl; have u6 := cell_at b3 6 (v := .int .i64 j) rfl
      clear b3
      go_wp2_with fail
      obtain ⟨V, hV, L1, hEV⟩ := B3.mk' W9 (.int .i64 s) (.int .i64 a) (.int .i64 j) 32
      rw [hV]; clear hV
      have HBV := Lib.hid (heap_ext hEV HB3.out); have HLV := Lib.hid L1; have HEV := Lib.hid (HE3.out.trans hEV); have HSEV := Lib.hid (HSE.out.later hEV); have HSWV := Lib.hid (HSW.out.later hEV)
      clear L1 hEV HB3 HE3 HSE HSW u4 u5 u6
      generalize W9.heap.size = LB at *
      have bV := HBV.out; have lV := HLV.out
      have k0 := Later.block bV 0 (v := .int .i16 x) rfl; have k1 := Later.block bV 1 (v := .int .i16 y) rfl; have k2 := Later.block bV 2 (v := .int .i16 z) rfl; have k3 := Later.block bV 3 (v := .slice xw ways.length cw) rfl; have k4 := Later.block bV 4 (v := .int .i64 s) rfl; have k5 := Later.block bV 5 (v := .int .i64 a) rfl; have k6 := Later.block bV 6 (v := .int .i64 j) rfl; have k7 := Later.block bV 7 (v := .int .i64 safe) rfl
      have l0 := Later.cell lV.c0; have l1 := Later.cell lV.c1; have l2 := Later.cell lV.c2
      clear bV lV
      refine wp_region_tree (fun w' => ∃ y : Later V, w' = y.w) 10 (.one [0, 2, 3, 4] 1 (.one [] 5 (.leaf [6, 7, 8, 9]))) (by kernel_rfl) (by kernel_rfl) (by kernel_rfl) ⟨⟨_, (Ext.refl V).drew⟩, rfl⟩ ?_
      simp only [List.take_succ_cons, List.take_zero]
      refine tree_one fun K hK => ?_
      simp only [List.map_cons, List.map_nil, pickOp, List.getElem?_cons_zero, List.getElem?_cons_succ, Option.getD_some]
      repeat (go_big_quiet_step (fail))
      refine wpQuiet_nil ?_
      clear k0 k1 k2 k3 k4 k5 k6 k7 l0 l1 l2
      have hxV : Ext V V.drew := (Ext.refl V).drew
      have KM := Lib.hid (motions_any x y z _ s a j safe ways V.drew (H.out.sw.later (HEV.out.trans hxV)) H.out.small hwl H.out.near)
      unfold TripV at KM
      go_wp2_with ((go_at_call 10; with_reducible refine (KM.out).mono ?_); rintro e V2 ⟨v7, rfl, own7, hy7⟩)
      clear KM
      have hxV2 := hxV.trans hy7
      refine onlyK_normal (hK _ _ ⟨⟨_, hxV2⟩, rfl⟩ ?_); clear hK K
      refine tree_one0 fun K hK => ?_
      simp only [pickOp, List.getElem?_cons_zero, List.getElem?_cons_succ, Option.getD_some]
      have KJ := Lib.hid (jdist_any v7 (.slice none 0 0) (route (x, y, z) ways) [] s a j safe V2 own7.sl SlE.none (by rw [HRL.out]; omega) (by decide) HWF.out H.out.sf)
      go_wp2_with ((go_at_call 9; with_reducible refine (KJ.out).mono ?_); rintro e V8 ⟨v8, rfl, S8, hy8, cap8⟩)
      clear KJ
      have hxV8 := hxV2.trans hy8
      refine onlyK_normal (hK _ _ ⟨⟨_, hxV8⟩, rfl⟩ ?_); clear hK K
      have HS8 := Lib.hid S8
      have HX8 := Lib.hid hxV8
      clear S8 cap8 own7 hy7 hy8 hxV hxV2 hxV8
      refine tree_leaf ?_
      simp only [List.map_cons, List.map_nil, pickOp, List.getElem?_cons_zero, List.getElem?_cons_succ, Option.getD_some]
      repeat (go_big_quiet_step (fail))
      refine wpQuiet_nil ?_
      simp only [List.drop_succ_cons, List.drop_zero]
      obtain ⟨x8, c8, hv8⟩ := HS8.out.is
      subst hv8
      go_wp2_with fail
      have HBV5 := Lib.hid (heap_ext HX8.out HBV.out); have HLV5 := Lib.hid (HLV.out.later HX8.out); have HEV5 := Lib.hid (HEV.out.trans HX8.out); have HSEV5 := Lib.hid (HSEV.out.later HX8.out); have HSWV5 := Lib.hid (HSWV.out.later HX8.out)
      clear HX8 HBV HLV HEV HSEV HSWV
      clear V V2
      obtain ⟨V, rfl⟩ : ∃ X, X = V8 := ⟨_, rfl⟩
      obtain ⟨HBV, HLV, HEV, HSEV, HSWV⟩ := And.intro HBV5 (And.intro HLV5 (And.intro HEV5 (And.intro HSEV5 HSWV5)))
      clear HBV5 HLV5 HEV5 HSEV5 HSWV5
      have hes : (es.map tk).length = es.length := List.length_map ..
      have bV := HBV.out; have lV := HLV.out
      have k0 := Later.block bV 0 (v := .int .i16 x) rfl; have k1 := Later.block bV 1 (v := .int .i16 y) rfl; have k2 := Later.block bV 2 (v := .int .i16 z) rfl; have k3 := Later.block bV 3 (v := .slice xw ways.length cw) rfl; have k4 := Later.block bV 4 (v := .int .i64 s) rfl; have k5 := Later.block bV 5 (v := .int .i64 a) rfl; have k6 := Later.block bV 6 (v := .int .i64 j) rfl; have k7 := Later.block bV 7 (v := .int .i64 safe) rfl
      have l0 := Later.cell lV.c0; have l1 := Later.cell lV.c1; have l2 := Later.cell lV.c2
      clear bV lV
      refine wp_region_tree (fun w' => ∃ y : Later V, w' = y.w) 12 (.one [0, 2, 3, 5, 6] 1 (.one [] 4 (.one [] 7 (.leaf [8, 9, 10, 11])))) (by kernel_rfl) (by kernel_rfl) (by kernel_rfl) ⟨⟨_, (Ext.refl V).drew⟩, rfl⟩ ?_
      simp only [List.take_succ_cons, List.take_zero]
      refine tree_one fun K hK => ?_
      simp only [List.map_cons, List.map_nil, pickOp, List.getElem?_cons_zero, List.getElem?_cons_succ, Option.getD_some]
      repeat (go_big_quiet_step (fail))
      refine wpQuiet_nil ?_
      clear k0 k1 k2 k3 k4 k5 k6 k7 l0 l1 l2
      have hxV : Ext V V.drew := (Ext.refl V).drew
      have KM := Lib.hid (motions_any x y z _ s a j safe ways V.drew (H.out.sw.later (HEV.out.trans hxV)) H.out.small hwl H.out.near)
      unfold TripV at KM
      go_wp2_with ((go_at_call 10; with_reducible refine (KM.out).mono ?_); rintro e V2 ⟨v2, rfl, own2, hy2⟩)
      clear KM
      have hxV2 := hxV.trans hy2
      refine onlyK_normal (hK _ _ ⟨⟨_, hxV2⟩, rfl⟩ ?_); clear hK K
      refine tree_one0 fun K hK => ?_
      simp only [pickOp, List.getElem?_cons_zero, List.getElem?_cons_succ, Option.getD_some]
      have KE := Lib.hid (events_any _ (es.map tk) V2 (HSEV.out.later hxV2) (by rw [hes]; exact H.out.el))
      go_wp2_with ((go_at_call 11; with_reducible refine (KE.out).mono ?_); rintro e V3 ⟨v3, rfl, own3, hy3⟩)
      clear KE
      have hxV3 := hxV2.trans hy3
      refine onlyK_normal (hK _ _ ⟨⟨_, hxV3⟩, rfl⟩ ?_); clear hK K
      refine tree_one0 fun K hK => ?_
      simp only [pickOp, List.getElem?_cons_zero, List.getElem?_cons_succ, Option.getD_some]
      have KJ := Lib.hid (jdist_any v2 v3 (route (x, y, z) ways) (es.map tk) s a j safe V3 (own2.sl.later hy3) own3.sl (by rw [HRL.out]; omega) (by rw [hes]; omega) HWF.out H.out.sf)
      go_wp2_with ((go_at_call 9; with_reducible refine (KJ.out).mono ?_); rintro e V4 ⟨v4, rfl, S4, hy4, cap4⟩)
      clear KJ
      have hxV4 := hxV3.trans hy4
      refine onlyK_normal (hK _ _ ⟨⟨_, hxV4⟩, rfl⟩ ?_); clear hK K
      have HS4 := Lib.hid S4
      have HC4 := Lib.hid cap4
      clear S4 cap4 own2 own3 hy2 hy3 hy4 hxV hxV2 hxV3
      refine tree_leaf ?_
      simp only [List.map_cons, List.map_nil, pickOp, List.getElem?_cons_zero, List.getElem?_cons_succ, Option.getD_some]
      repeat (go_big_quiet_step (fail))
      refine wpQuiet_nil ?_
      simp only [List.drop_succ_cons, List.drop_zero]
      have HX4 := Lib.hid hxV4
      clear hxV4
      have HP := Lib.hid (holds_plain (s := s) (a := a) (j := j) (safe := safe) HWF.out (route_blocks (x, y, z) ways) (tk_ne (es := es)) HLS.out)
      have HD0 : Hid ((distE (route (x, y, z) ways) s a j safe []).2.length ≤ 1000000) := Lib.hid (distE_len HWF.out H.out.sf)
      have HD1 : Hid ((distE (route (x, y, z) ways) s a j safe (es.map tk)).2.length ≤ 1000000) := Lib.hid (distE_len HWF.out H.out.sf)
      have HWL : Hid ((Go.Proofs.YtjibcnnbclcboaaGreatDoor.ways (route (x, y, z) ways)).length ≤ 6) := Lib.hid (Nat.le_trans (ways_len _) hrt)
      have KV4 := Lib.hid (fun (w' : World) (he : Ext V4 w') => evalid_any _ (es.map tk) w' (HSEV.out.later (HX4.out.trans he)) (by rw [hes]; omega))
      have HM4 := Lib.hid (HS8.out.later HX4.out); have HW4 := Lib.hid (HSWV.out.later HX4.out); have HE4 := Lib.hid (HEV.out.trans HX4.out)
      clear HS8 HSEV HSWV HEV HX4 HBV HLV HWF HLS HRL KV HF HC4
      generalize validE (es.map tk) = vv at *
      generalize distE (route (x, y, z) ways) s a j safe [] = R0 at *
      generalize distE (route (x, y, z) ways) s a j safe (es.map tk) = R1 at *
      generalize Go.Proofs.YtjibcnnbclcboaaGreatDoor.ways (route (x, y, z) ways) = wl at *
      obtain ⟨r0, l0⟩ := R0
      obtain ⟨r1, l1⟩ := R1
      simp only at HP HD0 HD1 HM4 HS4 ⊢
      obtain ⟨x4, c4, hv4⟩ := HS4.out.is
      subst hv4
      rcases HP.out with ⟨h0, h1⟩ | ⟨hm, hr⟩
      · have hz0 : (r0 == 0) = false := by simp [h0]
        have hz1 : (r1 == 0) = false := by simp [h1]
        have H1 := Lib.hid h1
        clear HP h0 h1
        go_wp2
        go_ret
        exact ⟨ret_bool (by simp [H1.out]), HE4.out⟩
      clear HP
      obtain ⟨hm1, hm2⟩ := Prod.mk.inj hm
      subst hm1
      have HM4' : Hid (SlM V4 (.slice x8 wl.length c8) wl) := Lib.hid (by rw [← hm2]; exact HM4.out)
      rw [hm2] at *
      clear hm hm2 HM4
      have KQ := Lib.hid (same47_any _ _ wl wl V4 HM4'.out HW4.out (by have := HWL.out; omega) (by have := HWL.out; omega))
      rw [show decide (wl = wl) = true by simp] at KQ
      rcases hr with ⟨h1, h3⟩ | ⟨h1, hj⟩
      · have hz1 : (r1 == 0) = false := by simp [h1]
        have H3 := Lib.hid h3
        clear h1 h3
        go_wp2_with ((go_at_call 14; with_reducible refine (KQ.out).mono ?_); rintro e V5 ⟨rfl, hy5⟩)
        refine (KV4.out V5 hy5).mono ?_
        rintro e V6 ⟨rfl, hy6⟩
        cases vv
        · go_wp2
          go_ret
          exact ⟨rfl, (HE4.out.trans hy5).trans hy6⟩
        · have h3 := H3.out rfl
          subst h3
          go_wp2
          go_ret
          exact ⟨rfl, (HE4.out.trans hy5).trans hy6⟩
      subst h1
      have HJ := Lib.hid hj
      clear hj
      go_wp2_with ((go_at_call 14; with_reducible refine (KQ.out).mono ?_); rintro e V5 ⟨rfl, hy5⟩)
      have HS5 := Lib.hid (HS4.out.later hy5); have HW5 := Lib.hid (HW4.out.later hy5); have HE5 := Lib.hid (HE4.out.trans hy5)
      clear HS4 HW4 HE4 HM4' KQ KV4 hy5
      go_loopw [14, 115] (fun u t wr => ∃ (k : Nat), k ≤ l1.length ∧ t = .int .i64 k ∧ Hid (Ext V5 wr) ∧ Hid (OwnM V5.heap.size wr u (joinL (l1.take k)))) (fun _ t _ => l1.length - (intOf t).toNat)
      case atStart => exact ⟨0, by omega, rfl, Lib.hid (Ext.refl _), Lib.hid (OwnM.nil _ _)⟩
      case round =>
        obtain ⟨k, hk, rfl, HX, HO⟩ := hrel
        by_cases hlt : k < l1.length
        rotate_left
        · obtain rfl : k = l1.length := by omega
          rw [List.take_length, HJ.out] at HO
          obtain ⟨xj, cj, hvj⟩ := HO.out.sl.is
          subst hvj
          have KQ := Lib.hid (same47_any _ _ wl wl wr HO.out.sl (HW5.out.later HX.out) (by have := HWL.out; omega) (by have := HWL.out; omega))
          rw [show decide (wl = wl) = true by simp] at KQ
          clear hlt hk
          go_wp2_with ((go_at_call 14; with_reducible refine (KQ.out).mono ?_); rintro e V6 ⟨rfl, hy6⟩)
          go_ret
          exact ⟨rfl, (HE5.out.trans HX.out).trans hy6⟩
        obtain ⟨ad, n', cap', b', o', hv', hn', h3', -, h4'⟩ := HS5.out.later HX.out
        cases hv'
        obtain ⟨hb1, hb2⟩ := h4' k hlt
        have had := h3'.resolve_left (by omega)
        subst had
        have JS := Lib.hid (joinL_succ hlt)
        have JL := Lib.hid (joinL_len l1 k hk)
        generalize l1.getD k Mot.zero = m at *
        generalize joinL (l1.take k) = acc at *
        have c0 := hb2.c0; have c1' := hb2.c1; have c2' := hb2.c2; have c3 := hb2.c3; have c4' := hb2.c4; have c5' := hb2.c5; have c6 := hb2.c6; have c7 := hb2.c7; have c8' := hb2.c8
        obtain ⟨X1, hX1, hbx1, hex1, hzx1⟩ := row_alloc wr #[.int .i64 m.fx, .int .i64 m.fy, .int .i64 m.fz, .int .i64 m.tx, .int .i64 m.ty, .int .i64 m.tz, .int .i64 m.rate, .int .i64 m.tool, .int .i64 m.block] 49
        have HBX1 := Lib.hid hbx1; have HEX1 := Lib.hid hex1
        have HOX := Lib.hid (HO.out.later hex1)
        clear hb2 hb1 h4' h3' hn' hbx1 hex1 HO
        have hl1b : l1.length ≤ 1000000 := HD1.out
        have hmb0 : acc.length ≤ 1000000 := by have := JL.out; omega
        have l0 := HBX1.out
        have k0 := Later.block l0 0 (v := .int .i64 m.fx) rfl; have k1 := Later.block l0 1 (v := .int .i64 m.fy) rfl; have k2 := Later.block l0 2 (v := .int .i64 m.fz) rfl; have k3 := Later.block l0 3 (v := .int .i64 m.tx) rfl; have k4 := Later.block l0 4 (v := .int .i64 m.ty) rfl; have k5 := Later.block l0 5 (v := .int .i64 m.tz) rfl; have k6 := Later.block l0 6 (v := .int .i64 m.rate) rfl; have k7 := Later.block l0 7 (v := .int .i64 m.tool) rfl; have k8 := Later.block l0 8 (v := .int .i64 m.block) rfl
        clear l0
        by_cases hac : acc.length = 0
        · obtain rfl := List.length_eq_zero_iff.1 hac
          clear hac
          obtain ⟨xj, cj, hvj⟩ := HOX.out.sl.is
          subst hvj
          rw [joinTo_zero] at JS
          simp only [List.length_nil] at *
          go_wp2_with fail
          refine wp_region_later (by kernel_rfl) (by kernel_rfl) ?_
          repeat (go_big_quiet_step (fail))
          refine wpQuiet_nil ?_
          rintro _ ⟨y9, rfl⟩
          have hbx := heap_ext y9.ext HBX1.out
          have d0 := cell_at hbx 0 (v := .int .i64 m.fx) rfl; have d1 := cell_at hbx 1 (v := .int .i64 m.fy) rfl; have d2 := cell_at hbx 2 (v := .int .i64 m.fz) rfl; have d3 := cell_at hbx 3 (v := .int .i64 m.tx) rfl; have d4 := cell_at hbx 4 (v := .int .i64 m.ty) rfl; have d5 := cell_at hbx 5 (v := .int .i64 m.tz) rfl; have d6 := cell_at hbx 6 (v := .int .i64 m.rate) rfl; have d7 := cell_at hbx 7 (v := .int .i64 m.tool) rfl; have d8 := cell_at hbx 8 (v := .int .i64 m.block) rfl
          obtain ⟨X2, hX2, hbx2, hex2, hzx2⟩ := row_alloc y9.w #[.int .i64 m.fx, .int .i64 m.fy, .int .i64 m.fz, .int .i64 m.tx, .int .i64 m.ty, .int .i64 m.tz, .int .i64 m.rate, .int .i64 m.tool, .int .i64 m.block] 49
          have HSX := Lib.hid (slM_row hbx2 (by omega)); have HOX2 := Lib.hid (HOX.out.later (y9.ext.trans hex2))
          have HEX2 := Lib.hid (((HX.out.trans HEX1.out).trans y9.ext).trans hex2)
          have HBX : Hid (V5.heap.size ≤ X2.heap.size) := Lib.hid HEX2.out.size
          have HLX : Hid (([] : List Mot).length + [m].length ≤ 1000000000) := Lib.hid (by simp only [List.length_cons, List.length_nil]; omega)
          clear hbx2 hex2 hzx2 hbx
          go_wp2_with ((at_builtin; refine appM_at rfl _ _ rfl V5.heap.size _ _ ([] : List Mot) [m] rfl rfl HOX2.out HSX.out HLX.out HBX.out ?_; intro v6 w6 own6 hg6 hloc6))
          have E6 : Ext V5 w6 := HEX2.out.only (Only.of_grown hg6) (fun i hi e => by have := HOX2.out.base e; omega)
          go_roundw
          case rel => exact ⟨k + 1, by omega, by go_num, Lib.hid E6, Lib.hid (by rw [JS.out]; exact own6)⟩
          case measure => simp [intOf]; omega
        obtain ⟨g, cg, hvg, hgb⟩ := HOX.out.form' (by omega)
        subst hvg
        obtain ⟨mm, hmm⟩ : ∃ mm, acc.length = mm + 1 := ⟨acc.length - 1, by omega⟩
        have JO := joinTo_one (p := m) (acc := acc) (by omega)
        rw [hmm, Nat.add_sub_cancel] at JO
        rw [JO] at JS
        clear JO hac
        have hqc : g < X1.heap.size ∧ CellsM X1 g (mm * 9) (acc.getD mm Mot.zero) := by
          obtain ⟨ad2, n2, cap2, b2, o2, hv2, hn2, h32, -, h42⟩ := HOX.out.sl
          cases hv2
          have hb := h32.resolve_left (by omega)
          cases hb
          have := h42 mm (by omega)
          rw [Nat.zero_add] at this
          exact this
        have HPUT : ∀ w', Ext X1 w' → OwnM V5.heap.size (((w'.setCell ⟨g, mm * 9 + 3, none⟩ (.int .i64 m.tx)).setCell ⟨g, mm * 9 + 4, none⟩ (.int .i64 m.ty)).setCell ⟨g, mm * 9 + 5, none⟩ (.int .i64 m.tz)) (.slice (some ⟨g, 0, none⟩) (mm + 1) cg) (acc.set mm { acc.getD mm Mot.zero with tx := m.tx, ty := m.ty, tz := m.tz }) := fun w' he => by
          have := (HOX.out.later he).put3 mm (by omega) m.tx m.ty m.tz
          rw [hmm] at this
          exact this
        have HFZ : ∀ w', Ext X1 w' → ∀ i, w'.frozen? ⟨g, i, none⟩ = false := fun w' he i => World.ownsRow.frozenAt (HOX.out.later he) i
        have HPT := Lib.hid HPUT; have HFR := Lib.hid HFZ
        clear HPUT HFZ
        rw [hmm] at HOX ⊢
        generalize acc.getD mm Mot.zero = q at *
        have HQC := Lib.hid hqc
        have hmb : mm ≤ 1000000 := by omega
        have hg0 : decide (((mm + 1 : Nat) : Int) > 0) = true := by simp
        have e1' : (((mm + 1 : Nat) : Int) - 1).toNat = mm := by omega
        have q3 := Later.cell hqc.2.c3; have q4 := Later.cell hqc.2.c4; have q5 := Later.cell hqc.2.c5; have q6 := Later.cell hqc.2.c6; have q7 := Later.cell hqc.2.c7; have q8 := Later.cell hqc.2.c8
        have heq := fun w => Tryz.eql_pos q.tx q.ty q.tz m.fx m.fy m.fz w
        have hjb : joinB q m = (decide (q.block = m.block) && (eqP q.tx q.ty q.tz m.fx m.fy m.fz && (decide (q.rate = m.rate) && decide (q.tool = m.tool)))) := rfl
        clear hqc
        by_cases e1 : q.block = m.block
        rotate_left
        · have h1 : (q.block == m.block) = false := by simp [e1]
          rw [if_neg (by rw [hjb]; simp [e1])] at JS
          clear hjb
          go_wp2_with fail
          refine wp_region_later (by kernel_rfl) (by kernel_rfl) ?_
          repeat (go_big_quiet_step (fail))
          refine wpQuiet_nil ?_
          rintro _ ⟨y9, rfl⟩
          have hbx := heap_ext y9.ext HBX1.out
          clear q3 q4 q5 q6 q7 q8
          have d0 := cell_at hbx 0 (v := .int .i64 m.fx) rfl; have d1 := cell_at hbx 1 (v := .int .i64 m.fy) rfl; have d2 := cell_at hbx 2 (v := .int .i64 m.fz) rfl; have d3 := cell_at hbx 3 (v := .int .i64 m.tx) rfl; have d4 := cell_at hbx 4 (v := .int .i64 m.ty) rfl; have d5 := cell_at hbx 5 (v := .int .i64 m.tz) rfl; have d6 := cell_at hbx 6 (v := .int .i64 m.rate) rfl; have d7 := cell_at hbx 7 (v := .int .i64 m.tool) rfl; have d8 := cell_at hbx 8 (v := .int .i64 m.block) rfl
          obtain ⟨X2, hX2, hbx2, hex2, hzx2⟩ := row_alloc y9.w #[.int .i64 m.fx, .int .i64 m.fy, .int .i64 m.fz, .int .i64 m.tx, .int .i64 m.ty, .int .i64 m.tz, .int .i64 m.rate, .int .i64 m.tool, .int .i64 m.block] 49
          have HSX := Lib.hid (slM_row hbx2 (by omega)); have HOX2 := Lib.hid (HOX.out.later (y9.ext.trans hex2))
          have HEX2 := Lib.hid (((HX.out.trans HEX1.out).trans y9.ext).trans hex2)
          have HBX : Hid (V5.heap.size ≤ X2.heap.size) := Lib.hid HEX2.out.size
          have HLX : Hid (acc.length + [m].length ≤ 1000000000) := Lib.hid (by simp only [List.length_cons, List.length_nil]; omega)
          clear hbx2 hex2 hzx2 hbx
          go_wp2_with ((at_builtin; refine appM_at rfl _ _ rfl V5.heap.size _ _ acc [m] rfl rfl HOX2.out HSX.out HLX.out HBX.out ?_; intro v6 w6 own6 hg6 hloc6))
          have E6 : Ext V5 w6 := HEX2.out.only (Only.of_grown hg6) (fun i hi e => by have := HOX2.out.base e; omega)
          go_roundw
          case rel => exact ⟨k + 1, by omega, by go_num, Lib.hid E6, Lib.hid (by rw [JS.out]; exact own6)⟩
          case measure => simp [intOf]; omega
        have h1 : (q.block == m.block) = true := by simp [e1]
        cases e2 : eqP q.tx q.ty q.tz m.fx m.fy m.fz
        · rw [e2] at heq hjb
          rw [if_neg (by rw [hjb]; simp [])] at JS
          clear hjb
          go_wp2_with fail
          refine wp_region_later (by kernel_rfl) (by kernel_rfl) ?_
          repeat (go_big_quiet_step (fail))
          refine wpQuiet_nil ?_
          rintro _ ⟨y9, rfl⟩
          have hbx := heap_ext y9.ext HBX1.out
          clear q3 q4 q5 q6 q7 q8
          have d0 := cell_at hbx 0 (v := .int .i64 m.fx) rfl; have d1 := cell_at hbx 1 (v := .int .i64 m.fy) rfl; have d2 := cell_at hbx 2 (v := .int .i64 m.fz) rfl; have d3 := cell_at hbx 3 (v := .int .i64 m.tx) rfl; have d4 := cell_at hbx 4 (v := .int .i64 m.ty) rfl; have d5 := cell_at hbx 5 (v := .int .i64 m.tz) rfl; have d6 := cell_at hbx 6 (v := .int .i64 m.rate) rfl; have d7 := cell_at hbx 7 (v := .int .i64 m.tool) rfl; have d8 := cell_at hbx 8 (v := .int .i64 m.block) rfl
          obtain ⟨X2, hX2, hbx2, hex2, hzx2⟩ := row_alloc y9.w #[.int .i64 m.fx, .int .i64 m.fy, .int .i64 m.fz, .int .i64 m.tx, .int .i64 m.ty, .int .i64 m.tz, .int .i64 m.rate, .int .i64 m.tool, .int .i64 m.block] 49
          have HSX := Lib.hid (slM_row hbx2 (by omega)); have HOX2 := Lib.hid (HOX.out.later (y9.ext.trans hex2))
          have HEX2 := Lib.hid (((HX.out.trans HEX1.out).trans y9.ext).trans hex2)
          have HBX : Hid (V5.heap.size ≤ X2.heap.size) := Lib.hid HEX2.out.size
          have HLX : Hid (acc.length + [m].length ≤ 1000000000) := Lib.hid (by simp only [List.length_cons, List.length_nil]; omega)
          clear hbx2 hex2 hzx2 hbx
          go_wp2_with ((at_builtin; refine appM_at rfl _ _ rfl V5.heap.size _ _ acc [m] rfl rfl HOX2.out HSX.out HLX.out HBX.out ?_; intro v6 w6 own6 hg6 hloc6))
          have E6 : Ext V5 w6 := HEX2.out.only (Only.of_grown hg6) (fun i hi e => by have := HOX2.out.base e; omega)
          go_roundw
          case rel => exact ⟨k + 1, by omega, by go_num, Lib.hid E6, Lib.hid (by rw [JS.out]; exact own6)⟩
          case measure => simp [intOf]; omega
        rw [e2] at heq hjb
        clear e2
        by_cases e3 : q.rate = m.rate
        rotate_left
        · have h3 : (q.rate == m.rate) = false := by simp [e3]
          rw [if_neg (by rw [hjb]; simp [e3])] at JS
          clear hjb
          go_wp2_with fail
          refine wp_region_later (by kernel_rfl) (by kernel_rfl) ?_
          repeat (go_big_quiet_step (fail))
          refine wpQuiet_nil ?_
          rintro _ ⟨y9, rfl⟩
          have hbx := heap_ext y9.ext HBX1.out
          clear q3 q4 q5 q6 q7 q8
          have d0 := cell_at hbx 0 (v := .int .i64 m.fx) rfl; have d1 := cell_at hbx 1 (v := .int .i64 m.fy) rfl; have d2 := cell_at hbx 2 (v := .int .i64 m.fz) rfl; have d3 := cell_at hbx 3 (v := .int .i64 m.tx) rfl; have d4 := cell_at hbx 4 (v := .int .i64 m.ty) rfl; have d5 := cell_at hbx 5 (v := .int .i64 m.tz) rfl; have d6 := cell_at hbx 6 (v := .int .i64 m.rate) rfl; have d7 := cell_at hbx 7 (v := .int .i64 m.tool) rfl; have d8 := cell_at hbx 8 (v := .int .i64 m.block) rfl
          obtain ⟨X2, hX2, hbx2, hex2, hzx2⟩ := row_alloc y9.w #[.int .i64 m.fx, .int .i64 m.fy, .int .i64 m.fz, .int .i64 m.tx, .int .i64 m.ty, .int .i64 m.tz, .int .i64 m.rate, .int .i64 m.tool, .int .i64 m.block] 49
          have HSX := Lib.hid (slM_row hbx2 (by omega)); have HOX2 := Lib.hid (HOX.out.later (y9.ext.trans hex2))
          have HEX2 := Lib.hid (((HX.out.trans HEX1.out).trans y9.ext).trans hex2)
          have HBX : Hid (V5.heap.size ≤ X2.heap.size) := Lib.hid HEX2.out.size
          have HLX : Hid (acc.length + [m].length ≤ 1000000000) := Lib.hid (by simp only [List.length_cons, List.length_nil]; omega)
          clear hbx2 hex2 hzx2 hbx
          go_wp2_with ((at_builtin; refine appM_at rfl _ _ rfl V5.heap.size _ _ acc [m] rfl rfl HOX2.out HSX.out HLX.out HBX.out ?_; intro v6 w6 own6 hg6 hloc6))
          have E6 : Ext V5 w6 := HEX2.out.only (Only.of_grown hg6) (fun i hi e => by have := HOX2.out.base e; omega)
          go_roundw
          case rel => exact ⟨k + 1, by omega, by go_num, Lib.hid E6, Lib.hid (by rw [JS.out]; exact own6)⟩
          case measure => simp [intOf]; omega
        have h3 : (q.rate == m.rate) = true := by simp [e3]
        by_cases e4 : q.tool = m.tool
        rotate_left
        · have h4 : (q.tool == m.tool) = false := by simp [e4]
          rw [if_neg (by rw [hjb]; simp [e4])] at JS
          clear hjb
          go_wp2_with fail
          refine wp_region_later (by kernel_rfl) (by kernel_rfl) ?_
          repeat (go_big_quiet_step (fail))
          refine wpQuiet_nil ?_
          rintro _ ⟨y9, rfl⟩
          have hbx := heap_ext y9.ext HBX1.out
          clear q3 q4 q5 q6 q7 q8
          have d0 := cell_at hbx 0 (v := .int .i64 m.fx) rfl; have d1 := cell_at hbx 1 (v := .int .i64 m.fy) rfl; have d2 := cell_at hbx 2 (v := .int .i64 m.fz) rfl; have d3 := cell_at hbx 3 (v := .int .i64 m.tx) rfl; have d4 := cell_at hbx 4 (v := .int .i64 m.ty) rfl; have d5 := cell_at hbx 5 (v := .int .i64 m.tz) rfl; have d6 := cell_at hbx 6 (v := .int .i64 m.rate) rfl; have d7 := cell_at hbx 7 (v := .int .i64 m.tool) rfl; have d8 := cell_at hbx 8 (v := .int .i64 m.block) rfl
          obtain ⟨X2, hX2, hbx2, hex2, hzx2⟩ := row_alloc y9.w #[.int .i64 m.fx, .int .i64 m.fy, .int .i64 m.fz, .int .i64 m.tx, .int .i64 m.ty, .int .i64 m.tz, .int .i64 m.rate, .int .i64 m.tool, .int .i64 m.block] 49
          have HSX := Lib.hid (slM_row hbx2 (by omega)); have HOX2 := Lib.hid (HOX.out.later (y9.ext.trans hex2))
          have HEX2 := Lib.hid (((HX.out.trans HEX1.out).trans y9.ext).trans hex2)
          have HBX : Hid (V5.heap.size ≤ X2.heap.size) := Lib.hid HEX2.out.size
          have HLX : Hid (acc.length + [m].length ≤ 1000000000) := Lib.hid (by simp only [List.length_cons, List.length_nil]; omega)
          clear hbx2 hex2 hzx2 hbx
          go_wp2_with ((at_builtin; refine appM_at rfl _ _ rfl V5.heap.size _ _ acc [m] rfl rfl HOX2.out HSX.out HLX.out HBX.out ?_; intro v6 w6 own6 hg6 hloc6))
          have E6 : Ext V5 w6 := HEX2.out.only (Only.of_grown hg6) (fun i hi e => by have := HOX2.out.base e; omega)
          go_roundw
          case rel => exact ⟨k + 1, by omega, by go_num, Lib.hid E6, Lib.hid (by rw [JS.out]; exact own6)⟩
          case measure => simp [intOf]; omega
        have h4 : (q.tool == m.tool) = true := by simp [e4]
        rw [if_pos (by rw [hjb]; simp [e1, e3, e4])] at JS
        have HE1 := Lib.hid e1; have HE3' := Lib.hid e3; have HE4' := Lib.hid e4
        clear hjb e1 e3 e4
        go_wp2_with fail
        refine wp_region_later (by kernel_rfl) (by kernel_rfl) ?_
        repeat (go_big_quiet_step (fail))
        refine wpQuiet_nil ?_
        rintro _ ⟨y9, rfl⟩
        have hbx := heap_ext y9.ext HBX1.out
        clear q3 q4 q5 q6 q7 q8 k0 k1 k2 k3 k4 k5 k6 k7 k8
        have d3 := cell_at hbx 3 (v := .int .i64 m.tx) rfl; have d4 := cell_at hbx 4 (v := .int .i64 m.ty) rfl; have d5 := cell_at hbx 5 (v := .int .i64 m.tz) rfl
        have hq := HQC.out.2.later HQC.out.1 y9.ext
        have r3 := hq.c3; have r4 := hq.c4; have r5 := hq.c5
        have f3 := HFR.out y9.w y9.ext (mm * 9 + 3); have f4 := HFR.out y9.w y9.ext (mm * 9 + 4); have f5 := HFR.out y9.w y9.ext (mm * 9 + 5)
        clear hq hbx
        go_wp2
        go_roundw
        case rel => exact ⟨k + 1, by omega, by go_num, Lib.hid (((((HX.out.trans HEX1.out).trans y9.ext).setCell hgb _).setCell hgb _).setCell hgb _), Lib.hid (by rw [JS.out]; exact HPT.out y9.w y9.ext)⟩
        case measure => simp [intOf]; omega
end Go.Proofs.YtjibcnnbclcboaaGreatDoor

namespace Go.Proofs.YtjibcnnbclcboaaGreatDoor
open Go.ChangeShapes Go.WideShapes Go.ChangeAt Go.RowKit Go.Joins

set_option maxRecDepth 100000 in
theorem liftJobHolds (os : Os) (started : os.Started) (H : Type) (enc : TypeId × Value → H) :
    ReturnsInHanded {} Tryz.checked os 4 .any (fun w args => (Rows.jobHoldsSpec.pre enc Tryz.prog Tryz.f4 Rows.jobHoldsRow.domain false w args ∧ laidMetH Tryz.prog Rows.jobHoldsRow.laid w) ∧ sizedMet enc Tryz.prog Tryz.f4 (OpenSpec.ofChange Rows.jobHoldsSpec) false w args) (Rows.jobHoldsSpec.post enc Tryz.prog Tryz.f4 false true false false) := by
  refine returnsInHanded_of_change_and (C := Tryz.checked) (X := fun w _ => laidMetH Tryz.prog Rows.jobHoldsRow.laid w) (fun _ _ _ hh h => h.of_heap hh) Tryz.own started (by kernel_rfl) Tryz.func4
    (ChangeSpec.witness_shaped (enc := enc) (C := Tryz.checked) (os := os) (X := fun w _ => laidMetH Tryz.prog Rows.jobHoldsRow.laid w) false (World.laidAll Tryz.prog os Rows.jobHoldsRow.laid) #[.agg #[.int .i16 0, .int .i16 0, .int .i16 0, .slice none 0 0, .int .i64 0, .int .i64 0, .int .i64 0, .int .i64 0], .slice none 0 0] 8 (World.laidAll_os _ _ _)
      (World.shaped_of_ZipB (by kernel_rfl) (by kernel_rfl)) (by kernel_rfl) (by kernel_rfl) (by kernel_rfl)
      (by rw [MakeChecks.laidMetH_plain _ _ _ (by kernel_rfl)]; exact laidMet_laidAll _ (by kernel_rfl) (by kernel_rfl))) ?_
  intro W base args ds gs before hval0 hW _ hwt _ _
  have hval : ∀ (j : Nat) t v, Tryz.f4.params[j]? = some t → args[j]? = some v → Value.okWide Tryz.prog W .any base t v := hval0
  have hW' := hW
  obtain ⟨p, q, hA0, hV, rfl, hfz, hnd⟩ := hW
  have hA : DataW.TrodAll enc Tryz.prog W 0 (fun _ => true) true Tryz.f4.params.toList args.toList ds p := hA0
  rw [Tryz.params4] at hA hval
  obtain ⟨v0, vs0, d0, ds0, p0, q0, hargs, rfl, rfl, h0, r0⟩ := trodAll_cons hA
  obtain ⟨v1, vs1, d1, ds1, p1, q1, rfl, rfl, rfl, h1, r1⟩ := trodAll_cons r0
  obtain ⟨rfl, rfl, rfl⟩ := trodAll_nil r1
  obtain rfl : args = #[v0, v1] := by cases args; simp_all
  obtain ⟨rfl, rfl⟩ := trodVars_none hV
  have hw1 : (d1.weights Tryz.prog 29).all (· ≤ reachBytes) = true := by
    have e : Tryz.f4.params.toList = [28, 29] := by rw [Tryz.params4]
    rw [e] at hwt
    simp only [List.cons_append, DataW.weightsEach, List.all_append, Bool.and_eq_true] at hwt
    exact hwt.2.1
  have lt0 : ∀ x ∈ p0, x.block < W.heap.size := by obtain ⟨m, hm⟩ := h0; exact DataW.trod_lt m _ _ _ hm
  have lt1 : ∀ x ∈ p1, x.block < W.heap.size := by obtain ⟨m, hm⟩ := h1; exact DataW.trod_lt m _ _ _ hm
  obtain ⟨x, y, z, vw, s, a, j, safe, ways, e0, a1, a2, a3, a4, a5⟩ := trip_of (hval 0 28 v0 rfl rfl) h0
  subst e0
  obtain ⟨es, b1, b2, b3⟩ := evs_of (hval 1 29 v1 rfl rfl) h1 hw1
  clear hA0 hval0
  refine (jholds_law ⟨a1, a2, a3, a4, b1, b2, b3, a5⟩).mono fun e W' ⟨he, bel⟩ => ?_
  subst he
  exact ⟨_, rfl, _, _, _, [], _, [], hW', trodAll_mk1 (shut_bool Tryz.underlying4 _), (trodAll_cons_mk (Below.trod Tryz.laidOut (by kernel_rfl) (of_decide_eq_true (by kernel_rfl)) h0 bel.out lt0) (trodAll_cons_mk (Below.trod Tryz.laidOut (by kernel_rfl) (of_decide_eq_true (by kernel_rfl)) h1 bel.out lt1) trodAll_mk0)), rfl, bel.out.frame _, fun h => by cases h⟩

/-- The row. -/
theorem jholds_row : Rows.JobHoldsSaid :=
  OpenClaim.holds_of_wide 4 Tryz.f4 rfl rfl rfl rfl rfl rfl rfl ⟨rfl, rfl, rfl, rfl, rfl⟩ rfl rfl rfl rfl rfl (by kernel_rfl) Tryz.func4 (by kernel_rfl)
    (of_decide_eq_true (by kernel_rfl)) (by unfold Func.isWrapper; first | (rw [if_pos (by decide +kernel)]; kernel_rfl) | (rw [if_neg (by decide +kernel)]; exact ⟨rfl, rfl⟩))
    (fun os started H enc _ => liftJobHolds os started H enc)

/-- The tied card. -/
theorem jholds_holds : Rows.JobHoldsCardSaid :=
  Claim7.holds_tied_plain_at .later [] [.data, .data, .data, .data, .pinned] true Rows.jobHoldsCard.stood.harness false
    jholds_row (fun _ h => by cases h) (by kernel_rfl) (fun _ h => by cases h) jobHolds_row_tie rfl ⟨rfl, rfl⟩ (by kernel_rfl) rfl
    (fun f fn hf hfn => by
      obtain rfl : f = 4 := Option.some.inj ((show Tryz.prog.funcNamed "swarf/swarflaw55.JobHolds" = some 4 by kernel_rfl).symm.trans hf) |>.symm
      obtain rfl : fn = Tryz.f4 := (Option.some.inj (Tryz.func4.symm.trans hfn)).symm
      exact ⟨by kernel_rfl, fun j t ht => by
        rw [Tryz.params4] at ht
        have hm : t ∈ [28, 29] := by simpa using Array.mem_of_getElem? ht
        have hall : ([28, 29].all fun u => !Tryz.prog.wantsStandIn u) = true := by kernel_rfl
        exact (show Tryz.prog.wantsStandIn t = false by simpa using List.all_eq_true.1 hall t hm)⟩)
    (by kernel_rfl)

#print axioms jholds_holds
end Go.Proofs.YtjibcnnbclcboaaGreatDoor
