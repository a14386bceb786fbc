/-
  The law JobConnected, walked: for every trip and all events it returns true.
  JobConnected: the pieces of Disturbed are connected and lead from the first motion to the end of the last one: for every input the law returns true, and its arguments stay as they were. Condition: the listed tables of Go's library are as the program's text lays them (the card ties them).
-/
import Derived.Test.YtjibcnnbclcboaaGreatDoorQB34
import Derived.Test.YtjibcnnbclcboaaGreatDoorQB35
import Derived.Test.YtjibcnnbclcboaaGreatDoorCards
import Derived.Test.YtjibcnnbclcboaaGreatDoorTie
import Derived.OpenShut
import Derived.LaidMore
import Derived.Lay
import Derived.SevenTiedAt
import Derived.Stop.Joined
namespace Go.Proofs.YtjibcnnbclcboaaGreatDoor
open Go.RowKit
set_option maxRecDepth 8000
set_option maxHeartbeats 16000000 in
theorem jconnected_law {x y z : Int} {vw : Value} {s a j safe : Int} {ways : List Way} {ve : Value} {es : List (Int × Int)} {w : World} (h : LawIn x y z vw s a j safe ways ve es w) :
    Calls Tryz.prog 5 #[TripV x y z vw s a j safe, ve] w fun e w' => e = .returned (.bool true) ∧ Ext w w' := by
  have H := Lib.hid h
  obtain ⟨xe, ce, hve⟩ := slE_is h.se
  have kf := fun (w' : World) (he : Ext w w') => tfast_any x y z vw s a j safe ways w' (h.sw.later he) h.small h.wl
  have kv := fun (w' : World) (he : Ext w w') => evalid_any ve es w' (h.se.later he) (by have := h.el; omega)
  have hel : es.length ≤ 9000000000000 := by have := h.el; omega
  obtain ⟨xw, cw, hvw⟩ := slW_is h.sw
  clear h
  subst hve hvw
  obtain ⟨W1, hW1, hb1, hE1, hz1⟩ := row_alloc w #[.int .i16 x, .int .i16 y, .int .i16 z, .slice xw ways.length cw, .int .i64 s, .int .i64 a, .int .i64 j, .int .i64 safe] 28
  have HB1 := Lib.hid hb1; have HE1 := Lib.hid hE1; have KF := Lib.hid kf; have KV := Lib.hid kv
  clear hb1 hE1 hz1 kf kv
  go_enter Tryz.func5, Tryz.ntmps5
  unfold TripV
  go_wp2_with fail
  clear hW1
  refine (awake_any W1).mono ?_
  rintro e W2 ⟨rfl, hx2⟩
  have HE2 := Lib.hid (HE1.out.trans hx2); have HB2 := Lib.hid (heap_ext hx2 HB1.out)
  have KF2 := Lib.hid (KF.out W2 HE2.out)
  unfold TripV at KF2
  clear HE1 HB1 hx2 KF
  clear W1
  have b2 := HB2.out
  have t0 := cell_at b2 0 (v := .int .i16 x) rfl; have t1 := cell_at b2 1 (v := .int .i16 y) rfl; have t2 := cell_at b2 2 (v := .int .i16 z) rfl; have t3 := cell_at b2 3 (v := .slice xw ways.length cw) rfl; have t4 := cell_at b2 4 (v := .int .i64 s) rfl; have t5 := cell_at b2 5 (v := .int .i64 a) rfl; have t6 := cell_at b2 6 (v := .int .i64 j) rfl; have t7 := cell_at b2 7 (v := .int .i64 safe) rfl
  clear b2
  cases hf : fastB ways s a j safe
  · rw [hf] at KF2
    go_wp2_with ((go_at_call 7; with_reducible refine (KF2.out).mono ?_); rintro e W3 ⟨rfl, hx3⟩)
    refine (awake_any W3).mono ?_
    rintro e W4 ⟨rfl, hx4⟩
    go_wp2
    go_ret
    exact ⟨rfl, (HE2.out.trans hx3).trans hx4⟩
  rw [hf] at KF2
  have hwl := fast_len hf
  have HF := Lib.hid hf
  clear hf
  have HWF : Hid (WfL (route (x, y, z) ways)) := Lib.hid (route_wf H.out.small H.out.near hwl)
  have HRL : Hid ((route (x, y, z) ways).length = ways.length) := Lib.hid (routeGo_length _ _ _)
  cases hl : decide ((es.length : Int) > 4)
  rotate_left
  · go_wp2_with ((go_at_call 7; with_reducible refine (KF2.out).mono ?_); rintro e W3 ⟨rfl, hx3⟩; have HE3 := Lib.hid (HE2.out.trans hx3); have HB3 := Lib.hid (heap_ext hx3 HB2.out); have b3 := HB3.out; have u4 := cell_at b3 4 (v := .int .i64 s) rfl; have u5 := cell_at b3 5 (v := .int .i64 a) rfl; have u6 := cell_at b3 6 (v := .int .i64 j) rfl; clear b3)
    refine (awake_any W3).mono ?_
    rintro e W4 ⟨rfl, hx4⟩
    go_wp2
    go_ret
    exact ⟨rfl, HE3.out.trans hx4⟩
  go_wp2_with ((go_at_call 7; with_reducible refine (KF2.out).mono ?_); rintro e W3 ⟨rfl, hx3⟩; have HE3 := Lib.hid (HE2.out.trans hx3); have HB3 := Lib.hid (heap_ext hx3 HB2.out); have b3 := HB3.out; have u0 := cell_at b3 0 (v := .int .i16 x) rfl; have u1 := cell_at b3 1 (v := .int .i16 y) rfl; have u2 := cell_at b3 2 (v := .int .i16 z) rfl; have u3 := cell_at b3 3 (v := .slice xw ways.length cw) rfl; have u4 := cell_at b3 4 (v := .int .i64 s) rfl; have u5 := cell_at b3 5 (v := .int .i64 a) rfl; have u6 := cell_at b3 6 (v := .int .i64 j) rfl; have u7 := cell_at b3 7 (v := .int .i64 safe) rfl; clear b3)
  clear t0 t1 t2 t3 t4 t5 t6 t7 u0 u1 u2 u3 u4 u5 u6 u7
  have KM := Lib.hid (motions_any x y z _ s a j safe ways W3 (H.out.sw.later HE3.out) H.out.small hwl H.out.near)
  unfold TripV at KM
  refine KM.out.mono ?_
  rintro e V ⟨v2, rfl, own2, hy2⟩
  go_wp2_with fail
  have HBV := Lib.hid (heap_ext hy2 HB3.out); have HEV := Lib.hid (HE3.out.trans hy2)
  have HO2 := Lib.hid own2
  clear KM own2 hy2 HB3 HE3 hx3 HB2 HE2 KF2

  have bV := HBV.out
  have k4 := Later.block bV 4 (v := .int .i64 s) rfl; have k5 := Later.block bV 5 (v := .int .i64 a) rfl; have k6 := Later.block bV 6 (v := .int .i64 j) rfl; have k7 := Later.block bV 7 (v := .int .i64 safe) rfl
  clear bV
  refine wp_region_tree (fun w' => ∃ y : Later V, w' = y.w) 20 (.one [0, 1, 2, 3, 4, 5, 6, 7, 8, 9, 10, 11, 13, 14] 12 (.one [] 15 (.leaf [16, 17, 18, 19]))) (by kernel_rfl) (by kernel_rfl) (by kernel_rfl) ⟨⟨_, (Ext.refl V).drew⟩, rfl⟩ ?_
  simp only [List.take_succ_cons, List.take_zero]
  refine tree_one fun K hK => ?_
  simp only [List.map_cons, List.map_nil, pickOp, List.getElem?_cons_zero, List.getElem?_cons_succ, Option.getD_some]
  repeat (go_big_quiet_step (fail))
  refine wpQuiet_nil ?_
  clear k4 k5 k6 k7
  have hxV : Ext V V.drew := (Ext.refl V).drew
  have KE := Lib.hid (events_any _ es V.drew (H.out.se.later (HEV.out.trans hxV)) H.out.el)
  go_wp2_with ((go_at_call 11; with_reducible refine (KE.out).mono ?_); rintro e V3 ⟨v3, rfl, own3, hy3⟩)
  clear KE
  have hxV3 := hxV.trans hy3
  refine onlyK_normal (hK _ _ ⟨⟨_, hxV3⟩, rfl⟩ ?_); clear hK K
  refine tree_one0 fun K hK => ?_
  simp only [pickOp, List.getElem?_cons_zero, List.getElem?_cons_succ, Option.getD_some]
  have KJ := Lib.hid (jdist_any v2 v3 (route (x, y, z) ways) es s a j safe V3 (HO2.out.sl.later hxV3) own3.sl (by rw [HRL.out]; omega) (by omega) HWF.out H.out.sf)
  go_wp2_with ((go_at_call 9; with_reducible refine (KJ.out).mono ?_); rintro e V4 ⟨v4, rfl, S4, hy4, cap4⟩)
  clear KJ
  have hxV4 := hxV3.trans hy4
  refine onlyK_normal (hK _ _ ⟨⟨_, hxV4⟩, rfl⟩ ?_); clear hK K
  have HS4 := Lib.hid S4
  have HC4 := Lib.hid cap4
  have HX4 := Lib.hid hxV4
  clear S4 cap4 own3 hy3 hy4 hxV hxV3 hxV4
  refine tree_leaf ?_
  simp only [List.map_cons, List.map_nil, pickOp, List.getElem?_cons_zero, List.getElem?_cons_succ, Option.getD_some]
  repeat (go_big_quiet_step (fail))
  refine wpQuiet_nil ?_
  simp only [List.drop_succ_cons, List.drop_zero]
  have HDL : Hid ((distE (route (x, y, z) ways) s a j safe es).2.length ≤ 1000000) := Lib.hid (distE_len HWF.out H.out.sf)
  have HER : Hid ((distE (route (x, y, z) ways) s a j safe es).1 ≠ 0 → (distE (route (x, y, z) ways) s a j safe es).2 = []) := Lib.hid distE_err
  have HNO : Hid ((route (x, y, z) ways).length = 0 → (distE (route (x, y, z) ways) s a j safe es).2 = []) := Lib.hid (fun h => by rw [List.length_eq_zero_iff.1 h]; exact distE_none)
  have HCH : Hid (0 < (route (x, y, z) ways).length → (distE (route (x, y, z) ways) s a j safe es).1 = 0 → Chain ((route (x, y, z) ways).getD 0 Mot.zero).f3 (distE (route (x, y, z) ways) s a j safe es).2 (endOf (route (x, y, z) ways))) := Lib.hid (fun h1 h2 => distE_chain HWF.out H.out.sf h1 h2)
  have HSM := Lib.hid (HO2.out.sl.later HX4.out)
  have HE4 := Lib.hid (HEV.out.trans HX4.out)
  have hrt : (route (x, y, z) ways).length ≤ 6 := by rw [HRL.out]; exact hwl
  clear HO2 HRL HWF HX4 HEV HBV KV hl
  generalize distE (route (x, y, z) ways) s a j safe es = R at *
  generalize route (x, y, z) ways = rt at *
  obtain ⟨rc, rl⟩ := R
  obtain ⟨x4, c4, hv4⟩ := HS4.out.is
  subst hv4
  obtain ⟨a2, n2, c2, b2, o2, hv2, hn2, h32, -, h42⟩ := HSM.out
  subst hv2
  simp only at *
  by_cases hrc : rc = 0
  rotate_left
  · have hnz : (rc == 0) = false := by simp [hrc]
    have hrl : rl.length = 0 := by rw [HER.out hrc]; rfl
    rw [hrl]
    go_wp2
    go_ret
    exact ⟨rfl, HE4.out⟩
  subst hrc
  by_cases hn0 : n2 = 0
  · have hrl : rl.length = 0 := by rw [HNO.out (by omega)]; rfl
    rw [hrl]
    subst hn0
    go_wp2
    go_ret
    exact ⟨rfl, HE4.out⟩
  have hch := HCH.out (by omega) rfl
  have ha2 := h32.resolve_left hn0
  subst ha2
  have m0 := (h42 0 (by omega)).2
  have m1 := (h42 (n2 - 1) (by omega)).2
  have hend : endOf rt = (rt.getD (n2 - 1) Mot.zero).t3 := by unfold endOf; rw [hn2]
  rw [Nat.zero_mul, Nat.add_zero] at m0
  have hcc := fun k hk => (chain_conn hch k hk).1
  have hcn := fun k hk => (chain_conn hch k hk).2
  have hce := chain_end hch
  rw [hend] at hce
  generalize rt.getD 0 Mot.zero = p at *
  generalize rt.getD (n2 - 1) Mot.zero = q at *
  have kc : ∀ w', Ext V4 w' → Calls Tryz.prog 15 #[Ps p.fx p.fy p.fz, .slice x4 rl.length c4] w' fun e w'' => e = .returned (.bool true) ∧ Ext w' w'' := fun w' he => conn47_any p.fx p.fy p.fz _ rl w' (HS4.out.later he) HC4.out (by have := HDL.out; omega) hcc
  have ke : ∀ w', Ext V4 w' → Calls Tryz.prog 16 #[Ps p.fx p.fy p.fz, .slice x4 rl.length c4] w' fun e w'' => e = .returned (Ps q.tx q.ty q.tz) ∧ Ext w' w'' := fun w' he => by
    have := end47_any p.fx p.fy p.fz _ rl w' (HS4.out.later he) (by have := HDL.out; omega)
    rw [show endL (p.fx, p.fy, p.fz) rl = q.t3 from hce] at this
    exact this
  have kn : ∀ w', Ext V4 w' → Calls Tryz.prog 17 #[.slice x4 rl.length c4, .func (.func 18) #[] #[]] w' fun e w'' => e = .returned (.bool false) ∧ Ext w' w'' := fun w' he => containsF_any _ rl w' (HS4.out.later he) (by have := HDL.out; omega) hcn
  have KC := Lib.hid kc; have KE := Lib.hid ke; have KN := Lib.hid kn
  obtain ⟨m, hm⟩ : ∃ m, n2 = m + 1 := ⟨n2 - 1, by omega⟩
  rw [hm, Nat.add_sub_cancel] at m1
  subst hm
  have hmb : m ≤ 6 := by omega
  have e1 : (((m + 1 : Nat) : Int) - 1).toNat = m := by omega
  have c0 := Later.cell m0.c0; have c1 := Later.cell m0.c1; have c2' := Later.cell m0.c2
  have d3 := Later.cell m1.c3; have d4 := Later.cell m1.c4; have d5 := Later.cell m1.c5
  have heq : ∀ w, (binOp .eql 47 (Ps q.tx q.ty q.tz) (Ps q.tx q.ty q.tz)).run Tryz.prog w = .ok (.bool true) w := fun w => by rw [Tryz.eql_pos]; simp [eqP]
  have hz : (((m + 1 : Nat) : Int) == 0) = false := by simp; omega
  have HN2 := Lib.hid hn2
  clear kc ke kn hcc hcn hce hch m0 m1 hend h42 h32 hn0 hn2 HCH HNO HER HSM HDL HC4 HS4
  go_wp2_with fail
  refine wp_region_later (by kernel_rfl) (by kernel_rfl) ?_
  repeat (go_big_quiet_step (first | (go_at_call 15; exact Calls.later (KC.out _ (Later.ext _))) | (go_at_call 16; exact Calls.later (KE.out _ (Later.ext _))) | (go_at_call 17; exact Calls.later (KN.out _ (Later.ext _)))))
  refine wpQuiet_nil ?_
  rintro _ ⟨x9, rfl⟩
  go_wp2
  go_ret
  exact ⟨rfl, HE4.out.trans x9.ext⟩
end Go.Proofs.YtjibcnnbclcboaaGreatDoor

namespace Go.Proofs.YtjibcnnbclcboaaGreatDoor
open Go.ChangeShapes Go.WideShapes Go.ChangeAt Go.RowKit Go.Joins

set_option maxRecDepth 100000 in
theorem liftJobConnected (os : Os) (started : os.Started) (H : Type) (enc : TypeId × Value → H) :
    ReturnsInHanded {} Tryz.checked os 5 .any (fun w args => (Rows.jobConnectedSpec.pre enc Tryz.prog Tryz.f5 Rows.jobConnectedRow.domain false w args ∧ laidMetH Tryz.prog Rows.jobConnectedRow.laid w) ∧ sizedMet enc Tryz.prog Tryz.f5 (OpenSpec.ofChange Rows.jobConnectedSpec) false w args) (Rows.jobConnectedSpec.post enc Tryz.prog Tryz.f5 false true false false) := by
  refine returnsInHanded_of_change_and (C := Tryz.checked) (X := fun w _ => laidMetH Tryz.prog Rows.jobConnectedRow.laid w) (fun _ _ _ hh h => h.of_heap hh) Tryz.own started (by kernel_rfl) Tryz.func5
    (ChangeSpec.witness_shaped (enc := enc) (C := Tryz.checked) (os := os) (X := fun w _ => laidMetH Tryz.prog Rows.jobConnectedRow.laid w) false (World.laidAll Tryz.prog os Rows.jobConnectedRow.laid) #[.agg #[.int .i16 0, .int .i16 0, .int .i16 0, .slice none 0 0, .int .i64 0, .int .i64 0, .int .i64 0, .int .i64 0], .slice none 0 0] 8 (World.laidAll_os _ _ _)
      (World.shaped_of_ZipB (by kernel_rfl) (by kernel_rfl)) (by kernel_rfl) (by kernel_rfl) (by kernel_rfl)
      (by rw [MakeChecks.laidMetH_plain _ _ _ (by kernel_rfl)]; exact laidMet_laidAll _ (by kernel_rfl) (by kernel_rfl))) ?_
  intro W base args ds gs before hval0 hW _ hwt _ _
  have hval : ∀ (j : Nat) t v, Tryz.f5.params[j]? = some t → args[j]? = some v → Value.okWide Tryz.prog W .any base t v := hval0
  have hW' := hW
  obtain ⟨p, q, hA0, hV, rfl, hfz, hnd⟩ := hW
  have hA : DataW.TrodAll enc Tryz.prog W 0 (fun _ => true) true Tryz.f5.params.toList args.toList ds p := hA0
  rw [Tryz.params5] at hA hval
  obtain ⟨v0, vs0, d0, ds0, p0, q0, hargs, rfl, rfl, h0, r0⟩ := trodAll_cons hA
  obtain ⟨v1, vs1, d1, ds1, p1, q1, rfl, rfl, rfl, h1, r1⟩ := trodAll_cons r0
  obtain ⟨rfl, rfl, rfl⟩ := trodAll_nil r1
  obtain rfl : args = #[v0, v1] := by cases args; simp_all
  obtain ⟨rfl, rfl⟩ := trodVars_none hV
  have hw1 : (d1.weights Tryz.prog 29).all (· ≤ reachBytes) = true := by
    have e : Tryz.f5.params.toList = [28, 29] := by rw [Tryz.params5]
    rw [e] at hwt
    simp only [List.cons_append, DataW.weightsEach, List.all_append, Bool.and_eq_true] at hwt
    exact hwt.2.1
  have lt0 : ∀ x ∈ p0, x.block < W.heap.size := by obtain ⟨m, hm⟩ := h0; exact DataW.trod_lt m _ _ _ hm
  have lt1 : ∀ x ∈ p1, x.block < W.heap.size := by obtain ⟨m, hm⟩ := h1; exact DataW.trod_lt m _ _ _ hm
  obtain ⟨x, y, z, vw, s, a, j, safe, ways, e0, a1, a2, a3, a4, a5⟩ := trip_of (hval 0 28 v0 rfl rfl) h0
  subst e0
  obtain ⟨es, b1, b2, b3⟩ := evs_of (hval 1 29 v1 rfl rfl) h1 hw1
  clear hA0 hval0
  refine (jconnected_law ⟨a1, a2, a3, a4, b1, b2, b3, a5⟩).mono fun e W' ⟨he, bel⟩ => ?_
  subst he
  exact ⟨_, rfl, _, _, _, [], _, [], hW', trodAll_mk1 (shut_bool Tryz.underlying4 _), (trodAll_cons_mk (Below.trod Tryz.laidOut (by kernel_rfl) (of_decide_eq_true (by kernel_rfl)) h0 bel.out lt0) (trodAll_cons_mk (Below.trod Tryz.laidOut (by kernel_rfl) (of_decide_eq_true (by kernel_rfl)) h1 bel.out lt1) trodAll_mk0)), rfl, bel.out.frame _, fun h => by cases h⟩

/-- The row. -/
theorem jconnected_row : Rows.JobConnectedSaid :=
  OpenClaim.holds_of_wide 5 Tryz.f5 rfl rfl rfl rfl rfl rfl rfl ⟨rfl, rfl, rfl, rfl, rfl⟩ rfl rfl rfl rfl rfl (by kernel_rfl) Tryz.func5 (by kernel_rfl)
    (of_decide_eq_true (by kernel_rfl)) (by unfold Func.isWrapper; first | (rw [if_pos (by decide +kernel)]; kernel_rfl) | (rw [if_neg (by decide +kernel)]; exact ⟨rfl, rfl⟩))
    (fun os started H enc _ => liftJobConnected os started H enc)

/-- The tied card. -/
theorem jconnected_holds : Rows.JobConnectedCardSaid :=
  Claim7.holds_tied_plain_at .later [] [.data, .data, .data, .data, .pinned] true Rows.jobConnectedCard.stood.harness false
    jconnected_row (fun _ h => by cases h) (by kernel_rfl) (fun _ h => by cases h) jobConnected_row_tie rfl ⟨rfl, rfl⟩ (by kernel_rfl) rfl
    (fun f fn hf hfn => by
      obtain rfl : f = 5 := Option.some.inj ((show Tryz.prog.funcNamed "swarf/swarflaw55.JobConnected" = some 5 by kernel_rfl).symm.trans hf) |>.symm
      obtain rfl : fn = Tryz.f5 := (Option.some.inj (Tryz.func5.symm.trans hfn)).symm
      exact ⟨by kernel_rfl, fun j t ht => by
        rw [Tryz.params5] at ht
        have hm : t ∈ [28, 29] := by simpa using Array.mem_of_getElem? ht
        have hall : ([28, 29].all fun u => !Tryz.prog.wantsStandIn u) = true := by kernel_rfl
        exact (show Tryz.prog.wantsStandIn t = false by simpa using List.all_eq_true.1 hall t hm)⟩)
    (by kernel_rfl)

#print axioms jconnected_holds
end Go.Proofs.YtjibcnnbclcboaaGreatDoor
