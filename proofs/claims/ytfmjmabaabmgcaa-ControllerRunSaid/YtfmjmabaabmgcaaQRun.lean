/-
  ControllerRun, walked.
  ControllerRun: Without holds a controller performs all motions: for every input the law returns true. No condition.
-/
import Derived.Test.YtfmjmabaabmgcaaQB19
import Derived.Test.YtfmjmabaabmgcaaQB13
namespace Go.Proofs.Ytfmjmabaabmgcaa
open Go.RowKit
set_option maxRecDepth 100000

theorem lsumRem {C : Ctl} (h : C.Ok) : 0 ≤ C.rem := h.rem0
theorem run_done {C : Ctl} (ho : C.Ok) (hb : C.bk = false) (hh : C.hd = false) (ht : C.tickB = false) : C.idx = C.ms.length := by
  unfold Ctl.tickB at ht
  rw [hb, hh] at ht
  simp only [Bool.not_false, Bool.true_and, Bool.and_false, Bool.and_true, decide_eq_false_iff_not] at ht
  have := ho.le
  omega

set_option maxHeartbeats 8000000 in
theorem lawRun (v : Value) (l : List Mot) (s a j : Int) (w : World) (h : SlM w v l) (hw : ∀ i, i < l.length → (l.getD i Mot.zero).wf) (hn : l.length ≤ 9223372036854775807) :
    Calls Try.prog 4 #[v, Lm s a j] w fun e w' => e = .returned (.bool true) ∧ Ext w w' := by
  have kr := right_any v l s a j _ (h.later ((Ext.refl w).alloc (.cells #[.int .i64 s, .int .i64 a, .int .i64 j] 23))) hn hw
  have KR := Lib.hid kr; clear kr
  have HS := Lib.hid h; have HW := Lib.hid hw
  clear h hw
  cases hR : rightB l s a j
  · rw [hR] at KR
    clear hR
    go_enter Try.func4, Try.ntmps4
    go_wp2_with fail
    refine KR.out.mono ?_
    rintro e w1 ⟨rfl, hx1⟩
    have hE1 := ((Ext.refl w).alloc (.cells #[.int .i64 s, .int .i64 a, .int .i64 j] 23)).trans hx1
    clear hx1 KR
    go_wp2_with fail
    obtain ⟨W2, hW2, L2, hx2⟩ := B3.mk' w1 (.int .i64 s) (.int .i64 a) (.int .i64 j) 25
    rw [hW2]; clear hW2
    have hE2 := hE1.trans hx2
    generalize w1.heap.size = M at *
    clear hx2 hE1
    refine (awake_any W2).mono ?_
    rintro e w3 ⟨rfl, hx3⟩
    have L3 := L2.later hx3
    have hE3 := hE2.trans hx3
    clear hx3 L2 hE2
    go_wp2_with fail
    refine (awake_any _).mono ?_
    rintro e w4 ⟨rfl, hx4⟩
    go_wp2
    go_ret
    exact ⟨rfl, hE3.trans hx4⟩
  · have RT := Lib.hid (rt_of hR)
    have hcn : conn l = 0 := by unfold rightB at hR; simp only [Bool.and_eq_true, decide_eq_true_eq] at hR; exact hR.1.2
    have HCN := Lib.hid hcn; clear hcn
    rw [hR] at KR
    clear hR
    go_enter Try.func4, Try.ntmps4
    go_wp2_with fail
    refine KR.out.mono ?_
    rintro e w1 ⟨rfl, hx1⟩
    have hE1 := ((Ext.refl w).alloc (.cells #[.int .i64 s, .int .i64 a, .int .i64 j] 23)).trans hx1
    clear hx1 KR
    go_wp2_with fail
    obtain ⟨W2, hW2, L2, hx2⟩ := B3.mk' w1 (.int .i64 s) (.int .i64 a) (.int .i64 j) 25
    rw [hW2]; clear hW2
    have hE2 := hE1.trans hx2
    generalize w1.heap.size = M at *
    clear hx2 hE1
    refine (awake_any W2).mono ?_
    rintro e w3 ⟨rfl, hx3⟩
    have L3 := L2.later hx3
    have hE3 := hE2.trans hx3
    clear hx3 L2 hE2
    have l0 := L3.c0; have l1 := L3.c1; have l2 := L3.c2
    go_wp2_with fail
    refine (new_ok v l s a j w3 (HS.out.later hE3) (by have := RT.out.n; omega) HW.out RT.out.rng RT.out.chk).mono ?_
    rintro e w4 ⟨N, vm, rfl, hI4, hE4, hlm⟩
    have hA4 : CAt w3.heap.size w4 N vm (.slice none 0 0) (.slice none 0 0) (Ctl.new l s a j) := ⟨hI4, (fun b hb => by cases hb), fun b hb => (hlm b hb).2, new_Ok RT.out.chk HW.out⟩
    have HA4 := Lib.hid hA4
    clear l0 l1 l2 hI4 hlm hA4
    have L4 := L3.later hE4
    have l0 := L4.c0; have l1 := L4.c1; have l2 := L4.c2
    go_wp2_with fail
    refine (start_any v l s a j w4 (HS.out.later (hE3.trans hE4)) (by have := RT.out.n; omega) RT.out.rng).mono ?_
    rintro e w5 ⟨G, rfl, hI5, hE5, hG5⟩
    have hP5 := Pair.start HA4.out hI5 hE5 hE4 hG5 (fun hl b hb => Nat.lt_of_lt_of_le (HS.out.lt hl hb) hE3.size)
    have hD5 : Duo w3.heap.size w5 N vm G v (Ctl.new l s a j) (Mdl.new l s a j) := ⟨_, _, _, _, hP5, (SlI.cap_nil hI5.sp), Sim.new l s a j, new_rst (conn_of HCN.out) RT.out.rng⟩
    have hF5 : Few l 0 (Ctl.new l s a j) := ⟨rfl, Nat.le_refl _⟩
    have hr5 : (Ctl.new l s a j).rem ≤ 2000 := by rw [new_rem]; exact RT.out.sum
    have hb5 : (Ctl.new l s a j).bk = false := rfl
    have hh5 : (Ctl.new l s a j).hd = false := rfl
    have hE5' := hE4.trans hE5
    clear l0 l1 l2 hI5 hP5 hE5 L3 L4
    generalize Ctl.new l s a j = C0 at *
    generalize Mdl.new l s a j = M0 at *
    go_wp2_with fail
    go_loopw [40] (fun t wr => ∃ (k : Nat) (C : Ctl) (M : Mdl), k ≤ 2000 ∧ t = .int .i64 k ∧ Duo w3.heap.size wr N vm G v C M ∧ Few l k C ∧ Hid (C.rem ≤ 2000 - k) ∧ Hid (C.bk = false) ∧ Hid (C.hd = false) ∧ Ext w3 wr) (fun t _ => 2001 - (intOf t).toNat)
    case atStart => exact ⟨0, C0, M0, by omega, rfl, hD5, hF5, Lib.hid (by omega), Lib.hid hb5, Lib.hid hh5, hE5'⟩
    case round =>
      clear hD5 hF5 hr5 hb5 hh5 hE5'
      obtain ⟨k, C, M, hk, rfl, hD, hF, HREM, HBK, HHD, hE⟩ := hrel
      obtain ⟨vp, vq, vg, vd, hP, hcap, hS, hRs⟩ := hD
      have hfp := hF.ps
      have kt := tick_any hP.c (by omega)
      have hdn : M.dn.length ≤ 999999990 := by rw [hS.dn]; omega
      have HOK := Lib.hid hP.c.ok
      have hk3 : decide ((k : Int) < 3000) = true := by simp; omega
      have HP := Lib.hid hP; have HSM := Lib.hid hS; have HRS := Lib.hid hRs; have HCP := Lib.hid hcap; have HFW := Lib.hid hF
      clear hP hS hRs hcap hF
      go_wp2_with fail
      refine kt.mono ?_
      rintro e w6 ⟨rfl, vp6, vq6, hA6, hO6, hq6, hp6⟩
      have hP6 := HP.out.cmove hA6 hO6 hq6 hp6
      have hE6 := HP.out.extC hE hO6
      clear kt hA6 hO6 hq6 hp6 HP hE
      have km := mtick_any hP6.g HCP.out hP6.gp HSM.out HOK.out hdn
      rw [HSM.out.tickB HOK.out] at km
      have HP6 := Lib.hid hP6
      clear hP6
      go_wp2_with fail
      refine km.mono ?_
      rintro e w7 ⟨rfl, vg7, vd7, hI7, hcap7, hO7, hd7, hp7⟩
      have hP7 := HP6.out.gmove hI7 (HSM.out.tick_ms HOK.out) hO7 hd7 hp7
      have hE7 := HP6.out.extG hE6 hO7
      have hS7 := HSM.out.tick HOK.out
      have hR7 := tick_rst HOK.out HRS.out
      clear km hI7 hO7 hd7 hp7 HP6 hE6
      have ks := same_any hP7 hS7
      have hF7 := HFW.out.tick
      have hrm : C.tickB = true → C.tickC.rem ≤ C.rem - 1 := HOK.out.tick_rem
      have hstill : C.tickB = false → C.tickC = C := tickC_still
      have hms := tickC_ms C
      have HB7 : Hid (C.tickC.bk = false) := Lib.hid (hms.2.1.trans HBK.out)
      have HH7 : Hid (C.tickC.hd = false) := Lib.hid (hms.2.2.trans HHD.out)
      have hdone : C.tickB = false → C.tickC.idx = l.length := fun e => by rw [tickC_still e, run_done HOK.out HBK.out HHD.out e, HFW.out.ms]
      have hrem := HREM.out
      have HRM : Hid (C.tickB = true → C.tickC.rem ≤ 2000 - ((k + 1 : Nat) : Int) ∧ k + 1 ≤ 2000) := Lib.hid (fun e => by
        have h1 := hrm e
        have h2 := hP7.c.ok.rem0
        omega)
      have HDN := Lib.hid hdone
      have HP7 := Lib.hid hP7; have HS7 := Lib.hid hS7; have HR7 := Lib.hid hR7; have HC7 := Lib.hid hcap7; have HF7 := Lib.hid hF7; have KS := Lib.hid ks
      clear hrm hstill hms hdone hrem hP7 hS7 hR7 hcap7 hF7 ks HREM HBK HHD HOK HRS HSM HFW HCP hdn
      generalize C.tickC = C1 at *
      generalize M.tickM = M1 at *
      cases htb : C.tickB
      · rw [htb] at HDN
        go_wp2_with fail
        refine KS.out.mono ?_
        rintro e w8 ⟨rfl, hP8, hO8⟩
        have hE8 := HP7.out.extG hE7 hO8
        clear KS HP7 hO8 hE7
        have hidx : C1.idx = l.length := HDN.out trivial
        have hpl : C1.doneL = M1.dn := by
          rw [HS7.out.dn]
          unfold Ctl.doneL Ctl.pieceB
          rw [hidx, HF7.out.ms, decide_eq_false (by omega)]
          simp
        have kd : ∀ w', Ext w8 w' → Calls Try.prog 19 #[.pointer (some ⟨N, 0, none⟩)] w' (RetMots w' M1.dn) := fun w' he => by
          have := done_any (hP8.c.later he).inv hP8.c.ok.posOk (by have := HF7.out.ps; omega)
          rw [hpl] at this
          exact this
        have ki : ∀ w', Ext w8 w' → Calls Try.prog 23 #[.pointer (some ⟨N, 0, none⟩)] w' fun e w'' => e = .returned (.int .i64 (l.length : Int)) ∧ w' = w'' := fun w' he => by
          have := index_any (hP8.c.later he).inv.box
          rw [hidx] at this
          exact this
        have hdl : M1.dn.length ≤ 1000000000000 := by rw [HS7.out.dn]; have := HF7.out.ps; omega
        have c16 := Later.cell hP8.g.box.c16
        obtain ⟨a16, n16, c16', b16, o16, hv16, -⟩ := id hP8.g.sd
        rw [hv16] at c16
        have hsd := hP8.g.sd
        rw [hv16] at hsd
        have HSD := Lib.hid hsd
        obtain ⟨al, nl, cl, bl, ol, hvl, hnl, -⟩ := id HS.out
        subst hvl
        rw [← hnl] at ki
        have KD := Lib.hid kd; have KI := Lib.hid ki
        clear kd ki hv16 hsd hpl hidx hP8 HDN HS7 HF7 HR7 HC7 HB7 HH7 HRM hnl
        go_wp2_with fail
        refine wp_region_tree (fun w' => ∃ y : Later w8, w' = y.w) 14 (.two [0, 2] 1 3 (.one [] 3 (.one [4, 5, 6, 8, 9, 10, 11] 7 (.one [] 12 (.leaf [13])))) (.one [] 1 (.one [4, 5, 6, 8, 9, 10, 11] 7 (.one [] 12 (.leaf [13]))))) (by kernel_rfl) (by kernel_rfl) (by kernel_rfl) ⟨⟨_, (Ext.refl w8).drew⟩, rfl⟩ ?_
        simp only [List.take_succ_cons, List.take_zero]
        refine tree_two fun K1 K2 hK1 hK2 => ?_
        simp only [List.map_cons, List.map_nil, pickOp, List.getElem?_cons_zero, List.getElem?_cons_succ, Option.getD_some]
        repeat (go_big_quiet_step (fail))
        refine wpQuiet_nil ⟨?_, ?_⟩
        · clear hK2 K2
          go_wp2_with ((go_at_call 23; with_reducible refine (KI.out _ (Ext.refl w8).drew).mono ?_); rintro e w9 ⟨rfl, hx9⟩)
          subst hx9
          refine onlyK_normal (hK1 _ _ ⟨⟨_, (Ext.refl w8).drew⟩, rfl⟩ ?_); clear hK1 K1
          refine tree_one0 fun K hK => ?_
          simp only [pickOp, List.getElem?_cons_zero, List.getElem?_cons_succ, Option.getD_some]
          go_wp2_with fail
          refine onlyK_normal (hK _ _ ⟨⟨_, (Ext.refl w8).drew⟩, rfl⟩ ?_); clear hK K
          refine tree_one fun K hK => ?_
          simp only [List.map_cons, List.map_nil, pickOp, List.getElem?_cons_zero, List.getElem?_cons_succ, Option.getD_some]
          repeat (go_big_quiet_step (fail))
          refine wpQuiet_nil ?_
          go_wp2_with ((go_at_call 19; with_reducible refine (KD.out _ (Ext.refl w8).drew).mono ?_); rintro e w12 ⟨v12, rfl, own12, hx12⟩)
          have hx12' := (Ext.refl w8).drew.trans hx12
          refine onlyK_normal (hK _ _ ⟨⟨_, hx12'⟩, rfl⟩ ?_); clear hK K
          refine tree_one0 fun K hK => ?_
          simp only [pickOp, List.getElem?_cons_zero, List.getElem?_cons_succ, Option.getD_some]
          have ks := rsame_any v12 _ M1.dn M1.dn w12 own12.sl (HSD.out.later hx12') hdl hdl
          have ed : decide (M1.dn = M1.dn) = true := decide_eq_true rfl
          rw [ed] at ks
          have KS := Lib.hid ks
          clear ks ed
          go_wp2_with ((go_at_call 24; with_reducible refine KS.out.mono ?_); rintro e w13 ⟨rfl, hx13⟩)
          have hx13' := hx12'.trans hx13
          refine onlyK_normal (hK _ _ ⟨⟨_, hx13'⟩, rfl⟩ ?_); clear hK K
          refine tree_leaf ?_
          simp only [List.map_cons, List.map_nil, pickOp, List.getElem?_cons_zero, List.getElem?_cons_succ, Option.getD_some, List.drop_succ_cons, List.drop_zero]
          repeat (go_big_quiet_step (fail))
          refine wpQuiet_nil ?_
          clear c16
          go_wp2
          go_ret
          exact ⟨rfl, hE3.trans (hE8.trans hx13')⟩
        · clear hK1 K1
          go_wp2_with fail
          refine onlyK_normal (hK2 _ _ ⟨⟨_, (Ext.refl w8).drew⟩, rfl⟩ ?_); clear hK2 K2
          refine tree_one0 fun K hK => ?_
          simp only [pickOp, List.getElem?_cons_zero, List.getElem?_cons_succ, Option.getD_some]
          go_wp2_with ((go_at_call 23; with_reducible refine (KI.out _ (Ext.refl w8).drew).mono ?_); rintro e w9 ⟨rfl, hx9⟩)
          subst hx9
          refine onlyK_normal (hK _ _ ⟨⟨_, (Ext.refl w8).drew⟩, rfl⟩ ?_); clear hK K
          refine tree_one fun K hK => ?_
          simp only [List.map_cons, List.map_nil, pickOp, List.getElem?_cons_zero, List.getElem?_cons_succ, Option.getD_some]
          repeat (go_big_quiet_step (fail))
          refine wpQuiet_nil ?_
          go_wp2_with ((go_at_call 19; with_reducible refine (KD.out _ (Ext.refl w8).drew).mono ?_); rintro e w12 ⟨v12, rfl, own12, hx12⟩)
          have hx12' := (Ext.refl w8).drew.trans hx12
          refine onlyK_normal (hK _ _ ⟨⟨_, hx12'⟩, rfl⟩ ?_); clear hK K
          refine tree_one0 fun K hK => ?_
          simp only [pickOp, List.getElem?_cons_zero, List.getElem?_cons_succ, Option.getD_some]
          have ks := rsame_any v12 _ M1.dn M1.dn w12 own12.sl (HSD.out.later hx12') hdl hdl
          have ed : decide (M1.dn = M1.dn) = true := decide_eq_true rfl
          rw [ed] at ks
          have KS := Lib.hid ks
          clear ks ed
          go_wp2_with ((go_at_call 24; with_reducible refine KS.out.mono ?_); rintro e w13 ⟨rfl, hx13⟩)
          have hx13' := hx12'.trans hx13
          refine onlyK_normal (hK _ _ ⟨⟨_, hx13'⟩, rfl⟩ ?_); clear hK K
          refine tree_leaf ?_
          simp only [List.map_cons, List.map_nil, pickOp, List.getElem?_cons_zero, List.getElem?_cons_succ, Option.getD_some, List.drop_succ_cons, List.drop_zero]
          repeat (go_big_quiet_step (fail))
          refine wpQuiet_nil ?_
          clear c16
          go_wp2
          go_ret
          exact ⟨rfl, hE3.trans (hE8.trans hx13')⟩
      · rw [htb] at HRM
        go_wp2_with fail
        refine KS.out.mono ?_
        rintro e w8 ⟨rfl, hP8, hO8⟩
        have hE8 := HP7.out.extG hE7 hO8
        have hD8 : Duo w3.heap.size w8 N vm G v C1 M1 := ⟨_, _, _, _, hP8, HC7.out, HS7.out, HR7.out⟩
        clear KS HP7 hO8 hE7 hP8
        obtain ⟨hr1, hr2⟩ := HRM.out trivial
        have HR1 := Lib.hid hr1; have HR2 := Lib.hid hr2
        clear hr1 hr2
        go_wp2
        go_roundw
        case rel => exact ⟨k + 1, C1, M1, HR2.out, by go_num, hD8, HF7.out, HR1, HB7, HH7, hE8⟩
        case measure => have := HR2.out; simp [intOf]; omega

end Go.Proofs.Ytfmjmabaabmgcaa

namespace Go.Proofs.Ytfmjmabaabmgcaa
open Go.ChangeShapes Go.WideShapes Go.ChangeAt Go.RowKit Go.Joins

set_option maxRecDepth 100000 in
theorem liftControllerRun (os : Os) (started : os.Started) (H : Type) (enc : TypeId × Value → H) :
    ReturnsInHanded {} Try.checked os 4 .any (Rows.controllerRunSpec.pre6 enc Try.prog Try.f4 Rows.controllerRunRow.domain false) (Rows.controllerRunSpec.post enc Try.prog Try.f4 false true false false) := by
  refine returnsInHanded_of_change (C := Try.checked) Try.own started (by kernel_rfl) Try.func4
    (ChangeSpec.witness6 (enc := enc) (C := Try.checked) false ⟨#[], #[.slice none 0 0, .agg #[.int .i64 0, .int .i64 0, .int .i64 0]], []⟩ 8 (by kernel_rfl) (by kernel_rfl) (by kernel_rfl) (by kernel_rfl)) ?_
  intro W base args ds gs before hval0 hW hcnd _
  have hval : ∀ (j : Nat) t v, Try.f4.params[j]? = some t → args[j]? = some v → Value.okWide Try.prog W .any base t v := hval0
  have hW' := hW
  obtain ⟨p, q, hA0, hV, rfl, hfz, hnd⟩ := hW
  have hA : DataW.TrodAll enc Try.prog W 0 (fun _ => true) true Try.f4.params.toList args.toList ds p := hA0
  rw [Try.params4] at hA hval
  obtain ⟨v0, vs0, d0, ds0, p0, q0, hargs, rfl, rfl, h0, r0⟩ := trodAll_cons hA
  obtain ⟨v1, vs1, d1, ds1, p1, q1, rfl, rfl, rfl, h1, r1⟩ := trodAll_cons r0
  obtain ⟨rfl, rfl, rfl⟩ := trodAll_nil r1
  obtain rfl : args = #[v0, v1] := by cases args; simp_all
  obtain ⟨rfl, rfl⟩ := trodVars_none hV
  have lt0 : ∀ x ∈ p0, x.block < W.heap.size := by obtain ⟨m, hm⟩ := h0; exact DataW.trod_lt m _ _ _ hm
  have lt1 : ∀ x ∈ p1, x.block < W.heap.size := by obtain ⟨m, hm⟩ := h1; exact DataW.trod_lt m _ _ _ hm
  obtain ⟨l0, a0, w0, n0⟩ := argM_of (hval 0 22 v0 rfl rfl) h0
  obtain ⟨x1, y1, z1, e1⟩ := arr3_of Try.underlying23 (by kernel_rfl) (hval 1 23 v1 rfl rfl) h1
  subst e1
  clear hA0 hval0
  refine (lawRun v0 l0 x1 y1 z1 W a0 w0 n0).mono fun e W' ⟨he, bel⟩ => ?_
  subst he
  exact ⟨_, rfl, _, _, _, [], _, [], hW', trodAll_mk1 (shut_bool Try.underlying4 _), (trodAll_cons_mk (Below.trod Try.laidOut (by kernel_rfl) (of_decide_eq_true (by kernel_rfl)) h0 bel.out lt0) (trodAll_cons_mk (Below.trod Try.laidOut (by kernel_rfl) (of_decide_eq_true (by kernel_rfl)) h1 bel.out lt1) trodAll_mk0)), rfl, bel.out.frame _, fun h => by cases h⟩

/-- The statement. -/
theorem crun_holds : Rows.ControllerRunSaid :=
  OpenClaim.holds_of_wide 4 Try.f4 rfl rfl rfl rfl rfl rfl rfl ⟨rfl, rfl, rfl, rfl, rfl⟩ rfl rfl rfl rfl rfl (by kernel_rfl) Try.func4 (by kernel_rfl)
    (of_decide_eq_true (by kernel_rfl)) (by unfold Func.isWrapper; first | (rw [if_pos (by decide +kernel)]; kernel_rfl) | (rw [if_neg (by decide +kernel)]; exact ⟨rfl, rfl⟩))
    (fun os started H enc _ => liftControllerRun os started H enc)

#print axioms crun_holds
end Go.Proofs.Ytfmjmabaabmgcaa
