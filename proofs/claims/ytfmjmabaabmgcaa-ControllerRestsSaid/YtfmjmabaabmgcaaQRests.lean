/-
  ControllerRests, walked.
  ControllerRests: A controller that is held comes to rest and stays there: for every input the law returns true. No condition.
-/
import Derived.Test.YtfmjmabaabmgcaaQB12
import Derived.Test.YtfmjmabaabmgcaaQB13
namespace Go.Proofs.Ytfmjmabaabmgcaa
open Go.RowKit
set_option maxRecDepth 100000

set_option maxHeartbeats 8000000 in
theorem lawRests (v : Value) (l : List Mot) (s a j : Int) (vo : Value) (os : List Nat) (w : World) (h : SlM w v l) (hw : ∀ i, i < l.length → (l.getD i Mot.zero).wf) (hn : l.length ≤ 9223372036854775807) (hos : SlB w vo os) (hno : os.length ≤ 9223372036854775807) :
    Calls Try.prog 7 #[v, Lm s a j, vo] w fun e w' => e = .returned (.bool true) ∧ Ext w w' := by
  have kr := right_any v l s a j _ (h.later ((Ext.refl w).alloc (.cells #[.int .i64 s, .int .i64 a, .int .i64 j] 23))) hn hw
  have KR := Lib.hid kr; clear kr
  have HS := Lib.hid h; have HW := Lib.hid hw; have HOS := Lib.hid hos
  clear h hw hos
  obtain ⟨ao, no, co, bo, oo, hvo, hno1, -⟩ := HOS.out
  subst hvo
  have hno2 : no ≤ 9223372036854775807 := by omega
  cases hR : rightB l s a j
  · rw [hR] at KR
    clear hR hno1
    go_enter Try.func7, Try.ntmps7
    go_wp2_with fail
    refine KR.out.mono ?_
    rintro e w1 ⟨rfl, hx1⟩
    have hE1 := ((Ext.refl w).alloc (.cells #[.int .i64 s, .int .i64 a, .int .i64 j] 23)).trans hx1
    clear hx1 KR
    go_wp2_with fail
    obtain ⟨W2, hW2, L2, hx2⟩ := B3.mk' w1 (.int .i64 s) (.int .i64 a) (.int .i64 j) 25
    rw [hW2]; clear hW2
    have hE2 := hE1.trans hx2
    generalize w1.heap.size = M at *
    clear hx2 hE1
    refine (awake_any W2).mono ?_
    rintro e w3 ⟨rfl, hx3⟩
    have L3 := L2.later hx3
    have hE3 := hE2.trans hx3
    clear hx3 L2 hE2
    go_wp2_with fail
    refine (awake_any _).mono ?_
    rintro e w4 ⟨rfl, hx4⟩
    go_wp2
    go_ret
    exact ⟨rfl, hE3.trans hx4⟩
  · have RT := Lib.hid (rt_of hR)
    rw [hR] at KR
    clear hR
    by_cases h60 : 60 < no
    · have h60' : decide ((no : Int) > 60) = true := by simp; omega
      go_enter Try.func7, Try.ntmps7
      go_wp2_with fail
      refine KR.out.mono ?_
      rintro e w1 ⟨rfl, hx1⟩
      have hE1 := ((Ext.refl w).alloc (.cells #[.int .i64 s, .int .i64 a, .int .i64 j] 23)).trans hx1
      clear hx1 KR
      go_wp2_with fail
      obtain ⟨W2, hW2, L2, hx2⟩ := B3.mk' w1 (.int .i64 s) (.int .i64 a) (.int .i64 j) 25
      rw [hW2]; clear hW2
      have hE2 := hE1.trans hx2
      generalize w1.heap.size = M at *
      clear hx2 hE1
      refine (awake_any W2).mono ?_
      rintro e w3 ⟨rfl, hx3⟩
      have L3 := L2.later hx3
      have hE3 := hE2.trans hx3
      clear hx3 L2 hE2
      go_wp2_with fail
      refine (awake_any _).mono ?_
      rintro e w4 ⟨rfl, hx4⟩
      go_wp2
      go_ret
      exact ⟨rfl, hE3.trans hx4⟩
    · have h60' : decide ((no : Int) > 60) = false := by simp; omega
      have HNO := Lib.hid hno1; clear hno1
      go_enter Try.func7, Try.ntmps7
      go_wp2_with fail
      refine KR.out.mono ?_
      rintro e w1 ⟨rfl, hx1⟩
      have hE1 := ((Ext.refl w).alloc (.cells #[.int .i64 s, .int .i64 a, .int .i64 j] 23)).trans hx1
      clear hx1 KR
      go_wp2_with fail
      obtain ⟨W2, hW2, L2, hx2⟩ := B3.mk' w1 (.int .i64 s) (.int .i64 a) (.int .i64 j) 25
      rw [hW2]; clear hW2
      have hE2 := hE1.trans hx2
      generalize w1.heap.size = M at *
      clear hx2 hE1
      refine (awake_any W2).mono ?_
      rintro e w3 ⟨rfl, hx3⟩
      have L3 := L2.later hx3
      have hE3 := hE2.trans hx3
      clear hx3 L2 hE2
      have l0 := L3.c0; have l1 := L3.c1; have l2 := L3.c2
      go_wp2_with fail
      refine (new_ok v l s a j w3 (HS.out.later hE3) (by have := RT.out.n; omega) HW.out RT.out.rng RT.out.chk).mono ?_
      rintro e w4 ⟨N, vm, rfl, hI4, hE4, hlm⟩
      have hA4 : CAt w3.heap.size w4 N vm (.slice none 0 0) (.slice none 0 0) (Ctl.new l s a j) := ⟨hI4, (fun b hb => by cases hb), fun b hb => (hlm b hb).2, new_Ok RT.out.chk HW.out⟩
      have hG4 := Good.new RT.out
      have hbm : ∀ b, vm.ownBlock = some b → w3.heap.size ≤ b := fun b hb => (hlm b hb).1
      clear l0 l1 l2 hI4 hlm L3
      generalize Ctl.new l s a j = C0 at *
      go_wp2_with fail
      go_loopw [50] (fun t wr => ∃ (k : Nat) (vp vq : Value) (C : Ctl), k ≤ no ∧ t = .int .i64 k ∧ CAt w3.heap.size wr N vm vp vq C ∧ Good l k C ∧ Ext w3 wr) (fun t _ => no - (intOf t).toNat)
      case atStart => exact ⟨0, _, _, C0, by omega, rfl, hA4, hG4, hE4⟩
      case round =>
        clear hA4 hG4 hE4
        obtain ⟨k, vp, vq, C, hk, rfl, hA, hG, hE⟩ := hrel
        by_cases hlt : k < no
        · obtain ⟨a1, n1, c1, b1, o1, hv1, hn1, h31, h41⟩ := (HOS.out.later hE3).later hE
          cases hv1
          obtain ⟨hb1, hy, hcell⟩ := h41 k hlt
          obtain rfl : ao = some ⟨b1, o1, none⟩ := h31.resolve_left (by omega)
          clear h31 h41 hn1
          generalize os.getD k 0 = y at *
          have hps : C.ps.length ≤ 999999999 := by have := hG.ps; omega
          have kh := hold_any hA hps
          have kr := resume_at hA
          have kt := tick_any hA hps
          have KH := Lib.hid kh; have KR := Lib.hid kr; have KT := Lib.hid kt
          clear kh kr kt
          have HG := Lib.hid hG; have HA := Lib.hid hA; have HA0 := Lib.hid hA
          clear hG hA hps
          by_cases h0 : y % 6 = 0
          · have t0 : ((y : Int) % 6 == 0) = true := by simp; omega
            go_wp2_with fail
            refine KH.out.mono ?_
            rintro e w5 ⟨rfl, vp', vq', hA5, hO5, _, _⟩
            have hE5 := HA.out.ext hE hO5
            clear HA hO5 KH KR KT
            go_wp2
            go_roundw
            case rel => exact ⟨k + 1, vp', vq', _, by omega, by go_num, hA5, HG.out.hold HA0.out.ok, hE5⟩
            case measure => simp [intOf]; omega
          · have t0 : ((y : Int) % 6 == 0) = false := by simp; omega
            by_cases h1 : y % 6 = 1
            · have t1 : ((y : Int) % 6 == 1) = true := by simp; omega
              go_wp2_with fail
              refine KR.out.mono ?_
              rintro e w5 ⟨rfl, vp', vq', hA5, hO5, _, _⟩
              have hE5 := HA.out.ext hE hO5
              clear HA hO5 KH KR KT
              go_wp2
              go_roundw
              case rel => exact ⟨k + 1, vp', vq', _, by omega, by go_num, hA5, HG.out.resume, hE5⟩
              case measure => simp [intOf]; omega
            · have t1 : ((y : Int) % 6 == 1) = false := by simp; omega
              go_wp2_with fail
              refine KT.out.mono ?_
              rintro e w5 ⟨rfl, vp', vq', hA5, hO5, _, _⟩
              have hE5 := HA.out.ext hE hO5
              clear HA hO5 KH KR KT
              go_wp2
              go_roundw
              case rel => exact ⟨k + 1, vp', vq', _, by omega, by go_num, hA5, HG.out.tick HA0.out.ok, hE5⟩
              case measure => simp [intOf]; omega
        · have hkn : k = no := by omega
          subst hkn
          have hps : C.ps.length ≤ 999999999 := by have := hG.ps; omega
          have hGh := hG.hold hA.ok
          have hdh := holdC_hd hG.bk
          have kh := hold_any hA hps
          go_wp2_with fail
          refine kh.mono ?_
          rintro e w5 ⟨rfl, vp5, vq5, hA5, hO5, _, _⟩
          have hE5 := hA.ext hE hO5
          clear kh hO5 hps hG hA hE
          generalize C.holdC = C5 at *
          clear C
          go_wp2_with fail
          go_loopw [13] (fun t wr => ∃ (n : Nat) (vp vq : Value) (C : Ctl), n ≤ 2000 ∧ t = .int .i64 n ∧ CAt w3.heap.size wr N vm vp vq C ∧ Good l (k + 1 + n) C ∧ Hid (C.hd = true) ∧ (n : Int) + C.rem ≤ 2000 ∧ Ext w3 wr) (fun t _ => 2001 - (intOf t).toNat)
          case atStart => exact ⟨0, vp5, vq5, C5, by omega, rfl, hA5, hGh, Lib.hid hdh, by have := hGh.rem; omega, hE5⟩
          case round =>
            clear hA5 hGh hdh hE5
            obtain ⟨n, vp, vq, C, hn2, rfl, hA, hG, HHD, hrem, hE⟩ := hrel
            have hps : C.ps.length ≤ 999999999 := by have := hG.ps; omega
            have kt := tick_any hA hps
            have hT := hA.ok.tick
            cases htb : C.tickB
            · rw [htb, tickC_still htb] at kt
              have HTB := Lib.hid htb
              have hrest := hA.ok.at_rest hG.bk htb
              have HBK := Lib.hid hG.bk
              have HRE := Lib.hid hrest
              clear htb hrest hT hG hrem
              go_wp2_with fail
              refine kt.mono ?_
              rintro e w6 ⟨rfl, vp6, vq6, hA6, hO6, _, _⟩
              have hE6 := hA.ext hE hO6
              clear kt hO6 hA hE
              go_wp2_with fail
              have kho := holding_any hA6.inv.box hA6.inv.sp
              have ed : decide (C.pos = C.plan.length) = true := decide_eq_true HRE.out
              rw [HHD.out, ed] at kho
              clear ed
              refine kho.mono ?_
              rintro e w7 ⟨rfl, hx7⟩
              clear kho
              have hA7 := hA6.later hx7
              have hE7 := hE6.trans hx7
              clear hA6 hE6 hx7
              have kp := cpos_any hA7.inv.box hA7.inv.sm hA7.ok.posOk
              obtain ⟨q, hq⟩ : ∃ q, q = C.at3 := ⟨_, rfl⟩
              rw [← hq] at kp
              have HQ := Lib.hid hq; clear hq
              obtain ⟨qx, qy, qz⟩ := q
              simp only [P3] at kp
              go_wp2_with fail
              refine kp.mono ?_
              rintro e w8 ⟨rfl, hx8⟩
              clear kp
              have hA8 := hA7.later hx8
              have hE8 := hE7.trans hx8
              clear hA7 hE7 hx8
              go_wp2_with fail
              refine (index_any hA8.inv.box).mono ?_
              rintro e w9 ⟨rfl, hx9⟩
              subst hx9
              go_wp2_with fail
              obtain ⟨W9, hW9, P9, hx9⟩ := P3Box.mk' w8 qx qy qz
              rw [hW9]; clear hW9
              have hA9 := hA8.later hx9
              have hE9 := hE8.trans hx9
              have hb9 : ¬ Foot N vq6 w8.heap.size := by
                rintro (h | h)
                · have := hA8.inv.box.lt; omega
                · have := hA8.inv.sq.lt h; omega
              generalize w8.heap.size = b9 at *
              clear hA8 hE8 hx9
              have kh := hold_any hA9 hps
              rw [holdC_still HBK.out HRE.out HHD.out] at kh
              refine kh.mono ?_
              rintro e w10 ⟨rfl, vp10, vq10, hA10, hO10, hl10, _⟩
              have hE10 := hA9.ext hE9 hO10
              have P10 : P3Box w10 b9 qx qy qz := by
                obtain ⟨c0, c1, c2, f0, f1, f2⟩ := P9.at
                exact P3Box.of (Nat.lt_of_lt_of_le P9.lt hO10.size) (by rw [hO10.cell P9.lt hb9]; exact c0) (by rw [hO10.cell P9.lt hb9]; exact c1) (by rw [hO10.cell P9.lt hb9]; exact c2) (by rw [hO10.frozen P9.lt hb9]; exact f0) (by rw [hO10.frozen P9.lt hb9]; exact f1) (by rw [hO10.frozen P9.lt hb9]; exact f2)
              have hb10 : ¬ Foot N vq10 b9 := by
                rintro (h | h)
                · exact hb9 (.inl h)
                · rcases hl10 _ h with h' | h'
                  · exact hb9 (.inr h')
                  · have := P9.lt; omega
              clear kh hO10 hl10 hA9 hE9 P9 hb9
              have kt2 := tick_any hA10 hps
              rw [HTB.out, tickC_still HTB.out] at kt2
              have kt3 : Calls Try.prog 21 #[.pointer (some ⟨N, 0, none⟩)] w10.drew (CRet w3.heap.size w10.drew N vm vp10 vq10 C (.bool false)) := by
                have := tick_any (hA10.later (Ext.refl w10).drew) hps
                rw [HTB.out, tickC_still HTB.out] at this
                exact this
              have KT3 := Lib.hid kt3
              clear kt2 kt3
              obtain ⟨c0, c1, c2, -, -, -⟩ := P10.at
              have e0 := Chg.cell (D := Foot N vq10) c0 hb10; have e1 := Chg.cell (D := Foot N vq10) c1 hb10; have e2 := Chg.cell (D := Foot N vq10) c2 hb10
              clear c0 c1 c2
              have hn3 : decide ((n : Int) < 3000) = true := by simp; omega
              go_wp2_with fail
              refine wp_region_tree (fun w' => ∃ y : Chg (Foot N vq10) w10, w' = y.w) 26 (.one [0, 1, 2, 3, 4, 5, 6, 7, 8, 9] 10 (.one [11, 12, 13, 14, 16] 15 (.one [17, 18, 19, 20, 22] 21 (.leaf [23, 24, 25])))) (by kernel_rfl) (by kernel_rfl) (by kernel_rfl) ⟨⟨_, (Only.refl _ w10).drew⟩, rfl⟩ ?_
              simp only [List.take_succ_cons, List.take_zero]
              refine tree_one fun K hK => ?_
              simp only [List.map_cons, List.map_nil, pickOp, List.getElem?_cons_zero, List.getElem?_cons_succ, Option.getD_some]
              repeat (go_big_quiet_step (fail))
              refine wpQuiet_nil ?_
              go_wp2_with ((go_at_call 21; with_reducible refine KT3.out.mono ?_); rintro e w11 ⟨rfl, vp11, vq11, hA11, hO11, _, _⟩)
              have hO11' := (Only.refl (Foot N vq10) w10).drew.trans hO11
              have hE11 := (hA10.later (Ext.refl w10).drew).ext hE10.drew hO11
              clear hO11 KT3
              refine onlyK_normal (hK _ _ ⟨⟨_, hO11'⟩, rfl⟩ ?_); clear hK K
              refine tree_one fun K hK => ?_
              simp only [List.map_cons, List.map_nil, pickOp, List.getElem?_cons_zero, List.getElem?_cons_succ, Option.getD_some]
              repeat (go_big_quiet_step (fail))
              refine wpQuiet_nil ?_
              have kp := cpos_any hA11.inv.box hA11.inv.sm hA11.ok.posOk
              rw [← HQ.out] at kp
              simp only [P3] at kp
              have KP := Lib.hid kp; clear kp
              go_wp2_with ((go_at_call 30; with_reducible refine KP.out.mono ?_); rintro e w12 ⟨rfl, hx12⟩)
              have hA12 := hA11.later hx12
              have hE12 := hE11.trans hx12
              have hO12 := hO11'.trans (Only.of_ext hx12)
              clear hx12 hA11 hE11 KP
              refine onlyK_normal (hK _ _ ⟨⟨_, hO12⟩, rfl⟩ ?_); clear hK K
              have heq := fun w => Try.eql_pos qx qy qz qx qy qz w
              have hself : eqP qx qy qz qx qy qz = true := by simp [eqP]
              rw [hself] at heq
              clear hself
              refine tree_one fun K hK => ?_
              simp only [List.map_cons, List.map_nil, pickOp, List.getElem?_cons_zero, List.getElem?_cons_succ, Option.getD_some]
              repeat (go_big_quiet_step (fail))
              refine wpQuiet_nil ?_
              have ki := index_any hA12.inv.box
              have KI := Lib.hid ki; clear ki
              go_wp2_with ((go_at_call 23; with_reducible refine KI.out.mono ?_); rintro e w13 ⟨rfl, hx13⟩)
              subst hx13
              refine onlyK_normal (hK _ _ ⟨⟨_, hO12⟩, rfl⟩ ?_); clear hK K
              refine tree_leaf ?_
              simp only [List.map_cons, List.map_nil, pickOp, List.getElem?_cons_zero, List.getElem?_cons_succ, Option.getD_some, List.drop_succ_cons, List.drop_zero]
              repeat (go_big_quiet_step (fail))
              refine wpQuiet_nil ?_
              go_wp2
              go_ret
              exact ⟨rfl, hE3.trans hE12⟩
            · rw [htb] at kt
              have hr1 := hA.ok.tick_rem htb
              have hr0 := hT.rem0
              have HGT := Lib.hid (hG.tick hA.ok)
              have HHT : Hid (C.tickC.hd = true) := Lib.hid (by rw [(tickC_ms C).2.2]; exact HHD.out)
              clear htb hG hps HHD
              go_wp2_with fail
              refine kt.mono ?_
              rintro e w6 ⟨rfl, vp6, vq6, hA6, hO6, _, _⟩
              have hE6 := hA.ext hE hO6
              clear kt hO6 hA
              generalize C.tickC = C6 at *
              go_wp2
              go_roundw
              case rel => exact ⟨n + 1, vp6, vq6, C6, by omega, by go_num, hA6, HGT.out, HHT, by omega, hE6⟩
              case measure => simp [intOf]; omega

end Go.Proofs.Ytfmjmabaabmgcaa

namespace Go.Proofs.Ytfmjmabaabmgcaa
open Go.ChangeShapes Go.WideShapes Go.ChangeAt Go.RowKit Go.Joins

set_option maxRecDepth 100000 in
theorem liftControllerRests (os : Os) (started : os.Started) (H : Type) (enc : TypeId × Value → H) :
    ReturnsInHanded {} Try.checked os 7 .any (Rows.controllerRestsSpec.pre6 enc Try.prog Try.f7 Rows.controllerRestsRow.domain false) (Rows.controllerRestsSpec.post enc Try.prog Try.f7 false true false false) := by
  refine returnsInHanded_of_change (C := Try.checked) Try.own started (by kernel_rfl) Try.func7
    (ChangeSpec.witness6 (enc := enc) (C := Try.checked) false ⟨#[], #[.slice none 0 0, .agg #[.int .i64 0, .int .i64 0, .int .i64 0], .slice none 0 0], []⟩ 8 (by kernel_rfl) (by kernel_rfl) (by kernel_rfl) (by kernel_rfl)) ?_
  intro W base args ds gs before hval0 hW hcnd _
  have hval : ∀ (j : Nat) t v, Try.f7.params[j]? = some t → args[j]? = some v → Value.okWide Try.prog W .any base t v := hval0
  have hW' := hW
  obtain ⟨p, q, hA0, hV, rfl, hfz, hnd⟩ := hW
  have hA : DataW.TrodAll enc Try.prog W 0 (fun _ => true) true Try.f7.params.toList args.toList ds p := hA0
  rw [Try.params7] at hA hval
  obtain ⟨v0, vs0, d0, ds0, p0, q0, hargs, rfl, rfl, h0, r0⟩ := trodAll_cons hA
  obtain ⟨v1, vs1, d1, ds1, p1, q1, rfl, rfl, rfl, h1, r1⟩ := trodAll_cons r0
  obtain ⟨v2, vs2, d2, ds2, p2, q2, rfl, rfl, rfl, h2, r2⟩ := trodAll_cons r1
  obtain ⟨rfl, rfl, rfl⟩ := trodAll_nil r2
  obtain rfl : args = #[v0, v1, v2] := by cases args; simp_all
  obtain ⟨rfl, rfl⟩ := trodVars_none hV
  have lt0 : ∀ x ∈ p0, x.block < W.heap.size := by obtain ⟨m, hm⟩ := h0; exact DataW.trod_lt m _ _ _ hm
  have lt1 : ∀ x ∈ p1, x.block < W.heap.size := by obtain ⟨m, hm⟩ := h1; exact DataW.trod_lt m _ _ _ hm
  have lt2 : ∀ x ∈ p2, x.block < W.heap.size := by obtain ⟨m, hm⟩ := h2; exact DataW.trod_lt m _ _ _ hm
  obtain ⟨l0, a0, w0, n0⟩ := argM_of (hval 0 22 v0 rfl rfl) h0
  obtain ⟨x1, y1, z1, e1⟩ := arr3_of Try.underlying23 (by kernel_rfl) (hval 1 23 v1 rfl rfl) h1
  subst e1
  obtain ⟨l2, a2, n2⟩ := argB_of (hval 2 57 v2 rfl rfl) h2
  clear hA0 hval0
  refine (lawRests v0 l0 x1 y1 z1 v2 l2 W a0 w0 n0 a2 n2).mono fun e W' ⟨he, bel⟩ => ?_
  subst he
  exact ⟨_, rfl, _, _, _, [], _, [], hW', trodAll_mk1 (shut_bool Try.underlying4 _), (trodAll_cons_mk (Below.trod Try.laidOut (by kernel_rfl) (of_decide_eq_true (by kernel_rfl)) h0 bel.out lt0) (trodAll_cons_mk (Below.trod Try.laidOut (by kernel_rfl) (of_decide_eq_true (by kernel_rfl)) h1 bel.out lt1) (trodAll_cons_mk (Below.trod Try.laidOut (by kernel_rfl) (of_decide_eq_true (by kernel_rfl)) h2 bel.out lt2) trodAll_mk0))), rfl, bel.out.frame _, fun h => by cases h⟩

/-- The statement. -/
theorem crests_holds : Rows.ControllerRestsSaid :=
  OpenClaim.holds_of_wide 7 Try.f7 rfl rfl rfl rfl rfl rfl rfl ⟨rfl, rfl, rfl, rfl, rfl⟩ rfl rfl rfl rfl rfl (by kernel_rfl) Try.func7 (by kernel_rfl)
    (of_decide_eq_true (by kernel_rfl)) (by unfold Func.isWrapper; first | (rw [if_pos (by decide +kernel)]; kernel_rfl) | (rw [if_neg (by decide +kernel)]; exact ⟨rfl, rfl⟩))
    (fun os started H enc _ => liftControllerRests os started H enc)

#print axioms crests_holds
end Go.Proofs.Ytfmjmabaabmgcaa
