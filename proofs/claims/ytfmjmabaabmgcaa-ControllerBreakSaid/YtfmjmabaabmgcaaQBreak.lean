/-
  Resume, told exactly; a broken controller.
  ControllerBreak, walked.
  ControllerBreak: After Break nothing changes any more: for every input the law returns true. No condition.
-/
import Derived.Test.YtfmjmabaabmgcaaQB12
import Derived.Test.YtfmjmabaabmgcaaQB13
namespace Go.Proofs.Ytfmjmabaabmgcaa
open Go.RowKit
set_option maxRecDepth 8000

set_option maxHeartbeats 1000000 in
theorem resume_exact {B : Nat} {w : World} {N : Nat} {vm vp vq : Value} {C : Ctl} (h : CInv B w N vm vp vq C) :
    Calls Try.prog 28 #[.pointer (some ⟨N, 0, none⟩)] w fun e w' => e = .returned (.tuple #[]) ∧ CInv B w' N vm vp vq { C with hd := false } ∧ Only (fun k => k = N) w w' := by
  have c9 := h.box.c9; have f9 := h.box.fr 9
  have hO : Only (fun k => k = N) w (w.setCell ⟨N, 9, none⟩ (.bool false)) := (Only.refl (fun k => k = N) w).set (.inl rfl) _
  have hI : CInv B (w.setCell ⟨N, 9, none⟩ (.bool false)) N vm vp vq { C with hd := false } := ⟨h.box.set_hd false, h.sm.only hO (fun b hb e => h.nm (by rw [hb, e])), h.sp.only hO (fun b hb e => h.np (by rw [hb, e])), h.sq.only hO (fun b hb e => h.nq (by rw [hb, e])), h.nm, h.np, h.nq, h.mq, h.pq, h.base⟩
  have HI := Lib.hid hI; have HO := Lib.hid hO
  clear hI hO h
  go_enter Try.func28, Try.ntmps28
  go_wp2
  go_end0
  exact ⟨rfl, HI.out, HO.out⟩

theorem resume_held {B : Nat} {w : World} {N : Nat} {vm vp vq : Value} {C : Ctl} (h : CAt B w N vm vp vq C) (hh : C.hd = false) :
    Calls Try.prog 28 #[.pointer (some ⟨N, 0, none⟩)] w fun e w' => e = .returned (.tuple #[]) ∧ CAt B w' N vm vp vq C ∧ Only (fun k => k = N) w w' := by
  refine (resume_exact h.inv).mono ?_
  rintro e w' ⟨he, hI, hO⟩
  have e2 : { C with hd := false } = C := by cases C; simp only at hh; subst hh; rfl
  rw [e2] at hI
  exact ⟨he, ⟨hI, fun b hb => Nat.lt_of_lt_of_le (h.lp b hb) hO.size, fun b hb => Nat.lt_of_lt_of_le (h.lm b hb) hO.size, h.ok⟩, hO⟩

theorem P3Box.only {D : Nat → Prop} {W W' : World} {N : Nat} {x y z : Int} (h : P3Box W N x y z) (k : Only D W W') (hd : ¬ D N) : P3Box W' N x y z := by
  obtain ⟨c0, c1, c2, f0, f1, f2⟩ := h.at
  exact P3Box.of (Nat.lt_of_lt_of_le h.lt k.size) (by rw [k.cell h.lt hd]; exact c0) (by rw [k.cell h.lt hd]; exact c1) (by rw [k.cell h.lt hd]; exact c2) (by rw [k.frozen h.lt hd]; exact f0) (by rw [k.frozen h.lt hd]; exact f1) (by rw [k.frozen h.lt hd]; exact f2)

theorem brkC_props {C : Ctl} (hb : C.bk = false) : C.brkC.bk = true ∧ C.brkC.hd = false ∧ C.brkC.pos = C.brkC.plan.length := by
  unfold Ctl.brkC
  rw [if_neg (by simp [hb])]
  exact ⟨rfl, rfl, rfl⟩
theorem doneL_len (C : Ctl) : C.doneL.length ≤ C.ps.length + 1 := by
  unfold Ctl.doneL
  split
  · simp
  · omega

end Go.Proofs.Ytfmjmabaabmgcaa

namespace Go.Proofs.Ytfmjmabaabmgcaa
open Go.RowKit
set_option maxRecDepth 100000

set_option maxHeartbeats 8000000 in
theorem lawBreak (v : Value) (l : List Mot) (s a j : Int) (vo : Value) (os : List Nat) (w : World) (h : SlM w v l) (hw : ∀ i, i < l.length → (l.getD i Mot.zero).wf) (hn : l.length ≤ 9223372036854775807) (hos : SlB w vo os) (hno : os.length ≤ 9223372036854775807) :
    Calls Try.prog 9 #[v, Lm s a j, vo] w fun e w' => e = .returned (.bool true) ∧ Ext w w' := by
  have kr := right_any v l s a j _ (h.later ((Ext.refl w).alloc (.cells #[.int .i64 s, .int .i64 a, .int .i64 j] 23))) hn hw
  have KR := Lib.hid kr; clear kr
  have HS := Lib.hid h; have HW := Lib.hid hw; have HOS := Lib.hid hos
  clear h hw hos
  obtain ⟨ao, no, co, bo, oo, hvo, hno1, -⟩ := HOS.out
  subst hvo
  have hno2 : no ≤ 9223372036854775807 := by omega
  cases hR : rightB l s a j
  · rw [hR] at KR
    clear hR hno1
    go_enter Try.func9, Try.ntmps9
    go_wp2_with fail
    refine KR.out.mono ?_
    rintro e w1 ⟨rfl, hx1⟩
    have hE1 := ((Ext.refl w).alloc (.cells #[.int .i64 s, .int .i64 a, .int .i64 j] 23)).trans hx1
    clear hx1 KR
    go_wp2_with fail
    obtain ⟨W2, hW2, L2, hx2⟩ := B3.mk' w1 (.int .i64 s) (.int .i64 a) (.int .i64 j) 25
    rw [hW2]; clear hW2
    have hE2 := hE1.trans hx2
    generalize w1.heap.size = M at *
    clear hx2 hE1
    refine (awake_any W2).mono ?_
    rintro e w3 ⟨rfl, hx3⟩
    have L3 := L2.later hx3
    have hE3 := hE2.trans hx3
    clear hx3 L2 hE2
    go_wp2_with fail
    refine (awake_any _).mono ?_
    rintro e w4 ⟨rfl, hx4⟩
    go_wp2
    go_ret
    exact ⟨rfl, hE3.trans hx4⟩
  · have RT := Lib.hid (rt_of hR)
    rw [hR] at KR
    clear hR
    by_cases h60 : 60 < no
    · have h60' : decide ((no : Int) > 60) = true := by simp; omega
      go_enter Try.func9, Try.ntmps9
      go_wp2_with fail
      refine KR.out.mono ?_
      rintro e w1 ⟨rfl, hx1⟩
      have hE1 := ((Ext.refl w).alloc (.cells #[.int .i64 s, .int .i64 a, .int .i64 j] 23)).trans hx1
      clear hx1 KR
      go_wp2_with fail
      obtain ⟨W2, hW2, L2, hx2⟩ := B3.mk' w1 (.int .i64 s) (.int .i64 a) (.int .i64 j) 25
      rw [hW2]; clear hW2
      have hE2 := hE1.trans hx2
      generalize w1.heap.size = M at *
      clear hx2 hE1
      refine (awake_any W2).mono ?_
      rintro e w3 ⟨rfl, hx3⟩
      have L3 := L2.later hx3
      have hE3 := hE2.trans hx3
      clear hx3 L2 hE2
      go_wp2_with fail
      refine (awake_any _).mono ?_
      rintro e w4 ⟨rfl, hx4⟩
      go_wp2
      go_ret
      exact ⟨rfl, hE3.trans hx4⟩
    · have h60' : decide ((no : Int) > 60) = false := by simp; omega
      have HNO := Lib.hid hno1; clear hno1
      go_enter Try.func9, Try.ntmps9
      go_wp2_with fail
      refine KR.out.mono ?_
      rintro e w1 ⟨rfl, hx1⟩
      have hE1 := ((Ext.refl w).alloc (.cells #[.int .i64 s, .int .i64 a, .int .i64 j] 23)).trans hx1
      clear hx1 KR
      go_wp2_with fail
      obtain ⟨W2, hW2, L2, hx2⟩ := B3.mk' w1 (.int .i64 s) (.int .i64 a) (.int .i64 j) 25
      rw [hW2]; clear hW2
      have hE2 := hE1.trans hx2
      generalize w1.heap.size = M at *
      clear hx2 hE1
      refine (awake_any W2).mono ?_
      rintro e w3 ⟨rfl, hx3⟩
      have L3 := L2.later hx3
      have hE3 := hE2.trans hx3
      clear hx3 L2 hE2
      have l0 := L3.c0; have l1 := L3.c1; have l2 := L3.c2
      go_wp2_with fail
      refine (new_ok v l s a j w3 (HS.out.later hE3) (by have := RT.out.n; omega) HW.out RT.out.rng RT.out.chk).mono ?_
      rintro e w4 ⟨N, vm, rfl, hI4, hE4, hlm⟩
      have hA4 : CAt w3.heap.size w4 N vm (.slice none 0 0) (.slice none 0 0) (Ctl.new l s a j) := ⟨hI4, (fun b hb => by cases hb), fun b hb => (hlm b hb).2, new_Ok RT.out.chk HW.out⟩
      have hG4 := Good.new RT.out
      have hbm : ∀ b, vm.ownBlock = some b → w3.heap.size ≤ b := fun b hb => (hlm b hb).1
      clear l0 l1 l2 hI4 hlm L3
      generalize Ctl.new l s a j = C0 at *
      have ehalf : ((no : Int)).tdiv 2 = (no : Int) / 2 := Int.tdiv_eq_ediv_of_nonneg (by omega)
      go_wp2_with fail
      go_loopw [51] (fun t wr => ∃ (k : Nat) (vp vq : Value) (C : Ctl), k ≤ 30 ∧ t = .int .i64 k ∧ CAt w3.heap.size wr N vm vp vq C ∧ Good l k C ∧ Ext w3 wr) (fun t _ => 31 - (intOf t).toNat)
      case atStart => exact ⟨0, _, _, C0, by omega, rfl, hA4, hG4, hE4⟩
      case round =>
        clear hA4 hG4 hE4
        obtain ⟨k, vp, vq, C, hk, rfl, hA, hG, hE⟩ := hrel
        have hps : C.ps.length ≤ 999999999 := by have := hG.ps; omega
        by_cases hlt : (k : Int) < (no : Int) / 2
        · have kt := tick_any hA hps
          have HGT := Lib.hid (hG.tick hA.ok)
          clear hG
          go_wp2_with fail
          refine kt.mono ?_
          rintro e w5 ⟨rfl, vp', vq', hA5, hO5, _, _⟩
          have hE5 := hA.ext hE hO5
          clear kt hO5 hA
          go_wp2
          go_roundw
          case rel => exact ⟨k + 1, vp', vq', _, by omega, by go_num, hA5, HGT.out, hE5⟩
          case measure => simp [intOf]; omega
        · have kb := break_any hA hps
          obtain ⟨b1, b2, b3⟩ := brkC_props hG.bk
          have hpb : C.brkC.ps.length ≤ 999999998 := by have := brkC_ps C; have := hG.ps; omega
          go_wp2_with fail
          refine kb.mono ?_
          rintro e w5 ⟨rfl, vp5, vq5, hA5, hO5, _, _⟩
          have hE5 := hA.ext hE hO5
          clear kb hO5 hA hE hG hps
          generalize C.brkC = D at *
          clear C
          have HB1 := Lib.hid b1; have HB2 := Lib.hid b2; have HB3 := Lib.hid b3
          clear b1 b2 b3
          have kp : ∀ w', CAt w3.heap.size w' N vm vp5 vq5 D → Calls Try.prog 30 #[.pointer (some ⟨N, 0, none⟩)] w' fun e w'' => e = .returned (P3 D.at3) ∧ Ext w' w'' := fun w' h => cpos_any h.inv.box h.inv.sm h.ok.posOk
          obtain ⟨q, hq⟩ : ∃ q, q = D.at3 := ⟨_, rfl⟩
          rw [← hq] at kp
          obtain ⟨qx, qy, qz⟩ := q
          simp only [P3] at kp
          have KP := Lib.hid kp
          clear kp hq
          have kd : ∀ w', CAt w3.heap.size w' N vm vp5 vq5 D → Calls Try.prog 19 #[.pointer (some ⟨N, 0, none⟩)] w' (RetMots w' D.doneL) := fun w' h => done_any h.inv h.ok.posOk (by omega)
          have hdl : D.doneL.length ≤ 1000000000000 := by have := doneL_len D; omega
          generalize D.doneL = dl at *
          have KD := Lib.hid kd
          clear kd
          go_wp2_with fail
          refine (KP.out _ hA5).mono ?_
          rintro e w6 ⟨rfl, hx6⟩
          have hA6 := hA5.later hx6
          have hE6 := hE5.trans hx6
          clear hA5 hE5 hx6
          go_wp2_with fail
          refine (index_any hA6.inv.box).mono ?_
          rintro e w7 ⟨rfl, hx7⟩
          subst hx7
          go_wp2_with fail
          refine (KD.out _ hA6).mono ?_
          rintro e w7 ⟨vd, rfl, own7, hx7⟩
          have hA7 := hA6.later hx7
          have hE7 := hE6.trans hx7
          have hdN : vd.ownBlock ≠ some N := fun e => by have h1 := own7.base e; have h2 := hA6.inv.box.lt; omega
          have hd7 := own7.sl
          clear hA6 hE6 hx7 own7
          go_wp2_with fail
          obtain ⟨W8, hW8, P8, hx8⟩ := P3Box.mk' w7 qx qy qz
          rw [hW8]; clear hW8
          have hA8 := hA7.later hx8
          have hE8 := hE7.trans hx8
          have hd8 := hd7.later hx8
          have hbN : w7.heap.size ≠ N := by have := hA7.inv.box.lt; omega
          generalize w7.heap.size = b8 at *
          clear hA7 hE7 hd7 hx8
          have HDN := Lib.hid hdN; have HBN := Lib.hid hbN
          clear hdN hbN
          go_loopw [66] (fun t wr => ∃ (i : Nat), i ≤ no ∧ t = .int .i64 i ∧ CAt w3.heap.size wr N vm vp5 vq5 D ∧ P3Box wr b8 qx qy qz ∧ SlM wr vd dl ∧ Ext w3 wr) (fun t _ => no - (intOf t).toNat)
          case atStart => exact ⟨0, by omega, rfl, hA8, P8, hd8, hE8⟩
          case round =>
            clear hA8 P8 hd8 hE8
            obtain ⟨i, hi, rfl, hA, P, hd, hE⟩ := hrel
            have HA := Lib.hid hA; have HP := Lib.hid P; have HD := Lib.hid hd
            by_cases hlt2 : i < no
            · obtain ⟨a1, n1, c1, b1, o1, hv1, hn1, h31, h41⟩ := (HOS.out.later hE3).later hE
              cases hv1
              obtain ⟨hb1, hy, hcell⟩ := h41 i hlt2
              obtain rfl : ao = some ⟨b1, o1, none⟩ := h31.resolve_left (by omega)
              clear h31 h41 hn1 hA P hd
              generalize os.getD i 0 = y at *
              by_cases h0 : y % 4 = 0
              · have t0 : ((y : Int) % 4 == 0) = true := by simp; omega
                go_wp2_with fail
                refine (hold_bk HA.out.inv.box HB1.out).mono ?_
                rintro e w9 ⟨rfl, hx9⟩
                have hA9 := HA.out.later hx9; have P9 := HP.out.later hx9; have hd9 := HD.out.later hx9
                have hE9 := hE.trans hx9
                clear HA HP HD
                go_wp2
                go_roundw
                case rel => exact ⟨i + 1, by omega, by go_num, hA9, P9, hd9, hE9⟩
                case measure => simp [intOf]; omega
              · have t0 : ((y : Int) % 4 == 0) = false := by simp; omega
                by_cases h1 : y % 4 = 1
                · have t1 : ((y : Int) % 4 == 1) = true := by simp; omega
                  go_wp2_with fail
                  refine (resume_held HA.out HB2.out).mono ?_
                  rintro e w9 ⟨rfl, hA9, hO9⟩
                  have P9 := HP.out.only hO9 HBN.out; have hd9 := HD.out.only hO9 (fun b hb e => HDN.out (by rw [hb, e]))
                  have hE9 := HA.out.ext hE (hO9.mono (fun k _ e => .inl e))
                  clear HA HP HD
                  go_wp2
                  go_roundw
                  case rel => exact ⟨i + 1, by omega, by go_num, hA9, P9, hd9, hE9⟩
                  case measure => simp [intOf]; omega
                · have t1 : ((y : Int) % 4 == 1) = false := by simp; omega
                  by_cases h2 : y % 4 = 2
                  · have t2 : ((y : Int) % 4 == 2) = true := by simp; omega
                    go_wp2_with fail
                    refine (break_bk HA.out.inv.box HB1.out).mono ?_
                    rintro e w9 ⟨rfl, hx9⟩
                    have hA9 := HA.out.later hx9; have P9 := HP.out.later hx9; have hd9 := HD.out.later hx9
                    have hE9 := hE.trans hx9
                    clear HA HP HD
                    go_wp2
                    go_roundw
                    case rel => exact ⟨i + 1, by omega, by go_num, hA9, P9, hd9, hE9⟩
                    case measure => simp [intOf]; omega
                  · have t2 : ((y : Int) % 4 == 2) = false := by simp; omega
                    go_wp2_with fail
                    refine (tick_broken HA.out.inv.box HB1.out).mono ?_
                    rintro e w9 ⟨rfl, hx9⟩
                    have hA9 := HA.out.later hx9; have P9 := HP.out.later hx9; have hd9 := HD.out.later hx9
                    have hE9 := hE.trans hx9
                    clear HA HP HD
                    go_wp2
                    go_roundw
                    case rel => exact ⟨i + 1, by omega, by go_num, hA9, P9, hd9, hE9⟩
                    case measure => simp [intOf]; omega
            · have kho := holding_any hA.inv.box hA.inv.sp
              have ed : decide (D.pos = D.plan.length) = true := decide_eq_true HB3.out
              rw [HB2.out, ed] at kho
              clear ed
              go_wp2_with fail
              refine kho.mono ?_
              rintro e w9 ⟨rfl, hx9⟩
              have hA9 := hA.later hx9; have P9 := P.later hx9; have hd9 := hd.later hx9
              have hE9 := hE.trans hx9
              clear kho hA P hd hE hx9 HA HP HD
              have e0 := P9.c0; have e1 := P9.c1; have e2 := P9.c2
              have HA9 := Lib.hid hA9; have HD9 := Lib.hid hd9
              clear hA9 hd9
              have heq := fun w => Try.eql_pos qx qy qz qx qy qz w
              have hself : eqP qx qy qz qx qy qz = true := by simp [eqP]
              rw [hself] at heq
              clear hself
              go_wp2_with fail
              refine wp_region_tree (fun w' => ∃ y : Later w9, w' = y.w) 29 (.one [0, 1, 2, 3, 4, 5, 6, 8] 7 (.one [9, 10, 11, 12, 14] 13 (.one [15, 16, 17, 18, 20] 19 (.one [] 21 (.one [22, 23, 24] 25 (.leaf [26, 27, 28])))))) (by kernel_rfl) (by kernel_rfl) (by kernel_rfl) ⟨⟨_, (Ext.refl w9).drew⟩, rfl⟩ ?_
              simp only [List.take_succ_cons, List.take_zero]
              refine tree_one fun K hK => ?_
              simp only [List.map_cons, List.map_nil, pickOp, List.getElem?_cons_zero, List.getElem?_cons_succ, Option.getD_some]
              repeat (go_big_quiet_step (fail))
              refine wpQuiet_nil ?_
              go_wp2_with ((go_at_call 30; with_reducible refine (KP.out _ (HA9.out.later (Ext.refl w9).drew)).mono ?_); rintro e w10 ⟨rfl, hx10⟩)
              have hx10' := (Ext.refl w9).drew.trans hx10
              clear hx10
              refine onlyK_normal (hK _ _ ⟨⟨_, hx10'⟩, rfl⟩ ?_); clear hK K
              refine tree_one fun K hK => ?_
              simp only [List.map_cons, List.map_nil, pickOp, List.getElem?_cons_zero, List.getElem?_cons_succ, Option.getD_some]
              repeat (go_big_quiet_step (fail))
              refine wpQuiet_nil ?_
              have ki := index_any (HA9.out.later hx10').inv.box
              have KI := Lib.hid ki; clear ki
              go_wp2_with ((go_at_call 23; with_reducible refine KI.out.mono ?_); rintro e w11 ⟨rfl, hx11⟩)
              subst hx11
              refine onlyK_normal (hK _ _ ⟨⟨_, hx10'⟩, rfl⟩ ?_); clear hK K
              refine tree_one fun K hK => ?_
              simp only [List.map_cons, List.map_nil, pickOp, List.getElem?_cons_zero, List.getElem?_cons_succ, Option.getD_some]
              repeat (go_big_quiet_step (fail))
              refine wpQuiet_nil ?_
              go_wp2_with ((go_at_call 19; with_reducible refine (KD.out _ (HA9.out.later hx10')).mono ?_); rintro e w12 ⟨v12, rfl, own12, hx12⟩)
              have hx12' := hx10'.trans hx12
              clear hx12
              refine onlyK_normal (hK _ _ ⟨⟨_, hx12'⟩, rfl⟩ ?_); clear hK K
              refine tree_one0 fun K hK => ?_
              simp only [pickOp, List.getElem?_cons_zero, List.getElem?_cons_succ, Option.getD_some]
              have ks := rsame_any v12 vd dl dl w12 own12.sl (HD9.out.later hx12') hdl hdl
              have ed : decide (dl = dl) = true := decide_eq_true rfl
              rw [ed] at ks
              have KS := Lib.hid ks
              clear ks ed
              go_wp2_with ((go_at_call 24; with_reducible refine KS.out.mono ?_); rintro e w13 ⟨rfl, hx13⟩)
              have hx13' := hx12'.trans hx13
              clear hx13
              refine onlyK_normal (hK _ _ ⟨⟨_, hx13'⟩, rfl⟩ ?_); clear hK K
              refine tree_one fun K hK => ?_
              simp only [List.map_cons, List.map_nil, pickOp, List.getElem?_cons_zero, List.getElem?_cons_succ, Option.getD_some]
              repeat (go_big_quiet_step (fail))
              refine wpQuiet_nil ?_
              have kt := tick_broken (HA9.out.later hx13').inv.box HB1.out
              have KT := Lib.hid kt; clear kt
              go_wp2_with ((go_at_call 21; with_reducible refine KT.out.mono ?_); rintro e w14 ⟨rfl, hx14⟩)
              have hx14' := hx13'.trans hx14
              clear hx14
              refine onlyK_normal (hK _ _ ⟨⟨_, hx14'⟩, rfl⟩ ?_); clear hK K
              refine tree_leaf ?_
              simp only [List.map_cons, List.map_nil, pickOp, List.getElem?_cons_zero, List.getElem?_cons_succ, Option.getD_some, List.drop_succ_cons, List.drop_zero]
              repeat (go_big_quiet_step (fail))
              refine wpQuiet_nil ?_
              go_wp2
              go_ret
              exact ⟨rfl, hE3.trans (hE9.trans hx14')⟩

end Go.Proofs.Ytfmjmabaabmgcaa

namespace Go.Proofs.Ytfmjmabaabmgcaa
open Go.ChangeShapes Go.WideShapes Go.ChangeAt Go.RowKit Go.Joins

set_option maxRecDepth 100000 in
theorem liftControllerBreak (os : Os) (started : os.Started) (H : Type) (enc : TypeId × Value → H) :
    ReturnsInHanded {} Try.checked os 9 .any (Rows.controllerBreakSpec.pre6 enc Try.prog Try.f9 Rows.controllerBreakRow.domain false) (Rows.controllerBreakSpec.post enc Try.prog Try.f9 false true false false) := by
  refine returnsInHanded_of_change (C := Try.checked) Try.own started (by kernel_rfl) Try.func9
    (ChangeSpec.witness6 (enc := enc) (C := Try.checked) false ⟨#[], #[.slice none 0 0, .agg #[.int .i64 0, .int .i64 0, .int .i64 0], .slice none 0 0], []⟩ 8 (by kernel_rfl) (by kernel_rfl) (by kernel_rfl) (by kernel_rfl)) ?_
  intro W base args ds gs before hval0 hW hcnd _
  have hval : ∀ (j : Nat) t v, Try.f9.params[j]? = some t → args[j]? = some v → Value.okWide Try.prog W .any base t v := hval0
  have hW' := hW
  obtain ⟨p, q, hA0, hV, rfl, hfz, hnd⟩ := hW
  have hA : DataW.TrodAll enc Try.prog W 0 (fun _ => true) true Try.f9.params.toList args.toList ds p := hA0
  rw [Try.params9] at hA hval
  obtain ⟨v0, vs0, d0, ds0, p0, q0, hargs, rfl, rfl, h0, r0⟩ := trodAll_cons hA
  obtain ⟨v1, vs1, d1, ds1, p1, q1, rfl, rfl, rfl, h1, r1⟩ := trodAll_cons r0
  obtain ⟨v2, vs2, d2, ds2, p2, q2, rfl, rfl, rfl, h2, r2⟩ := trodAll_cons r1
  obtain ⟨rfl, rfl, rfl⟩ := trodAll_nil r2
  obtain rfl : args = #[v0, v1, v2] := by cases args; simp_all
  obtain ⟨rfl, rfl⟩ := trodVars_none hV
  have lt0 : ∀ x ∈ p0, x.block < W.heap.size := by obtain ⟨m, hm⟩ := h0; exact DataW.trod_lt m _ _ _ hm
  have lt1 : ∀ x ∈ p1, x.block < W.heap.size := by obtain ⟨m, hm⟩ := h1; exact DataW.trod_lt m _ _ _ hm
  have lt2 : ∀ x ∈ p2, x.block < W.heap.size := by obtain ⟨m, hm⟩ := h2; exact DataW.trod_lt m _ _ _ hm
  obtain ⟨l0, a0, w0, n0⟩ := argM_of (hval 0 22 v0 rfl rfl) h0
  obtain ⟨x1, y1, z1, e1⟩ := arr3_of Try.underlying23 (by kernel_rfl) (hval 1 23 v1 rfl rfl) h1
  subst e1
  obtain ⟨l2, a2, n2⟩ := argB_of (hval 2 57 v2 rfl rfl) h2
  clear hA0 hval0
  refine (lawBreak v0 l0 x1 y1 z1 v2 l2 W a0 w0 n0 a2 n2).mono fun e W' ⟨he, bel⟩ => ?_
  subst he
  exact ⟨_, rfl, _, _, _, [], _, [], hW', trodAll_mk1 (shut_bool Try.underlying4 _), (trodAll_cons_mk (Below.trod Try.laidOut (by kernel_rfl) (of_decide_eq_true (by kernel_rfl)) h0 bel.out lt0) (trodAll_cons_mk (Below.trod Try.laidOut (by kernel_rfl) (of_decide_eq_true (by kernel_rfl)) h1 bel.out lt1) (trodAll_cons_mk (Below.trod Try.laidOut (by kernel_rfl) (of_decide_eq_true (by kernel_rfl)) h2 bel.out lt2) trodAll_mk0))), rfl, bel.out.frame _, fun h => by cases h⟩

/-- The statement. -/
theorem cbreak_holds : Rows.ControllerBreakSaid :=
  OpenClaim.holds_of_wide 9 Try.f9 rfl rfl rfl rfl rfl rfl rfl ⟨rfl, rfl, rfl, rfl, rfl⟩ rfl rfl rfl rfl rfl (by kernel_rfl) Try.func9 (by kernel_rfl)
    (of_decide_eq_true (by kernel_rfl)) (by unfold Func.isWrapper; first | (rw [if_pos (by decide +kernel)]; kernel_rfl) | (rw [if_neg (by decide +kernel)]; exact ⟨rfl, rfl⟩))
    (fun os started H enc _ => liftControllerBreak os started H enc)

#print axioms cbreak_holds
end Go.Proofs.Ytfmjmabaabmgcaa
