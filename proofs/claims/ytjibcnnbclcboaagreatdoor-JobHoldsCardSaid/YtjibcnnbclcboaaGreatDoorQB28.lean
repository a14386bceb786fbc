/-
  Walks: what a machine does when its tool breaks.
-/
import Derived.Test.YtjibcnnbclcboaaGreatDoorQB27
namespace Go.Proofs.YtjibcnnbclcboaaGreatDoor
open Go.RowKit
set_option maxRecDepth 8000

theorem cell_put3 {V : World} {G i : Nat} {v : Option Value} (A : Nat) (x y z : Int) (hne : A ≠ G) (h : V.cell? ⟨G, i, none⟩ = v) : (((V.setCell ⟨A, 0, none⟩ (.int .i64 x)).setCell ⟨A, 1, none⟩ (.int .i64 y)).setCell ⟨A, 2, none⟩ (.int .i64 z)).cell? ⟨G, i, none⟩ = v := by
  rw [World.cell?_setCell_far _ _ _ _ hne, World.cell?_setCell_far _ _ _ _ hne, World.cell?_setCell_far _ _ _ _ hne]
  exact h

set_option maxHeartbeats 8000000 in
theorem mbroken_e1 {w0 : World} {G : Nat} {w : World} {s a j safe : Int} {J : JobS} {k q : Nat} (h : JIn w0 G w s a j safe J) (hok : J.Ok k q) (hk : k ≤ 900000000) (hq : q ≤ 900000) (hsf : in64 safe) (he : rstE J.l J.C.idx J.C.at3 safe ≠ 0) :
    Calls Tryz.prog 46 #[.pointer (some ⟨G, 0, none⟩)] w fun e w' => e = .returned (.int .i64 (rstE J.l J.C.idx J.C.at3 safe)) ∧ Ext w0 w' := by
  obtain ⟨B, vm, vps, N, h⟩ := h
  have H := Lib.hid h
  have ki := fun (w' : World) (he : Ext w w') => index_in (h.ctl.later he)
  have kp := fun (w' : World) (he : Ext w w') => pos_in (h.ctl.later he)
  have HPS : Hid (J.C.ps.length ≤ 999999999) := Lib.hid (by have := hok.ps; omega)
  have HPB : Hid (J.C.brkC.ps.length ≤ 999999999) := Lib.hid (by have := hok.ps; have := brkC_ps J.C; omega)
  have HLN : Hid (J.ps.length + J.C.brkC.doneL.length ≤ 1000000000) := Lib.hid (by have := hok.ps; have := brkC_ps J.C; have := doneL_len J.C.brkC; omega)
  have HIX : Hid (J.C.idx ≤ J.l.length) := Lib.hid (by have := hok.ok.posOk.le; rw [hok.ms] at this; exact this)
  have HLL : Hid (J.l.length ≤ 1000000) := Lib.hid (by have := hok.ln; omega)
  have HLR : Hid ((rstL J.l J.C.idx J.C.at3 safe).length ≤ 1000000) := Lib.hid (by have := rstL_length J.l J.C.idx J.C.at3 safe; have := hok.ln; omega)
  have HWF : Hid (WfL (rstL J.l J.C.idx J.C.at3 safe)) := Lib.hid (rstL_wf hok.wf hok.ok.at3_in hsf)
  have hnz : (rstE J.l J.C.idx J.C.at3 safe == 0) = false := by simp [he]
  have hgw : G < w.heap.size := h.box.lt
  have hbw : B ≤ w.heap.size := by have := h.ctl.lt; omega
  have c5 := Later.cell h.box.c5
  clear h hok hsf hk hq
  generalize hat3 : J.C.at3 = p3 at *
  obtain ⟨qx, qy, qz⟩ := p3
  have KI := Lib.hid ki; have KP := Lib.hid kp
  clear ki kp hat3
  go_enter Tryz.func46, Tryz.ntmps46
  go_wp2_with fail
  have hV : Ext w w.drew := (Ext.refl w).drew
  refine wp_region_tree (fun w' => ∃ y : Later w, w' = y.w) 12 (.two [0, 1, 2, 3, 5, 6, 7, 8] 4 10 (.two [] 9 10 (.one [] 10 (.leaf [11])) (.one [] 9 (.leaf [11]))) (.one [] 4 (.one [] 9 (.leaf [11])))) (by kernel_rfl) (by kernel_rfl) (by kernel_rfl) ⟨⟨_, hV⟩, rfl⟩ ?_
  simp only [List.take_succ_cons, List.take_zero]
  refine tree_two fun K1 K2 hK1 hK2 => ?_
  simp only [List.map_cons, List.map_nil, pickOp, List.getElem?_cons_zero, List.getElem?_cons_succ, Option.getD_some]
  repeat (go_big_quiet_step (fail))
  refine wpQuiet_nil ?_
  clear c5
  generalize w.drew = V at *
  refine ⟨?_, ?_⟩
  · clear hK2 K2
    go_wp2_with ((go_at_call 34; with_reducible refine (KI.out _ hV).mono ?_); rintro e wz ⟨rfl, rfl⟩)
    refine onlyK_normal (hK1 _ _ ⟨⟨_, hV⟩, rfl⟩ ?_); clear hK1 K1
    refine tree_two0 fun K1 K2 hK1 hK2 => ?_
    simp only [pickOp, List.getElem?_cons_zero, List.getElem?_cons_succ, Option.getD_some]
    refine ⟨?_, ?_⟩
    · clear hK2 K2
      go_wp2_with ((go_at_call 36; with_reducible refine (KP.out _ hV).mono ?_); rintro e V2 ⟨rfl, hx2⟩)
      replace hV := hV.trans hx2
      refine onlyK_normal (hK1 _ _ ⟨⟨_, hV⟩, rfl⟩ ?_); clear hK1 K1 hx2
      clear V
      obtain ⟨V, rfl⟩ : ∃ X, X = V2 := ⟨_, rfl⟩
      refine tree_one0 fun K hK => ?_
      simp only [pickOp, List.getElem?_cons_zero, List.getElem?_cons_succ, Option.getD_some]
      go_wp2_with fail
      obtain ⟨V2, hV2, bA, hx2⟩ := P3Box.mk' V 0 0 0
      rw [hV2]; clear hV2
      have hAw : w.heap.size ≤ V.heap.size := hV.size
      generalize V.heap.size = A at *
      replace hV := hV.trans hx2
      refine onlyK_normal (hK _ _ ⟨⟨_, hV⟩, rfl⟩ ?_); clear hK K hx2
      clear V
      obtain ⟨V, rfl⟩ : ∃ X, X = V2 := ⟨_, rfl⟩
      refine tree_leaf ?_
      simp only [List.map_cons, List.map_nil, pickOp, List.getElem?_cons_zero, List.getElem?_cons_succ, Option.getD_some]
      repeat (go_big_quiet_step (fail))
      refine wpQuiet_nil ?_
      simp only [List.drop_succ_cons, List.drop_zero]
      obtain ⟨z0, z1, z2, y0, y1, y2⟩ := bA.at
      have k5 := cell_put3 A qx qy qz (by omega : A ≠ G) (H.out.later hV).box.c5
      go_wp2_with fail
      have bP := bA.put qx qy qz
      have hX : Ext w (((V.setCell ⟨A, 0, none⟩ (.int .i64 qx)).setCell ⟨A, 1, none⟩ (.int .i64 qy)).setCell ⟨A, 2, none⟩ (.int .i64 qz)) := ((hV.setCell hAw _).setCell hAw _).setCell hAw _
      generalize ((V.setCell ⟨A, 0, none⟩ (.int .i64 qx)).setCell ⟨A, 1, none⟩ (.int .i64 qy)).setCell ⟨A, 2, none⟩ (.int .i64 qz) = X at *
      clear z0 z1 z2 y0 y1 y2 bA hV k5
      clear V
      refine (break_up H.out.ctl hX HPS.out).mono ?_
      rintro e w3 ⟨rfl, hC3, hO3⟩
      have H3 := (H.out.later hX).work hC3 (hO3.mono (fun _ _ h => h.1))
      have bP3 := bP.only hO3 (by omega)
      clear bP hC3 hO3 hX
      clear X
      have nG : ¬ (vps.ownBlock = some G) := fun e => (H3.lp _ e).2 rfl
      have nA : ¬ (vps.ownBlock = some A) := fun e => by have := (H3.lp _ e).1; omega
      go_wp2_with fail
      have d5 := Chg.cell (D := fun k => vps.ownBlock = some k) H3.box.c5 nG; have d6 := Chg.cell (D := fun k => vps.ownBlock = some k) H3.box.c6 nG
      refine wp_region_tree (fun w' => ∃ y : Chg (fun k => vps.ownBlock = some k) w3, w' = y.w) 11 (.one [0, 1, 2, 3, 4, 5, 6, 7, 8] 9 (.one [] 10 (.leaf []))) (by kernel_rfl) (by kernel_rfl) (by kernel_rfl) ⟨⟨_, (Only.refl _ w3).drew⟩, rfl⟩ ?_
      simp only [List.take_succ_cons, List.take_zero]
      refine tree_one fun K hK => ?_
      simp only [List.map_cons, List.map_nil, pickOp, List.getElem?_cons_zero, List.getElem?_cons_succ, Option.getD_some]
      repeat (go_big_quiet_step (fail))
      refine wpQuiet_nil ?_
      clear d5 d6
      have H4 := H3.later (Ext.refl w3).drew
      have bP4 := bP3.later (Ext.refl w3).drew
      have hD3 : Only (fun k => vps.ownBlock = some k) w3 w3.drew := (Only.refl _ w3).drew
      clear H3 bP3
      generalize w3.drew = w4 at *
      have HD := Lib.hid (done_in H4.ctl HPB.out)
      go_wp2_with ((go_at_call 31; with_reducible refine (HD.out).mono ?_); rintro e w5 ⟨v5, rfl, own5, hx5⟩)
      clear HD
      refine onlyK_normal (hK _ _ ⟨⟨_, hD3.trans (Only.of_ext hx5)⟩, rfl⟩ ?_); clear hK K
      refine tree_one0 fun K hK => ?_
      simp only [pickOp, List.getElem?_cons_zero, List.getElem?_cons_succ, Option.getD_some]
      have HQ4 := Lib.hid (H4.sp.later hx5); have HS4 := Lib.hid own5.sl; have HB4 : Hid (w0.heap.size ≤ w5.heap.size) := Lib.hid (H4.ext.trans hx5).size
      clear own5
      go_wp2_with ((at_builtin; refine appM_at rfl _ _ rfl w0.heap.size _ _ J.ps J.C.brkC.doneL rfl rfl HQ4.out HS4.out HLN.out HB4.out ?_; intro v6 w6 own6 hg6 hloc6))
      have hO6 : Only (fun k => vps.ownBlock = some k) w4 w6 := (Only.of_ext hx5).trans (Only.of_grown hg6)
      refine onlyK_normal (hK _ _ ⟨⟨_, hD3.trans hO6⟩, rfl⟩ ?_); clear hK K
      refine tree_leaf0 ?_
      simp only [List.drop_succ_cons, List.drop_zero]
      have hG4 : G < w4.heap.size := H4.box.lt
      have n6 : v6.ownBlock ≠ some G := by rcases hloc6 with e | e <;> rw [e]; exact nG; intro e2; have := hx5.size; cases e2; omega
      have B6 := H4.box.only hO6 nG
      have S6 := H4.sm.only' hO6 (fun hl b hb e => H4.mp hl b hb e)
      have P6 := bP4.only hO6 nA
      have E6 : Ext w0 w6 := H4.ext.only hO6 (fun i hi e => by have := H4.sp.base e; omega)
      have hcap := H4.cap; have hbase := H4.base
      clear hD3 hg6 hloc6 HQ4 HS4 HB4 bP4 hx5 H4 hO6 hG4
      obtain ⟨x6, n6', c6, rfl⟩ := OwnM.form own6
      have B7 := (B6.set6 x6 n6' c6).set7 false
      have f6 := B6.fr 6 (by decide); have g6 := B6.c6; have f7 := (B6.set6 x6 n6' c6).fr 7 (by decide); have g7 := (B6.set6 x6 n6' c6).c7
      have hO7 : Only (fun k => k = G) w6 ((w6.setCell ⟨G, 6, none⟩ (.slice x6 n6' c6)).setCell ⟨G, 7, none⟩ (.bool false)) := ((Only.refl (fun k => k = G) w6).set (p := ⟨G, 6, none⟩) (.inl rfl) _).set (p := ⟨G, 7, none⟩) (.inl rfl) _
      have S7 := S6.only' hO7 (fun hl b hb e => B6.apart S6 hl (by rw [hb, e]))
      have O7 := own6.only hO7 (fun b hb e => n6 (by rw [hb, e]))
      have P7 := P6.only hO7 (by omega)
      have E7 := (E6.setCell (p := ⟨G, 6, none⟩) hbase (.slice x6 n6' c6)).setCell (p := ⟨G, 7, none⟩) hbase (.bool false)
      go_wp2_with fail
      generalize (w6.setCell ⟨G, 6, none⟩ (.slice x6 n6' c6)).setCell ⟨G, 7, none⟩ (.bool false) = w7 at *
      clear f6 g6 f7 g7 hO7 S6 own6 P6 E6 B6
      obtain ⟨xm, cm, hvm⟩ := S7.is
      have e0 := Later.cell B7.c0; have e4 := Later.cell B7.c4; have a0 := P7.c0; have a1 := P7.c1; have a2 := P7.c2
      refine wp_region_tree (fun w' => ∃ y : Later w7, w' = y.w) 15 (.one [0, 1, 2, 3, 4, 5, 6, 7, 8, 9] 10 (.leaf [11, 12, 13, 14])) (by kernel_rfl) (by kernel_rfl) (by kernel_rfl) ⟨⟨_, (Ext.refl w7).drew⟩, rfl⟩ ?_
      simp only [List.take_succ_cons, List.take_zero]
      refine tree_one fun K hK => ?_
      simp only [List.map_cons, List.map_nil, pickOp, List.getElem?_cons_zero, List.getElem?_cons_succ, Option.getD_some]
      repeat (go_big_quiet_step (fail))
      refine wpQuiet_nil ?_
      clear e0 e4 a0 a1 a2
      have hx7 : Ext w7 w7.drew := (Ext.refl w7).drew
      have KR := Lib.hid (crestart_any vm J.l J.C.idx qx qy qz safe w7.drew (S7.later hx7) hcap HIX.out HLL.out)
      rw [hvm] at KR
      go_wp2_with ((go_at_call 38; with_reducible refine (KR.out).mono ?_); rintro e w8 ⟨v8, rfl, S8, F8, hx8⟩)
      clear KR
      refine onlyK_normal (hK _ _ ⟨⟨_, hx7.trans hx8⟩, rfl⟩ ?_); clear hK K
      have hx9 := hx7.trans hx8
      have hF8 : ∀ b, v8.ownBlock = some b → w7.heap.size ≤ b := F8.2
      have hcap8 := F8.1
      clear F8 hx7 hx8 hcap
      obtain ⟨x8, c8, rfl⟩ := S8.is
      refine tree_leaf ?_
      simp only [List.map_cons, List.map_nil, pickOp, List.getElem?_cons_zero, List.getElem?_cons_succ, Option.getD_some]
      repeat (go_big_quiet_step (fail))
      refine wpQuiet_nil ?_
      simp only [List.drop_succ_cons, List.drop_zero]
      have E8 := E7.trans hx9
      go_wp2
      go_ret
      exact ⟨rfl, E8⟩
    · clear hK1 K1
      go_wp2_with fail
      obtain ⟨V2, hV2, bA, hx2⟩ := P3Box.mk' V 0 0 0
      rw [hV2]; clear hV2
      have hAw : w.heap.size ≤ V.heap.size := hV.size
      generalize V.heap.size = A at *
      replace hV := hV.trans hx2
      refine onlyK_normal (hK2 _ _ ⟨⟨_, hV⟩, rfl⟩ ?_); clear hK2 K2 hx2
      clear V
      obtain ⟨V, rfl⟩ : ∃ X, X = V2 := ⟨_, rfl⟩
      refine tree_one0 fun K hK => ?_
      simp only [pickOp, List.getElem?_cons_zero, List.getElem?_cons_succ, Option.getD_some]
      go_wp2_with ((go_at_call 36; with_reducible refine (KP.out _ hV).mono ?_); rintro e V2 ⟨rfl, hx2⟩)
      replace hV := hV.trans hx2
      replace bA := bA.later hx2
      refine onlyK_normal (hK _ _ ⟨⟨_, hV⟩, rfl⟩ ?_); clear hK K hx2
      clear V
      obtain ⟨V, rfl⟩ : ∃ X, X = V2 := ⟨_, rfl⟩
      refine tree_leaf ?_
      simp only [List.map_cons, List.map_nil, pickOp, List.getElem?_cons_zero, List.getElem?_cons_succ, Option.getD_some]
      repeat (go_big_quiet_step (fail))
      refine wpQuiet_nil ?_
      simp only [List.drop_succ_cons, List.drop_zero]
      obtain ⟨z0, z1, z2, y0, y1, y2⟩ := bA.at
      have k5 := cell_put3 A qx qy qz (by omega : A ≠ G) (H.out.later hV).box.c5
      go_wp2_with fail
      have bP := bA.put qx qy qz
      have hX : Ext w (((V.setCell ⟨A, 0, none⟩ (.int .i64 qx)).setCell ⟨A, 1, none⟩ (.int .i64 qy)).setCell ⟨A, 2, none⟩ (.int .i64 qz)) := ((hV.setCell hAw _).setCell hAw _).setCell hAw _
      generalize ((V.setCell ⟨A, 0, none⟩ (.int .i64 qx)).setCell ⟨A, 1, none⟩ (.int .i64 qy)).setCell ⟨A, 2, none⟩ (.int .i64 qz) = X at *
      clear z0 z1 z2 y0 y1 y2 bA hV k5
      clear V
      refine (break_up H.out.ctl hX HPS.out).mono ?_
      rintro e w3 ⟨rfl, hC3, hO3⟩
      have H3 := (H.out.later hX).work hC3 (hO3.mono (fun _ _ h => h.1))
      have bP3 := bP.only hO3 (by omega)
      clear bP hC3 hO3 hX
      clear X
      have nG : ¬ (vps.ownBlock = some G) := fun e => (H3.lp _ e).2 rfl
      have nA : ¬ (vps.ownBlock = some A) := fun e => by have := (H3.lp _ e).1; omega
      go_wp2_with fail
      have d5 := Chg.cell (D := fun k => vps.ownBlock = some k) H3.box.c5 nG; have d6 := Chg.cell (D := fun k => vps.ownBlock = some k) H3.box.c6 nG
      refine wp_region_tree (fun w' => ∃ y : Chg (fun k => vps.ownBlock = some k) w3, w' = y.w) 11 (.one [0, 1, 2, 3, 4, 5, 6, 7, 8] 9 (.one [] 10 (.leaf []))) (by kernel_rfl) (by kernel_rfl) (by kernel_rfl) ⟨⟨_, (Only.refl _ w3).drew⟩, rfl⟩ ?_
      simp only [List.take_succ_cons, List.take_zero]
      refine tree_one fun K hK => ?_
      simp only [List.map_cons, List.map_nil, pickOp, List.getElem?_cons_zero, List.getElem?_cons_succ, Option.getD_some]
      repeat (go_big_quiet_step (fail))
      refine wpQuiet_nil ?_
      clear d5 d6
      have H4 := H3.later (Ext.refl w3).drew
      have bP4 := bP3.later (Ext.refl w3).drew
      have hD3 : Only (fun k => vps.ownBlock = some k) w3 w3.drew := (Only.refl _ w3).drew
      clear H3 bP3
      generalize w3.drew = w4 at *
      have HD := Lib.hid (done_in H4.ctl HPB.out)
      go_wp2_with ((go_at_call 31; with_reducible refine (HD.out).mono ?_); rintro e w5 ⟨v5, rfl, own5, hx5⟩)
      clear HD
      refine onlyK_normal (hK _ _ ⟨⟨_, hD3.trans (Only.of_ext hx5)⟩, rfl⟩ ?_); clear hK K
      refine tree_one0 fun K hK => ?_
      simp only [pickOp, List.getElem?_cons_zero, List.getElem?_cons_succ, Option.getD_some]
      have HQ4 := Lib.hid (H4.sp.later hx5); have HS4 := Lib.hid own5.sl; have HB4 : Hid (w0.heap.size ≤ w5.heap.size) := Lib.hid (H4.ext.trans hx5).size
      clear own5
      go_wp2_with ((at_builtin; refine appM_at rfl _ _ rfl w0.heap.size _ _ J.ps J.C.brkC.doneL rfl rfl HQ4.out HS4.out HLN.out HB4.out ?_; intro v6 w6 own6 hg6 hloc6))
      have hO6 : Only (fun k => vps.ownBlock = some k) w4 w6 := (Only.of_ext hx5).trans (Only.of_grown hg6)
      refine onlyK_normal (hK _ _ ⟨⟨_, hD3.trans hO6⟩, rfl⟩ ?_); clear hK K
      refine tree_leaf0 ?_
      simp only [List.drop_succ_cons, List.drop_zero]
      have hG4 : G < w4.heap.size := H4.box.lt
      have n6 : v6.ownBlock ≠ some G := by rcases hloc6 with e | e <;> rw [e]; exact nG; intro e2; have := hx5.size; cases e2; omega
      have B6 := H4.box.only hO6 nG
      have S6 := H4.sm.only' hO6 (fun hl b hb e => H4.mp hl b hb e)
      have P6 := bP4.only hO6 nA
      have E6 : Ext w0 w6 := H4.ext.only hO6 (fun i hi e => by have := H4.sp.base e; omega)
      have hcap := H4.cap; have hbase := H4.base
      clear hD3 hg6 hloc6 HQ4 HS4 HB4 bP4 hx5 H4 hO6 hG4
      obtain ⟨x6, n6', c6, rfl⟩ := OwnM.form own6
      have B7 := (B6.set6 x6 n6' c6).set7 false
      have f6 := B6.fr 6 (by decide); have g6 := B6.c6; have f7 := (B6.set6 x6 n6' c6).fr 7 (by decide); have g7 := (B6.set6 x6 n6' c6).c7
      have hO7 : Only (fun k => k = G) w6 ((w6.setCell ⟨G, 6, none⟩ (.slice x6 n6' c6)).setCell ⟨G, 7, none⟩ (.bool false)) := ((Only.refl (fun k => k = G) w6).set (p := ⟨G, 6, none⟩) (.inl rfl) _).set (p := ⟨G, 7, none⟩) (.inl rfl) _
      have S7 := S6.only' hO7 (fun hl b hb e => B6.apart S6 hl (by rw [hb, e]))
      have O7 := own6.only hO7 (fun b hb e => n6 (by rw [hb, e]))
      have P7 := P6.only hO7 (by omega)
      have E7 := (E6.setCell (p := ⟨G, 6, none⟩) hbase (.slice x6 n6' c6)).setCell (p := ⟨G, 7, none⟩) hbase (.bool false)
      go_wp2_with fail
      generalize (w6.setCell ⟨G, 6, none⟩ (.slice x6 n6' c6)).setCell ⟨G, 7, none⟩ (.bool false) = w7 at *
      clear f6 g6 f7 g7 hO7 S6 own6 P6 E6 B6
      obtain ⟨xm, cm, hvm⟩ := S7.is
      have e0 := Later.cell B7.c0; have e4 := Later.cell B7.c4; have a0 := P7.c0; have a1 := P7.c1; have a2 := P7.c2
      refine wp_region_tree (fun w' => ∃ y : Later w7, w' = y.w) 15 (.one [0, 1, 2, 3, 4, 5, 6, 7, 8, 9] 10 (.leaf [11, 12, 13, 14])) (by kernel_rfl) (by kernel_rfl) (by kernel_rfl) ⟨⟨_, (Ext.refl w7).drew⟩, rfl⟩ ?_
      simp only [List.take_succ_cons, List.take_zero]
      refine tree_one fun K hK => ?_
      simp only [List.map_cons, List.map_nil, pickOp, List.getElem?_cons_zero, List.getElem?_cons_succ, Option.getD_some]
      repeat (go_big_quiet_step (fail))
      refine wpQuiet_nil ?_
      clear e0 e4 a0 a1 a2
      have hx7 : Ext w7 w7.drew := (Ext.refl w7).drew
      have KR := Lib.hid (crestart_any vm J.l J.C.idx qx qy qz safe w7.drew (S7.later hx7) hcap HIX.out HLL.out)
      rw [hvm] at KR
      go_wp2_with ((go_at_call 38; with_reducible refine (KR.out).mono ?_); rintro e w8 ⟨v8, rfl, S8, F8, hx8⟩)
      clear KR
      refine onlyK_normal (hK _ _ ⟨⟨_, hx7.trans hx8⟩, rfl⟩ ?_); clear hK K
      have hx9 := hx7.trans hx8
      have hF8 : ∀ b, v8.ownBlock = some b → w7.heap.size ≤ b := F8.2
      have hcap8 := F8.1
      clear F8 hx7 hx8 hcap
      obtain ⟨x8, c8, rfl⟩ := S8.is
      refine tree_leaf ?_
      simp only [List.map_cons, List.map_nil, pickOp, List.getElem?_cons_zero, List.getElem?_cons_succ, Option.getD_some]
      repeat (go_big_quiet_step (fail))
      refine wpQuiet_nil ?_
      simp only [List.drop_succ_cons, List.drop_zero]
      have E8 := E7.trans hx9
      go_wp2
      go_ret
      exact ⟨rfl, E8⟩
  · clear hK1 K1
    go_wp2_with fail
    obtain ⟨V2, hV2, bA, hx2⟩ := P3Box.mk' V 0 0 0
    rw [hV2]; clear hV2
    have hAw : w.heap.size ≤ V.heap.size := hV.size
    generalize V.heap.size = A at *
    replace hV := hV.trans hx2
    refine onlyK_normal (hK2 _ _ ⟨⟨_, hV⟩, rfl⟩ ?_); clear hK2 K2 hx2
    clear V
    obtain ⟨V, rfl⟩ : ∃ X, X = V2 := ⟨_, rfl⟩
    refine tree_one0 fun K hK => ?_
    simp only [pickOp, List.getElem?_cons_zero, List.getElem?_cons_succ, Option.getD_some]
    go_wp2_with ((go_at_call 34; with_reducible refine (KI.out _ hV).mono ?_); rintro e wz ⟨rfl, rfl⟩)
    refine onlyK_normal (hK _ _ ⟨⟨_, hV⟩, rfl⟩ ?_); clear hK K
    refine tree_one0 fun K hK => ?_
    simp only [pickOp, List.getElem?_cons_zero, List.getElem?_cons_succ, Option.getD_some]
    go_wp2_with ((go_at_call 36; with_reducible refine (KP.out _ hV).mono ?_); rintro e V2 ⟨rfl, hx2⟩)
    replace hV := hV.trans hx2
    replace bA := bA.later hx2
    refine onlyK_normal (hK _ _ ⟨⟨_, hV⟩, rfl⟩ ?_); clear hK K hx2
    clear V
    obtain ⟨V, rfl⟩ : ∃ X, X = V2 := ⟨_, rfl⟩
    refine tree_leaf ?_
    simp only [List.map_cons, List.map_nil, pickOp, List.getElem?_cons_zero, List.getElem?_cons_succ, Option.getD_some]
    repeat (go_big_quiet_step (fail))
    refine wpQuiet_nil ?_
    simp only [List.drop_succ_cons, List.drop_zero]
    obtain ⟨z0, z1, z2, y0, y1, y2⟩ := bA.at
    have k5 := cell_put3 A qx qy qz (by omega : A ≠ G) (H.out.later hV).box.c5
    go_wp2_with fail
    have bP := bA.put qx qy qz
    have hX : Ext w (((V.setCell ⟨A, 0, none⟩ (.int .i64 qx)).setCell ⟨A, 1, none⟩ (.int .i64 qy)).setCell ⟨A, 2, none⟩ (.int .i64 qz)) := ((hV.setCell hAw _).setCell hAw _).setCell hAw _
    generalize ((V.setCell ⟨A, 0, none⟩ (.int .i64 qx)).setCell ⟨A, 1, none⟩ (.int .i64 qy)).setCell ⟨A, 2, none⟩ (.int .i64 qz) = X at *
    clear z0 z1 z2 y0 y1 y2 bA hV k5
    clear V
    refine (break_up H.out.ctl hX HPS.out).mono ?_
    rintro e w3 ⟨rfl, hC3, hO3⟩
    have H3 := (H.out.later hX).work hC3 (hO3.mono (fun _ _ h => h.1))
    have bP3 := bP.only hO3 (by omega)
    clear bP hC3 hO3 hX
    clear X
    have nG : ¬ (vps.ownBlock = some G) := fun e => (H3.lp _ e).2 rfl
    have nA : ¬ (vps.ownBlock = some A) := fun e => by have := (H3.lp _ e).1; omega
    go_wp2_with fail
    have d5 := Chg.cell (D := fun k => vps.ownBlock = some k) H3.box.c5 nG; have d6 := Chg.cell (D := fun k => vps.ownBlock = some k) H3.box.c6 nG
    refine wp_region_tree (fun w' => ∃ y : Chg (fun k => vps.ownBlock = some k) w3, w' = y.w) 11 (.one [0, 1, 2, 3, 4, 5, 6, 7, 8] 9 (.one [] 10 (.leaf []))) (by kernel_rfl) (by kernel_rfl) (by kernel_rfl) ⟨⟨_, (Only.refl _ w3).drew⟩, rfl⟩ ?_
    simp only [List.take_succ_cons, List.take_zero]
    refine tree_one fun K hK => ?_
    simp only [List.map_cons, List.map_nil, pickOp, List.getElem?_cons_zero, List.getElem?_cons_succ, Option.getD_some]
    repeat (go_big_quiet_step (fail))
    refine wpQuiet_nil ?_
    clear d5 d6
    have H4 := H3.later (Ext.refl w3).drew
    have bP4 := bP3.later (Ext.refl w3).drew
    have hD3 : Only (fun k => vps.ownBlock = some k) w3 w3.drew := (Only.refl _ w3).drew
    clear H3 bP3
    generalize w3.drew = w4 at *
    have HD := Lib.hid (done_in H4.ctl HPB.out)
    go_wp2_with ((go_at_call 31; with_reducible refine (HD.out).mono ?_); rintro e w5 ⟨v5, rfl, own5, hx5⟩)
    clear HD
    refine onlyK_normal (hK _ _ ⟨⟨_, hD3.trans (Only.of_ext hx5)⟩, rfl⟩ ?_); clear hK K
    refine tree_one0 fun K hK => ?_
    simp only [pickOp, List.getElem?_cons_zero, List.getElem?_cons_succ, Option.getD_some]
    have HQ4 := Lib.hid (H4.sp.later hx5); have HS4 := Lib.hid own5.sl; have HB4 : Hid (w0.heap.size ≤ w5.heap.size) := Lib.hid (H4.ext.trans hx5).size
    clear own5
    go_wp2_with ((at_builtin; refine appM_at rfl _ _ rfl w0.heap.size _ _ J.ps J.C.brkC.doneL rfl rfl HQ4.out HS4.out HLN.out HB4.out ?_; intro v6 w6 own6 hg6 hloc6))
    have hO6 : Only (fun k => vps.ownBlock = some k) w4 w6 := (Only.of_ext hx5).trans (Only.of_grown hg6)
    refine onlyK_normal (hK _ _ ⟨⟨_, hD3.trans hO6⟩, rfl⟩ ?_); clear hK K
    refine tree_leaf0 ?_
    simp only [List.drop_succ_cons, List.drop_zero]
    have hG4 : G < w4.heap.size := H4.box.lt
    have n6 : v6.ownBlock ≠ some G := by rcases hloc6 with e | e <;> rw [e]; exact nG; intro e2; have := hx5.size; cases e2; omega
    have B6 := H4.box.only hO6 nG
    have S6 := H4.sm.only' hO6 (fun hl b hb e => H4.mp hl b hb e)
    have P6 := bP4.only hO6 nA
    have E6 : Ext w0 w6 := H4.ext.only hO6 (fun i hi e => by have := H4.sp.base e; omega)
    have hcap := H4.cap; have hbase := H4.base
    clear hD3 hg6 hloc6 HQ4 HS4 HB4 bP4 hx5 H4 hO6 hG4
    obtain ⟨x6, n6', c6, rfl⟩ := OwnM.form own6
    have B7 := (B6.set6 x6 n6' c6).set7 false
    have f6 := B6.fr 6 (by decide); have g6 := B6.c6; have f7 := (B6.set6 x6 n6' c6).fr 7 (by decide); have g7 := (B6.set6 x6 n6' c6).c7
    have hO7 : Only (fun k => k = G) w6 ((w6.setCell ⟨G, 6, none⟩ (.slice x6 n6' c6)).setCell ⟨G, 7, none⟩ (.bool false)) := ((Only.refl (fun k => k = G) w6).set (p := ⟨G, 6, none⟩) (.inl rfl) _).set (p := ⟨G, 7, none⟩) (.inl rfl) _
    have S7 := S6.only' hO7 (fun hl b hb e => B6.apart S6 hl (by rw [hb, e]))
    have O7 := own6.only hO7 (fun b hb e => n6 (by rw [hb, e]))
    have P7 := P6.only hO7 (by omega)
    have E7 := (E6.setCell (p := ⟨G, 6, none⟩) hbase (.slice x6 n6' c6)).setCell (p := ⟨G, 7, none⟩) hbase (.bool false)
    go_wp2_with fail
    generalize (w6.setCell ⟨G, 6, none⟩ (.slice x6 n6' c6)).setCell ⟨G, 7, none⟩ (.bool false) = w7 at *
    clear f6 g6 f7 g7 hO7 S6 own6 P6 E6 B6
    obtain ⟨xm, cm, hvm⟩ := S7.is
    have e0 := Later.cell B7.c0; have e4 := Later.cell B7.c4; have a0 := P7.c0; have a1 := P7.c1; have a2 := P7.c2
    refine wp_region_tree (fun w' => ∃ y : Later w7, w' = y.w) 15 (.one [0, 1, 2, 3, 4, 5, 6, 7, 8, 9] 10 (.leaf [11, 12, 13, 14])) (by kernel_rfl) (by kernel_rfl) (by kernel_rfl) ⟨⟨_, (Ext.refl w7).drew⟩, rfl⟩ ?_
    simp only [List.take_succ_cons, List.take_zero]
    refine tree_one fun K hK => ?_
    simp only [List.map_cons, List.map_nil, pickOp, List.getElem?_cons_zero, List.getElem?_cons_succ, Option.getD_some]
    repeat (go_big_quiet_step (fail))
    refine wpQuiet_nil ?_
    clear e0 e4 a0 a1 a2
    have hx7 : Ext w7 w7.drew := (Ext.refl w7).drew
    have KR := Lib.hid (crestart_any vm J.l J.C.idx qx qy qz safe w7.drew (S7.later hx7) hcap HIX.out HLL.out)
    rw [hvm] at KR
    go_wp2_with ((go_at_call 38; with_reducible refine (KR.out).mono ?_); rintro e w8 ⟨v8, rfl, S8, F8, hx8⟩)
    clear KR
    refine onlyK_normal (hK _ _ ⟨⟨_, hx7.trans hx8⟩, rfl⟩ ?_); clear hK K
    have hx9 := hx7.trans hx8
    have hF8 : ∀ b, v8.ownBlock = some b → w7.heap.size ≤ b := F8.2
    have hcap8 := F8.1
    clear F8 hx7 hx8 hcap
    obtain ⟨x8, c8, rfl⟩ := S8.is
    refine tree_leaf ?_
    simp only [List.map_cons, List.map_nil, pickOp, List.getElem?_cons_zero, List.getElem?_cons_succ, Option.getD_some]
    repeat (go_big_quiet_step (fail))
    refine wpQuiet_nil ?_
    simp only [List.drop_succ_cons, List.drop_zero]
    have E8 := E7.trans hx9
    go_wp2
    go_ret
    exact ⟨rfl, E8⟩

set_option maxHeartbeats 8000000 in
theorem mbroken_e2 {w0 : World} {G : Nat} {w : World} {s a j safe : Int} {J : JobS} {k q : Nat} (h : JIn w0 G w s a j safe J) (hok : J.Ok k q) (hk : k ≤ 900000000) (hq : q ≤ 900000) (hsf : in64 safe) (he : rstE J.l J.C.idx J.C.at3 safe = 0) (hck : chk (rstL J.l J.C.idx J.C.at3 safe) s a j ≠ 0) :
    Calls Tryz.prog 46 #[.pointer (some ⟨G, 0, none⟩)] w fun e w' => e = .returned (.int .i64 (chk (rstL J.l J.C.idx J.C.at3 safe) s a j)) ∧ Ext w0 w' := by
  obtain ⟨B, vm, vps, N, h⟩ := h
  have H := Lib.hid h
  have ki := fun (w' : World) (he : Ext w w') => index_in (h.ctl.later he)
  have kp := fun (w' : World) (he : Ext w w') => pos_in (h.ctl.later he)
  have HPS : Hid (J.C.ps.length ≤ 999999999) := Lib.hid (by have := hok.ps; omega)
  have HPB : Hid (J.C.brkC.ps.length ≤ 999999999) := Lib.hid (by have := hok.ps; have := brkC_ps J.C; omega)
  have HLN : Hid (J.ps.length + J.C.brkC.doneL.length ≤ 1000000000) := Lib.hid (by have := hok.ps; have := brkC_ps J.C; have := doneL_len J.C.brkC; omega)
  have HIX : Hid (J.C.idx ≤ J.l.length) := Lib.hid (by have := hok.ok.posOk.le; rw [hok.ms] at this; exact this)
  have HLL : Hid (J.l.length ≤ 1000000) := Lib.hid (by have := hok.ln; omega)
  have HLR : Hid ((rstL J.l J.C.idx J.C.at3 safe).length ≤ 1000000) := Lib.hid (by have := rstL_length J.l J.C.idx J.C.at3 safe; have := hok.ln; omega)
  have HWF : Hid (WfL (rstL J.l J.C.idx J.C.at3 safe)) := Lib.hid (rstL_wf hok.wf hok.ok.at3_in hsf)
  have HCK := Lib.hid hck
  have hgw : G < w.heap.size := h.box.lt
  have hbw : B ≤ w.heap.size := by have := h.ctl.lt; omega
  have c5 := Later.cell h.box.c5
  clear h hok hsf hk hq hck
  generalize hat3 : J.C.at3 = p3 at *
  obtain ⟨qx, qy, qz⟩ := p3
  have KI := Lib.hid ki; have KP := Lib.hid kp
  clear ki kp hat3
  go_enter Tryz.func46, Tryz.ntmps46
  go_wp2_with fail
  have hV : Ext w w.drew := (Ext.refl w).drew
  refine wp_region_tree (fun w' => ∃ y : Later w, w' = y.w) 12 (.two [0, 1, 2, 3, 5, 6, 7, 8] 4 10 (.two [] 9 10 (.one [] 10 (.leaf [11])) (.one [] 9 (.leaf [11]))) (.one [] 4 (.one [] 9 (.leaf [11])))) (by kernel_rfl) (by kernel_rfl) (by kernel_rfl) ⟨⟨_, hV⟩, rfl⟩ ?_
  simp only [List.take_succ_cons, List.take_zero]
  refine tree_two fun K1 K2 hK1 hK2 => ?_
  simp only [List.map_cons, List.map_nil, pickOp, List.getElem?_cons_zero, List.getElem?_cons_succ, Option.getD_some]
  repeat (go_big_quiet_step (fail))
  refine wpQuiet_nil ?_
  clear c5
  generalize w.drew = V at *
  refine ⟨?_, ?_⟩
  · clear hK2 K2
    go_wp2_with ((go_at_call 34; with_reducible refine (KI.out _ hV).mono ?_); rintro e wz ⟨rfl, rfl⟩)
    refine onlyK_normal (hK1 _ _ ⟨⟨_, hV⟩, rfl⟩ ?_); clear hK1 K1
    refine tree_two0 fun K1 K2 hK1 hK2 => ?_
    simp only [pickOp, List.getElem?_cons_zero, List.getElem?_cons_succ, Option.getD_some]
    refine ⟨?_, ?_⟩
    · clear hK2 K2
      go_wp2_with ((go_at_call 36; with_reducible refine (KP.out _ hV).mono ?_); rintro e V2 ⟨rfl, hx2⟩)
      replace hV := hV.trans hx2
      refine onlyK_normal (hK1 _ _ ⟨⟨_, hV⟩, rfl⟩ ?_); clear hK1 K1 hx2
      clear V
      obtain ⟨V, rfl⟩ : ∃ X, X = V2 := ⟨_, rfl⟩
      refine tree_one0 fun K hK => ?_
      simp only [pickOp, List.getElem?_cons_zero, List.getElem?_cons_succ, Option.getD_some]
      go_wp2_with fail
      obtain ⟨V2, hV2, bA, hx2⟩ := P3Box.mk' V 0 0 0
      rw [hV2]; clear hV2
      have hAw : w.heap.size ≤ V.heap.size := hV.size
      generalize V.heap.size = A at *
      replace hV := hV.trans hx2
      refine onlyK_normal (hK _ _ ⟨⟨_, hV⟩, rfl⟩ ?_); clear hK K hx2
      clear V
      obtain ⟨V, rfl⟩ : ∃ X, X = V2 := ⟨_, rfl⟩
      refine tree_leaf ?_
      simp only [List.map_cons, List.map_nil, pickOp, List.getElem?_cons_zero, List.getElem?_cons_succ, Option.getD_some]
      repeat (go_big_quiet_step (fail))
      refine wpQuiet_nil ?_
      simp only [List.drop_succ_cons, List.drop_zero]
      obtain ⟨z0, z1, z2, y0, y1, y2⟩ := bA.at
      have k5 := cell_put3 A qx qy qz (by omega : A ≠ G) (H.out.later hV).box.c5
      go_wp2_with fail
      have bP := bA.put qx qy qz
      have hX : Ext w (((V.setCell ⟨A, 0, none⟩ (.int .i64 qx)).setCell ⟨A, 1, none⟩ (.int .i64 qy)).setCell ⟨A, 2, none⟩ (.int .i64 qz)) := ((hV.setCell hAw _).setCell hAw _).setCell hAw _
      generalize ((V.setCell ⟨A, 0, none⟩ (.int .i64 qx)).setCell ⟨A, 1, none⟩ (.int .i64 qy)).setCell ⟨A, 2, none⟩ (.int .i64 qz) = X at *
      clear z0 z1 z2 y0 y1 y2 bA hV k5
      clear V
      refine (break_up H.out.ctl hX HPS.out).mono ?_
      rintro e w3 ⟨rfl, hC3, hO3⟩
      have H3 := (H.out.later hX).work hC3 (hO3.mono (fun _ _ h => h.1))
      have bP3 := bP.only hO3 (by omega)
      clear bP hC3 hO3 hX
      clear X
      have nG : ¬ (vps.ownBlock = some G) := fun e => (H3.lp _ e).2 rfl
      have nA : ¬ (vps.ownBlock = some A) := fun e => by have := (H3.lp _ e).1; omega
      go_wp2_with fail
      have d5 := Chg.cell (D := fun k => vps.ownBlock = some k) H3.box.c5 nG; have d6 := Chg.cell (D := fun k => vps.ownBlock = some k) H3.box.c6 nG
      refine wp_region_tree (fun w' => ∃ y : Chg (fun k => vps.ownBlock = some k) w3, w' = y.w) 11 (.one [0, 1, 2, 3, 4, 5, 6, 7, 8] 9 (.one [] 10 (.leaf []))) (by kernel_rfl) (by kernel_rfl) (by kernel_rfl) ⟨⟨_, (Only.refl _ w3).drew⟩, rfl⟩ ?_
      simp only [List.take_succ_cons, List.take_zero]
      refine tree_one fun K hK => ?_
      simp only [List.map_cons, List.map_nil, pickOp, List.getElem?_cons_zero, List.getElem?_cons_succ, Option.getD_some]
      repeat (go_big_quiet_step (fail))
      refine wpQuiet_nil ?_
      clear d5 d6
      have H4 := H3.later (Ext.refl w3).drew
      have bP4 := bP3.later (Ext.refl w3).drew
      have hD3 : Only (fun k => vps.ownBlock = some k) w3 w3.drew := (Only.refl _ w3).drew
      clear H3 bP3
      generalize w3.drew = w4 at *
      have HD := Lib.hid (done_in H4.ctl HPB.out)
      go_wp2_with ((go_at_call 31; with_reducible refine (HD.out).mono ?_); rintro e w5 ⟨v5, rfl, own5, hx5⟩)
      clear HD
      refine onlyK_normal (hK _ _ ⟨⟨_, hD3.trans (Only.of_ext hx5)⟩, rfl⟩ ?_); clear hK K
      refine tree_one0 fun K hK => ?_
      simp only [pickOp, List.getElem?_cons_zero, List.getElem?_cons_succ, Option.getD_some]
      have HQ4 := Lib.hid (H4.sp.later hx5); have HS4 := Lib.hid own5.sl; have HB4 : Hid (w0.heap.size ≤ w5.heap.size) := Lib.hid (H4.ext.trans hx5).size
      clear own5
      go_wp2_with ((at_builtin; refine appM_at rfl _ _ rfl w0.heap.size _ _ J.ps J.C.brkC.doneL rfl rfl HQ4.out HS4.out HLN.out HB4.out ?_; intro v6 w6 own6 hg6 hloc6))
      have hO6 : Only (fun k => vps.ownBlock = some k) w4 w6 := (Only.of_ext hx5).trans (Only.of_grown hg6)
      refine onlyK_normal (hK _ _ ⟨⟨_, hD3.trans hO6⟩, rfl⟩ ?_); clear hK K
      refine tree_leaf0 ?_
      simp only [List.drop_succ_cons, List.drop_zero]
      have hG4 : G < w4.heap.size := H4.box.lt
      have n6 : v6.ownBlock ≠ some G := by rcases hloc6 with e | e <;> rw [e]; exact nG; intro e2; have := hx5.size; cases e2; omega
      have B6 := H4.box.only hO6 nG
      have S6 := H4.sm.only' hO6 (fun hl b hb e => H4.mp hl b hb e)
      have P6 := bP4.only hO6 nA
      have E6 : Ext w0 w6 := H4.ext.only hO6 (fun i hi e => by have := H4.sp.base e; omega)
      have hcap := H4.cap; have hbase := H4.base
      clear hD3 hg6 hloc6 HQ4 HS4 HB4 bP4 hx5 H4 hO6 hG4
      obtain ⟨x6, n6', c6, rfl⟩ := OwnM.form own6
      have B7 := (B6.set6 x6 n6' c6).set7 false
      have f6 := B6.fr 6 (by decide); have g6 := B6.c6; have f7 := (B6.set6 x6 n6' c6).fr 7 (by decide); have g7 := (B6.set6 x6 n6' c6).c7
      have hO7 : Only (fun k => k = G) w6 ((w6.setCell ⟨G, 6, none⟩ (.slice x6 n6' c6)).setCell ⟨G, 7, none⟩ (.bool false)) := ((Only.refl (fun k => k = G) w6).set (p := ⟨G, 6, none⟩) (.inl rfl) _).set (p := ⟨G, 7, none⟩) (.inl rfl) _
      have S7 := S6.only' hO7 (fun hl b hb e => B6.apart S6 hl (by rw [hb, e]))
      have O7 := own6.only hO7 (fun b hb e => n6 (by rw [hb, e]))
      have P7 := P6.only hO7 (by omega)
      have E7 := (E6.setCell (p := ⟨G, 6, none⟩) hbase (.slice x6 n6' c6)).setCell (p := ⟨G, 7, none⟩) hbase (.bool false)
      go_wp2_with fail
      generalize (w6.setCell ⟨G, 6, none⟩ (.slice x6 n6' c6)).setCell ⟨G, 7, none⟩ (.bool false) = w7 at *
      clear f6 g6 f7 g7 hO7 S6 own6 P6 E6 B6
      obtain ⟨xm, cm, hvm⟩ := S7.is
      have e0 := Later.cell B7.c0; have e4 := Later.cell B7.c4; have a0 := P7.c0; have a1 := P7.c1; have a2 := P7.c2
      refine wp_region_tree (fun w' => ∃ y : Later w7, w' = y.w) 15 (.one [0, 1, 2, 3, 4, 5, 6, 7, 8, 9] 10 (.leaf [11, 12, 13, 14])) (by kernel_rfl) (by kernel_rfl) (by kernel_rfl) ⟨⟨_, (Ext.refl w7).drew⟩, rfl⟩ ?_
      simp only [List.take_succ_cons, List.take_zero]
      refine tree_one fun K hK => ?_
      simp only [List.map_cons, List.map_nil, pickOp, List.getElem?_cons_zero, List.getElem?_cons_succ, Option.getD_some]
      repeat (go_big_quiet_step (fail))
      refine wpQuiet_nil ?_
      clear e0 e4 a0 a1 a2
      have hx7 : Ext w7 w7.drew := (Ext.refl w7).drew
      have KR := Lib.hid (crestart_any vm J.l J.C.idx qx qy qz safe w7.drew (S7.later hx7) hcap HIX.out HLL.out)
      rw [hvm] at KR
      go_wp2_with ((go_at_call 38; with_reducible refine (KR.out).mono ?_); rintro e w8 ⟨v8, rfl, S8, F8, hx8⟩)
      clear KR
      refine onlyK_normal (hK _ _ ⟨⟨_, hx7.trans hx8⟩, rfl⟩ ?_); clear hK K
      have hx9 := hx7.trans hx8
      have hF8 : ∀ b, v8.ownBlock = some b → w7.heap.size ≤ b := F8.2
      have hcap8 := F8.1
      clear F8 hx7 hx8 hcap
      obtain ⟨x8, c8, rfl⟩ := S8.is
      refine tree_leaf ?_
      simp only [List.map_cons, List.map_nil, pickOp, List.getElem?_cons_zero, List.getElem?_cons_succ, Option.getD_some]
      repeat (go_big_quiet_step (fail))
      refine wpQuiet_nil ?_
      simp only [List.drop_succ_cons, List.drop_zero]
      have E8 := E7.trans hx9
      have B8 := B7.later hx9
      have O8 := O7.later hx9
      have hw8 : w7.heap.size ≤ w8.heap.size := hx9.size
      have KM := Lib.hid (mstart_bad B8 S8 HLR.out HWF.out HCK.out)
      go_wp2_with ((go_at_call 25; with_reducible refine (KM.out).mono ?_); rintro e w9 ⟨rfl, hxx⟩)
      go_ret
      exact ⟨rfl, E8.trans hxx⟩
    · clear hK1 K1
      go_wp2_with fail
      obtain ⟨V2, hV2, bA, hx2⟩ := P3Box.mk' V 0 0 0
      rw [hV2]; clear hV2
      have hAw : w.heap.size ≤ V.heap.size := hV.size
      generalize V.heap.size = A at *
      replace hV := hV.trans hx2
      refine onlyK_normal (hK2 _ _ ⟨⟨_, hV⟩, rfl⟩ ?_); clear hK2 K2 hx2
      clear V
      obtain ⟨V, rfl⟩ : ∃ X, X = V2 := ⟨_, rfl⟩
      refine tree_one0 fun K hK => ?_
      simp only [pickOp, List.getElem?_cons_zero, List.getElem?_cons_succ, Option.getD_some]
      go_wp2_with ((go_at_call 36; with_reducible refine (KP.out _ hV).mono ?_); rintro e V2 ⟨rfl, hx2⟩)
      replace hV := hV.trans hx2
      replace bA := bA.later hx2
      refine onlyK_normal (hK _ _ ⟨⟨_, hV⟩, rfl⟩ ?_); clear hK K hx2
      clear V
      obtain ⟨V, rfl⟩ : ∃ X, X = V2 := ⟨_, rfl⟩
      refine tree_leaf ?_
      simp only [List.map_cons, List.map_nil, pickOp, List.getElem?_cons_zero, List.getElem?_cons_succ, Option.getD_some]
      repeat (go_big_quiet_step (fail))
      refine wpQuiet_nil ?_
      simp only [List.drop_succ_cons, List.drop_zero]
      obtain ⟨z0, z1, z2, y0, y1, y2⟩ := bA.at
      have k5 := cell_put3 A qx qy qz (by omega : A ≠ G) (H.out.later hV).box.c5
      go_wp2_with fail
      have bP := bA.put qx qy qz
      have hX : Ext w (((V.setCell ⟨A, 0, none⟩ (.int .i64 qx)).setCell ⟨A, 1, none⟩ (.int .i64 qy)).setCell ⟨A, 2, none⟩ (.int .i64 qz)) := ((hV.setCell hAw _).setCell hAw _).setCell hAw _
      generalize ((V.setCell ⟨A, 0, none⟩ (.int .i64 qx)).setCell ⟨A, 1, none⟩ (.int .i64 qy)).setCell ⟨A, 2, none⟩ (.int .i64 qz) = X at *
      clear z0 z1 z2 y0 y1 y2 bA hV k5
      clear V
      refine (break_up H.out.ctl hX HPS.out).mono ?_
      rintro e w3 ⟨rfl, hC3, hO3⟩
      have H3 := (H.out.later hX).work hC3 (hO3.mono (fun _ _ h => h.1))
      have bP3 := bP.only hO3 (by omega)
      clear bP hC3 hO3 hX
      clear X
      have nG : ¬ (vps.ownBlock = some G) := fun e => (H3.lp _ e).2 rfl
      have nA : ¬ (vps.ownBlock = some A) := fun e => by have := (H3.lp _ e).1; omega
      go_wp2_with fail
      have d5 := Chg.cell (D := fun k => vps.ownBlock = some k) H3.box.c5 nG; have d6 := Chg.cell (D := fun k => vps.ownBlock = some k) H3.box.c6 nG
      refine wp_region_tree (fun w' => ∃ y : Chg (fun k => vps.ownBlock = some k) w3, w' = y.w) 11 (.one [0, 1, 2, 3, 4, 5, 6, 7, 8] 9 (.one [] 10 (.leaf []))) (by kernel_rfl) (by kernel_rfl) (by kernel_rfl) ⟨⟨_, (Only.refl _ w3).drew⟩, rfl⟩ ?_
      simp only [List.take_succ_cons, List.take_zero]
      refine tree_one fun K hK => ?_
      simp only [List.map_cons, List.map_nil, pickOp, List.getElem?_cons_zero, List.getElem?_cons_succ, Option.getD_some]
      repeat (go_big_quiet_step (fail))
      refine wpQuiet_nil ?_
      clear d5 d6
      have H4 := H3.later (Ext.refl w3).drew
      have bP4 := bP3.later (Ext.refl w3).drew
      have hD3 : Only (fun k => vps.ownBlock = some k) w3 w3.drew := (Only.refl _ w3).drew
      clear H3 bP3
      generalize w3.drew = w4 at *
      have HD := Lib.hid (done_in H4.ctl HPB.out)
      go_wp2_with ((go_at_call 31; with_reducible refine (HD.out).mono ?_); rintro e w5 ⟨v5, rfl, own5, hx5⟩)
      clear HD
      refine onlyK_normal (hK _ _ ⟨⟨_, hD3.trans (Only.of_ext hx5)⟩, rfl⟩ ?_); clear hK K
      refine tree_one0 fun K hK => ?_
      simp only [pickOp, List.getElem?_cons_zero, List.getElem?_cons_succ, Option.getD_some]
      have HQ4 := Lib.hid (H4.sp.later hx5); have HS4 := Lib.hid own5.sl; have HB4 : Hid (w0.heap.size ≤ w5.heap.size) := Lib.hid (H4.ext.trans hx5).size
      clear own5
      go_wp2_with ((at_builtin; refine appM_at rfl _ _ rfl w0.heap.size _ _ J.ps J.C.brkC.doneL rfl rfl HQ4.out HS4.out HLN.out HB4.out ?_; intro v6 w6 own6 hg6 hloc6))
      have hO6 : Only (fun k => vps.ownBlock = some k) w4 w6 := (Only.of_ext hx5).trans (Only.of_grown hg6)
      refine onlyK_normal (hK _ _ ⟨⟨_, hD3.trans hO6⟩, rfl⟩ ?_); clear hK K
      refine tree_leaf0 ?_
      simp only [List.drop_succ_cons, List.drop_zero]
      have hG4 : G < w4.heap.size := H4.box.lt
      have n6 : v6.ownBlock ≠ some G := by rcases hloc6 with e | e <;> rw [e]; exact nG; intro e2; have := hx5.size; cases e2; omega
      have B6 := H4.box.only hO6 nG
      have S6 := H4.sm.only' hO6 (fun hl b hb e => H4.mp hl b hb e)
      have P6 := bP4.only hO6 nA
      have E6 : Ext w0 w6 := H4.ext.only hO6 (fun i hi e => by have := H4.sp.base e; omega)
      have hcap := H4.cap; have hbase := H4.base
      clear hD3 hg6 hloc6 HQ4 HS4 HB4 bP4 hx5 H4 hO6 hG4
      obtain ⟨x6, n6', c6, rfl⟩ := OwnM.form own6
      have B7 := (B6.set6 x6 n6' c6).set7 false
      have f6 := B6.fr 6 (by decide); have g6 := B6.c6; have f7 := (B6.set6 x6 n6' c6).fr 7 (by decide); have g7 := (B6.set6 x6 n6' c6).c7
      have hO7 : Only (fun k => k = G) w6 ((w6.setCell ⟨G, 6, none⟩ (.slice x6 n6' c6)).setCell ⟨G, 7, none⟩ (.bool false)) := ((Only.refl (fun k => k = G) w6).set (p := ⟨G, 6, none⟩) (.inl rfl) _).set (p := ⟨G, 7, none⟩) (.inl rfl) _
      have S7 := S6.only' hO7 (fun hl b hb e => B6.apart S6 hl (by rw [hb, e]))
      have O7 := own6.only hO7 (fun b hb e => n6 (by rw [hb, e]))
      have P7 := P6.only hO7 (by omega)
      have E7 := (E6.setCell (p := ⟨G, 6, none⟩) hbase (.slice x6 n6' c6)).setCell (p := ⟨G, 7, none⟩) hbase (.bool false)
      go_wp2_with fail
      generalize (w6.setCell ⟨G, 6, none⟩ (.slice x6 n6' c6)).setCell ⟨G, 7, none⟩ (.bool false) = w7 at *
      clear f6 g6 f7 g7 hO7 S6 own6 P6 E6 B6
      obtain ⟨xm, cm, hvm⟩ := S7.is
      have e0 := Later.cell B7.c0; have e4 := Later.cell B7.c4; have a0 := P7.c0; have a1 := P7.c1; have a2 := P7.c2
      refine wp_region_tree (fun w' => ∃ y : Later w7, w' = y.w) 15 (.one [0, 1, 2, 3, 4, 5, 6, 7, 8, 9] 10 (.leaf [11, 12, 13, 14])) (by kernel_rfl) (by kernel_rfl) (by kernel_rfl) ⟨⟨_, (Ext.refl w7).drew⟩, rfl⟩ ?_
      simp only [List.take_succ_cons, List.take_zero]
      refine tree_one fun K hK => ?_
      simp only [List.map_cons, List.map_nil, pickOp, List.getElem?_cons_zero, List.getElem?_cons_succ, Option.getD_some]
      repeat (go_big_quiet_step (fail))
      refine wpQuiet_nil ?_
      clear e0 e4 a0 a1 a2
      have hx7 : Ext w7 w7.drew := (Ext.refl w7).drew
      have KR := Lib.hid (crestart_any vm J.l J.C.idx qx qy qz safe w7.drew (S7.later hx7) hcap HIX.out HLL.out)
      rw [hvm] at KR
      go_wp2_with ((go_at_call 38; with_reducible refine (KR.out).mono ?_); rintro e w8 ⟨v8, rfl, S8, F8, hx8⟩)
      clear KR
      refine onlyK_normal (hK _ _ ⟨⟨_, hx7.trans hx8⟩, rfl⟩ ?_); clear hK K
      have hx9 := hx7.trans hx8
      have hF8 : ∀ b, v8.ownBlock = some b → w7.heap.size ≤ b := F8.2
      have hcap8 := F8.1
      clear F8 hx7 hx8 hcap
      obtain ⟨x8, c8, rfl⟩ := S8.is
      refine tree_leaf ?_
      simp only [List.map_cons, List.map_nil, pickOp, List.getElem?_cons_zero, List.getElem?_cons_succ, Option.getD_some]
      repeat (go_big_quiet_step (fail))
      refine wpQuiet_nil ?_
      simp only [List.drop_succ_cons, List.drop_zero]
      have E8 := E7.trans hx9
      have B8 := B7.later hx9
      have O8 := O7.later hx9
      have hw8 : w7.heap.size ≤ w8.heap.size := hx9.size
      have KM := Lib.hid (mstart_bad B8 S8 HLR.out HWF.out HCK.out)
      go_wp2_with ((go_at_call 25; with_reducible refine (KM.out).mono ?_); rintro e w9 ⟨rfl, hxx⟩)
      go_ret
      exact ⟨rfl, E8.trans hxx⟩
  · clear hK1 K1
    go_wp2_with fail
    obtain ⟨V2, hV2, bA, hx2⟩ := P3Box.mk' V 0 0 0
    rw [hV2]; clear hV2
    have hAw : w.heap.size ≤ V.heap.size := hV.size
    generalize V.heap.size = A at *
    replace hV := hV.trans hx2
    refine onlyK_normal (hK2 _ _ ⟨⟨_, hV⟩, rfl⟩ ?_); clear hK2 K2 hx2
    clear V
    obtain ⟨V, rfl⟩ : ∃ X, X = V2 := ⟨_, rfl⟩
    refine tree_one0 fun K hK => ?_
    simp only [pickOp, List.getElem?_cons_zero, List.getElem?_cons_succ, Option.getD_some]
    go_wp2_with ((go_at_call 34; with_reducible refine (KI.out _ hV).mono ?_); rintro e wz ⟨rfl, rfl⟩)
    refine onlyK_normal (hK _ _ ⟨⟨_, hV⟩, rfl⟩ ?_); clear hK K
    refine tree_one0 fun K hK => ?_
    simp only [pickOp, List.getElem?_cons_zero, List.getElem?_cons_succ, Option.getD_some]
    go_wp2_with ((go_at_call 36; with_reducible refine (KP.out _ hV).mono ?_); rintro e V2 ⟨rfl, hx2⟩)
    replace hV := hV.trans hx2
    replace bA := bA.later hx2
    refine onlyK_normal (hK _ _ ⟨⟨_, hV⟩, rfl⟩ ?_); clear hK K hx2
    clear V
    obtain ⟨V, rfl⟩ : ∃ X, X = V2 := ⟨_, rfl⟩
    refine tree_leaf ?_
    simp only [List.map_cons, List.map_nil, pickOp, List.getElem?_cons_zero, List.getElem?_cons_succ, Option.getD_some]
    repeat (go_big_quiet_step (fail))
    refine wpQuiet_nil ?_
    simp only [List.drop_succ_cons, List.drop_zero]
    obtain ⟨z0, z1, z2, y0, y1, y2⟩ := bA.at
    have k5 := cell_put3 A qx qy qz (by omega : A ≠ G) (H.out.later hV).box.c5
    go_wp2_with fail
    have bP := bA.put qx qy qz
    have hX : Ext w (((V.setCell ⟨A, 0, none⟩ (.int .i64 qx)).setCell ⟨A, 1, none⟩ (.int .i64 qy)).setCell ⟨A, 2, none⟩ (.int .i64 qz)) := ((hV.setCell hAw _).setCell hAw _).setCell hAw _
    generalize ((V.setCell ⟨A, 0, none⟩ (.int .i64 qx)).setCell ⟨A, 1, none⟩ (.int .i64 qy)).setCell ⟨A, 2, none⟩ (.int .i64 qz) = X at *
    clear z0 z1 z2 y0 y1 y2 bA hV k5
    clear V
    refine (break_up H.out.ctl hX HPS.out).mono ?_
    rintro e w3 ⟨rfl, hC3, hO3⟩
    have H3 := (H.out.later hX).work hC3 (hO3.mono (fun _ _ h => h.1))
    have bP3 := bP.only hO3 (by omega)
    clear bP hC3 hO3 hX
    clear X
    have nG : ¬ (vps.ownBlock = some G) := fun e => (H3.lp _ e).2 rfl
    have nA : ¬ (vps.ownBlock = some A) := fun e => by have := (H3.lp _ e).1; omega
    go_wp2_with fail
    have d5 := Chg.cell (D := fun k => vps.ownBlock = some k) H3.box.c5 nG; have d6 := Chg.cell (D := fun k => vps.ownBlock = some k) H3.box.c6 nG
    refine wp_region_tree (fun w' => ∃ y : Chg (fun k => vps.ownBlock = some k) w3, w' = y.w) 11 (.one [0, 1, 2, 3, 4, 5, 6, 7, 8] 9 (.one [] 10 (.leaf []))) (by kernel_rfl) (by kernel_rfl) (by kernel_rfl) ⟨⟨_, (Only.refl _ w3).drew⟩, rfl⟩ ?_
    simp only [List.take_succ_cons, List.take_zero]
    refine tree_one fun K hK => ?_
    simp only [List.map_cons, List.map_nil, pickOp, List.getElem?_cons_zero, List.getElem?_cons_succ, Option.getD_some]
    repeat (go_big_quiet_step (fail))
    refine wpQuiet_nil ?_
    clear d5 d6
    have H4 := H3.later (Ext.refl w3).drew
    have bP4 := bP3.later (Ext.refl w3).drew
    have hD3 : Only (fun k => vps.ownBlock = some k) w3 w3.drew := (Only.refl _ w3).drew
    clear H3 bP3
    generalize w3.drew = w4 at *
    have HD := Lib.hid (done_in H4.ctl HPB.out)
    go_wp2_with ((go_at_call 31; with_reducible refine (HD.out).mono ?_); rintro e w5 ⟨v5, rfl, own5, hx5⟩)
    clear HD
    refine onlyK_normal (hK _ _ ⟨⟨_, hD3.trans (Only.of_ext hx5)⟩, rfl⟩ ?_); clear hK K
    refine tree_one0 fun K hK => ?_
    simp only [pickOp, List.getElem?_cons_zero, List.getElem?_cons_succ, Option.getD_some]
    have HQ4 := Lib.hid (H4.sp.later hx5); have HS4 := Lib.hid own5.sl; have HB4 : Hid (w0.heap.size ≤ w5.heap.size) := Lib.hid (H4.ext.trans hx5).size
    clear own5
    go_wp2_with ((at_builtin; refine appM_at rfl _ _ rfl w0.heap.size _ _ J.ps J.C.brkC.doneL rfl rfl HQ4.out HS4.out HLN.out HB4.out ?_; intro v6 w6 own6 hg6 hloc6))
    have hO6 : Only (fun k => vps.ownBlock = some k) w4 w6 := (Only.of_ext hx5).trans (Only.of_grown hg6)
    refine onlyK_normal (hK _ _ ⟨⟨_, hD3.trans hO6⟩, rfl⟩ ?_); clear hK K
    refine tree_leaf0 ?_
    simp only [List.drop_succ_cons, List.drop_zero]
    have hG4 : G < w4.heap.size := H4.box.lt
    have n6 : v6.ownBlock ≠ some G := by rcases hloc6 with e | e <;> rw [e]; exact nG; intro e2; have := hx5.size; cases e2; omega
    have B6 := H4.box.only hO6 nG
    have S6 := H4.sm.only' hO6 (fun hl b hb e => H4.mp hl b hb e)
    have P6 := bP4.only hO6 nA
    have E6 : Ext w0 w6 := H4.ext.only hO6 (fun i hi e => by have := H4.sp.base e; omega)
    have hcap := H4.cap; have hbase := H4.base
    clear hD3 hg6 hloc6 HQ4 HS4 HB4 bP4 hx5 H4 hO6 hG4
    obtain ⟨x6, n6', c6, rfl⟩ := OwnM.form own6
    have B7 := (B6.set6 x6 n6' c6).set7 false
    have f6 := B6.fr 6 (by decide); have g6 := B6.c6; have f7 := (B6.set6 x6 n6' c6).fr 7 (by decide); have g7 := (B6.set6 x6 n6' c6).c7
    have hO7 : Only (fun k => k = G) w6 ((w6.setCell ⟨G, 6, none⟩ (.slice x6 n6' c6)).setCell ⟨G, 7, none⟩ (.bool false)) := ((Only.refl (fun k => k = G) w6).set (p := ⟨G, 6, none⟩) (.inl rfl) _).set (p := ⟨G, 7, none⟩) (.inl rfl) _
    have S7 := S6.only' hO7 (fun hl b hb e => B6.apart S6 hl (by rw [hb, e]))
    have O7 := own6.only hO7 (fun b hb e => n6 (by rw [hb, e]))
    have P7 := P6.only hO7 (by omega)
    have E7 := (E6.setCell (p := ⟨G, 6, none⟩) hbase (.slice x6 n6' c6)).setCell (p := ⟨G, 7, none⟩) hbase (.bool false)
    go_wp2_with fail
    generalize (w6.setCell ⟨G, 6, none⟩ (.slice x6 n6' c6)).setCell ⟨G, 7, none⟩ (.bool false) = w7 at *
    clear f6 g6 f7 g7 hO7 S6 own6 P6 E6 B6
    obtain ⟨xm, cm, hvm⟩ := S7.is
    have e0 := Later.cell B7.c0; have e4 := Later.cell B7.c4; have a0 := P7.c0; have a1 := P7.c1; have a2 := P7.c2
    refine wp_region_tree (fun w' => ∃ y : Later w7, w' = y.w) 15 (.one [0, 1, 2, 3, 4, 5, 6, 7, 8, 9] 10 (.leaf [11, 12, 13, 14])) (by kernel_rfl) (by kernel_rfl) (by kernel_rfl) ⟨⟨_, (Ext.refl w7).drew⟩, rfl⟩ ?_
    simp only [List.take_succ_cons, List.take_zero]
    refine tree_one fun K hK => ?_
    simp only [List.map_cons, List.map_nil, pickOp, List.getElem?_cons_zero, List.getElem?_cons_succ, Option.getD_some]
    repeat (go_big_quiet_step (fail))
    refine wpQuiet_nil ?_
    clear e0 e4 a0 a1 a2
    have hx7 : Ext w7 w7.drew := (Ext.refl w7).drew
    have KR := Lib.hid (crestart_any vm J.l J.C.idx qx qy qz safe w7.drew (S7.later hx7) hcap HIX.out HLL.out)
    rw [hvm] at KR
    go_wp2_with ((go_at_call 38; with_reducible refine (KR.out).mono ?_); rintro e w8 ⟨v8, rfl, S8, F8, hx8⟩)
    clear KR
    refine onlyK_normal (hK _ _ ⟨⟨_, hx7.trans hx8⟩, rfl⟩ ?_); clear hK K
    have hx9 := hx7.trans hx8
    have hF8 : ∀ b, v8.ownBlock = some b → w7.heap.size ≤ b := F8.2
    have hcap8 := F8.1
    clear F8 hx7 hx8 hcap
    obtain ⟨x8, c8, rfl⟩ := S8.is
    refine tree_leaf ?_
    simp only [List.map_cons, List.map_nil, pickOp, List.getElem?_cons_zero, List.getElem?_cons_succ, Option.getD_some]
    repeat (go_big_quiet_step (fail))
    refine wpQuiet_nil ?_
    simp only [List.drop_succ_cons, List.drop_zero]
    have E8 := E7.trans hx9
    have B8 := B7.later hx9
    have O8 := O7.later hx9
    have hw8 : w7.heap.size ≤ w8.heap.size := hx9.size
    have KM := Lib.hid (mstart_bad B8 S8 HLR.out HWF.out HCK.out)
    go_wp2_with ((go_at_call 25; with_reducible refine (KM.out).mono ?_); rintro e w9 ⟨rfl, hxx⟩)
    go_ret
    exact ⟨rfl, E8.trans hxx⟩

set_option maxHeartbeats 8000000 in
theorem mbroken_ok {w0 : World} {G : Nat} {w : World} {s a j safe : Int} {J : JobS} {k q : Nat} (h : JIn w0 G w s a j safe J) (hok : J.Ok k q) (hk : k ≤ 900000000) (hq : q ≤ 900000) (hsf : in64 safe) (he : rstE J.l J.C.idx J.C.at3 safe = 0) (hck : chk (rstL J.l J.C.idx J.C.at3 safe) s a j = 0) :
    Calls Tryz.prog 46 #[.pointer (some ⟨G, 0, none⟩)] w fun e w' => e = .returned (.int .i64 0) ∧ JIn w0 G w' s a j safe { l := rstL J.l J.C.idx J.C.at3 safe, C := Ctl.new (rstL J.l J.C.idx J.C.at3 safe) s a j, ps := J.ps ++ J.C.brkC.doneL, held := false, till := J.till } := by
  obtain ⟨B, vm, vps, N, h⟩ := h
  have H := Lib.hid h
  have ki := fun (w' : World) (he : Ext w w') => index_in (h.ctl.later he)
  have kp := fun (w' : World) (he : Ext w w') => pos_in (h.ctl.later he)
  have HPS : Hid (J.C.ps.length ≤ 999999999) := Lib.hid (by have := hok.ps; omega)
  have HPB : Hid (J.C.brkC.ps.length ≤ 999999999) := Lib.hid (by have := hok.ps; have := brkC_ps J.C; omega)
  have HLN : Hid (J.ps.length + J.C.brkC.doneL.length ≤ 1000000000) := Lib.hid (by have := hok.ps; have := brkC_ps J.C; have := doneL_len J.C.brkC; omega)
  have HIX : Hid (J.C.idx ≤ J.l.length) := Lib.hid (by have := hok.ok.posOk.le; rw [hok.ms] at this; exact this)
  have HLL : Hid (J.l.length ≤ 1000000) := Lib.hid (by have := hok.ln; omega)
  have HLR : Hid ((rstL J.l J.C.idx J.C.at3 safe).length ≤ 1000000) := Lib.hid (by have := rstL_length J.l J.C.idx J.C.at3 safe; have := hok.ln; omega)
  have HWF : Hid (WfL (rstL J.l J.C.idx J.C.at3 safe)) := Lib.hid (rstL_wf hok.wf hok.ok.at3_in hsf)
  have HCK := Lib.hid hck
  have hgw : G < w.heap.size := h.box.lt
  have hbw : B ≤ w.heap.size := by have := h.ctl.lt; omega
  have c5 := Later.cell h.box.c5
  clear h hok hsf hk hq hck
  generalize hat3 : J.C.at3 = p3 at *
  obtain ⟨qx, qy, qz⟩ := p3
  have KI := Lib.hid ki; have KP := Lib.hid kp
  clear ki kp hat3
  go_enter Tryz.func46, Tryz.ntmps46
  go_wp2_with fail
  have hV : Ext w w.drew := (Ext.refl w).drew
  refine wp_region_tree (fun w' => ∃ y : Later w, w' = y.w) 12 (.two [0, 1, 2, 3, 5, 6, 7, 8] 4 10 (.two [] 9 10 (.one [] 10 (.leaf [11])) (.one [] 9 (.leaf [11]))) (.one [] 4 (.one [] 9 (.leaf [11])))) (by kernel_rfl) (by kernel_rfl) (by kernel_rfl) ⟨⟨_, hV⟩, rfl⟩ ?_
  simp only [List.take_succ_cons, List.take_zero]
  refine tree_two fun K1 K2 hK1 hK2 => ?_
  simp only [List.map_cons, List.map_nil, pickOp, List.getElem?_cons_zero, List.getElem?_cons_succ, Option.getD_some]
  repeat (go_big_quiet_step (fail))
  refine wpQuiet_nil ?_
  clear c5
  generalize w.drew = V at *
  refine ⟨?_, ?_⟩
  · clear hK2 K2
    go_wp2_with ((go_at_call 34; with_reducible refine (KI.out _ hV).mono ?_); rintro e wz ⟨rfl, rfl⟩)
    refine onlyK_normal (hK1 _ _ ⟨⟨_, hV⟩, rfl⟩ ?_); clear hK1 K1
    refine tree_two0 fun K1 K2 hK1 hK2 => ?_
    simp only [pickOp, List.getElem?_cons_zero, List.getElem?_cons_succ, Option.getD_some]
    refine ⟨?_, ?_⟩
    · clear hK2 K2
      go_wp2_with ((go_at_call 36; with_reducible refine (KP.out _ hV).mono ?_); rintro e V2 ⟨rfl, hx2⟩)
      replace hV := hV.trans hx2
      refine onlyK_normal (hK1 _ _ ⟨⟨_, hV⟩, rfl⟩ ?_); clear hK1 K1 hx2
      clear V
      obtain ⟨V, rfl⟩ : ∃ X, X = V2 := ⟨_, rfl⟩
      refine tree_one0 fun K hK => ?_
      simp only [pickOp, List.getElem?_cons_zero, List.getElem?_cons_succ, Option.getD_some]
      go_wp2_with fail
      obtain ⟨V2, hV2, bA, hx2⟩ := P3Box.mk' V 0 0 0
      rw [hV2]; clear hV2
      have hAw : w.heap.size ≤ V.heap.size := hV.size
      generalize V.heap.size = A at *
      replace hV := hV.trans hx2
      refine onlyK_normal (hK _ _ ⟨⟨_, hV⟩, rfl⟩ ?_); clear hK K hx2
      clear V
      obtain ⟨V, rfl⟩ : ∃ X, X = V2 := ⟨_, rfl⟩
      refine tree_leaf ?_
      simp only [List.map_cons, List.map_nil, pickOp, List.getElem?_cons_zero, List.getElem?_cons_succ, Option.getD_some]
      repeat (go_big_quiet_step (fail))
      refine wpQuiet_nil ?_
      simp only [List.drop_succ_cons, List.drop_zero]
      obtain ⟨z0, z1, z2, y0, y1, y2⟩ := bA.at
      have k5 := cell_put3 A qx qy qz (by omega : A ≠ G) (H.out.later hV).box.c5
      go_wp2_with fail
      have bP := bA.put qx qy qz
      have hX : Ext w (((V.setCell ⟨A, 0, none⟩ (.int .i64 qx)).setCell ⟨A, 1, none⟩ (.int .i64 qy)).setCell ⟨A, 2, none⟩ (.int .i64 qz)) := ((hV.setCell hAw _).setCell hAw _).setCell hAw _
      generalize ((V.setCell ⟨A, 0, none⟩ (.int .i64 qx)).setCell ⟨A, 1, none⟩ (.int .i64 qy)).setCell ⟨A, 2, none⟩ (.int .i64 qz) = X at *
      clear z0 z1 z2 y0 y1 y2 bA hV k5
      clear V
      refine (break_up H.out.ctl hX HPS.out).mono ?_
      rintro e w3 ⟨rfl, hC3, hO3⟩
      have H3 := (H.out.later hX).work hC3 (hO3.mono (fun _ _ h => h.1))
      have bP3 := bP.only hO3 (by omega)
      clear bP hC3 hO3 hX
      clear X
      have nG : ¬ (vps.ownBlock = some G) := fun e => (H3.lp _ e).2 rfl
      have nA : ¬ (vps.ownBlock = some A) := fun e => by have := (H3.lp _ e).1; omega
      go_wp2_with fail
      have d5 := Chg.cell (D := fun k => vps.ownBlock = some k) H3.box.c5 nG; have d6 := Chg.cell (D := fun k => vps.ownBlock = some k) H3.box.c6 nG
      refine wp_region_tree (fun w' => ∃ y : Chg (fun k => vps.ownBlock = some k) w3, w' = y.w) 11 (.one [0, 1, 2, 3, 4, 5, 6, 7, 8] 9 (.one [] 10 (.leaf []))) (by kernel_rfl) (by kernel_rfl) (by kernel_rfl) ⟨⟨_, (Only.refl _ w3).drew⟩, rfl⟩ ?_
      simp only [List.take_succ_cons, List.take_zero]
      refine tree_one fun K hK => ?_
      simp only [List.map_cons, List.map_nil, pickOp, List.getElem?_cons_zero, List.getElem?_cons_succ, Option.getD_some]
      repeat (go_big_quiet_step (fail))
      refine wpQuiet_nil ?_
      clear d5 d6
      have H4 := H3.later (Ext.refl w3).drew
      have bP4 := bP3.later (Ext.refl w3).drew
      have hD3 : Only (fun k => vps.ownBlock = some k) w3 w3.drew := (Only.refl _ w3).drew
      clear H3 bP3
      generalize w3.drew = w4 at *
      have HD := Lib.hid (done_in H4.ctl HPB.out)
      go_wp2_with ((go_at_call 31; with_reducible refine (HD.out).mono ?_); rintro e w5 ⟨v5, rfl, own5, hx5⟩)
      clear HD
      refine onlyK_normal (hK _ _ ⟨⟨_, hD3.trans (Only.of_ext hx5)⟩, rfl⟩ ?_); clear hK K
      refine tree_one0 fun K hK => ?_
      simp only [pickOp, List.getElem?_cons_zero, List.getElem?_cons_succ, Option.getD_some]
      have HQ4 := Lib.hid (H4.sp.later hx5); have HS4 := Lib.hid own5.sl; have HB4 : Hid (w0.heap.size ≤ w5.heap.size) := Lib.hid (H4.ext.trans hx5).size
      clear own5
      go_wp2_with ((at_builtin; refine appM_at rfl _ _ rfl w0.heap.size _ _ J.ps J.C.brkC.doneL rfl rfl HQ4.out HS4.out HLN.out HB4.out ?_; intro v6 w6 own6 hg6 hloc6))
      have hO6 : Only (fun k => vps.ownBlock = some k) w4 w6 := (Only.of_ext hx5).trans (Only.of_grown hg6)
      refine onlyK_normal (hK _ _ ⟨⟨_, hD3.trans hO6⟩, rfl⟩ ?_); clear hK K
      refine tree_leaf0 ?_
      simp only [List.drop_succ_cons, List.drop_zero]
      have hG4 : G < w4.heap.size := H4.box.lt
      have n6 : v6.ownBlock ≠ some G := by rcases hloc6 with e | e <;> rw [e]; exact nG; intro e2; have := hx5.size; cases e2; omega
      have B6 := H4.box.only hO6 nG
      have S6 := H4.sm.only' hO6 (fun hl b hb e => H4.mp hl b hb e)
      have P6 := bP4.only hO6 nA
      have E6 : Ext w0 w6 := H4.ext.only hO6 (fun i hi e => by have := H4.sp.base e; omega)
      have hcap := H4.cap; have hbase := H4.base
      clear hD3 hg6 hloc6 HQ4 HS4 HB4 bP4 hx5 H4 hO6 hG4
      obtain ⟨x6, n6', c6, rfl⟩ := OwnM.form own6
      have B7 := (B6.set6 x6 n6' c6).set7 false
      have f6 := B6.fr 6 (by decide); have g6 := B6.c6; have f7 := (B6.set6 x6 n6' c6).fr 7 (by decide); have g7 := (B6.set6 x6 n6' c6).c7
      have hO7 : Only (fun k => k = G) w6 ((w6.setCell ⟨G, 6, none⟩ (.slice x6 n6' c6)).setCell ⟨G, 7, none⟩ (.bool false)) := ((Only.refl (fun k => k = G) w6).set (p := ⟨G, 6, none⟩) (.inl rfl) _).set (p := ⟨G, 7, none⟩) (.inl rfl) _
      have S7 := S6.only' hO7 (fun hl b hb e => B6.apart S6 hl (by rw [hb, e]))
      have O7 := own6.only hO7 (fun b hb e => n6 (by rw [hb, e]))
      have P7 := P6.only hO7 (by omega)
      have E7 := (E6.setCell (p := ⟨G, 6, none⟩) hbase (.slice x6 n6' c6)).setCell (p := ⟨G, 7, none⟩) hbase (.bool false)
      go_wp2_with fail
      generalize (w6.setCell ⟨G, 6, none⟩ (.slice x6 n6' c6)).setCell ⟨G, 7, none⟩ (.bool false) = w7 at *
      clear f6 g6 f7 g7 hO7 S6 own6 P6 E6 B6
      obtain ⟨xm, cm, hvm⟩ := S7.is
      have e0 := Later.cell B7.c0; have e4 := Later.cell B7.c4; have a0 := P7.c0; have a1 := P7.c1; have a2 := P7.c2
      refine wp_region_tree (fun w' => ∃ y : Later w7, w' = y.w) 15 (.one [0, 1, 2, 3, 4, 5, 6, 7, 8, 9] 10 (.leaf [11, 12, 13, 14])) (by kernel_rfl) (by kernel_rfl) (by kernel_rfl) ⟨⟨_, (Ext.refl w7).drew⟩, rfl⟩ ?_
      simp only [List.take_succ_cons, List.take_zero]
      refine tree_one fun K hK => ?_
      simp only [List.map_cons, List.map_nil, pickOp, List.getElem?_cons_zero, List.getElem?_cons_succ, Option.getD_some]
      repeat (go_big_quiet_step (fail))
      refine wpQuiet_nil ?_
      clear e0 e4 a0 a1 a2
      have hx7 : Ext w7 w7.drew := (Ext.refl w7).drew
      have KR := Lib.hid (crestart_any vm J.l J.C.idx qx qy qz safe w7.drew (S7.later hx7) hcap HIX.out HLL.out)
      rw [hvm] at KR
      go_wp2_with ((go_at_call 38; with_reducible refine (KR.out).mono ?_); rintro e w8 ⟨v8, rfl, S8, F8, hx8⟩)
      clear KR
      refine onlyK_normal (hK _ _ ⟨⟨_, hx7.trans hx8⟩, rfl⟩ ?_); clear hK K
      have hx9 := hx7.trans hx8
      have hF8 : ∀ b, v8.ownBlock = some b → w7.heap.size ≤ b := F8.2
      have hcap8 := F8.1
      clear F8 hx7 hx8 hcap
      obtain ⟨x8, c8, rfl⟩ := S8.is
      refine tree_leaf ?_
      simp only [List.map_cons, List.map_nil, pickOp, List.getElem?_cons_zero, List.getElem?_cons_succ, Option.getD_some]
      repeat (go_big_quiet_step (fail))
      refine wpQuiet_nil ?_
      simp only [List.drop_succ_cons, List.drop_zero]
      have E8 := E7.trans hx9
      have B8 := B7.later hx9
      have O8 := O7.later hx9
      have hw8 : w7.heap.size ≤ w8.heap.size := hx9.size
      have KM := Lib.hid (mstart_ok B8 S8 HLR.out HWF.out HCK.out)
      go_wp2_with ((go_at_call 25; with_reducible refine (KM.out).mono ?_); rintro e w9 ⟨rfl, N9, B9, C9, O9⟩)
      go_ret
      refine ⟨rfl, w8.heap.size, _, _, N9, ⟨B9, hbase, B8.lt, S8.only' O9 (fun hl b hb e => B8.apart S8 hl (by rw [hb, e])), hcap8, fun hl b hb => S8.below hl hb, O8.only O9 (fun b hb e => n6 (by rw [hb, e])), fun b hb => ⟨O8.lt hb, fun e => n6 (by rw [hb, e])⟩, fun hl b hb e => ?_, C9, E8.only O9 (fun i hi e => by omega)⟩⟩
      have := hF8 b hb; have := O7.lt e; omega
    · clear hK1 K1
      go_wp2_with fail
      obtain ⟨V2, hV2, bA, hx2⟩ := P3Box.mk' V 0 0 0
      rw [hV2]; clear hV2
      have hAw : w.heap.size ≤ V.heap.size := hV.size
      generalize V.heap.size = A at *
      replace hV := hV.trans hx2
      refine onlyK_normal (hK2 _ _ ⟨⟨_, hV⟩, rfl⟩ ?_); clear hK2 K2 hx2
      clear V
      obtain ⟨V, rfl⟩ : ∃ X, X = V2 := ⟨_, rfl⟩
      refine tree_one0 fun K hK => ?_
      simp only [pickOp, List.getElem?_cons_zero, List.getElem?_cons_succ, Option.getD_some]
      go_wp2_with ((go_at_call 36; with_reducible refine (KP.out _ hV).mono ?_); rintro e V2 ⟨rfl, hx2⟩)
      replace hV := hV.trans hx2
      replace bA := bA.later hx2
      refine onlyK_normal (hK _ _ ⟨⟨_, hV⟩, rfl⟩ ?_); clear hK K hx2
      clear V
      obtain ⟨V, rfl⟩ : ∃ X, X = V2 := ⟨_, rfl⟩
      refine tree_leaf ?_
      simp only [List.map_cons, List.map_nil, pickOp, List.getElem?_cons_zero, List.getElem?_cons_succ, Option.getD_some]
      repeat (go_big_quiet_step (fail))
      refine wpQuiet_nil ?_
      simp only [List.drop_succ_cons, List.drop_zero]
      obtain ⟨z0, z1, z2, y0, y1, y2⟩ := bA.at
      have k5 := cell_put3 A qx qy qz (by omega : A ≠ G) (H.out.later hV).box.c5
      go_wp2_with fail
      have bP := bA.put qx qy qz
      have hX : Ext w (((V.setCell ⟨A, 0, none⟩ (.int .i64 qx)).setCell ⟨A, 1, none⟩ (.int .i64 qy)).setCell ⟨A, 2, none⟩ (.int .i64 qz)) := ((hV.setCell hAw _).setCell hAw _).setCell hAw _
      generalize ((V.setCell ⟨A, 0, none⟩ (.int .i64 qx)).setCell ⟨A, 1, none⟩ (.int .i64 qy)).setCell ⟨A, 2, none⟩ (.int .i64 qz) = X at *
      clear z0 z1 z2 y0 y1 y2 bA hV k5
      clear V
      refine (break_up H.out.ctl hX HPS.out).mono ?_
      rintro e w3 ⟨rfl, hC3, hO3⟩
      have H3 := (H.out.later hX).work hC3 (hO3.mono (fun _ _ h => h.1))
      have bP3 := bP.only hO3 (by omega)
      clear bP hC3 hO3 hX
      clear X
      have nG : ¬ (vps.ownBlock = some G) := fun e => (H3.lp _ e).2 rfl
      have nA : ¬ (vps.ownBlock = some A) := fun e => by have := (H3.lp _ e).1; omega
      go_wp2_with fail
      have d5 := Chg.cell (D := fun k => vps.ownBlock = some k) H3.box.c5 nG; have d6 := Chg.cell (D := fun k => vps.ownBlock = some k) H3.box.c6 nG
      refine wp_region_tree (fun w' => ∃ y : Chg (fun k => vps.ownBlock = some k) w3, w' = y.w) 11 (.one [0, 1, 2, 3, 4, 5, 6, 7, 8] 9 (.one [] 10 (.leaf []))) (by kernel_rfl) (by kernel_rfl) (by kernel_rfl) ⟨⟨_, (Only.refl _ w3).drew⟩, rfl⟩ ?_
      simp only [List.take_succ_cons, List.take_zero]
      refine tree_one fun K hK => ?_
      simp only [List.map_cons, List.map_nil, pickOp, List.getElem?_cons_zero, List.getElem?_cons_succ, Option.getD_some]
      repeat (go_big_quiet_step (fail))
      refine wpQuiet_nil ?_
      clear d5 d6
      have H4 := H3.later (Ext.refl w3).drew
      have bP4 := bP3.later (Ext.refl w3).drew
      have hD3 : Only (fun k => vps.ownBlock = some k) w3 w3.drew := (Only.refl _ w3).drew
      clear H3 bP3
      generalize w3.drew = w4 at *
      have HD := Lib.hid (done_in H4.ctl HPB.out)
      go_wp2_with ((go_at_call 31; with_reducible refine (HD.out).mono ?_); rintro e w5 ⟨v5, rfl, own5, hx5⟩)
      clear HD
      refine onlyK_normal (hK _ _ ⟨⟨_, hD3.trans (Only.of_ext hx5)⟩, rfl⟩ ?_); clear hK K
      refine tree_one0 fun K hK => ?_
      simp only [pickOp, List.getElem?_cons_zero, List.getElem?_cons_succ, Option.getD_some]
      have HQ4 := Lib.hid (H4.sp.later hx5); have HS4 := Lib.hid own5.sl; have HB4 : Hid (w0.heap.size ≤ w5.heap.size) := Lib.hid (H4.ext.trans hx5).size
      clear own5
      go_wp2_with ((at_builtin; refine appM_at rfl _ _ rfl w0.heap.size _ _ J.ps J.C.brkC.doneL rfl rfl HQ4.out HS4.out HLN.out HB4.out ?_; intro v6 w6 own6 hg6 hloc6))
      have hO6 : Only (fun k => vps.ownBlock = some k) w4 w6 := (Only.of_ext hx5).trans (Only.of_grown hg6)
      refine onlyK_normal (hK _ _ ⟨⟨_, hD3.trans hO6⟩, rfl⟩ ?_); clear hK K
      refine tree_leaf0 ?_
      simp only [List.drop_succ_cons, List.drop_zero]
      have hG4 : G < w4.heap.size := H4.box.lt
      have n6 : v6.ownBlock ≠ some G := by rcases hloc6 with e | e <;> rw [e]; exact nG; intro e2; have := hx5.size; cases e2; omega
      have B6 := H4.box.only hO6 nG
      have S6 := H4.sm.only' hO6 (fun hl b hb e => H4.mp hl b hb e)
      have P6 := bP4.only hO6 nA
      have E6 : Ext w0 w6 := H4.ext.only hO6 (fun i hi e => by have := H4.sp.base e; omega)
      have hcap := H4.cap; have hbase := H4.base
      clear hD3 hg6 hloc6 HQ4 HS4 HB4 bP4 hx5 H4 hO6 hG4
      obtain ⟨x6, n6', c6, rfl⟩ := OwnM.form own6
      have B7 := (B6.set6 x6 n6' c6).set7 false
      have f6 := B6.fr 6 (by decide); have g6 := B6.c6; have f7 := (B6.set6 x6 n6' c6).fr 7 (by decide); have g7 := (B6.set6 x6 n6' c6).c7
      have hO7 : Only (fun k => k = G) w6 ((w6.setCell ⟨G, 6, none⟩ (.slice x6 n6' c6)).setCell ⟨G, 7, none⟩ (.bool false)) := ((Only.refl (fun k => k = G) w6).set (p := ⟨G, 6, none⟩) (.inl rfl) _).set (p := ⟨G, 7, none⟩) (.inl rfl) _
      have S7 := S6.only' hO7 (fun hl b hb e => B6.apart S6 hl (by rw [hb, e]))
      have O7 := own6.only hO7 (fun b hb e => n6 (by rw [hb, e]))
      have P7 := P6.only hO7 (by omega)
      have E7 := (E6.setCell (p := ⟨G, 6, none⟩) hbase (.slice x6 n6' c6)).setCell (p := ⟨G, 7, none⟩) hbase (.bool false)
      go_wp2_with fail
      generalize (w6.setCell ⟨G, 6, none⟩ (.slice x6 n6' c6)).setCell ⟨G, 7, none⟩ (.bool false) = w7 at *
      clear f6 g6 f7 g7 hO7 S6 own6 P6 E6 B6
      obtain ⟨xm, cm, hvm⟩ := S7.is
      have e0 := Later.cell B7.c0; have e4 := Later.cell B7.c4; have a0 := P7.c0; have a1 := P7.c1; have a2 := P7.c2
      refine wp_region_tree (fun w' => ∃ y : Later w7, w' = y.w) 15 (.one [0, 1, 2, 3, 4, 5, 6, 7, 8, 9] 10 (.leaf [11, 12, 13, 14])) (by kernel_rfl) (by kernel_rfl) (by kernel_rfl) ⟨⟨_, (Ext.refl w7).drew⟩, rfl⟩ ?_
      simp only [List.take_succ_cons, List.take_zero]
      refine tree_one fun K hK => ?_
      simp only [List.map_cons, List.map_nil, pickOp, List.getElem?_cons_zero, List.getElem?_cons_succ, Option.getD_some]
      repeat (go_big_quiet_step (fail))
      refine wpQuiet_nil ?_
      clear e0 e4 a0 a1 a2
      have hx7 : Ext w7 w7.drew := (Ext.refl w7).drew
      have KR := Lib.hid (crestart_any vm J.l J.C.idx qx qy qz safe w7.drew (S7.later hx7) hcap HIX.out HLL.out)
      rw [hvm] at KR
      go_wp2_with ((go_at_call 38; with_reducible refine (KR.out).mono ?_); rintro e w8 ⟨v8, rfl, S8, F8, hx8⟩)
      clear KR
      refine onlyK_normal (hK _ _ ⟨⟨_, hx7.trans hx8⟩, rfl⟩ ?_); clear hK K
      have hx9 := hx7.trans hx8
      have hF8 : ∀ b, v8.ownBlock = some b → w7.heap.size ≤ b := F8.2
      have hcap8 := F8.1
      clear F8 hx7 hx8 hcap
      obtain ⟨x8, c8, rfl⟩ := S8.is
      refine tree_leaf ?_
      simp only [List.map_cons, List.map_nil, pickOp, List.getElem?_cons_zero, List.getElem?_cons_succ, Option.getD_some]
      repeat (go_big_quiet_step (fail))
      refine wpQuiet_nil ?_
      simp only [List.drop_succ_cons, List.drop_zero]
      have E8 := E7.trans hx9
      have B8 := B7.later hx9
      have O8 := O7.later hx9
      have hw8 : w7.heap.size ≤ w8.heap.size := hx9.size
      have KM := Lib.hid (mstart_ok B8 S8 HLR.out HWF.out HCK.out)
      go_wp2_with ((go_at_call 25; with_reducible refine (KM.out).mono ?_); rintro e w9 ⟨rfl, N9, B9, C9, O9⟩)
      go_ret
      refine ⟨rfl, w8.heap.size, _, _, N9, ⟨B9, hbase, B8.lt, S8.only' O9 (fun hl b hb e => B8.apart S8 hl (by rw [hb, e])), hcap8, fun hl b hb => S8.below hl hb, O8.only O9 (fun b hb e => n6 (by rw [hb, e])), fun b hb => ⟨O8.lt hb, fun e => n6 (by rw [hb, e])⟩, fun hl b hb e => ?_, C9, E8.only O9 (fun i hi e => by omega)⟩⟩
      have := hF8 b hb; have := O7.lt e; omega
  · clear hK1 K1
    go_wp2_with fail
    obtain ⟨V2, hV2, bA, hx2⟩ := P3Box.mk' V 0 0 0
    rw [hV2]; clear hV2
    have hAw : w.heap.size ≤ V.heap.size := hV.size
    generalize V.heap.size = A at *
    replace hV := hV.trans hx2
    refine onlyK_normal (hK2 _ _ ⟨⟨_, hV⟩, rfl⟩ ?_); clear hK2 K2 hx2
    clear V
    obtain ⟨V, rfl⟩ : ∃ X, X = V2 := ⟨_, rfl⟩
    refine tree_one0 fun K hK => ?_
    simp only [pickOp, List.getElem?_cons_zero, List.getElem?_cons_succ, Option.getD_some]
    go_wp2_with ((go_at_call 34; with_reducible refine (KI.out _ hV).mono ?_); rintro e wz ⟨rfl, rfl⟩)
    refine onlyK_normal (hK _ _ ⟨⟨_, hV⟩, rfl⟩ ?_); clear hK K
    refine tree_one0 fun K hK => ?_
    simp only [pickOp, List.getElem?_cons_zero, List.getElem?_cons_succ, Option.getD_some]
    go_wp2_with ((go_at_call 36; with_reducible refine (KP.out _ hV).mono ?_); rintro e V2 ⟨rfl, hx2⟩)
    replace hV := hV.trans hx2
    replace bA := bA.later hx2
    refine onlyK_normal (hK _ _ ⟨⟨_, hV⟩, rfl⟩ ?_); clear hK K hx2
    clear V
    obtain ⟨V, rfl⟩ : ∃ X, X = V2 := ⟨_, rfl⟩
    refine tree_leaf ?_
    simp only [List.map_cons, List.map_nil, pickOp, List.getElem?_cons_zero, List.getElem?_cons_succ, Option.getD_some]
    repeat (go_big_quiet_step (fail))
    refine wpQuiet_nil ?_
    simp only [List.drop_succ_cons, List.drop_zero]
    obtain ⟨z0, z1, z2, y0, y1, y2⟩ := bA.at
    have k5 := cell_put3 A qx qy qz (by omega : A ≠ G) (H.out.later hV).box.c5
    go_wp2_with fail
    have bP := bA.put qx qy qz
    have hX : Ext w (((V.setCell ⟨A, 0, none⟩ (.int .i64 qx)).setCell ⟨A, 1, none⟩ (.int .i64 qy)).setCell ⟨A, 2, none⟩ (.int .i64 qz)) := ((hV.setCell hAw _).setCell hAw _).setCell hAw _
    generalize ((V.setCell ⟨A, 0, none⟩ (.int .i64 qx)).setCell ⟨A, 1, none⟩ (.int .i64 qy)).setCell ⟨A, 2, none⟩ (.int .i64 qz) = X at *
    clear z0 z1 z2 y0 y1 y2 bA hV k5
    clear V
    refine (break_up H.out.ctl hX HPS.out).mono ?_
    rintro e w3 ⟨rfl, hC3, hO3⟩
    have H3 := (H.out.later hX).work hC3 (hO3.mono (fun _ _ h => h.1))
    have bP3 := bP.only hO3 (by omega)
    clear bP hC3 hO3 hX
    clear X
    have nG : ¬ (vps.ownBlock = some G) := fun e => (H3.lp _ e).2 rfl
    have nA : ¬ (vps.ownBlock = some A) := fun e => by have := (H3.lp _ e).1; omega
    go_wp2_with fail
    have d5 := Chg.cell (D := fun k => vps.ownBlock = some k) H3.box.c5 nG; have d6 := Chg.cell (D := fun k => vps.ownBlock = some k) H3.box.c6 nG
    refine wp_region_tree (fun w' => ∃ y : Chg (fun k => vps.ownBlock = some k) w3, w' = y.w) 11 (.one [0, 1, 2, 3, 4, 5, 6, 7, 8] 9 (.one [] 10 (.leaf []))) (by kernel_rfl) (by kernel_rfl) (by kernel_rfl) ⟨⟨_, (Only.refl _ w3).drew⟩, rfl⟩ ?_
    simp only [List.take_succ_cons, List.take_zero]
    refine tree_one fun K hK => ?_
    simp only [List.map_cons, List.map_nil, pickOp, List.getElem?_cons_zero, List.getElem?_cons_succ, Option.getD_some]
    repeat (go_big_quiet_step (fail))
    refine wpQuiet_nil ?_
    clear d5 d6
    have H4 := H3.later (Ext.refl w3).drew
    have bP4 := bP3.later (Ext.refl w3).drew
    have hD3 : Only (fun k => vps.ownBlock = some k) w3 w3.drew := (Only.refl _ w3).drew
    clear H3 bP3
    generalize w3.drew = w4 at *
    have HD := Lib.hid (done_in H4.ctl HPB.out)
    go_wp2_with ((go_at_call 31; with_reducible refine (HD.out).mono ?_); rintro e w5 ⟨v5, rfl, own5, hx5⟩)
    clear HD
    refine onlyK_normal (hK _ _ ⟨⟨_, hD3.trans (Only.of_ext hx5)⟩, rfl⟩ ?_); clear hK K
    refine tree_one0 fun K hK => ?_
    simp only [pickOp, List.getElem?_cons_zero, List.getElem?_cons_succ, Option.getD_some]
    have HQ4 := Lib.hid (H4.sp.later hx5); have HS4 := Lib.hid own5.sl; have HB4 : Hid (w0.heap.size ≤ w5.heap.size) := Lib.hid (H4.ext.trans hx5).size
    clear own5
    go_wp2_with ((at_builtin; refine appM_at rfl _ _ rfl w0.heap.size _ _ J.ps J.C.brkC.doneL rfl rfl HQ4.out HS4.out HLN.out HB4.out ?_; intro v6 w6 own6 hg6 hloc6))
    have hO6 : Only (fun k => vps.ownBlock = some k) w4 w6 := (Only.of_ext hx5).trans (Only.of_grown hg6)
    refine onlyK_normal (hK _ _ ⟨⟨_, hD3.trans hO6⟩, rfl⟩ ?_); clear hK K
    refine tree_leaf0 ?_
    simp only [List.drop_succ_cons, List.drop_zero]
    have hG4 : G < w4.heap.size := H4.box.lt
    have n6 : v6.ownBlock ≠ some G := by rcases hloc6 with e | e <;> rw [e]; exact nG; intro e2; have := hx5.size; cases e2; omega
    have B6 := H4.box.only hO6 nG
    have S6 := H4.sm.only' hO6 (fun hl b hb e => H4.mp hl b hb e)
    have P6 := bP4.only hO6 nA
    have E6 : Ext w0 w6 := H4.ext.only hO6 (fun i hi e => by have := H4.sp.base e; omega)
    have hcap := H4.cap; have hbase := H4.base
    clear hD3 hg6 hloc6 HQ4 HS4 HB4 bP4 hx5 H4 hO6 hG4
    obtain ⟨x6, n6', c6, rfl⟩ := OwnM.form own6
    have B7 := (B6.set6 x6 n6' c6).set7 false
    have f6 := B6.fr 6 (by decide); have g6 := B6.c6; have f7 := (B6.set6 x6 n6' c6).fr 7 (by decide); have g7 := (B6.set6 x6 n6' c6).c7
    have hO7 : Only (fun k => k = G) w6 ((w6.setCell ⟨G, 6, none⟩ (.slice x6 n6' c6)).setCell ⟨G, 7, none⟩ (.bool false)) := ((Only.refl (fun k => k = G) w6).set (p := ⟨G, 6, none⟩) (.inl rfl) _).set (p := ⟨G, 7, none⟩) (.inl rfl) _
    have S7 := S6.only' hO7 (fun hl b hb e => B6.apart S6 hl (by rw [hb, e]))
    have O7 := own6.only hO7 (fun b hb e => n6 (by rw [hb, e]))
    have P7 := P6.only hO7 (by omega)
    have E7 := (E6.setCell (p := ⟨G, 6, none⟩) hbase (.slice x6 n6' c6)).setCell (p := ⟨G, 7, none⟩) hbase (.bool false)
    go_wp2_with fail
    generalize (w6.setCell ⟨G, 6, none⟩ (.slice x6 n6' c6)).setCell ⟨G, 7, none⟩ (.bool false) = w7 at *
    clear f6 g6 f7 g7 hO7 S6 own6 P6 E6 B6
    obtain ⟨xm, cm, hvm⟩ := S7.is
    have e0 := Later.cell B7.c0; have e4 := Later.cell B7.c4; have a0 := P7.c0; have a1 := P7.c1; have a2 := P7.c2
    refine wp_region_tree (fun w' => ∃ y : Later w7, w' = y.w) 15 (.one [0, 1, 2, 3, 4, 5, 6, 7, 8, 9] 10 (.leaf [11, 12, 13, 14])) (by kernel_rfl) (by kernel_rfl) (by kernel_rfl) ⟨⟨_, (Ext.refl w7).drew⟩, rfl⟩ ?_
    simp only [List.take_succ_cons, List.take_zero]
    refine tree_one fun K hK => ?_
    simp only [List.map_cons, List.map_nil, pickOp, List.getElem?_cons_zero, List.getElem?_cons_succ, Option.getD_some]
    repeat (go_big_quiet_step (fail))
    refine wpQuiet_nil ?_
    clear e0 e4 a0 a1 a2
    have hx7 : Ext w7 w7.drew := (Ext.refl w7).drew
    have KR := Lib.hid (crestart_any vm J.l J.C.idx qx qy qz safe w7.drew (S7.later hx7) hcap HIX.out HLL.out)
    rw [hvm] at KR
    go_wp2_with ((go_at_call 38; with_reducible refine (KR.out).mono ?_); rintro e w8 ⟨v8, rfl, S8, F8, hx8⟩)
    clear KR
    refine onlyK_normal (hK _ _ ⟨⟨_, hx7.trans hx8⟩, rfl⟩ ?_); clear hK K
    have hx9 := hx7.trans hx8
    have hF8 : ∀ b, v8.ownBlock = some b → w7.heap.size ≤ b := F8.2
    have hcap8 := F8.1
    clear F8 hx7 hx8 hcap
    obtain ⟨x8, c8, rfl⟩ := S8.is
    refine tree_leaf ?_
    simp only [List.map_cons, List.map_nil, pickOp, List.getElem?_cons_zero, List.getElem?_cons_succ, Option.getD_some]
    repeat (go_big_quiet_step (fail))
    refine wpQuiet_nil ?_
    simp only [List.drop_succ_cons, List.drop_zero]
    have E8 := E7.trans hx9
    have B8 := B7.later hx9
    have O8 := O7.later hx9
    have hw8 : w7.heap.size ≤ w8.heap.size := hx9.size
    have KM := Lib.hid (mstart_ok B8 S8 HLR.out HWF.out HCK.out)
    go_wp2_with ((go_at_call 25; with_reducible refine (KM.out).mono ?_); rintro e w9 ⟨rfl, N9, B9, C9, O9⟩)
    go_ret
    refine ⟨rfl, w8.heap.size, _, _, N9, ⟨B9, hbase, B8.lt, S8.only' O9 (fun hl b hb e => B8.apart S8 hl (by rw [hb, e])), hcap8, fun hl b hb => S8.below hl hb, O8.only O9 (fun b hb e => n6 (by rw [hb, e])), fun b hb => ⟨O8.lt hb, fun e => n6 (by rw [hb, e])⟩, fun hl b hb e => ?_, C9, E8.only O9 (fun i hi e => by omega)⟩⟩
    have := hF8 b hb; have := O7.lt e; omega

end Go.Proofs.YtjibcnnbclcboaaGreatDoor
