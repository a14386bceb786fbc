/-
  Restart of the controller at the end of the motions, walked.
-/
import Derived.Test.YtjibcnnbclcboaaDoorQS13
namespace Go.Proofs.YtjibcnnbclcboaaDoor
open Go.RowKit
set_option maxRecDepth 8000
set_option maxRecDepth 8000

/-- A goal that is met more than once, proved once. -/
theorem shared_intro {G0 : Prop} (GOAL : Prop) (tl : GOAL) (main : GOAL → G0) : G0 := main tl

set_option maxHeartbeats 16000000 in
theorem crestart_end1 (v : Value) (l : List Mot) (i : Nat) (x y z safe : Int) (w : World) (h : SlM w v l) (hc : CapV v) (hi : i = l.length) (hps : 0 < l.length) (hcq : ∀ a n c, v = .slice a n c → c = l.length) (hn : l.length ≤ 1000000) :
    Calls Tryd.prog 54 #[v, .int .i64 i, Ps x y z, .int .i64 safe] w (RstPost w (rstL l i (x, y, z) safe) (rstE l i (x, y, z) safe)) := by
  have HS := Lib.hid h
  obtain ⟨ad, n, cap, b, off, hv, hnl, -⟩ := h
  have hcap : n ≤ cap := hc _ _ _ hv
  have hlen : ∀ wx, (Builtin.len_ #[30] 3 #[v]).run Tryd.prog wx = .ok (.int .i64 (n : Int)) wx := fun wx => by
    rw [hv, run_len_slice (P := Tryd.prog) (w := wx) 30 3 ad n cap (by rw [Tryd.elem_mots]; exact Tryd.underlying30)]
    rfl
  have hin : i ≤ n := by omega
  have hn2 : n ≤ 1000000 := by omega
  have hd0 : decide ((i : Int) < 0) = false := by simp
  have hd1 : decide ((i : Int) > (n : Int)) = false := by simp; omega
  obtain ⟨cE, hE⟩ : ∃ c, c = rstE l i (x, y, z) safe := ⟨_, rfl⟩
  obtain ⟨cL, hL⟩ : ∃ c, c = rstL l i (x, y, z) safe := ⟨_, rfl⟩
  rw [← hE, ← hL]
  unfold rstE at hE
  unfold rstL at hL
  obtain ⟨a3, n3, c3, hsl, hs3⟩ := slice_at (by have := HS.out; rw [hv] at this; exact this) hcap i hin
  rw [← hv] at hsl
  have HV := Lib.hid hv; clear hv
  have HS3 := Lib.hid hs3; clear hs3
  have hdl : (l.drop i).length ≤ 1000000 := by rw [List.length_drop]; omega
  have hm0 : rLike l i = l.getD (l.length - 1) Mot.zero := by unfold rLike rCount; rw [if_neg (by omega)]
  have hb0 : rBeg l i (x, y, z) = (l.getD (l.length - 1) Mot.zero).t3 := by unfold rBeg; rw [if_neg (by omega), if_pos (by omega)]
  have hk0 : rCount l i = l.length := by unfold rCount; rw [if_neg (by omega)]
  rw [hm0, hb0, hk0] at hL
  rw [hb0, hk0] at hE
  clear hm0 hb0 hk0
  obtain ⟨q, hq⟩ : ∃ q, n = q + 1 := ⟨n - 1, by omega⟩
  have hlq : l.length - 1 = q := by omega
  have hlq2 : l.length = q + 1 := by omega
  rw [hlq, hlq2] at hL hE
  obtain rfl : i = q + 1 := by omega
  subst hq
  obtain ⟨a1, n1, c1, b1, o1, hv1, hn1, h31, -, h41⟩ := id HS.out
  obtain ⟨hb1, hb2⟩ := h41 q (by rw [hn1]; omega)
  have hv2 : v = .slice (some ⟨b1, o1, none⟩) (q + 1) cap := by
    have e1 := HV.out
    rw [hv1] at e1
    injection e1 with e1 e2 e3
    rw [hv1, h31.resolve_left (by omega), e2, e3]
  have hcc := hcq _ _ _ hv2
  rw [hlq2] at hcc
  clear h31 h41 hv1 hn1 hlen hsl HS3 HV hcq
  subst hv2
  subst hcc
  have hnil : l.drop (q + 1) = [] := List.drop_eq_nil_iff.2 (by omega)
  have hs3 : SlM w (.slice (some ⟨b1, o1, none⟩) 0 0) (l.drop (q + 1)) := by rw [hnil]; exact ⟨_, 0, _, 0, 0, rfl, rfl, .inl rfl, (fun h => by cases h), fun i hi => by omega⟩
  have HS3 := Lib.hid hs3; clear hs3 hnil
  have HNL := Lib.hid hnl; clear hnl
  have HLQ := Lib.hid hlq2
  clear hlq hlq2 hi
  generalize l.getD q Mot.zero = m at *
  have hf3 : m.t3 = (m.tx, m.ty, m.tz) := rfl
  rw [hf3] at hE hL
  clear hf3
  obtain ⟨MX, hMX⟩ : ∃ MX, max3 z m.tz = MX := ⟨_, rfl⟩
  have hMB := max3_le z m.tz safe
  rw [hMX] at hMB
  unfold max3 at hMX
  have kcl : ∀ w', Ext w w' → Calls Tryd.prog 19 #[.slice (some ⟨b1, o1, none⟩) 0 0] w' (RetMots w' (l.drop (q + 1))) := fun w' he => clone_any _ _ w' (HS3.out.later he) (by omega)
  have KCL := Lib.hid kcl; clear kcl
  by_cases hbad : safe < z ∨ safe < m.tz ∨ safe < 1000
  · rw [if_pos hbad] at hE hL
    subst hE hL
    have sx : decide (safe < MX) = true := by simpa using hMB.2 hbad
    clear hbad hMB
    go_enter Tryd.func54, Tryd.ntmps54
    go_wp2_with fail
    obtain ⟨W1, hW1, P1, hE1⟩ := P3Box.mk' w x y z
    have hz1 : W1.heap.size = w.heap.size + 1 := by rw [← hW1]; simp
    rw [hW1]; clear hW1
    obtain ⟨W2, hW2, Q2, hE2⟩ := P3Box.mk' W1 x y z
    have hz2 : W2.heap.size = W1.heap.size + 1 := by rw [← hW2]; simp
    rw [hW2]; clear hW2
    obtain ⟨W3, hW3, M3, hE3⟩ := M9Box.mk' W2 Mot.zero
    simp only [Mot.zero] at hW3
    rw [hW3]; clear hW3
    rw [hz2, hz1] at M3
    rw [hz1] at Q2
    have P3' := (P1.later hE2).later hE3
    have Q3 := Q2.later hE3
    have hE3' := (hE1.trans hE2).trans hE3
    have hb3 := hb2.later hb1 hE3'
    have hb1' : b1 < W3.heap.size := Nat.lt_of_lt_of_le hb1 hE3'.size
    clear P1 Q2 hE1 hE2 hE3 hz1 hz2 hb2
    clear W1 W2
    have g0 := Chg.cell (D := fun k => w.heap.size ≤ k) hb3.c0 (by show ¬ w.heap.size ≤ b1; omega); have g1 := Chg.cell (D := fun k => w.heap.size ≤ k) hb3.c1 (by show ¬ w.heap.size ≤ b1; omega); have g2 := Chg.cell (D := fun k => w.heap.size ≤ k) hb3.c2 (by show ¬ w.heap.size ≤ b1; omega); have g3 := Chg.cell (D := fun k => w.heap.size ≤ k) hb3.c3 (by show ¬ w.heap.size ≤ b1; omega); have g4 := Chg.cell (D := fun k => w.heap.size ≤ k) hb3.c4 (by show ¬ w.heap.size ≤ b1; omega); have g5 := Chg.cell (D := fun k => w.heap.size ≤ k) hb3.c5 (by show ¬ w.heap.size ≤ b1; omega); have g6 := Chg.cell (D := fun k => w.heap.size ≤ k) hb3.c6 (by show ¬ w.heap.size ≤ b1; omega); have g7 := Chg.cell (D := fun k => w.heap.size ≤ k) hb3.c7 (by show ¬ w.heap.size ≤ b1; omega); have g8 := Chg.cell (D := fun k => w.heap.size ≤ k) hb3.c8 (by show ¬ w.heap.size ≤ b1; omega)
    obtain ⟨q0, q1, q2, y0, y1, y2⟩ := Q3.at
    have Q4 := Q3.put m.tx m.ty m.tz
    have hO4 : Only (fun k => k = w.heap.size + 1) W3 (((W3.setCell ⟨w.heap.size + 1, 0, none⟩ (.int .i64 m.tx)).setCell ⟨w.heap.size + 1, 1, none⟩ (.int .i64 m.ty)).setCell ⟨w.heap.size + 1, 2, none⟩ (.int .i64 m.tz)) := (Only.refl (fun k => k = w.heap.size + 1) W3).set3 (.inl rfl) _ _ _
    have hO4d : Only (fun k => w.heap.size ≤ k) W3 (((W3.setCell ⟨w.heap.size + 1, 0, none⟩ (.int .i64 m.tx)).setCell ⟨w.heap.size + 1, 1, none⟩ (.int .i64 m.ty)).setCell ⟨w.heap.size + 1, 2, none⟩ (.int .i64 m.tz)) := hO4.mono (fun k _ e => by show w.heap.size ≤ k; omega)
    apply shared_intro
    case main =>
      intro TL
      refine wp_region_tree (fun w' => ∃ y : Chg (fun k => w.heap.size ≤ k) W3, w' = y.w) 14 (.two [0, 1, 7, 8] 2 9 (.two [3, 4, 5, 6] 9 13 (.one [10, 11, 12] 13 (.leaf [])) (.one [] 9 (.leaf [10, 11, 12]))) (.one [10, 11, 12] 2 (.one [3, 4, 5, 6] 13 (.leaf [])))) (by kernel_rfl) (by kernel_rfl) (by kernel_rfl) ⟨⟨_, (Only.refl _ W3).drew⟩, rfl⟩ ?_
      simp only [List.take_succ_cons, List.take_zero]
      refine tree_two fun K1 K2 hK1 hK2 => ?_
      simp only [List.map_cons, List.map_nil, pickOp, List.getElem?_cons_zero, List.getElem?_cons_succ, Option.getD_some]
      repeat (go_big_quiet_step (fail))
      refine wpQuiet_nil ⟨?_, ?_⟩
      · clear hK2 K2
        go_wp2_with fail
        refine onlyK_normal (hK1 _ _ ⟨⟨_, (Only.refl _ W3).drew⟩, rfl⟩ ?_); clear hK1 K1
        refine tree_two fun K1 K2 hK1 hK2 => ?_
        simp only [List.map_cons, List.map_nil, pickOp, List.getElem?_cons_zero, List.getElem?_cons_succ, Option.getD_some]
        repeat (go_big_quiet_step (fail))
        refine wpQuiet_nil ⟨?_, ?_⟩
        · clear hK2 K2
          go_wp2_with fail
          refine onlyK_normal (hK1 _ _ ⟨⟨_, (Only.refl _ W3).drew⟩, rfl⟩ ?_); clear hK1 K1
          refine tree_one fun K hK => ?_
          simp only [List.map_cons, List.map_nil, pickOp, List.getElem?_cons_zero, List.getElem?_cons_succ, Option.getD_some]
          repeat (go_big_quiet_step (fail))
          refine wpQuiet_nil ?_
          go_wp2_with fail
          refine onlyK_normal (hK _ _ ⟨⟨_, hO4d.drew⟩, rfl⟩ ?_); clear hK K
          refine tree_leaf0 ?_
          simp only [List.drop_succ_cons, List.drop_zero]
          exact TL
        · clear hK1 K1
          go_wp2_with fail
          refine onlyK_normal (hK2 _ _ ⟨⟨_, hO4d.drew⟩, rfl⟩ ?_); clear hK2 K2
          refine tree_one0 fun K hK => ?_
          simp only [pickOp, List.getElem?_cons_zero, List.getElem?_cons_succ, Option.getD_some]
          go_wp2_with fail
          refine onlyK_normal (hK _ _ ⟨⟨_, hO4d.drew⟩, rfl⟩ ?_); clear hK K
          refine tree_leaf ?_
          simp only [List.map_cons, List.map_nil, pickOp, List.getElem?_cons_zero, List.getElem?_cons_succ, Option.getD_some, List.drop_succ_cons, List.drop_zero]
          repeat (go_big_quiet_step (fail))
          refine wpQuiet_nil ?_
          exact TL
      · clear hK1 K1
        go_wp2_with fail
        refine onlyK_normal (hK2 _ _ ⟨⟨_, (Only.refl _ W3).drew⟩, rfl⟩ ?_); clear hK2 K2
        refine tree_one fun K hK => ?_
        simp only [List.map_cons, List.map_nil, pickOp, List.getElem?_cons_zero, List.getElem?_cons_succ, Option.getD_some]
        repeat (go_big_quiet_step (fail))
        refine wpQuiet_nil ?_
        go_wp2_with fail
        refine onlyK_normal (hK _ _ ⟨⟨_, (Only.refl _ W3).drew⟩, rfl⟩ ?_); clear hK K
        refine tree_one fun K hK => ?_
        simp only [List.map_cons, List.map_nil, pickOp, List.getElem?_cons_zero, List.getElem?_cons_succ, Option.getD_some]
        repeat (go_big_quiet_step (fail))
        refine wpQuiet_nil ?_
        go_wp2_with fail
        refine onlyK_normal (hK _ _ ⟨⟨_, hO4d.drew⟩, rfl⟩ ?_); clear hK K
        refine tree_leaf0 ?_
        simp only [List.drop_succ_cons, List.drop_zero]
        exact TL
    clear hO4d
    clear q0 q1 q2 y0 y1 y2 g0 g1 g2 g3 g4 g5 g6 g7 g8 hb3
    generalize ((W3.setCell ⟨w.heap.size + 1, 0, none⟩ (.int .i64 m.tx)).setCell ⟨w.heap.size + 1, 1, none⟩ (.int .i64 m.ty)).setCell ⟨w.heap.size + 1, 2, none⟩ (.int .i64 m.tz) = W4 at *
    have M4 := M3.only hO4 (by omega)
    have P4 := P3'.only hO4 (by omega)
    have hE4 : Ext w W4 := hE3'.only hO4 (fun i hi e => by omega)
    clear Q3 M3 P3' hE3' hO4
    have z0 := M4.c0; have z1 := M4.c1; have z2 := M4.c2; have z3 := M4.c3; have z4 := M4.c4; have z5 := M4.c5; have z6 := M4.c6; have z7 := M4.c7; have z8 := M4.c8
    have y0 := M4.f0; have y1 := M4.f1; have y2 := M4.f2; have y3 := M4.f3; have y4 := M4.f4; have y5 := M4.f5; have y6 := M4.f6; have y7 := M4.f7; have y8 := M4.f8
    obtain ⟨q0, q1, q2, -, -, -⟩ := Q4.at
    obtain ⟨p0, p1, p2, -, -, -⟩ := P4.at
    go_wp2
    go_ret2
    exact ⟨_, rfl, nilM _, freNil _, (hE4.only ((Only.refl (fun k => k = w.heap.size + 1 + 1) W4).set9 (.inl rfl) _ _ _ _ _ _ _ _ _) (fun i hi e => by omega)).drew⟩
  rw [if_neg hbad] at hE hL
  have sx : decide (safe < MX) = false := by have := mt hMB.1 hbad; simp; omega
  clear hbad hMB
  have heq := fun w => Tryd.eql_pos x y z m.tx m.ty m.tz w
  have heq3 : eq3 (x, y, z) (m.tx, m.ty, m.tz) = eqP x y z m.tx m.ty m.tz := rfl
  rw [heq3] at hE hL
  clear heq3
  cases hev : eqP x y z m.tx m.ty m.tz
  case true =>
    rw [hev] at heq hE hL
    rw [if_pos rfl] at hE hL
    subst hE hL
    go_enter Tryd.func54, Tryd.ntmps54
    go_wp2_with fail
    obtain ⟨W1, hW1, P1, hE1⟩ := P3Box.mk' w x y z
    have hz1 : W1.heap.size = w.heap.size + 1 := by rw [← hW1]; simp
    rw [hW1]; clear hW1
    obtain ⟨W2, hW2, Q2, hE2⟩ := P3Box.mk' W1 x y z
    have hz2 : W2.heap.size = W1.heap.size + 1 := by rw [← hW2]; simp
    rw [hW2]; clear hW2
    obtain ⟨W3, hW3, M3, hE3⟩ := M9Box.mk' W2 Mot.zero
    simp only [Mot.zero] at hW3
    rw [hW3]; clear hW3
    rw [hz2, hz1] at M3
    rw [hz1] at Q2
    have P3' := (P1.later hE2).later hE3
    have Q3 := Q2.later hE3
    have hE3' := (hE1.trans hE2).trans hE3
    have hb3 := hb2.later hb1 hE3'
    have hb1' : b1 < W3.heap.size := Nat.lt_of_lt_of_le hb1 hE3'.size
    clear P1 Q2 hE1 hE2 hE3 hz1 hz2 hb2
    clear W1 W2
    have g0 := Chg.cell (D := fun k => w.heap.size ≤ k) hb3.c0 (by show ¬ w.heap.size ≤ b1; omega); have g1 := Chg.cell (D := fun k => w.heap.size ≤ k) hb3.c1 (by show ¬ w.heap.size ≤ b1; omega); have g2 := Chg.cell (D := fun k => w.heap.size ≤ k) hb3.c2 (by show ¬ w.heap.size ≤ b1; omega); have g3 := Chg.cell (D := fun k => w.heap.size ≤ k) hb3.c3 (by show ¬ w.heap.size ≤ b1; omega); have g4 := Chg.cell (D := fun k => w.heap.size ≤ k) hb3.c4 (by show ¬ w.heap.size ≤ b1; omega); have g5 := Chg.cell (D := fun k => w.heap.size ≤ k) hb3.c5 (by show ¬ w.heap.size ≤ b1; omega); have g6 := Chg.cell (D := fun k => w.heap.size ≤ k) hb3.c6 (by show ¬ w.heap.size ≤ b1; omega); have g7 := Chg.cell (D := fun k => w.heap.size ≤ k) hb3.c7 (by show ¬ w.heap.size ≤ b1; omega); have g8 := Chg.cell (D := fun k => w.heap.size ≤ k) hb3.c8 (by show ¬ w.heap.size ≤ b1; omega)
    obtain ⟨q0, q1, q2, y0, y1, y2⟩ := Q3.at
    have Q4 := Q3.put m.tx m.ty m.tz
    have hO4 : Only (fun k => k = w.heap.size + 1) W3 (((W3.setCell ⟨w.heap.size + 1, 0, none⟩ (.int .i64 m.tx)).setCell ⟨w.heap.size + 1, 1, none⟩ (.int .i64 m.ty)).setCell ⟨w.heap.size + 1, 2, none⟩ (.int .i64 m.tz)) := (Only.refl (fun k => k = w.heap.size + 1) W3).set3 (.inl rfl) _ _ _
    have hO4d : Only (fun k => w.heap.size ≤ k) W3 (((W3.setCell ⟨w.heap.size + 1, 0, none⟩ (.int .i64 m.tx)).setCell ⟨w.heap.size + 1, 1, none⟩ (.int .i64 m.ty)).setCell ⟨w.heap.size + 1, 2, none⟩ (.int .i64 m.tz)) := hO4.mono (fun k _ e => by show w.heap.size ≤ k; omega)
    apply shared_intro
    case main =>
      intro TL
      refine wp_region_tree (fun w' => ∃ y : Chg (fun k => w.heap.size ≤ k) W3, w' = y.w) 14 (.two [0, 1, 7, 8] 2 9 (.two [3, 4, 5, 6] 9 13 (.one [10, 11, 12] 13 (.leaf [])) (.one [] 9 (.leaf [10, 11, 12]))) (.one [10, 11, 12] 2 (.one [3, 4, 5, 6] 13 (.leaf [])))) (by kernel_rfl) (by kernel_rfl) (by kernel_rfl) ⟨⟨_, (Only.refl _ W3).drew⟩, rfl⟩ ?_
      simp only [List.take_succ_cons, List.take_zero]
      refine tree_two fun K1 K2 hK1 hK2 => ?_
      simp only [List.map_cons, List.map_nil, pickOp, List.getElem?_cons_zero, List.getElem?_cons_succ, Option.getD_some]
      repeat (go_big_quiet_step (fail))
      refine wpQuiet_nil ⟨?_, ?_⟩
      · clear hK2 K2
        go_wp2_with fail
        refine onlyK_normal (hK1 _ _ ⟨⟨_, (Only.refl _ W3).drew⟩, rfl⟩ ?_); clear hK1 K1
        refine tree_two fun K1 K2 hK1 hK2 => ?_
        simp only [List.map_cons, List.map_nil, pickOp, List.getElem?_cons_zero, List.getElem?_cons_succ, Option.getD_some]
        repeat (go_big_quiet_step (fail))
        refine wpQuiet_nil ⟨?_, ?_⟩
        · clear hK2 K2
          go_wp2_with fail
          refine onlyK_normal (hK1 _ _ ⟨⟨_, (Only.refl _ W3).drew⟩, rfl⟩ ?_); clear hK1 K1
          refine tree_one fun K hK => ?_
          simp only [List.map_cons, List.map_nil, pickOp, List.getElem?_cons_zero, List.getElem?_cons_succ, Option.getD_some]
          repeat (go_big_quiet_step (fail))
          refine wpQuiet_nil ?_
          go_wp2_with fail
          refine onlyK_normal (hK _ _ ⟨⟨_, hO4d.drew⟩, rfl⟩ ?_); clear hK K
          refine tree_leaf0 ?_
          simp only [List.drop_succ_cons, List.drop_zero]
          exact TL
        · clear hK1 K1
          go_wp2_with fail
          refine onlyK_normal (hK2 _ _ ⟨⟨_, hO4d.drew⟩, rfl⟩ ?_); clear hK2 K2
          refine tree_one0 fun K hK => ?_
          simp only [pickOp, List.getElem?_cons_zero, List.getElem?_cons_succ, Option.getD_some]
          go_wp2_with fail
          refine onlyK_normal (hK _ _ ⟨⟨_, hO4d.drew⟩, rfl⟩ ?_); clear hK K
          refine tree_leaf ?_
          simp only [List.map_cons, List.map_nil, pickOp, List.getElem?_cons_zero, List.getElem?_cons_succ, Option.getD_some, List.drop_succ_cons, List.drop_zero]
          repeat (go_big_quiet_step (fail))
          refine wpQuiet_nil ?_
          exact TL
      · clear hK1 K1
        go_wp2_with fail
        refine onlyK_normal (hK2 _ _ ⟨⟨_, (Only.refl _ W3).drew⟩, rfl⟩ ?_); clear hK2 K2
        refine tree_one fun K hK => ?_
        simp only [List.map_cons, List.map_nil, pickOp, List.getElem?_cons_zero, List.getElem?_cons_succ, Option.getD_some]
        repeat (go_big_quiet_step (fail))
        refine wpQuiet_nil ?_
        go_wp2_with fail
        refine onlyK_normal (hK _ _ ⟨⟨_, (Only.refl _ W3).drew⟩, rfl⟩ ?_); clear hK K
        refine tree_one fun K hK => ?_
        simp only [List.map_cons, List.map_nil, pickOp, List.getElem?_cons_zero, List.getElem?_cons_succ, Option.getD_some]
        repeat (go_big_quiet_step (fail))
        refine wpQuiet_nil ?_
        go_wp2_with fail
        refine onlyK_normal (hK _ _ ⟨⟨_, hO4d.drew⟩, rfl⟩ ?_); clear hK K
        refine tree_leaf0 ?_
        simp only [List.drop_succ_cons, List.drop_zero]
        exact TL
    clear hO4d
    clear q0 q1 q2 y0 y1 y2 g0 g1 g2 g3 g4 g5 g6 g7 g8 hb3
    generalize ((W3.setCell ⟨w.heap.size + 1, 0, none⟩ (.int .i64 m.tx)).setCell ⟨w.heap.size + 1, 1, none⟩ (.int .i64 m.ty)).setCell ⟨w.heap.size + 1, 2, none⟩ (.int .i64 m.tz) = W4 at *
    have M4 := M3.only hO4 (by omega)
    have P4 := P3'.only hO4 (by omega)
    have hE4 : Ext w W4 := hE3'.only hO4 (fun i hi e => by omega)
    clear Q3 M3 P3' hE3' hO4
    have z0 := M4.c0; have z1 := M4.c1; have z2 := M4.c2; have z3 := M4.c3; have z4 := M4.c4; have z5 := M4.c5; have z6 := M4.c6; have z7 := M4.c7; have z8 := M4.c8
    have y0 := M4.f0; have y1 := M4.f1; have y2 := M4.f2; have y3 := M4.f3; have y4 := M4.f4; have y5 := M4.f5; have y6 := M4.f6; have y7 := M4.f7; have y8 := M4.f8
    obtain ⟨q0, q1, q2, -, -, -⟩ := Q4.at
    obtain ⟨p0, p1, p2, -, -, -⟩ := P4.at
    go_wp2_with fail
    have M5 := M4.put m
    have hO5 : Only (fun k => k = w.heap.size + 1 + 1) W4 (((((((((W4.setCell ⟨w.heap.size + 1 + 1, 0, none⟩ (.int .i64 m.fx)).setCell ⟨w.heap.size + 1 + 1, 1, none⟩ (.int .i64 m.fy)).setCell ⟨w.heap.size + 1 + 1, 2, none⟩ (.int .i64 m.fz)).setCell ⟨w.heap.size + 1 + 1, 3, none⟩ (.int .i64 m.tx)).setCell ⟨w.heap.size + 1 + 1, 4, none⟩ (.int .i64 m.ty)).setCell ⟨w.heap.size + 1 + 1, 5, none⟩ (.int .i64 m.tz)).setCell ⟨w.heap.size + 1 + 1, 6, none⟩ (.int .i64 m.rate)).setCell ⟨w.heap.size + 1 + 1, 7, none⟩ (.int .i64 m.tool)).setCell ⟨w.heap.size + 1 + 1, 8, none⟩ (.int .i64 m.block)) := (Only.refl (fun k => k = w.heap.size + 1 + 1) W4).set9 (.inl rfl) _ _ _ _ _ _ _ _ _
    clear q0 q1 q2 p0 p1 p2 z0 z1 z2 z3 z4 z5 z6 z7 z8 y0 y1 y2 y3 y4 y5 y6 y7 y8
    generalize ((((((((W4.setCell ⟨w.heap.size + 1 + 1, 0, none⟩ (.int .i64 m.fx)).setCell ⟨w.heap.size + 1 + 1, 1, none⟩ (.int .i64 m.fy)).setCell ⟨w.heap.size + 1 + 1, 2, none⟩ (.int .i64 m.fz)).setCell ⟨w.heap.size + 1 + 1, 3, none⟩ (.int .i64 m.tx)).setCell ⟨w.heap.size + 1 + 1, 4, none⟩ (.int .i64 m.ty)).setCell ⟨w.heap.size + 1 + 1, 5, none⟩ (.int .i64 m.tz)).setCell ⟨w.heap.size + 1 + 1, 6, none⟩ (.int .i64 m.rate)).setCell ⟨w.heap.size + 1 + 1, 7, none⟩ (.int .i64 m.tool)).setCell ⟨w.heap.size + 1 + 1, 8, none⟩ (.int .i64 m.block) = W5 at *
    have P5 := (P4.only hO5 (by omega)).later (Ext.refl W5).drew
    have Q5 := (Q4.only hO5 (by omega)).later (Ext.refl W5).drew
    have M5' := M5.later (Ext.refl W5).drew
    have hE5 : Ext w W5.drew := (hE4.only hO5 (fun i hi e => by omega)).drew
    clear P4 Q4 M4 M5 hO5 hE4
    generalize W5.drew = W6 at *
    refine (KCL.out _ hE5).mono ?_
    rintro e w7 ⟨v7, rfl, own7, hx7⟩
    have P7 := P5.later hx7; have Q7 := Q5.later hx7; have M7 := M5'.later hx7
    have hE7 := hE5.trans hx7
    have OW7 := Lib.hid own7
    have hA6 : w.heap.size < W6.heap.size := P5.lt
    clear own7 P5 Q5 M5' hE5 hx7
    clear W5
    obtain ⟨p0, p1, p2, -, -, -⟩ := P7.at
    obtain ⟨q0, q1, q2, -, -, -⟩ := Q7.at
    obtain ⟨a11, n11, c11, hv11⟩ := OW7.out.form
    subst hv11
    go_wp2
    go_ret2
    exact ⟨_, rfl, OW7.out.sl, OW7.out.fre (by omega), hE7⟩
  case false =>
    rw [hev] at heq hE hL
    rw [if_neg (by decide)] at hE hL
    clear hev
    have HE := Lib.hid hE; have HL := Lib.hid hL
    clear hE hL
    go_enter Tryd.func54, Tryd.ntmps54
    go_wp2_with fail
    obtain ⟨W1, hW1, P1, hE1⟩ := P3Box.mk' w x y z
    have hz1 : W1.heap.size = w.heap.size + 1 := by rw [← hW1]; simp
    rw [hW1]; clear hW1
    obtain ⟨W2, hW2, Q2, hE2⟩ := P3Box.mk' W1 x y z
    have hz2 : W2.heap.size = W1.heap.size + 1 := by rw [← hW2]; simp
    rw [hW2]; clear hW2
    obtain ⟨W3, hW3, M3, hE3⟩ := M9Box.mk' W2 Mot.zero
    simp only [Mot.zero] at hW3
    rw [hW3]; clear hW3
    rw [hz2, hz1] at M3
    rw [hz1] at Q2
    have P3' := (P1.later hE2).later hE3
    have Q3 := Q2.later hE3
    have hE3' := (hE1.trans hE2).trans hE3
    have hb3 := hb2.later hb1 hE3'
    have hb1' : b1 < W3.heap.size := Nat.lt_of_lt_of_le hb1 hE3'.size
    clear P1 Q2 hE1 hE2 hE3 hz1 hz2 hb2
    clear W1 W2
    have g0 := Chg.cell (D := fun k => w.heap.size ≤ k) hb3.c0 (by show ¬ w.heap.size ≤ b1; omega); have g1 := Chg.cell (D := fun k => w.heap.size ≤ k) hb3.c1 (by show ¬ w.heap.size ≤ b1; omega); have g2 := Chg.cell (D := fun k => w.heap.size ≤ k) hb3.c2 (by show ¬ w.heap.size ≤ b1; omega); have g3 := Chg.cell (D := fun k => w.heap.size ≤ k) hb3.c3 (by show ¬ w.heap.size ≤ b1; omega); have g4 := Chg.cell (D := fun k => w.heap.size ≤ k) hb3.c4 (by show ¬ w.heap.size ≤ b1; omega); have g5 := Chg.cell (D := fun k => w.heap.size ≤ k) hb3.c5 (by show ¬ w.heap.size ≤ b1; omega); have g6 := Chg.cell (D := fun k => w.heap.size ≤ k) hb3.c6 (by show ¬ w.heap.size ≤ b1; omega); have g7 := Chg.cell (D := fun k => w.heap.size ≤ k) hb3.c7 (by show ¬ w.heap.size ≤ b1; omega); have g8 := Chg.cell (D := fun k => w.heap.size ≤ k) hb3.c8 (by show ¬ w.heap.size ≤ b1; omega)
    obtain ⟨q0, q1, q2, y0, y1, y2⟩ := Q3.at
    have Q4 := Q3.put m.tx m.ty m.tz
    have hO4 : Only (fun k => k = w.heap.size + 1) W3 (((W3.setCell ⟨w.heap.size + 1, 0, none⟩ (.int .i64 m.tx)).setCell ⟨w.heap.size + 1, 1, none⟩ (.int .i64 m.ty)).setCell ⟨w.heap.size + 1, 2, none⟩ (.int .i64 m.tz)) := (Only.refl (fun k => k = w.heap.size + 1) W3).set3 (.inl rfl) _ _ _
    have hO4d : Only (fun k => w.heap.size ≤ k) W3 (((W3.setCell ⟨w.heap.size + 1, 0, none⟩ (.int .i64 m.tx)).setCell ⟨w.heap.size + 1, 1, none⟩ (.int .i64 m.ty)).setCell ⟨w.heap.size + 1, 2, none⟩ (.int .i64 m.tz)) := hO4.mono (fun k _ e => by show w.heap.size ≤ k; omega)
    apply shared_intro
    case main =>
      intro TL
      refine wp_region_tree (fun w' => ∃ y : Chg (fun k => w.heap.size ≤ k) W3, w' = y.w) 14 (.two [0, 1, 7, 8] 2 9 (.two [3, 4, 5, 6] 9 13 (.one [10, 11, 12] 13 (.leaf [])) (.one [] 9 (.leaf [10, 11, 12]))) (.one [10, 11, 12] 2 (.one [3, 4, 5, 6] 13 (.leaf [])))) (by kernel_rfl) (by kernel_rfl) (by kernel_rfl) ⟨⟨_, (Only.refl _ W3).drew⟩, rfl⟩ ?_
      simp only [List.take_succ_cons, List.take_zero]
      refine tree_two fun K1 K2 hK1 hK2 => ?_
      simp only [List.map_cons, List.map_nil, pickOp, List.getElem?_cons_zero, List.getElem?_cons_succ, Option.getD_some]
      repeat (go_big_quiet_step (fail))
      refine wpQuiet_nil ⟨?_, ?_⟩
      · clear hK2 K2
        go_wp2_with fail
        refine onlyK_normal (hK1 _ _ ⟨⟨_, (Only.refl _ W3).drew⟩, rfl⟩ ?_); clear hK1 K1
        refine tree_two fun K1 K2 hK1 hK2 => ?_
        simp only [List.map_cons, List.map_nil, pickOp, List.getElem?_cons_zero, List.getElem?_cons_succ, Option.getD_some]
        repeat (go_big_quiet_step (fail))
        refine wpQuiet_nil ⟨?_, ?_⟩
        · clear hK2 K2
          go_wp2_with fail
          refine onlyK_normal (hK1 _ _ ⟨⟨_, (Only.refl _ W3).drew⟩, rfl⟩ ?_); clear hK1 K1
          refine tree_one fun K hK => ?_
          simp only [List.map_cons, List.map_nil, pickOp, List.getElem?_cons_zero, List.getElem?_cons_succ, Option.getD_some]
          repeat (go_big_quiet_step (fail))
          refine wpQuiet_nil ?_
          go_wp2_with fail
          refine onlyK_normal (hK _ _ ⟨⟨_, hO4d.drew⟩, rfl⟩ ?_); clear hK K
          refine tree_leaf0 ?_
          simp only [List.drop_succ_cons, List.drop_zero]
          exact TL
        · clear hK1 K1
          go_wp2_with fail
          refine onlyK_normal (hK2 _ _ ⟨⟨_, hO4d.drew⟩, rfl⟩ ?_); clear hK2 K2
          refine tree_one0 fun K hK => ?_
          simp only [pickOp, List.getElem?_cons_zero, List.getElem?_cons_succ, Option.getD_some]
          go_wp2_with fail
          refine onlyK_normal (hK _ _ ⟨⟨_, hO4d.drew⟩, rfl⟩ ?_); clear hK K
          refine tree_leaf ?_
          simp only [List.map_cons, List.map_nil, pickOp, List.getElem?_cons_zero, List.getElem?_cons_succ, Option.getD_some, List.drop_succ_cons, List.drop_zero]
          repeat (go_big_quiet_step (fail))
          refine wpQuiet_nil ?_
          exact TL
      · clear hK1 K1
        go_wp2_with fail
        refine onlyK_normal (hK2 _ _ ⟨⟨_, (Only.refl _ W3).drew⟩, rfl⟩ ?_); clear hK2 K2
        refine tree_one fun K hK => ?_
        simp only [List.map_cons, List.map_nil, pickOp, List.getElem?_cons_zero, List.getElem?_cons_succ, Option.getD_some]
        repeat (go_big_quiet_step (fail))
        refine wpQuiet_nil ?_
        go_wp2_with fail
        refine onlyK_normal (hK _ _ ⟨⟨_, (Only.refl _ W3).drew⟩, rfl⟩ ?_); clear hK K
        refine tree_one fun K hK => ?_
        simp only [List.map_cons, List.map_nil, pickOp, List.getElem?_cons_zero, List.getElem?_cons_succ, Option.getD_some]
        repeat (go_big_quiet_step (fail))
        refine wpQuiet_nil ?_
        go_wp2_with fail
        refine onlyK_normal (hK _ _ ⟨⟨_, hO4d.drew⟩, rfl⟩ ?_); clear hK K
        refine tree_leaf0 ?_
        simp only [List.drop_succ_cons, List.drop_zero]
        exact TL
    clear hO4d
    clear q0 q1 q2 y0 y1 y2 g0 g1 g2 g3 g4 g5 g6 g7 g8 hb3
    generalize ((W3.setCell ⟨w.heap.size + 1, 0, none⟩ (.int .i64 m.tx)).setCell ⟨w.heap.size + 1, 1, none⟩ (.int .i64 m.ty)).setCell ⟨w.heap.size + 1, 2, none⟩ (.int .i64 m.tz) = W4 at *
    have M4 := M3.only hO4 (by omega)
    have P4 := P3'.only hO4 (by omega)
    have hE4 : Ext w W4 := hE3'.only hO4 (fun i hi e => by omega)
    clear Q3 M3 P3' hE3' hO4
    have z0 := M4.c0; have z1 := M4.c1; have z2 := M4.c2; have z3 := M4.c3; have z4 := M4.c4; have z5 := M4.c5; have z6 := M4.c6; have z7 := M4.c7; have z8 := M4.c8
    have y0 := M4.f0; have y1 := M4.f1; have y2 := M4.f2; have y3 := M4.f3; have y4 := M4.f4; have y5 := M4.f5; have y6 := M4.f6; have y7 := M4.f7; have y8 := M4.f8
    obtain ⟨q0, q1, q2, -, -, -⟩ := Q4.at
    obtain ⟨p0, p1, p2, -, -, -⟩ := P4.at
    go_wp2_with fail
    have M5 := M4.put m
    have hO5 : Only (fun k => k = w.heap.size + 1 + 1) W4 (((((((((W4.setCell ⟨w.heap.size + 1 + 1, 0, none⟩ (.int .i64 m.fx)).setCell ⟨w.heap.size + 1 + 1, 1, none⟩ (.int .i64 m.fy)).setCell ⟨w.heap.size + 1 + 1, 2, none⟩ (.int .i64 m.fz)).setCell ⟨w.heap.size + 1 + 1, 3, none⟩ (.int .i64 m.tx)).setCell ⟨w.heap.size + 1 + 1, 4, none⟩ (.int .i64 m.ty)).setCell ⟨w.heap.size + 1 + 1, 5, none⟩ (.int .i64 m.tz)).setCell ⟨w.heap.size + 1 + 1, 6, none⟩ (.int .i64 m.rate)).setCell ⟨w.heap.size + 1 + 1, 7, none⟩ (.int .i64 m.tool)).setCell ⟨w.heap.size + 1 + 1, 8, none⟩ (.int .i64 m.block)) := (Only.refl (fun k => k = w.heap.size + 1 + 1) W4).set9 (.inl rfl) _ _ _ _ _ _ _ _ _
    clear q0 q1 q2 p0 p1 p2 z0 z1 z2 z3 z4 z5 z6 z7 z8 y0 y1 y2 y3 y4 y5 y6 y7 y8
    generalize ((((((((W4.setCell ⟨w.heap.size + 1 + 1, 0, none⟩ (.int .i64 m.fx)).setCell ⟨w.heap.size + 1 + 1, 1, none⟩ (.int .i64 m.fy)).setCell ⟨w.heap.size + 1 + 1, 2, none⟩ (.int .i64 m.fz)).setCell ⟨w.heap.size + 1 + 1, 3, none⟩ (.int .i64 m.tx)).setCell ⟨w.heap.size + 1 + 1, 4, none⟩ (.int .i64 m.ty)).setCell ⟨w.heap.size + 1 + 1, 5, none⟩ (.int .i64 m.tz)).setCell ⟨w.heap.size + 1 + 1, 6, none⟩ (.int .i64 m.rate)).setCell ⟨w.heap.size + 1 + 1, 7, none⟩ (.int .i64 m.tool)).setCell ⟨w.heap.size + 1 + 1, 8, none⟩ (.int .i64 m.block) = W5 at *
    have P5 := (P4.only hO5 (by omega)).later (Ext.refl W5).drew
    have Q5 := (Q4.only hO5 (by omega)).later (Ext.refl W5).drew
    have M5' := M5.later (Ext.refl W5).drew
    have hE5 : Ext w W5.drew := (hE4.only hO5 (fun i hi e => by omega)).drew
    clear P4 Q4 M4 M5 hO5 hE4
    generalize W5.drew = W6 at *
    refine (KCL.out _ hE5).mono ?_
    rintro e w7 ⟨v7, rfl, own7, hx7⟩
    have P7 := P5.later hx7; have Q7 := Q5.later hx7; have M7 := M5'.later hx7
    have hE7 := hE5.trans hx7
    have OW7 := Lib.hid own7
    have hA6 : w.heap.size < W6.heap.size := P5.lt
    clear own7 P5 Q5 M5' hE5 hx7
    clear W5
    obtain ⟨p0, p1, p2, -, -, -⟩ := P7.at
    obtain ⟨q0, q1, q2, -, -, -⟩ := Q7.at
    go_wp2_with fail
    go_loopw [13, 14] (fun u t wr => ∃ (k : Nat) (r : Int), k ≤ q + 1 ∧ t = .int .i64 ((k : Int) - 1) ∧ u = .int .i64 r ∧ Hid ((r = 0 ∧ rRate l k = rRate l (q + 1)) ∨ (r ≠ 0 ∧ r = rRate l (q + 1))) ∧ wr = w7) (fun _ t _ => (intOf t + 1).toNat)
    case atStart => exact ⟨q + 1, 0, Nat.le_refl _, (by rw [show (((q + 1 : Nat)) : Int) - 1 = (q : Int) by omega]), rfl, Lib.hid (.inl ⟨rfl, rfl⟩), rfl⟩
    case round =>
      obtain ⟨k, r, hk, rfl, rfl, HR, hwr⟩ := hrel
      have hwr' := hwr.symm
      subst hwr'
      clear hwr
      cases k with
      | zero =>
        have hr : r = rRate l (q + 1) := by
          rcases HR.out with ⟨h1, h2⟩ | ⟨h1, h2⟩
          · rw [h1, ← h2]; rfl
          · exact h2
        clear HR
        have hkz : ((0 : Nat) : Int) - 1 = -1 := rfl
        rw [hkz]
        clear hkz
        have HRK := Lib.hid hr; clear hr
        by_cases h13 : m.tz < 1000 ∧ r = 0
        · have hEE : cE = 13 := by rw [HE.out, ← HRK.out, if_pos h13]
          have hLL : cL = [] := by rw [HL.out, ← HRK.out, if_pos h13]
          subst hEE hLL
          have t1 : decide (m.tz < 1000) = true := by simpa using h13.1
          have t2 : (r == 0) = true := by simpa using h13.2
          clear h13
          go_wp2
          go_ret2
          exact ⟨_, rfl, nilM _, freNil _, hE7⟩
        · have hEE : cE = 0 := by rw [HE.out, ← HRK.out, if_neg h13]
          have hLL : cL = rLegs (x, y, z) (m.tx, m.ty, m.tz) safe r m 4 ++ l.drop (q + 1) := by rw [HL.out, ← HRK.out, if_neg h13]
          subst hEE hLL
          by_cases hb0 : m.tz < 1000
          · have t1 : decide (m.tz < 1000) = true := by simpa using hb0
            have t2 : (r == 0) = false := by simp; exact fun e => h13 ⟨hb0, e⟩
            have hmz : (if m.tz < 1000 then (1000 : Int) else m.tz) = 1000 := by rw [if_pos hb0]
            clear h13
            go_wp2_with fail
            obtain ⟨W9, hW9, T9, hE9⟩ := TBox.mk' w7 x y z m.tx m.ty m.tz safe 1000 hmz
            rw [hW9]; clear hW9
            have P9 := P7.later hE9; have M9 := M7.later hE9
            have hA9 : w7.heap.size < W9.heap.size := T9.1
            have hA0 : w.heap.size + 1 + 1 < w7.heap.size := M7.lt
            have HE9 := Lib.hid (hE7.trans hE9)
            have HR9 := Lib.hid (OW7.out.sl.later hE9)
            have hvF : v7.ownBlock ≠ some w.heap.size := fun e => by have := OW7.out.base e; omega
            have HVF := Lib.hid hvF
            clear p0 p1 p2 q0 q1 q2 P7 Q7 M7 hvF hE9
            generalize w7.heap.size = bT at *
            have hLL : (rLegs (x, y, z) (m.tx, m.ty, m.tz) safe r m 4).length ≤ 4 := rLegs_len _ _ _ _ _ 4
            go_loopw [16, 124] (fun u t wr => ∃ k : Nat, k ≤ 4 ∧ t = .int .i64 k ∧ OwnM W9.heap.size wr u (rLegs (x, y, z) (m.tx, m.ty, m.tz) safe r m k) ∧ P3Box wr w.heap.size (rFrom (x, y, z) (m.tx, m.ty, m.tz) safe k).1 (rFrom (x, y, z) (m.tx, m.ty, m.tz) safe k).2.1 (rFrom (x, y, z) (m.tx, m.ty, m.tz) safe k).2.2 ∧ Only (fun b => b = w.heap.size) W9 wr) (fun _ t _ => 4 - (intOf t).toNat)
            case atStart => exact ⟨0, by omega, rfl, OwnM.nil _ _, P9, Only.refl _ _⟩
            case round =>
              clear P9
              obtain ⟨k, hk, rfl, hown, hF, hO⟩ := hrel
              have hsz := hO.size
              by_cases hlt : k < 4
              · have hlt' : decide ((k : Int) < 4) = true := by simp; omega
                have hTk := T9.only hO (by omega)
                obtain ⟨t0, t1', t2'⟩ := hTk.2 k hlt
                have hleg : rLegs (x, y, z) (m.tx, m.ty, m.tz) safe r m (k + 1) = rLegs (x, y, z) (m.tx, m.ty, m.tz) safe r m k ++ (if eq3 (rFrom (x, y, z) (m.tx, m.ty, m.tz) safe k) (rPt (x, y, z) (m.tx, m.ty, m.tz) safe k) = true then [] else [rMot (x, y, z) (m.tx, m.ty, m.tz) safe r m k]) := rfl
                have hlk2 := rLegs_len (x, y, z) (m.tx, m.ty, m.tz) safe r m k
                unfold rMot at hleg
                obtain ⟨tp, htp⟩ : ∃ tp, rPt (x, y, z) (m.tx, m.ty, m.tz) safe k = tp := ⟨_, rfl⟩
                obtain ⟨fp, hfp⟩ : ∃ fp, rFrom (x, y, z) (m.tx, m.ty, m.tz) safe k = fp := ⟨_, rfl⟩
                rw [htp] at t0 t1' t2' hleg
                rw [hfp] at hF hleg
                have HTP := Lib.hid htp
                clear htp hfp
                obtain ⟨tx, ty, tz⟩ := tp
                obtain ⟨fx, fy, fz⟩ := fp
                simp only at t0 t1' t2' hF hleg
                have heq3 : eq3 (fx, fy, fz) (tx, ty, tz) = eqP fx fy fz tx ty tz := rfl
                rw [heq3] at hleg
                clear heq3
                have hne := fun w => Tryd.neq_pos fx fy fz tx ty tz w
                have Mk := M9.only hO (by omega)
                have hFlt : w.heap.size < wr.heap.size := hF.lt
                have hMlt : w.heap.size + 1 + 1 < wr.heap.size := Mk.lt
                obtain ⟨p0, p1, p2, y0, y1, y2⟩ := hF.at
                have d0 : ∀ o, (wr.alloc o).cell? ⟨w.heap.size, 0, none⟩ = some (.int .i64 fx) := fun o => by rw [World.cell?_alloc_lt _ _ _ hFlt]; exact p0
                have d1 : ∀ o, (wr.alloc o).cell? ⟨w.heap.size, 1, none⟩ = some (.int .i64 fy) := fun o => by rw [World.cell?_alloc_lt _ _ _ hFlt]; exact p1
                have d2 : ∀ o, (wr.alloc o).cell? ⟨w.heap.size, 2, none⟩ = some (.int .i64 fz) := fun o => by rw [World.cell?_alloc_lt _ _ _ hFlt]; exact p2
                have l7 : ∀ o, (wr.alloc o).cell? ⟨w.heap.size + 1 + 1, 7, none⟩ = some (.int .i64 m.tool) := fun o => by rw [World.cell?_alloc_lt _ _ _ hMlt]; exact Mk.c7
                have l8 : ∀ o, (wr.alloc o).cell? ⟨w.heap.size + 1 + 1, 8, none⟩ = some (.int .i64 m.block) := fun o => by rw [World.cell?_alloc_lt _ _ _ hMlt]; exact Mk.c8
                have HOWN := Lib.hid hown; have HFF := Lib.hid hF; have HTK := Lib.hid hTk; have HLEG := Lib.hid hleg
                clear hown hF hTk hleg Mk
                have hub : ∀ b, u16.ownBlock = some b → W9.heap.size ≤ b := fun b hb => HOWN.out.base hb
                cases hev : eqP fx fy fz tx ty tz
                case true =>
                  rw [hev] at hne
                  rw [hev] at HLEG
                  rw [if_pos rfl, List.append_nil] at HLEG
                  have F4 := HFF.out.put tx ty tz
                  have hO4 : Only (fun b => b = w.heap.size) wr (((wr.setCell ⟨w.heap.size, 0, none⟩ (.int .i64 tx)).setCell ⟨w.heap.size, 1, none⟩ (.int .i64 ty)).setCell ⟨w.heap.size, 2, none⟩ (.int .i64 tz)) := (Only.refl (fun b => b = w.heap.size) wr).set3 (.inl rfl) _ _ _
                  have own4 := HOWN.out.only hO4 (fun b hb e => by have := hub b hb; omega)
                  have HO4 : Hid (∀ o o2, Only (fun b => b = w.heap.size) W9 (((((wr.setCell ⟨w.heap.size, 0, none⟩ (.int .i64 tx)).setCell ⟨w.heap.size, 1, none⟩ (.int .i64 ty)).setCell ⟨w.heap.size, 2, none⟩ (.int .i64 tz)).alloc o).alloc o2)) := Lib.hid (fun o o2 => ((hO.trans hO4).alloc o).alloc o2)
                  have HF4 : Hid (∀ o o2, P3Box (((((wr.setCell ⟨w.heap.size, 0, none⟩ (.int .i64 tx)).setCell ⟨w.heap.size, 1, none⟩ (.int .i64 ty)).setCell ⟨w.heap.size, 2, none⟩ (.int .i64 tz)).alloc o).alloc o2) w.heap.size tx ty tz) := Lib.hid (fun o o2 => F4.later (((Ext.refl _).alloc o).alloc o2))
                  have OW4 : Hid (∀ o o2, OwnM W9.heap.size (((((wr.setCell ⟨w.heap.size, 0, none⟩ (.int .i64 tx)).setCell ⟨w.heap.size, 1, none⟩ (.int .i64 ty)).setCell ⟨w.heap.size, 2, none⟩ (.int .i64 tz)).alloc o).alloc o2) u16 (rLegs (x, y, z) (m.tx, m.ty, m.tz) safe r m k)) := Lib.hid (fun o o2 => own4.later (((Ext.refl _).alloc o).alloc o2))
                  clear F4 hO4 own4 hub
                  by_cases hk3 : k = 3
                  · have hk3' : ((k : Int) == 3) = true := by simp; omega
                    have HK3 := Lib.hid hk3; clear hk3
                    go_wp2
                    go_roundw
                    case rel => exact ⟨k + 1, by omega, by go_num, (by rw [HLEG.out]; exact OW4.out _ _), (by show P3Box _ _ (rPt (x, y, z) (m.tx, m.ty, m.tz) safe k).1 (rPt (x, y, z) (m.tx, m.ty, m.tz) safe k).2.1 (rPt (x, y, z) (m.tx, m.ty, m.tz) safe k).2.2; rw [HTP.out]; exact HF4.out _ _), HO4.out _ _⟩
                    case measure => simp [intOf]; omega
                  · have hk3' : ((k : Int) == 3) = false := by simp; omega
                    go_wp2
                    go_roundw
                    case rel => exact ⟨k + 1, by omega, by go_num, (by rw [HLEG.out]; exact OW4.out _ _), (by show P3Box _ _ (rPt (x, y, z) (m.tx, m.ty, m.tz) safe k).1 (rPt (x, y, z) (m.tx, m.ty, m.tz) safe k).2.1 (rPt (x, y, z) (m.tx, m.ty, m.tz) safe k).2.2; rw [HTP.out]; exact HF4.out _ _), HO4.out _ _⟩
                    case measure => simp [intOf]; omega
                case false =>
                  rw [hev] at hne
                  rw [hev] at HLEG
                  rw [if_neg (by decide)] at HLEG
                  by_cases hk3 : k = 3
                  · have hk3' : ((k : Int) == 3) = true := by simp; omega
                    have HK3 := Lib.hid hk3; clear hk3
                    have lit : SlM (((wr.alloc (.cells #[.int .i64 tx, .int .i64 ty, .int .i64 tz] 40)).alloc (.cells #[.int .i64 fx, .int .i64 fy, .int .i64 fz, .int .i64 tx, .int .i64 ty, .int .i64 tz, .int .i64 r, .int .i64 m.tool, .int .i64 m.block] 49)).alloc (.cells #[.int .i64 fx, .int .i64 fy, .int .i64 fz, .int .i64 tx, .int .i64 ty, .int .i64 tz, .int .i64 r, .int .i64 m.tool, .int .i64 m.block] 49)) (.slice (some ⟨wr.heap.size + 1 + 1, 0, none⟩) 1 1) [(⟨fx, fy, fz, tx, ty, tz, r, m.tool, m.block⟩ : Mot)] := by
                      obtain ⟨V4, hV4, B4, hE4⟩ := M9Box.mk' ((wr.alloc (.cells #[.int .i64 tx, .int .i64 ty, .int .i64 tz] 40)).alloc (.cells #[.int .i64 fx, .int .i64 fy, .int .i64 fz, .int .i64 tx, .int .i64 ty, .int .i64 tz, .int .i64 r, .int .i64 m.tool, .int .i64 m.block] 49)) ⟨fx, fy, fz, tx, ty, tz, r, m.tool, m.block⟩
                      have := B4.sl1
                      rw [← hV4] at this
                      simpa using this
                    have own4 : OwnM W9.heap.size (((wr.alloc (.cells #[.int .i64 tx, .int .i64 ty, .int .i64 tz] 40)).alloc (.cells #[.int .i64 fx, .int .i64 fy, .int .i64 fz, .int .i64 tx, .int .i64 ty, .int .i64 tz, .int .i64 r, .int .i64 m.tool, .int .i64 m.block] 49)).alloc (.cells #[.int .i64 fx, .int .i64 fy, .int .i64 fz, .int .i64 tx, .int .i64 ty, .int .i64 tz, .int .i64 r, .int .i64 m.tool, .int .i64 m.block] 49)) u16 (rLegs (x, y, z) (m.tx, m.ty, m.tz) safe r m k) := ((HOWN.out.later ((Ext.refl wr).alloc (.cells #[.int .i64 tx, .int .i64 ty, .int .i64 tz] 40))).later ((Ext.refl _).alloc (.cells #[.int .i64 fx, .int .i64 fy, .int .i64 fz, .int .i64 tx, .int .i64 ty, .int .i64 tz, .int .i64 r, .int .i64 m.tool, .int .i64 m.block] 49))).later ((Ext.refl _).alloc (.cells #[.int .i64 fx, .int .i64 fy, .int .i64 fz, .int .i64 tx, .int .i64 ty, .int .i64 tz, .int .i64 r, .int .i64 m.tool, .int .i64 m.block] 49))
                    have OW := Lib.hid own4; have LI := Lib.hid lit
                    have LE : Hid ((rLegs (x, y, z) (m.tx, m.ty, m.tz) safe r m k).length + [(⟨fx, fy, fz, tx, ty, tz, r, m.tool, m.block⟩ : Mot)].length ≤ 1000000000) := Lib.hid (by simp; omega)
                    have BA : Hid (W9.heap.size ≤ (((wr.alloc (.cells #[.int .i64 tx, .int .i64 ty, .int .i64 tz] 40)).alloc (.cells #[.int .i64 fx, .int .i64 fy, .int .i64 fz, .int .i64 tx, .int .i64 ty, .int .i64 tz, .int .i64 r, .int .i64 m.tool, .int .i64 m.block] 49)).alloc (.cells #[.int .i64 fx, .int .i64 fy, .int .i64 fz, .int .i64 tx, .int .i64 ty, .int .i64 tz, .int .i64 r, .int .i64 m.tool, .int .i64 m.block] 49)).heap.size) := Lib.hid (Nat.le_trans hsz (by simp; omega))
                    have HF2 : Hid (∀ v' W', OwnM W9.heap.size W' v' (rLegs (x, y, z) (m.tx, m.ty, m.tz) safe r m k ++ [(⟨fx, fy, fz, tx, ty, tz, r, m.tool, m.block⟩ : Mot)]) → (((wr.alloc (.cells #[.int .i64 tx, .int .i64 ty, .int .i64 tz] 40)).alloc (.cells #[.int .i64 fx, .int .i64 fy, .int .i64 fz, .int .i64 tx, .int .i64 ty, .int .i64 tz, .int .i64 r, .int .i64 m.tool, .int .i64 m.block] 49)).alloc (.cells #[.int .i64 fx, .int .i64 fy, .int .i64 fz, .int .i64 tx, .int .i64 ty, .int .i64 tz, .int .i64 r, .int .i64 m.tool, .int .i64 m.block] 49)).grownBy W' u16.ownBlock →
                        Hid (OwnM W9.heap.size (((W'.setCell ⟨w.heap.size, 0, none⟩ (.int .i64 tx)).setCell ⟨w.heap.size, 1, none⟩ (.int .i64 ty)).setCell ⟨w.heap.size, 2, none⟩ (.int .i64 tz)) v' (rLegs (x, y, z) (m.tx, m.ty, m.tz) safe r m k ++ [(⟨fx, fy, fz, tx, ty, tz, r, m.tool, m.block⟩ : Mot)])) ∧ Hid (P3Box (((W'.setCell ⟨w.heap.size, 0, none⟩ (.int .i64 tx)).setCell ⟨w.heap.size, 1, none⟩ (.int .i64 ty)).setCell ⟨w.heap.size, 2, none⟩ (.int .i64 tz)) w.heap.size tx ty tz) ∧ Hid (Only (fun b => b = w.heap.size) W9 (((W'.setCell ⟨w.heap.size, 0, none⟩ (.int .i64 tx)).setCell ⟨w.heap.size, 1, none⟩ (.int .i64 ty)).setCell ⟨w.heap.size, 2, none⟩ (.int .i64 tz))) ∧ W'.cell? ⟨wr.heap.size, 0, none⟩ = some (.int .i64 tx) ∧ W'.cell? ⟨wr.heap.size, 1, none⟩ = some (.int .i64 ty) ∧ W'.cell? ⟨wr.heap.size, 2, none⟩ = some (.int .i64 tz) ∧ W'.cell? ⟨w.heap.size, 0, none⟩ = some (.int .i64 fx) ∧ W'.cell? ⟨w.heap.size, 1, none⟩ = some (.int .i64 fy) ∧ W'.cell? ⟨w.heap.size, 2, none⟩ = some (.int .i64 fz) ∧ W'.frozen? ⟨w.heap.size, 0, none⟩ = false ∧ W'.frozen? ⟨w.heap.size, 1, none⟩ = false ∧ W'.frozen? ⟨w.heap.size, 2, none⟩ = false) := Lib.hid (fun v' W' own' gr' => by
                      obtain ⟨V1, hV1, PB, hE1⟩ := P3Box.mk' wr tx ty tz
                      rw [hV1] at gr'
                      have hE2 : Ext V1 ((V1.alloc (.cells #[.int .i64 fx, .int .i64 fy, .int .i64 fz, .int .i64 tx, .int .i64 ty, .int .i64 tz, .int .i64 r, .int .i64 m.tool, .int .i64 m.block] 49)).alloc (.cells #[.int .i64 fx, .int .i64 fy, .int .i64 fz, .int .i64 tx, .int .i64 ty, .int .i64 tz, .int .i64 r, .int .i64 m.tool, .int .i64 m.block] 49)) := ((Ext.refl V1).alloc _).alloc _
                      have hO4 := Only.of_grown gr'
                      have hO4' : Only (fun b => u16.ownBlock = some b) V1 W' := (Only.of_ext hE2).trans hO4
                      have hO4w : Only (fun b => u16.ownBlock = some b) wr W' := (Only.of_ext hE1).trans hO4'
                      have F5 := HFF.out.only hO4w (fun e => by have := hub _ e; omega)
                      have hul : ∀ b, u16.ownBlock = some b → b < wr.heap.size := fun b hb => HOWN.out.lt hb
                      have PB5 := PB.only hO4' (fun e => by have := hul _ e; omega)
                      obtain ⟨s0, s1, s2, -, -, -⟩ := PB5.at
                      obtain ⟨p0, p1, p2, y0, y1, y2⟩ := F5.at
                      have hO5 : Only (fun b => b = w.heap.size) W9 W' := hO.trans' hO4w (fun i hi e => by have := hub _ e; omega)
                      exact ⟨Lib.hid (own'.only ((Only.refl (fun b => b = w.heap.size) W').set3 (.inl rfl) _ _ _) (fun b hb e => by have := own'.base hb; omega)), Lib.hid (F5.put tx ty tz), Lib.hid (hO5.set3 (.inl rfl) _ _ _), s0, s1, s2, p0, p1, p2, y0, y1, y2⟩)
                    clear own4 lit p0 p1 p2 y0 y1 y2
                    go_wp2_with ((at_builtin; refine appM_at rfl _ _ rfl W9.heap.size _ _ (rLegs (x, y, z) (m.tx, m.ty, m.tz) safe r m k) [(⟨fx, fy, fz, tx, ty, tz, r, m.tool, m.block⟩ : Mot)] rfl rfl OW.out LI.out LE.out BA.out ?_; intro v5 W10 own5 gr5 lo5; obtain ⟨OW5', HF5, HO5, s0, s1, s2, p0, p1, p2, y0, y1, y2⟩ := HF2.out _ _ own5 gr5; clear own5 gr5 lo5 HF2 OW LI LE BA d0 d1 d2 l7 l8 t0 t1' t2'))
                    go_roundw
                    case rel => exact ⟨k + 1, by omega, by go_num, (by rw [HLEG.out]; rw [if_pos HK3.out]; exact OW5'.out), (by show P3Box _ _ (rPt (x, y, z) (m.tx, m.ty, m.tz) safe k).1 (rPt (x, y, z) (m.tx, m.ty, m.tz) safe k).2.1 (rPt (x, y, z) (m.tx, m.ty, m.tz) safe k).2.2; rw [HTP.out]; exact HF5.out), HO5.out⟩
                    case measure => simp [intOf]; omega
                  · have hk3' : ((k : Int) == 3) = false := by simp; omega
                    have lit : SlM (((wr.alloc (.cells #[.int .i64 tx, .int .i64 ty, .int .i64 tz] 40)).alloc (.cells #[.int .i64 fx, .int .i64 fy, .int .i64 fz, .int .i64 tx, .int .i64 ty, .int .i64 tz, .int .i64 0, .int .i64 m.tool, .int .i64 m.block] 49)).alloc (.cells #[.int .i64 fx, .int .i64 fy, .int .i64 fz, .int .i64 tx, .int .i64 ty, .int .i64 tz, .int .i64 0, .int .i64 m.tool, .int .i64 m.block] 49)) (.slice (some ⟨wr.heap.size + 1 + 1, 0, none⟩) 1 1) [(⟨fx, fy, fz, tx, ty, tz, 0, m.tool, m.block⟩ : Mot)] := by
                      obtain ⟨V4, hV4, B4, hE4⟩ := M9Box.mk' ((wr.alloc (.cells #[.int .i64 tx, .int .i64 ty, .int .i64 tz] 40)).alloc (.cells #[.int .i64 fx, .int .i64 fy, .int .i64 fz, .int .i64 tx, .int .i64 ty, .int .i64 tz, .int .i64 0, .int .i64 m.tool, .int .i64 m.block] 49)) ⟨fx, fy, fz, tx, ty, tz, 0, m.tool, m.block⟩
                      have := B4.sl1
                      rw [← hV4] at this
                      simpa using this
                    have own4 : OwnM W9.heap.size (((wr.alloc (.cells #[.int .i64 tx, .int .i64 ty, .int .i64 tz] 40)).alloc (.cells #[.int .i64 fx, .int .i64 fy, .int .i64 fz, .int .i64 tx, .int .i64 ty, .int .i64 tz, .int .i64 0, .int .i64 m.tool, .int .i64 m.block] 49)).alloc (.cells #[.int .i64 fx, .int .i64 fy, .int .i64 fz, .int .i64 tx, .int .i64 ty, .int .i64 tz, .int .i64 0, .int .i64 m.tool, .int .i64 m.block] 49)) u16 (rLegs (x, y, z) (m.tx, m.ty, m.tz) safe r m k) := ((HOWN.out.later ((Ext.refl wr).alloc (.cells #[.int .i64 tx, .int .i64 ty, .int .i64 tz] 40))).later ((Ext.refl _).alloc (.cells #[.int .i64 fx, .int .i64 fy, .int .i64 fz, .int .i64 tx, .int .i64 ty, .int .i64 tz, .int .i64 0, .int .i64 m.tool, .int .i64 m.block] 49))).later ((Ext.refl _).alloc (.cells #[.int .i64 fx, .int .i64 fy, .int .i64 fz, .int .i64 tx, .int .i64 ty, .int .i64 tz, .int .i64 0, .int .i64 m.tool, .int .i64 m.block] 49))
                    have OW := Lib.hid own4; have LI := Lib.hid lit
                    have LE : Hid ((rLegs (x, y, z) (m.tx, m.ty, m.tz) safe r m k).length + [(⟨fx, fy, fz, tx, ty, tz, 0, m.tool, m.block⟩ : Mot)].length ≤ 1000000000) := Lib.hid (by simp; omega)
                    have BA : Hid (W9.heap.size ≤ (((wr.alloc (.cells #[.int .i64 tx, .int .i64 ty, .int .i64 tz] 40)).alloc (.cells #[.int .i64 fx, .int .i64 fy, .int .i64 fz, .int .i64 tx, .int .i64 ty, .int .i64 tz, .int .i64 0, .int .i64 m.tool, .int .i64 m.block] 49)).alloc (.cells #[.int .i64 fx, .int .i64 fy, .int .i64 fz, .int .i64 tx, .int .i64 ty, .int .i64 tz, .int .i64 0, .int .i64 m.tool, .int .i64 m.block] 49)).heap.size) := Lib.hid (Nat.le_trans hsz (by simp; omega))
                    have HF2 : Hid (∀ v' W', OwnM W9.heap.size W' v' (rLegs (x, y, z) (m.tx, m.ty, m.tz) safe r m k ++ [(⟨fx, fy, fz, tx, ty, tz, 0, m.tool, m.block⟩ : Mot)]) → (((wr.alloc (.cells #[.int .i64 tx, .int .i64 ty, .int .i64 tz] 40)).alloc (.cells #[.int .i64 fx, .int .i64 fy, .int .i64 fz, .int .i64 tx, .int .i64 ty, .int .i64 tz, .int .i64 0, .int .i64 m.tool, .int .i64 m.block] 49)).alloc (.cells #[.int .i64 fx, .int .i64 fy, .int .i64 fz, .int .i64 tx, .int .i64 ty, .int .i64 tz, .int .i64 0, .int .i64 m.tool, .int .i64 m.block] 49)).grownBy W' u16.ownBlock →
                        Hid (OwnM W9.heap.size (((W'.setCell ⟨w.heap.size, 0, none⟩ (.int .i64 tx)).setCell ⟨w.heap.size, 1, none⟩ (.int .i64 ty)).setCell ⟨w.heap.size, 2, none⟩ (.int .i64 tz)) v' (rLegs (x, y, z) (m.tx, m.ty, m.tz) safe r m k ++ [(⟨fx, fy, fz, tx, ty, tz, 0, m.tool, m.block⟩ : Mot)])) ∧ Hid (P3Box (((W'.setCell ⟨w.heap.size, 0, none⟩ (.int .i64 tx)).setCell ⟨w.heap.size, 1, none⟩ (.int .i64 ty)).setCell ⟨w.heap.size, 2, none⟩ (.int .i64 tz)) w.heap.size tx ty tz) ∧ Hid (Only (fun b => b = w.heap.size) W9 (((W'.setCell ⟨w.heap.size, 0, none⟩ (.int .i64 tx)).setCell ⟨w.heap.size, 1, none⟩ (.int .i64 ty)).setCell ⟨w.heap.size, 2, none⟩ (.int .i64 tz))) ∧ W'.cell? ⟨wr.heap.size, 0, none⟩ = some (.int .i64 tx) ∧ W'.cell? ⟨wr.heap.size, 1, none⟩ = some (.int .i64 ty) ∧ W'.cell? ⟨wr.heap.size, 2, none⟩ = some (.int .i64 tz) ∧ W'.cell? ⟨w.heap.size, 0, none⟩ = some (.int .i64 fx) ∧ W'.cell? ⟨w.heap.size, 1, none⟩ = some (.int .i64 fy) ∧ W'.cell? ⟨w.heap.size, 2, none⟩ = some (.int .i64 fz) ∧ W'.frozen? ⟨w.heap.size, 0, none⟩ = false ∧ W'.frozen? ⟨w.heap.size, 1, none⟩ = false ∧ W'.frozen? ⟨w.heap.size, 2, none⟩ = false) := Lib.hid (fun v' W' own' gr' => by
                      obtain ⟨V1, hV1, PB, hE1⟩ := P3Box.mk' wr tx ty tz
                      rw [hV1] at gr'
                      have hE2 : Ext V1 ((V1.alloc (.cells #[.int .i64 fx, .int .i64 fy, .int .i64 fz, .int .i64 tx, .int .i64 ty, .int .i64 tz, .int .i64 0, .int .i64 m.tool, .int .i64 m.block] 49)).alloc (.cells #[.int .i64 fx, .int .i64 fy, .int .i64 fz, .int .i64 tx, .int .i64 ty, .int .i64 tz, .int .i64 0, .int .i64 m.tool, .int .i64 m.block] 49)) := ((Ext.refl V1).alloc _).alloc _
                      have hO4 := Only.of_grown gr'
                      have hO4' : Only (fun b => u16.ownBlock = some b) V1 W' := (Only.of_ext hE2).trans hO4
                      have hO4w : Only (fun b => u16.ownBlock = some b) wr W' := (Only.of_ext hE1).trans hO4'
                      have F5 := HFF.out.only hO4w (fun e => by have := hub _ e; omega)
                      have hul : ∀ b, u16.ownBlock = some b → b < wr.heap.size := fun b hb => HOWN.out.lt hb
                      have PB5 := PB.only hO4' (fun e => by have := hul _ e; omega)
                      obtain ⟨s0, s1, s2, -, -, -⟩ := PB5.at
                      obtain ⟨p0, p1, p2, y0, y1, y2⟩ := F5.at
                      have hO5 : Only (fun b => b = w.heap.size) W9 W' := hO.trans' hO4w (fun i hi e => by have := hub _ e; omega)
                      exact ⟨Lib.hid (own'.only ((Only.refl (fun b => b = w.heap.size) W').set3 (.inl rfl) _ _ _) (fun b hb e => by have := own'.base hb; omega)), Lib.hid (F5.put tx ty tz), Lib.hid (hO5.set3 (.inl rfl) _ _ _), s0, s1, s2, p0, p1, p2, y0, y1, y2⟩)
                    clear own4 lit p0 p1 p2 y0 y1 y2
                    go_wp2_with ((at_builtin; refine appM_at rfl _ _ rfl W9.heap.size _ _ (rLegs (x, y, z) (m.tx, m.ty, m.tz) safe r m k) [(⟨fx, fy, fz, tx, ty, tz, 0, m.tool, m.block⟩ : Mot)] rfl rfl OW.out LI.out LE.out BA.out ?_; intro v5 W10 own5 gr5 lo5; obtain ⟨OW5', HF5, HO5, s0, s1, s2, p0, p1, p2, y0, y1, y2⟩ := HF2.out _ _ own5 gr5; clear own5 gr5 lo5 HF2 OW LI LE BA d0 d1 d2 l7 l8 t0 t1' t2'))
                    go_roundw
                    case rel => exact ⟨k + 1, by omega, by go_num, (by rw [HLEG.out]; rw [if_neg hk3]; exact OW5'.out), (by show P3Box _ _ (rPt (x, y, z) (m.tx, m.ty, m.tz) safe k).1 (rPt (x, y, z) (m.tx, m.ty, m.tz) safe k).2.1 (rPt (x, y, z) (m.tx, m.ty, m.tz) safe k).2.2; rw [HTP.out]; exact HF5.out), HO5.out⟩
                    case measure => simp [intOf]; omega
              · have hlt' : decide ((k : Int) < 4) = false := by simp; omega
                obtain rfl : k = 4 := by omega
                have hR := HR9.out.only hO (fun b hb e => HVF.out (by rw [hb, e]))
                obtain ⟨a11, n11, c11, b11, o11, hv11, -⟩ := id hR
                have OW := Lib.hid hown; have LI := Lib.hid hR
                have LE : Hid ((rLegs (x, y, z) (m.tx, m.ty, m.tz) safe r m 4).length + (l.drop (q + 1)).length ≤ 1000000000) := Lib.hid (by omega)
                have BA := Lib.hid hsz
                have hE9' : Ext w wr := HE9.out.only hO (fun i hi e => by omega)
                have hub : ∀ b, u16.ownBlock = some b → W9.heap.size ≤ b := fun b hb => hown.base hb
                have hw9 := HE9.out.size
                have HF3 : Hid (∀ v' W', OwnM W9.heap.size W' v' (rLegs (x, y, z) (m.tx, m.ty, m.tz) safe r m 4 ++ l.drop (q + 1)) → wr.grownBy W' u16.ownBlock → Hid (OwnM W9.heap.size W' v' (rLegs (x, y, z) (m.tx, m.ty, m.tz) safe r m 4 ++ l.drop (q + 1))) ∧ Hid (Ext w W')) := Lib.hid (fun v' W' own' gr' => ⟨Lib.hid own', Lib.hid (ext_grown hE9' gr' (fun k hk => by have := hub k hk; omega))⟩)
                clear hown hR hF hub hE9'
                go_wp2_with ((at_builtin; refine appM_at rfl _ _ rfl W9.heap.size _ _ (rLegs (x, y, z) (m.tx, m.ty, m.tz) safe r m 4) (l.drop (q + 1)) rfl rfl OW.out LI.out LE.out BA.out ?_; intro v5 W10 own5 gr5 lo5; obtain ⟨OW5', HEE⟩ := HF3.out _ _ own5 gr5; clear own5 gr5 lo5 HF3 OW LI LE BA))
                obtain ⟨a12, n12, c12, hv12⟩ := OW5'.out.form
                subst hv12
                go_ret2
                exact ⟨_, rfl, OW5'.out.sl, OW5'.out.fre (by omega), HEE.out⟩
          · have t1 : decide (m.tz < 1000) = false := by simpa using hb0
            have hmz : (if m.tz < 1000 then (1000 : Int) else m.tz) = m.tz := by rw [if_neg hb0]
            clear h13
            go_wp2_with fail
            obtain ⟨W9, hW9, T9, hE9⟩ := TBox.mk' w7 x y z m.tx m.ty m.tz safe m.tz hmz
            rw [hW9]; clear hW9
            have P9 := P7.later hE9; have M9 := M7.later hE9
            have hA9 : w7.heap.size < W9.heap.size := T9.1
            have hA0 : w.heap.size + 1 + 1 < w7.heap.size := M7.lt
            have HE9 := Lib.hid (hE7.trans hE9)
            have HR9 := Lib.hid (OW7.out.sl.later hE9)
            have hvF : v7.ownBlock ≠ some w.heap.size := fun e => by have := OW7.out.base e; omega
            have HVF := Lib.hid hvF
            clear p0 p1 p2 q0 q1 q2 P7 Q7 M7 hvF hE9
            generalize w7.heap.size = bT at *
            have hLL : (rLegs (x, y, z) (m.tx, m.ty, m.tz) safe r m 4).length ≤ 4 := rLegs_len _ _ _ _ _ 4
            go_loopw [16, 124] (fun u t wr => ∃ k : Nat, k ≤ 4 ∧ t = .int .i64 k ∧ OwnM W9.heap.size wr u (rLegs (x, y, z) (m.tx, m.ty, m.tz) safe r m k) ∧ P3Box wr w.heap.size (rFrom (x, y, z) (m.tx, m.ty, m.tz) safe k).1 (rFrom (x, y, z) (m.tx, m.ty, m.tz) safe k).2.1 (rFrom (x, y, z) (m.tx, m.ty, m.tz) safe k).2.2 ∧ Only (fun b => b = w.heap.size) W9 wr) (fun _ t _ => 4 - (intOf t).toNat)
            case atStart => exact ⟨0, by omega, rfl, OwnM.nil _ _, P9, Only.refl _ _⟩
            case round =>
              clear P9
              obtain ⟨k, hk, rfl, hown, hF, hO⟩ := hrel
              have hsz := hO.size
              by_cases hlt : k < 4
              · have hlt' : decide ((k : Int) < 4) = true := by simp; omega
                have hTk := T9.only hO (by omega)
                obtain ⟨t0, t1', t2'⟩ := hTk.2 k hlt
                have hleg : rLegs (x, y, z) (m.tx, m.ty, m.tz) safe r m (k + 1) = rLegs (x, y, z) (m.tx, m.ty, m.tz) safe r m k ++ (if eq3 (rFrom (x, y, z) (m.tx, m.ty, m.tz) safe k) (rPt (x, y, z) (m.tx, m.ty, m.tz) safe k) = true then [] else [rMot (x, y, z) (m.tx, m.ty, m.tz) safe r m k]) := rfl
                have hlk2 := rLegs_len (x, y, z) (m.tx, m.ty, m.tz) safe r m k
                unfold rMot at hleg
                obtain ⟨tp, htp⟩ : ∃ tp, rPt (x, y, z) (m.tx, m.ty, m.tz) safe k = tp := ⟨_, rfl⟩
                obtain ⟨fp, hfp⟩ : ∃ fp, rFrom (x, y, z) (m.tx, m.ty, m.tz) safe k = fp := ⟨_, rfl⟩
                rw [htp] at t0 t1' t2' hleg
                rw [hfp] at hF hleg
                have HTP := Lib.hid htp
                clear htp hfp
                obtain ⟨tx, ty, tz⟩ := tp
                obtain ⟨fx, fy, fz⟩ := fp
                simp only at t0 t1' t2' hF hleg
                have heq3 : eq3 (fx, fy, fz) (tx, ty, tz) = eqP fx fy fz tx ty tz := rfl
                rw [heq3] at hleg
                clear heq3
                have hne := fun w => Tryd.neq_pos fx fy fz tx ty tz w
                have Mk := M9.only hO (by omega)
                have hFlt : w.heap.size < wr.heap.size := hF.lt
                have hMlt : w.heap.size + 1 + 1 < wr.heap.size := Mk.lt
                obtain ⟨p0, p1, p2, y0, y1, y2⟩ := hF.at
                have d0 : ∀ o, (wr.alloc o).cell? ⟨w.heap.size, 0, none⟩ = some (.int .i64 fx) := fun o => by rw [World.cell?_alloc_lt _ _ _ hFlt]; exact p0
                have d1 : ∀ o, (wr.alloc o).cell? ⟨w.heap.size, 1, none⟩ = some (.int .i64 fy) := fun o => by rw [World.cell?_alloc_lt _ _ _ hFlt]; exact p1
                have d2 : ∀ o, (wr.alloc o).cell? ⟨w.heap.size, 2, none⟩ = some (.int .i64 fz) := fun o => by rw [World.cell?_alloc_lt _ _ _ hFlt]; exact p2
                have l7 : ∀ o, (wr.alloc o).cell? ⟨w.heap.size + 1 + 1, 7, none⟩ = some (.int .i64 m.tool) := fun o => by rw [World.cell?_alloc_lt _ _ _ hMlt]; exact Mk.c7
                have l8 : ∀ o, (wr.alloc o).cell? ⟨w.heap.size + 1 + 1, 8, none⟩ = some (.int .i64 m.block) := fun o => by rw [World.cell?_alloc_lt _ _ _ hMlt]; exact Mk.c8
                have HOWN := Lib.hid hown; have HFF := Lib.hid hF; have HTK := Lib.hid hTk; have HLEG := Lib.hid hleg
                clear hown hF hTk hleg Mk
                have hub : ∀ b, u16.ownBlock = some b → W9.heap.size ≤ b := fun b hb => HOWN.out.base hb
                cases hev : eqP fx fy fz tx ty tz
                case true =>
                  rw [hev] at hne
                  rw [hev] at HLEG
                  rw [if_pos rfl, List.append_nil] at HLEG
                  have F4 := HFF.out.put tx ty tz
                  have hO4 : Only (fun b => b = w.heap.size) wr (((wr.setCell ⟨w.heap.size, 0, none⟩ (.int .i64 tx)).setCell ⟨w.heap.size, 1, none⟩ (.int .i64 ty)).setCell ⟨w.heap.size, 2, none⟩ (.int .i64 tz)) := (Only.refl (fun b => b = w.heap.size) wr).set3 (.inl rfl) _ _ _
                  have own4 := HOWN.out.only hO4 (fun b hb e => by have := hub b hb; omega)
                  have HO4 : Hid (∀ o o2, Only (fun b => b = w.heap.size) W9 (((((wr.setCell ⟨w.heap.size, 0, none⟩ (.int .i64 tx)).setCell ⟨w.heap.size, 1, none⟩ (.int .i64 ty)).setCell ⟨w.heap.size, 2, none⟩ (.int .i64 tz)).alloc o).alloc o2)) := Lib.hid (fun o o2 => ((hO.trans hO4).alloc o).alloc o2)
                  have HF4 : Hid (∀ o o2, P3Box (((((wr.setCell ⟨w.heap.size, 0, none⟩ (.int .i64 tx)).setCell ⟨w.heap.size, 1, none⟩ (.int .i64 ty)).setCell ⟨w.heap.size, 2, none⟩ (.int .i64 tz)).alloc o).alloc o2) w.heap.size tx ty tz) := Lib.hid (fun o o2 => F4.later (((Ext.refl _).alloc o).alloc o2))
                  have OW4 : Hid (∀ o o2, OwnM W9.heap.size (((((wr.setCell ⟨w.heap.size, 0, none⟩ (.int .i64 tx)).setCell ⟨w.heap.size, 1, none⟩ (.int .i64 ty)).setCell ⟨w.heap.size, 2, none⟩ (.int .i64 tz)).alloc o).alloc o2) u16 (rLegs (x, y, z) (m.tx, m.ty, m.tz) safe r m k)) := Lib.hid (fun o o2 => own4.later (((Ext.refl _).alloc o).alloc o2))
                  clear F4 hO4 own4 hub
                  by_cases hk3 : k = 3
                  · have hk3' : ((k : Int) == 3) = true := by simp; omega
                    have HK3 := Lib.hid hk3; clear hk3
                    go_wp2
                    go_roundw
                    case rel => exact ⟨k + 1, by omega, by go_num, (by rw [HLEG.out]; exact OW4.out _ _), (by show P3Box _ _ (rPt (x, y, z) (m.tx, m.ty, m.tz) safe k).1 (rPt (x, y, z) (m.tx, m.ty, m.tz) safe k).2.1 (rPt (x, y, z) (m.tx, m.ty, m.tz) safe k).2.2; rw [HTP.out]; exact HF4.out _ _), HO4.out _ _⟩
                    case measure => simp [intOf]; omega
                  · have hk3' : ((k : Int) == 3) = false := by simp; omega
                    go_wp2
                    go_roundw
                    case rel => exact ⟨k + 1, by omega, by go_num, (by rw [HLEG.out]; exact OW4.out _ _), (by show P3Box _ _ (rPt (x, y, z) (m.tx, m.ty, m.tz) safe k).1 (rPt (x, y, z) (m.tx, m.ty, m.tz) safe k).2.1 (rPt (x, y, z) (m.tx, m.ty, m.tz) safe k).2.2; rw [HTP.out]; exact HF4.out _ _), HO4.out _ _⟩
                    case measure => simp [intOf]; omega
                case false =>
                  rw [hev] at hne
                  rw [hev] at HLEG
                  rw [if_neg (by decide)] at HLEG
                  by_cases hk3 : k = 3
                  · have hk3' : ((k : Int) == 3) = true := by simp; omega
                    have HK3 := Lib.hid hk3; clear hk3
                    have lit : SlM (((wr.alloc (.cells #[.int .i64 tx, .int .i64 ty, .int .i64 tz] 40)).alloc (.cells #[.int .i64 fx, .int .i64 fy, .int .i64 fz, .int .i64 tx, .int .i64 ty, .int .i64 tz, .int .i64 r, .int .i64 m.tool, .int .i64 m.block] 49)).alloc (.cells #[.int .i64 fx, .int .i64 fy, .int .i64 fz, .int .i64 tx, .int .i64 ty, .int .i64 tz, .int .i64 r, .int .i64 m.tool, .int .i64 m.block] 49)) (.slice (some ⟨wr.heap.size + 1 + 1, 0, none⟩) 1 1) [(⟨fx, fy, fz, tx, ty, tz, r, m.tool, m.block⟩ : Mot)] := by
                      obtain ⟨V4, hV4, B4, hE4⟩ := M9Box.mk' ((wr.alloc (.cells #[.int .i64 tx, .int .i64 ty, .int .i64 tz] 40)).alloc (.cells #[.int .i64 fx, .int .i64 fy, .int .i64 fz, .int .i64 tx, .int .i64 ty, .int .i64 tz, .int .i64 r, .int .i64 m.tool, .int .i64 m.block] 49)) ⟨fx, fy, fz, tx, ty, tz, r, m.tool, m.block⟩
                      have := B4.sl1
                      rw [← hV4] at this
                      simpa using this
                    have own4 : OwnM W9.heap.size (((wr.alloc (.cells #[.int .i64 tx, .int .i64 ty, .int .i64 tz] 40)).alloc (.cells #[.int .i64 fx, .int .i64 fy, .int .i64 fz, .int .i64 tx, .int .i64 ty, .int .i64 tz, .int .i64 r, .int .i64 m.tool, .int .i64 m.block] 49)).alloc (.cells #[.int .i64 fx, .int .i64 fy, .int .i64 fz, .int .i64 tx, .int .i64 ty, .int .i64 tz, .int .i64 r, .int .i64 m.tool, .int .i64 m.block] 49)) u16 (rLegs (x, y, z) (m.tx, m.ty, m.tz) safe r m k) := ((HOWN.out.later ((Ext.refl wr).alloc (.cells #[.int .i64 tx, .int .i64 ty, .int .i64 tz] 40))).later ((Ext.refl _).alloc (.cells #[.int .i64 fx, .int .i64 fy, .int .i64 fz, .int .i64 tx, .int .i64 ty, .int .i64 tz, .int .i64 r, .int .i64 m.tool, .int .i64 m.block] 49))).later ((Ext.refl _).alloc (.cells #[.int .i64 fx, .int .i64 fy, .int .i64 fz, .int .i64 tx, .int .i64 ty, .int .i64 tz, .int .i64 r, .int .i64 m.tool, .int .i64 m.block] 49))
                    have OW := Lib.hid own4; have LI := Lib.hid lit
                    have LE : Hid ((rLegs (x, y, z) (m.tx, m.ty, m.tz) safe r m k).length + [(⟨fx, fy, fz, tx, ty, tz, r, m.tool, m.block⟩ : Mot)].length ≤ 1000000000) := Lib.hid (by simp; omega)
                    have BA : Hid (W9.heap.size ≤ (((wr.alloc (.cells #[.int .i64 tx, .int .i64 ty, .int .i64 tz] 40)).alloc (.cells #[.int .i64 fx, .int .i64 fy, .int .i64 fz, .int .i64 tx, .int .i64 ty, .int .i64 tz, .int .i64 r, .int .i64 m.tool, .int .i64 m.block] 49)).alloc (.cells #[.int .i64 fx, .int .i64 fy, .int .i64 fz, .int .i64 tx, .int .i64 ty, .int .i64 tz, .int .i64 r, .int .i64 m.tool, .int .i64 m.block] 49)).heap.size) := Lib.hid (Nat.le_trans hsz (by simp; omega))
                    have HF2 : Hid (∀ v' W', OwnM W9.heap.size W' v' (rLegs (x, y, z) (m.tx, m.ty, m.tz) safe r m k ++ [(⟨fx, fy, fz, tx, ty, tz, r, m.tool, m.block⟩ : Mot)]) → (((wr.alloc (.cells #[.int .i64 tx, .int .i64 ty, .int .i64 tz] 40)).alloc (.cells #[.int .i64 fx, .int .i64 fy, .int .i64 fz, .int .i64 tx, .int .i64 ty, .int .i64 tz, .int .i64 r, .int .i64 m.tool, .int .i64 m.block] 49)).alloc (.cells #[.int .i64 fx, .int .i64 fy, .int .i64 fz, .int .i64 tx, .int .i64 ty, .int .i64 tz, .int .i64 r, .int .i64 m.tool, .int .i64 m.block] 49)).grownBy W' u16.ownBlock →
                        Hid (OwnM W9.heap.size (((W'.setCell ⟨w.heap.size, 0, none⟩ (.int .i64 tx)).setCell ⟨w.heap.size, 1, none⟩ (.int .i64 ty)).setCell ⟨w.heap.size, 2, none⟩ (.int .i64 tz)) v' (rLegs (x, y, z) (m.tx, m.ty, m.tz) safe r m k ++ [(⟨fx, fy, fz, tx, ty, tz, r, m.tool, m.block⟩ : Mot)])) ∧ Hid (P3Box (((W'.setCell ⟨w.heap.size, 0, none⟩ (.int .i64 tx)).setCell ⟨w.heap.size, 1, none⟩ (.int .i64 ty)).setCell ⟨w.heap.size, 2, none⟩ (.int .i64 tz)) w.heap.size tx ty tz) ∧ Hid (Only (fun b => b = w.heap.size) W9 (((W'.setCell ⟨w.heap.size, 0, none⟩ (.int .i64 tx)).setCell ⟨w.heap.size, 1, none⟩ (.int .i64 ty)).setCell ⟨w.heap.size, 2, none⟩ (.int .i64 tz))) ∧ W'.cell? ⟨wr.heap.size, 0, none⟩ = some (.int .i64 tx) ∧ W'.cell? ⟨wr.heap.size, 1, none⟩ = some (.int .i64 ty) ∧ W'.cell? ⟨wr.heap.size, 2, none⟩ = some (.int .i64 tz) ∧ W'.cell? ⟨w.heap.size, 0, none⟩ = some (.int .i64 fx) ∧ W'.cell? ⟨w.heap.size, 1, none⟩ = some (.int .i64 fy) ∧ W'.cell? ⟨w.heap.size, 2, none⟩ = some (.int .i64 fz) ∧ W'.frozen? ⟨w.heap.size, 0, none⟩ = false ∧ W'.frozen? ⟨w.heap.size, 1, none⟩ = false ∧ W'.frozen? ⟨w.heap.size, 2, none⟩ = false) := Lib.hid (fun v' W' own' gr' => by
                      obtain ⟨V1, hV1, PB, hE1⟩ := P3Box.mk' wr tx ty tz
                      rw [hV1] at gr'
                      have hE2 : Ext V1 ((V1.alloc (.cells #[.int .i64 fx, .int .i64 fy, .int .i64 fz, .int .i64 tx, .int .i64 ty, .int .i64 tz, .int .i64 r, .int .i64 m.tool, .int .i64 m.block] 49)).alloc (.cells #[.int .i64 fx, .int .i64 fy, .int .i64 fz, .int .i64 tx, .int .i64 ty, .int .i64 tz, .int .i64 r, .int .i64 m.tool, .int .i64 m.block] 49)) := ((Ext.refl V1).alloc _).alloc _
                      have hO4 := Only.of_grown gr'
                      have hO4' : Only (fun b => u16.ownBlock = some b) V1 W' := (Only.of_ext hE2).trans hO4
                      have hO4w : Only (fun b => u16.ownBlock = some b) wr W' := (Only.of_ext hE1).trans hO4'
                      have F5 := HFF.out.only hO4w (fun e => by have := hub _ e; omega)
                      have hul : ∀ b, u16.ownBlock = some b → b < wr.heap.size := fun b hb => HOWN.out.lt hb
                      have PB5 := PB.only hO4' (fun e => by have := hul _ e; omega)
                      obtain ⟨s0, s1, s2, -, -, -⟩ := PB5.at
                      obtain ⟨p0, p1, p2, y0, y1, y2⟩ := F5.at
                      have hO5 : Only (fun b => b = w.heap.size) W9 W' := hO.trans' hO4w (fun i hi e => by have := hub _ e; omega)
                      exact ⟨Lib.hid (own'.only ((Only.refl (fun b => b = w.heap.size) W').set3 (.inl rfl) _ _ _) (fun b hb e => by have := own'.base hb; omega)), Lib.hid (F5.put tx ty tz), Lib.hid (hO5.set3 (.inl rfl) _ _ _), s0, s1, s2, p0, p1, p2, y0, y1, y2⟩)
                    clear own4 lit p0 p1 p2 y0 y1 y2
                    go_wp2_with ((at_builtin; refine appM_at rfl _ _ rfl W9.heap.size _ _ (rLegs (x, y, z) (m.tx, m.ty, m.tz) safe r m k) [(⟨fx, fy, fz, tx, ty, tz, r, m.tool, m.block⟩ : Mot)] rfl rfl OW.out LI.out LE.out BA.out ?_; intro v5 W10 own5 gr5 lo5; obtain ⟨OW5', HF5, HO5, s0, s1, s2, p0, p1, p2, y0, y1, y2⟩ := HF2.out _ _ own5 gr5; clear own5 gr5 lo5 HF2 OW LI LE BA d0 d1 d2 l7 l8 t0 t1' t2'))
                    go_roundw
                    case rel => exact ⟨k + 1, by omega, by go_num, (by rw [HLEG.out]; rw [if_pos HK3.out]; exact OW5'.out), (by show P3Box _ _ (rPt (x, y, z) (m.tx, m.ty, m.tz) safe k).1 (rPt (x, y, z) (m.tx, m.ty, m.tz) safe k).2.1 (rPt (x, y, z) (m.tx, m.ty, m.tz) safe k).2.2; rw [HTP.out]; exact HF5.out), HO5.out⟩
                    case measure => simp [intOf]; omega
                  · have hk3' : ((k : Int) == 3) = false := by simp; omega
                    have lit : SlM (((wr.alloc (.cells #[.int .i64 tx, .int .i64 ty, .int .i64 tz] 40)).alloc (.cells #[.int .i64 fx, .int .i64 fy, .int .i64 fz, .int .i64 tx, .int .i64 ty, .int .i64 tz, .int .i64 0, .int .i64 m.tool, .int .i64 m.block] 49)).alloc (.cells #[.int .i64 fx, .int .i64 fy, .int .i64 fz, .int .i64 tx, .int .i64 ty, .int .i64 tz, .int .i64 0, .int .i64 m.tool, .int .i64 m.block] 49)) (.slice (some ⟨wr.heap.size + 1 + 1, 0, none⟩) 1 1) [(⟨fx, fy, fz, tx, ty, tz, 0, m.tool, m.block⟩ : Mot)] := by
                      obtain ⟨V4, hV4, B4, hE4⟩ := M9Box.mk' ((wr.alloc (.cells #[.int .i64 tx, .int .i64 ty, .int .i64 tz] 40)).alloc (.cells #[.int .i64 fx, .int .i64 fy, .int .i64 fz, .int .i64 tx, .int .i64 ty, .int .i64 tz, .int .i64 0, .int .i64 m.tool, .int .i64 m.block] 49)) ⟨fx, fy, fz, tx, ty, tz, 0, m.tool, m.block⟩
                      have := B4.sl1
                      rw [← hV4] at this
                      simpa using this
                    have own4 : OwnM W9.heap.size (((wr.alloc (.cells #[.int .i64 tx, .int .i64 ty, .int .i64 tz] 40)).alloc (.cells #[.int .i64 fx, .int .i64 fy, .int .i64 fz, .int .i64 tx, .int .i64 ty, .int .i64 tz, .int .i64 0, .int .i64 m.tool, .int .i64 m.block] 49)).alloc (.cells #[.int .i64 fx, .int .i64 fy, .int .i64 fz, .int .i64 tx, .int .i64 ty, .int .i64 tz, .int .i64 0, .int .i64 m.tool, .int .i64 m.block] 49)) u16 (rLegs (x, y, z) (m.tx, m.ty, m.tz) safe r m k) := ((HOWN.out.later ((Ext.refl wr).alloc (.cells #[.int .i64 tx, .int .i64 ty, .int .i64 tz] 40))).later ((Ext.refl _).alloc (.cells #[.int .i64 fx, .int .i64 fy, .int .i64 fz, .int .i64 tx, .int .i64 ty, .int .i64 tz, .int .i64 0, .int .i64 m.tool, .int .i64 m.block] 49))).later ((Ext.refl _).alloc (.cells #[.int .i64 fx, .int .i64 fy, .int .i64 fz, .int .i64 tx, .int .i64 ty, .int .i64 tz, .int .i64 0, .int .i64 m.tool, .int .i64 m.block] 49))
                    have OW := Lib.hid own4; have LI := Lib.hid lit
                    have LE : Hid ((rLegs (x, y, z) (m.tx, m.ty, m.tz) safe r m k).length + [(⟨fx, fy, fz, tx, ty, tz, 0, m.tool, m.block⟩ : Mot)].length ≤ 1000000000) := Lib.hid (by simp; omega)
                    have BA : Hid (W9.heap.size ≤ (((wr.alloc (.cells #[.int .i64 tx, .int .i64 ty, .int .i64 tz] 40)).alloc (.cells #[.int .i64 fx, .int .i64 fy, .int .i64 fz, .int .i64 tx, .int .i64 ty, .int .i64 tz, .int .i64 0, .int .i64 m.tool, .int .i64 m.block] 49)).alloc (.cells #[.int .i64 fx, .int .i64 fy, .int .i64 fz, .int .i64 tx, .int .i64 ty, .int .i64 tz, .int .i64 0, .int .i64 m.tool, .int .i64 m.block] 49)).heap.size) := Lib.hid (Nat.le_trans hsz (by simp; omega))
                    have HF2 : Hid (∀ v' W', OwnM W9.heap.size W' v' (rLegs (x, y, z) (m.tx, m.ty, m.tz) safe r m k ++ [(⟨fx, fy, fz, tx, ty, tz, 0, m.tool, m.block⟩ : Mot)]) → (((wr.alloc (.cells #[.int .i64 tx, .int .i64 ty, .int .i64 tz] 40)).alloc (.cells #[.int .i64 fx, .int .i64 fy, .int .i64 fz, .int .i64 tx, .int .i64 ty, .int .i64 tz, .int .i64 0, .int .i64 m.tool, .int .i64 m.block] 49)).alloc (.cells #[.int .i64 fx, .int .i64 fy, .int .i64 fz, .int .i64 tx, .int .i64 ty, .int .i64 tz, .int .i64 0, .int .i64 m.tool, .int .i64 m.block] 49)).grownBy W' u16.ownBlock →
                        Hid (OwnM W9.heap.size (((W'.setCell ⟨w.heap.size, 0, none⟩ (.int .i64 tx)).setCell ⟨w.heap.size, 1, none⟩ (.int .i64 ty)).setCell ⟨w.heap.size, 2, none⟩ (.int .i64 tz)) v' (rLegs (x, y, z) (m.tx, m.ty, m.tz) safe r m k ++ [(⟨fx, fy, fz, tx, ty, tz, 0, m.tool, m.block⟩ : Mot)])) ∧ Hid (P3Box (((W'.setCell ⟨w.heap.size, 0, none⟩ (.int .i64 tx)).setCell ⟨w.heap.size, 1, none⟩ (.int .i64 ty)).setCell ⟨w.heap.size, 2, none⟩ (.int .i64 tz)) w.heap.size tx ty tz) ∧ Hid (Only (fun b => b = w.heap.size) W9 (((W'.setCell ⟨w.heap.size, 0, none⟩ (.int .i64 tx)).setCell ⟨w.heap.size, 1, none⟩ (.int .i64 ty)).setCell ⟨w.heap.size, 2, none⟩ (.int .i64 tz))) ∧ W'.cell? ⟨wr.heap.size, 0, none⟩ = some (.int .i64 tx) ∧ W'.cell? ⟨wr.heap.size, 1, none⟩ = some (.int .i64 ty) ∧ W'.cell? ⟨wr.heap.size, 2, none⟩ = some (.int .i64 tz) ∧ W'.cell? ⟨w.heap.size, 0, none⟩ = some (.int .i64 fx) ∧ W'.cell? ⟨w.heap.size, 1, none⟩ = some (.int .i64 fy) ∧ W'.cell? ⟨w.heap.size, 2, none⟩ = some (.int .i64 fz) ∧ W'.frozen? ⟨w.heap.size, 0, none⟩ = false ∧ W'.frozen? ⟨w.heap.size, 1, none⟩ = false ∧ W'.frozen? ⟨w.heap.size, 2, none⟩ = false) := Lib.hid (fun v' W' own' gr' => by
                      obtain ⟨V1, hV1, PB, hE1⟩ := P3Box.mk' wr tx ty tz
                      rw [hV1] at gr'
                      have hE2 : Ext V1 ((V1.alloc (.cells #[.int .i64 fx, .int .i64 fy, .int .i64 fz, .int .i64 tx, .int .i64 ty, .int .i64 tz, .int .i64 0, .int .i64 m.tool, .int .i64 m.block] 49)).alloc (.cells #[.int .i64 fx, .int .i64 fy, .int .i64 fz, .int .i64 tx, .int .i64 ty, .int .i64 tz, .int .i64 0, .int .i64 m.tool, .int .i64 m.block] 49)) := ((Ext.refl V1).alloc _).alloc _
                      have hO4 := Only.of_grown gr'
                      have hO4' : Only (fun b => u16.ownBlock = some b) V1 W' := (Only.of_ext hE2).trans hO4
                      have hO4w : Only (fun b => u16.ownBlock = some b) wr W' := (Only.of_ext hE1).trans hO4'
                      have F5 := HFF.out.only hO4w (fun e => by have := hub _ e; omega)
                      have hul : ∀ b, u16.ownBlock = some b → b < wr.heap.size := fun b hb => HOWN.out.lt hb
                      have PB5 := PB.only hO4' (fun e => by have := hul _ e; omega)
                      obtain ⟨s0, s1, s2, -, -, -⟩ := PB5.at
                      obtain ⟨p0, p1, p2, y0, y1, y2⟩ := F5.at
                      have hO5 : Only (fun b => b = w.heap.size) W9 W' := hO.trans' hO4w (fun i hi e => by have := hub _ e; omega)
                      exact ⟨Lib.hid (own'.only ((Only.refl (fun b => b = w.heap.size) W').set3 (.inl rfl) _ _ _) (fun b hb e => by have := own'.base hb; omega)), Lib.hid (F5.put tx ty tz), Lib.hid (hO5.set3 (.inl rfl) _ _ _), s0, s1, s2, p0, p1, p2, y0, y1, y2⟩)
                    clear own4 lit p0 p1 p2 y0 y1 y2
                    go_wp2_with ((at_builtin; refine appM_at rfl _ _ rfl W9.heap.size _ _ (rLegs (x, y, z) (m.tx, m.ty, m.tz) safe r m k) [(⟨fx, fy, fz, tx, ty, tz, 0, m.tool, m.block⟩ : Mot)] rfl rfl OW.out LI.out LE.out BA.out ?_; intro v5 W10 own5 gr5 lo5; obtain ⟨OW5', HF5, HO5, s0, s1, s2, p0, p1, p2, y0, y1, y2⟩ := HF2.out _ _ own5 gr5; clear own5 gr5 lo5 HF2 OW LI LE BA d0 d1 d2 l7 l8 t0 t1' t2'))
                    go_roundw
                    case rel => exact ⟨k + 1, by omega, by go_num, (by rw [HLEG.out]; rw [if_neg hk3]; exact OW5'.out), (by show P3Box _ _ (rPt (x, y, z) (m.tx, m.ty, m.tz) safe k).1 (rPt (x, y, z) (m.tx, m.ty, m.tz) safe k).2.1 (rPt (x, y, z) (m.tx, m.ty, m.tz) safe k).2.2; rw [HTP.out]; exact HF5.out), HO5.out⟩
                    case measure => simp [intOf]; omega
              · have hlt' : decide ((k : Int) < 4) = false := by simp; omega
                obtain rfl : k = 4 := by omega
                have hR := HR9.out.only hO (fun b hb e => HVF.out (by rw [hb, e]))
                obtain ⟨a11, n11, c11, b11, o11, hv11, -⟩ := id hR
                have OW := Lib.hid hown; have LI := Lib.hid hR
                have LE : Hid ((rLegs (x, y, z) (m.tx, m.ty, m.tz) safe r m 4).length + (l.drop (q + 1)).length ≤ 1000000000) := Lib.hid (by omega)
                have BA := Lib.hid hsz
                have hE9' : Ext w wr := HE9.out.only hO (fun i hi e => by omega)
                have hub : ∀ b, u16.ownBlock = some b → W9.heap.size ≤ b := fun b hb => hown.base hb
                have hw9 := HE9.out.size
                have HF3 : Hid (∀ v' W', OwnM W9.heap.size W' v' (rLegs (x, y, z) (m.tx, m.ty, m.tz) safe r m 4 ++ l.drop (q + 1)) → wr.grownBy W' u16.ownBlock → Hid (OwnM W9.heap.size W' v' (rLegs (x, y, z) (m.tx, m.ty, m.tz) safe r m 4 ++ l.drop (q + 1))) ∧ Hid (Ext w W')) := Lib.hid (fun v' W' own' gr' => ⟨Lib.hid own', Lib.hid (ext_grown hE9' gr' (fun k hk => by have := hub k hk; omega))⟩)
                clear hown hR hF hub hE9'
                go_wp2_with ((at_builtin; refine appM_at rfl _ _ rfl W9.heap.size _ _ (rLegs (x, y, z) (m.tx, m.ty, m.tz) safe r m 4) (l.drop (q + 1)) rfl rfl OW.out LI.out LE.out BA.out ?_; intro v5 W10 own5 gr5 lo5; obtain ⟨OW5', HEE⟩ := HF3.out _ _ own5 gr5; clear own5 gr5 lo5 HF3 OW LI LE BA))
                obtain ⟨a12, n12, c12, hv12⟩ := OW5'.out.form
                subst hv12
                go_ret2
                exact ⟨_, rfl, OW5'.out.sl, OW5'.out.fre (by omega), HEE.out⟩
      | succ k =>
        have hkk : ((k + 1 : Nat) : Int) - 1 = (k : Int) := by omega
        rw [hkk]
        clear hkk
        by_cases hr0 : r = 0
        · obtain ⟨_, h2⟩ := HR.out.resolve_right (fun h => h.1 hr0)
          clear HR
          subst hr0
          obtain ⟨a4, n4, c4, b4, o4, hv4, hn4, h34, -, h44⟩ := HS.out.later hE7
          cases hv4
          have hkn : k < q + 1 := by omega
          obtain ⟨hb4, hb5⟩ := h44 k hkn
          have e4 := h34.resolve_left (by omega)
          injection e4 with e4
          injection e4 with e4 e5
          subst e4 e5
          have c6 := hb5.c6
          have HN : Hid (((l.getD k Mot.zero).rate = 0 ∧ rRate l k = rRate l (q + 1)) ∨ ((l.getD k Mot.zero).rate ≠ 0 ∧ (l.getD k Mot.zero).rate = rRate l (q + 1))) := Lib.hid (by
            by_cases h0 : (l.getD k Mot.zero).rate = 0
            · exact .inl ⟨h0, by rw [← h2]; show _ = (if _ then _ else _); rw [if_pos h0]⟩
            · exact .inr ⟨h0, by rw [← h2]; show _ = (if _ then _ else _); rw [if_neg h0]⟩)
          clear hb5 h34 h44 hn4 h2
          generalize (l.getD k Mot.zero).rate = r2 at *
          go_wp2
          go_roundw
          case rel => exact ⟨k, r2, by omega, rfl, rfl, HN, trivial⟩
          case measure => simp [intOf]
        · have hr : r = rRate l (q + 1) := by
            rcases HR.out with ⟨h1, h2⟩ | ⟨h1, h2⟩
            · exact absurd h1 hr0
            · exact h2
          clear HR
          have HRK := Lib.hid hr; clear hr
          by_cases h13 : m.tz < 1000 ∧ r = 0
          · exact absurd h13.2 hr0
          · have hEE : cE = 0 := by rw [HE.out, ← HRK.out, if_neg h13]
            have hLL : cL = rLegs (x, y, z) (m.tx, m.ty, m.tz) safe r m 4 ++ l.drop (q + 1) := by rw [HL.out, ← HRK.out, if_neg h13]
            subst hEE hLL
            by_cases hb0 : m.tz < 1000
            · have t1 : decide (m.tz < 1000) = true := by simpa using hb0
              have t2 : (r == 0) = false := by simp; exact fun e => h13 ⟨hb0, e⟩
              have hmz : (if m.tz < 1000 then (1000 : Int) else m.tz) = 1000 := by rw [if_pos hb0]
              clear h13
              go_wp2_with fail
              obtain ⟨W9, hW9, T9, hE9⟩ := TBox.mk' w7 x y z m.tx m.ty m.tz safe 1000 hmz
              rw [hW9]; clear hW9
              have P9 := P7.later hE9; have M9 := M7.later hE9
              have hA9 : w7.heap.size < W9.heap.size := T9.1
              have hA0 : w.heap.size + 1 + 1 < w7.heap.size := M7.lt
              have HE9 := Lib.hid (hE7.trans hE9)
              have HR9 := Lib.hid (OW7.out.sl.later hE9)
              have hvF : v7.ownBlock ≠ some w.heap.size := fun e => by have := OW7.out.base e; omega
              have HVF := Lib.hid hvF
              clear p0 p1 p2 q0 q1 q2 P7 Q7 M7 hvF hE9
              generalize w7.heap.size = bT at *
              have hLL : (rLegs (x, y, z) (m.tx, m.ty, m.tz) safe r m 4).length ≤ 4 := rLegs_len _ _ _ _ _ 4
              go_loopw [16, 124] (fun u t wr => ∃ k : Nat, k ≤ 4 ∧ t = .int .i64 k ∧ OwnM W9.heap.size wr u (rLegs (x, y, z) (m.tx, m.ty, m.tz) safe r m k) ∧ P3Box wr w.heap.size (rFrom (x, y, z) (m.tx, m.ty, m.tz) safe k).1 (rFrom (x, y, z) (m.tx, m.ty, m.tz) safe k).2.1 (rFrom (x, y, z) (m.tx, m.ty, m.tz) safe k).2.2 ∧ Only (fun b => b = w.heap.size) W9 wr) (fun _ t _ => 4 - (intOf t).toNat)
              case atStart => exact ⟨0, by omega, rfl, OwnM.nil _ _, P9, Only.refl _ _⟩
              case round =>
                clear P9
                obtain ⟨k, hk, rfl, hown, hF, hO⟩ := hrel
                have hsz := hO.size
                by_cases hlt : k < 4
                · have hlt' : decide ((k : Int) < 4) = true := by simp; omega
                  have hTk := T9.only hO (by omega)
                  obtain ⟨t0, t1', t2'⟩ := hTk.2 k hlt
                  have hleg : rLegs (x, y, z) (m.tx, m.ty, m.tz) safe r m (k + 1) = rLegs (x, y, z) (m.tx, m.ty, m.tz) safe r m k ++ (if eq3 (rFrom (x, y, z) (m.tx, m.ty, m.tz) safe k) (rPt (x, y, z) (m.tx, m.ty, m.tz) safe k) = true then [] else [rMot (x, y, z) (m.tx, m.ty, m.tz) safe r m k]) := rfl
                  have hlk2 := rLegs_len (x, y, z) (m.tx, m.ty, m.tz) safe r m k
                  unfold rMot at hleg
                  obtain ⟨tp, htp⟩ : ∃ tp, rPt (x, y, z) (m.tx, m.ty, m.tz) safe k = tp := ⟨_, rfl⟩
                  obtain ⟨fp, hfp⟩ : ∃ fp, rFrom (x, y, z) (m.tx, m.ty, m.tz) safe k = fp := ⟨_, rfl⟩
                  rw [htp] at t0 t1' t2' hleg
                  rw [hfp] at hF hleg
                  have HTP := Lib.hid htp
                  clear htp hfp
                  obtain ⟨tx, ty, tz⟩ := tp
                  obtain ⟨fx, fy, fz⟩ := fp
                  simp only at t0 t1' t2' hF hleg
                  have heq3 : eq3 (fx, fy, fz) (tx, ty, tz) = eqP fx fy fz tx ty tz := rfl
                  rw [heq3] at hleg
                  clear heq3
                  have hne := fun w => Tryd.neq_pos fx fy fz tx ty tz w
                  have Mk := M9.only hO (by omega)
                  have hFlt : w.heap.size < wr.heap.size := hF.lt
                  have hMlt : w.heap.size + 1 + 1 < wr.heap.size := Mk.lt
                  obtain ⟨p0, p1, p2, y0, y1, y2⟩ := hF.at
                  have d0 : ∀ o, (wr.alloc o).cell? ⟨w.heap.size, 0, none⟩ = some (.int .i64 fx) := fun o => by rw [World.cell?_alloc_lt _ _ _ hFlt]; exact p0
                  have d1 : ∀ o, (wr.alloc o).cell? ⟨w.heap.size, 1, none⟩ = some (.int .i64 fy) := fun o => by rw [World.cell?_alloc_lt _ _ _ hFlt]; exact p1
                  have d2 : ∀ o, (wr.alloc o).cell? ⟨w.heap.size, 2, none⟩ = some (.int .i64 fz) := fun o => by rw [World.cell?_alloc_lt _ _ _ hFlt]; exact p2
                  have l7 : ∀ o, (wr.alloc o).cell? ⟨w.heap.size + 1 + 1, 7, none⟩ = some (.int .i64 m.tool) := fun o => by rw [World.cell?_alloc_lt _ _ _ hMlt]; exact Mk.c7
                  have l8 : ∀ o, (wr.alloc o).cell? ⟨w.heap.size + 1 + 1, 8, none⟩ = some (.int .i64 m.block) := fun o => by rw [World.cell?_alloc_lt _ _ _ hMlt]; exact Mk.c8
                  have HOWN := Lib.hid hown; have HFF := Lib.hid hF; have HTK := Lib.hid hTk; have HLEG := Lib.hid hleg
                  clear hown hF hTk hleg Mk
                  have hub : ∀ b, u16.ownBlock = some b → W9.heap.size ≤ b := fun b hb => HOWN.out.base hb
                  cases hev : eqP fx fy fz tx ty tz
                  case true =>
                    rw [hev] at hne
                    rw [hev] at HLEG
                    rw [if_pos rfl, List.append_nil] at HLEG
                    have F4 := HFF.out.put tx ty tz
                    have hO4 : Only (fun b => b = w.heap.size) wr (((wr.setCell ⟨w.heap.size, 0, none⟩ (.int .i64 tx)).setCell ⟨w.heap.size, 1, none⟩ (.int .i64 ty)).setCell ⟨w.heap.size, 2, none⟩ (.int .i64 tz)) := (Only.refl (fun b => b = w.heap.size) wr).set3 (.inl rfl) _ _ _
                    have own4 := HOWN.out.only hO4 (fun b hb e => by have := hub b hb; omega)
                    have HO4 : Hid (∀ o o2, Only (fun b => b = w.heap.size) W9 (((((wr.setCell ⟨w.heap.size, 0, none⟩ (.int .i64 tx)).setCell ⟨w.heap.size, 1, none⟩ (.int .i64 ty)).setCell ⟨w.heap.size, 2, none⟩ (.int .i64 tz)).alloc o).alloc o2)) := Lib.hid (fun o o2 => ((hO.trans hO4).alloc o).alloc o2)
                    have HF4 : Hid (∀ o o2, P3Box (((((wr.setCell ⟨w.heap.size, 0, none⟩ (.int .i64 tx)).setCell ⟨w.heap.size, 1, none⟩ (.int .i64 ty)).setCell ⟨w.heap.size, 2, none⟩ (.int .i64 tz)).alloc o).alloc o2) w.heap.size tx ty tz) := Lib.hid (fun o o2 => F4.later (((Ext.refl _).alloc o).alloc o2))
                    have OW4 : Hid (∀ o o2, OwnM W9.heap.size (((((wr.setCell ⟨w.heap.size, 0, none⟩ (.int .i64 tx)).setCell ⟨w.heap.size, 1, none⟩ (.int .i64 ty)).setCell ⟨w.heap.size, 2, none⟩ (.int .i64 tz)).alloc o).alloc o2) u16 (rLegs (x, y, z) (m.tx, m.ty, m.tz) safe r m k)) := Lib.hid (fun o o2 => own4.later (((Ext.refl _).alloc o).alloc o2))
                    clear F4 hO4 own4 hub
                    by_cases hk3 : k = 3
                    · have hk3' : ((k : Int) == 3) = true := by simp; omega
                      have HK3 := Lib.hid hk3; clear hk3
                      go_wp2
                      go_roundw
                      case rel => exact ⟨k + 1, by omega, by go_num, (by rw [HLEG.out]; exact OW4.out _ _), (by show P3Box _ _ (rPt (x, y, z) (m.tx, m.ty, m.tz) safe k).1 (rPt (x, y, z) (m.tx, m.ty, m.tz) safe k).2.1 (rPt (x, y, z) (m.tx, m.ty, m.tz) safe k).2.2; rw [HTP.out]; exact HF4.out _ _), HO4.out _ _⟩
                      case measure => simp [intOf]; omega
                    · have hk3' : ((k : Int) == 3) = false := by simp; omega
                      go_wp2
                      go_roundw
                      case rel => exact ⟨k + 1, by omega, by go_num, (by rw [HLEG.out]; exact OW4.out _ _), (by show P3Box _ _ (rPt (x, y, z) (m.tx, m.ty, m.tz) safe k).1 (rPt (x, y, z) (m.tx, m.ty, m.tz) safe k).2.1 (rPt (x, y, z) (m.tx, m.ty, m.tz) safe k).2.2; rw [HTP.out]; exact HF4.out _ _), HO4.out _ _⟩
                      case measure => simp [intOf]; omega
                  case false =>
                    rw [hev] at hne
                    rw [hev] at HLEG
                    rw [if_neg (by decide)] at HLEG
                    by_cases hk3 : k = 3
                    · have hk3' : ((k : Int) == 3) = true := by simp; omega
                      have HK3 := Lib.hid hk3; clear hk3
                      have lit : SlM (((wr.alloc (.cells #[.int .i64 tx, .int .i64 ty, .int .i64 tz] 40)).alloc (.cells #[.int .i64 fx, .int .i64 fy, .int .i64 fz, .int .i64 tx, .int .i64 ty, .int .i64 tz, .int .i64 r, .int .i64 m.tool, .int .i64 m.block] 49)).alloc (.cells #[.int .i64 fx, .int .i64 fy, .int .i64 fz, .int .i64 tx, .int .i64 ty, .int .i64 tz, .int .i64 r, .int .i64 m.tool, .int .i64 m.block] 49)) (.slice (some ⟨wr.heap.size + 1 + 1, 0, none⟩) 1 1) [(⟨fx, fy, fz, tx, ty, tz, r, m.tool, m.block⟩ : Mot)] := by
                        obtain ⟨V4, hV4, B4, hE4⟩ := M9Box.mk' ((wr.alloc (.cells #[.int .i64 tx, .int .i64 ty, .int .i64 tz] 40)).alloc (.cells #[.int .i64 fx, .int .i64 fy, .int .i64 fz, .int .i64 tx, .int .i64 ty, .int .i64 tz, .int .i64 r, .int .i64 m.tool, .int .i64 m.block] 49)) ⟨fx, fy, fz, tx, ty, tz, r, m.tool, m.block⟩
                        have := B4.sl1
                        rw [← hV4] at this
                        simpa using this
                      have own4 : OwnM W9.heap.size (((wr.alloc (.cells #[.int .i64 tx, .int .i64 ty, .int .i64 tz] 40)).alloc (.cells #[.int .i64 fx, .int .i64 fy, .int .i64 fz, .int .i64 tx, .int .i64 ty, .int .i64 tz, .int .i64 r, .int .i64 m.tool, .int .i64 m.block] 49)).alloc (.cells #[.int .i64 fx, .int .i64 fy, .int .i64 fz, .int .i64 tx, .int .i64 ty, .int .i64 tz, .int .i64 r, .int .i64 m.tool, .int .i64 m.block] 49)) u16 (rLegs (x, y, z) (m.tx, m.ty, m.tz) safe r m k) := ((HOWN.out.later ((Ext.refl wr).alloc (.cells #[.int .i64 tx, .int .i64 ty, .int .i64 tz] 40))).later ((Ext.refl _).alloc (.cells #[.int .i64 fx, .int .i64 fy, .int .i64 fz, .int .i64 tx, .int .i64 ty, .int .i64 tz, .int .i64 r, .int .i64 m.tool, .int .i64 m.block] 49))).later ((Ext.refl _).alloc (.cells #[.int .i64 fx, .int .i64 fy, .int .i64 fz, .int .i64 tx, .int .i64 ty, .int .i64 tz, .int .i64 r, .int .i64 m.tool, .int .i64 m.block] 49))
                      have OW := Lib.hid own4; have LI := Lib.hid lit
                      have LE : Hid ((rLegs (x, y, z) (m.tx, m.ty, m.tz) safe r m k).length + [(⟨fx, fy, fz, tx, ty, tz, r, m.tool, m.block⟩ : Mot)].length ≤ 1000000000) := Lib.hid (by simp; omega)
                      have BA : Hid (W9.heap.size ≤ (((wr.alloc (.cells #[.int .i64 tx, .int .i64 ty, .int .i64 tz] 40)).alloc (.cells #[.int .i64 fx, .int .i64 fy, .int .i64 fz, .int .i64 tx, .int .i64 ty, .int .i64 tz, .int .i64 r, .int .i64 m.tool, .int .i64 m.block] 49)).alloc (.cells #[.int .i64 fx, .int .i64 fy, .int .i64 fz, .int .i64 tx, .int .i64 ty, .int .i64 tz, .int .i64 r, .int .i64 m.tool, .int .i64 m.block] 49)).heap.size) := Lib.hid (Nat.le_trans hsz (by simp; omega))
                      have HF2 : Hid (∀ v' W', OwnM W9.heap.size W' v' (rLegs (x, y, z) (m.tx, m.ty, m.tz) safe r m k ++ [(⟨fx, fy, fz, tx, ty, tz, r, m.tool, m.block⟩ : Mot)]) → (((wr.alloc (.cells #[.int .i64 tx, .int .i64 ty, .int .i64 tz] 40)).alloc (.cells #[.int .i64 fx, .int .i64 fy, .int .i64 fz, .int .i64 tx, .int .i64 ty, .int .i64 tz, .int .i64 r, .int .i64 m.tool, .int .i64 m.block] 49)).alloc (.cells #[.int .i64 fx, .int .i64 fy, .int .i64 fz, .int .i64 tx, .int .i64 ty, .int .i64 tz, .int .i64 r, .int .i64 m.tool, .int .i64 m.block] 49)).grownBy W' u16.ownBlock →
                          Hid (OwnM W9.heap.size (((W'.setCell ⟨w.heap.size, 0, none⟩ (.int .i64 tx)).setCell ⟨w.heap.size, 1, none⟩ (.int .i64 ty)).setCell ⟨w.heap.size, 2, none⟩ (.int .i64 tz)) v' (rLegs (x, y, z) (m.tx, m.ty, m.tz) safe r m k ++ [(⟨fx, fy, fz, tx, ty, tz, r, m.tool, m.block⟩ : Mot)])) ∧ Hid (P3Box (((W'.setCell ⟨w.heap.size, 0, none⟩ (.int .i64 tx)).setCell ⟨w.heap.size, 1, none⟩ (.int .i64 ty)).setCell ⟨w.heap.size, 2, none⟩ (.int .i64 tz)) w.heap.size tx ty tz) ∧ Hid (Only (fun b => b = w.heap.size) W9 (((W'.setCell ⟨w.heap.size, 0, none⟩ (.int .i64 tx)).setCell ⟨w.heap.size, 1, none⟩ (.int .i64 ty)).setCell ⟨w.heap.size, 2, none⟩ (.int .i64 tz))) ∧ W'.cell? ⟨wr.heap.size, 0, none⟩ = some (.int .i64 tx) ∧ W'.cell? ⟨wr.heap.size, 1, none⟩ = some (.int .i64 ty) ∧ W'.cell? ⟨wr.heap.size, 2, none⟩ = some (.int .i64 tz) ∧ W'.cell? ⟨w.heap.size, 0, none⟩ = some (.int .i64 fx) ∧ W'.cell? ⟨w.heap.size, 1, none⟩ = some (.int .i64 fy) ∧ W'.cell? ⟨w.heap.size, 2, none⟩ = some (.int .i64 fz) ∧ W'.frozen? ⟨w.heap.size, 0, none⟩ = false ∧ W'.frozen? ⟨w.heap.size, 1, none⟩ = false ∧ W'.frozen? ⟨w.heap.size, 2, none⟩ = false) := Lib.hid (fun v' W' own' gr' => by
                        obtain ⟨V1, hV1, PB, hE1⟩ := P3Box.mk' wr tx ty tz
                        rw [hV1] at gr'
                        have hE2 : Ext V1 ((V1.alloc (.cells #[.int .i64 fx, .int .i64 fy, .int .i64 fz, .int .i64 tx, .int .i64 ty, .int .i64 tz, .int .i64 r, .int .i64 m.tool, .int .i64 m.block] 49)).alloc (.cells #[.int .i64 fx, .int .i64 fy, .int .i64 fz, .int .i64 tx, .int .i64 ty, .int .i64 tz, .int .i64 r, .int .i64 m.tool, .int .i64 m.block] 49)) := ((Ext.refl V1).alloc _).alloc _
                        have hO4 := Only.of_grown gr'
                        have hO4' : Only (fun b => u16.ownBlock = some b) V1 W' := (Only.of_ext hE2).trans hO4
                        have hO4w : Only (fun b => u16.ownBlock = some b) wr W' := (Only.of_ext hE1).trans hO4'
                        have F5 := HFF.out.only hO4w (fun e => by have := hub _ e; omega)
                        have hul : ∀ b, u16.ownBlock = some b → b < wr.heap.size := fun b hb => HOWN.out.lt hb
                        have PB5 := PB.only hO4' (fun e => by have := hul _ e; omega)
                        obtain ⟨s0, s1, s2, -, -, -⟩ := PB5.at
                        obtain ⟨p0, p1, p2, y0, y1, y2⟩ := F5.at
                        have hO5 : Only (fun b => b = w.heap.size) W9 W' := hO.trans' hO4w (fun i hi e => by have := hub _ e; omega)
                        exact ⟨Lib.hid (own'.only ((Only.refl (fun b => b = w.heap.size) W').set3 (.inl rfl) _ _ _) (fun b hb e => by have := own'.base hb; omega)), Lib.hid (F5.put tx ty tz), Lib.hid (hO5.set3 (.inl rfl) _ _ _), s0, s1, s2, p0, p1, p2, y0, y1, y2⟩)
                      clear own4 lit p0 p1 p2 y0 y1 y2
                      go_wp2_with ((at_builtin; refine appM_at rfl _ _ rfl W9.heap.size _ _ (rLegs (x, y, z) (m.tx, m.ty, m.tz) safe r m k) [(⟨fx, fy, fz, tx, ty, tz, r, m.tool, m.block⟩ : Mot)] rfl rfl OW.out LI.out LE.out BA.out ?_; intro v5 W10 own5 gr5 lo5; obtain ⟨OW5', HF5, HO5, s0, s1, s2, p0, p1, p2, y0, y1, y2⟩ := HF2.out _ _ own5 gr5; clear own5 gr5 lo5 HF2 OW LI LE BA d0 d1 d2 l7 l8 t0 t1' t2'))
                      go_roundw
                      case rel => exact ⟨k + 1, by omega, by go_num, (by rw [HLEG.out]; rw [if_pos HK3.out]; exact OW5'.out), (by show P3Box _ _ (rPt (x, y, z) (m.tx, m.ty, m.tz) safe k).1 (rPt (x, y, z) (m.tx, m.ty, m.tz) safe k).2.1 (rPt (x, y, z) (m.tx, m.ty, m.tz) safe k).2.2; rw [HTP.out]; exact HF5.out), HO5.out⟩
                      case measure => simp [intOf]; omega
                    · have hk3' : ((k : Int) == 3) = false := by simp; omega
                      have lit : SlM (((wr.alloc (.cells #[.int .i64 tx, .int .i64 ty, .int .i64 tz] 40)).alloc (.cells #[.int .i64 fx, .int .i64 fy, .int .i64 fz, .int .i64 tx, .int .i64 ty, .int .i64 tz, .int .i64 0, .int .i64 m.tool, .int .i64 m.block] 49)).alloc (.cells #[.int .i64 fx, .int .i64 fy, .int .i64 fz, .int .i64 tx, .int .i64 ty, .int .i64 tz, .int .i64 0, .int .i64 m.tool, .int .i64 m.block] 49)) (.slice (some ⟨wr.heap.size + 1 + 1, 0, none⟩) 1 1) [(⟨fx, fy, fz, tx, ty, tz, 0, m.tool, m.block⟩ : Mot)] := by
                        obtain ⟨V4, hV4, B4, hE4⟩ := M9Box.mk' ((wr.alloc (.cells #[.int .i64 tx, .int .i64 ty, .int .i64 tz] 40)).alloc (.cells #[.int .i64 fx, .int .i64 fy, .int .i64 fz, .int .i64 tx, .int .i64 ty, .int .i64 tz, .int .i64 0, .int .i64 m.tool, .int .i64 m.block] 49)) ⟨fx, fy, fz, tx, ty, tz, 0, m.tool, m.block⟩
                        have := B4.sl1
                        rw [← hV4] at this
                        simpa using this
                      have own4 : OwnM W9.heap.size (((wr.alloc (.cells #[.int .i64 tx, .int .i64 ty, .int .i64 tz] 40)).alloc (.cells #[.int .i64 fx, .int .i64 fy, .int .i64 fz, .int .i64 tx, .int .i64 ty, .int .i64 tz, .int .i64 0, .int .i64 m.tool, .int .i64 m.block] 49)).alloc (.cells #[.int .i64 fx, .int .i64 fy, .int .i64 fz, .int .i64 tx, .int .i64 ty, .int .i64 tz, .int .i64 0, .int .i64 m.tool, .int .i64 m.block] 49)) u16 (rLegs (x, y, z) (m.tx, m.ty, m.tz) safe r m k) := ((HOWN.out.later ((Ext.refl wr).alloc (.cells #[.int .i64 tx, .int .i64 ty, .int .i64 tz] 40))).later ((Ext.refl _).alloc (.cells #[.int .i64 fx, .int .i64 fy, .int .i64 fz, .int .i64 tx, .int .i64 ty, .int .i64 tz, .int .i64 0, .int .i64 m.tool, .int .i64 m.block] 49))).later ((Ext.refl _).alloc (.cells #[.int .i64 fx, .int .i64 fy, .int .i64 fz, .int .i64 tx, .int .i64 ty, .int .i64 tz, .int .i64 0, .int .i64 m.tool, .int .i64 m.block] 49))
                      have OW := Lib.hid own4; have LI := Lib.hid lit
                      have LE : Hid ((rLegs (x, y, z) (m.tx, m.ty, m.tz) safe r m k).length + [(⟨fx, fy, fz, tx, ty, tz, 0, m.tool, m.block⟩ : Mot)].length ≤ 1000000000) := Lib.hid (by simp; omega)
                      have BA : Hid (W9.heap.size ≤ (((wr.alloc (.cells #[.int .i64 tx, .int .i64 ty, .int .i64 tz] 40)).alloc (.cells #[.int .i64 fx, .int .i64 fy, .int .i64 fz, .int .i64 tx, .int .i64 ty, .int .i64 tz, .int .i64 0, .int .i64 m.tool, .int .i64 m.block] 49)).alloc (.cells #[.int .i64 fx, .int .i64 fy, .int .i64 fz, .int .i64 tx, .int .i64 ty, .int .i64 tz, .int .i64 0, .int .i64 m.tool, .int .i64 m.block] 49)).heap.size) := Lib.hid (Nat.le_trans hsz (by simp; omega))
                      have HF2 : Hid (∀ v' W', OwnM W9.heap.size W' v' (rLegs (x, y, z) (m.tx, m.ty, m.tz) safe r m k ++ [(⟨fx, fy, fz, tx, ty, tz, 0, m.tool, m.block⟩ : Mot)]) → (((wr.alloc (.cells #[.int .i64 tx, .int .i64 ty, .int .i64 tz] 40)).alloc (.cells #[.int .i64 fx, .int .i64 fy, .int .i64 fz, .int .i64 tx, .int .i64 ty, .int .i64 tz, .int .i64 0, .int .i64 m.tool, .int .i64 m.block] 49)).alloc (.cells #[.int .i64 fx, .int .i64 fy, .int .i64 fz, .int .i64 tx, .int .i64 ty, .int .i64 tz, .int .i64 0, .int .i64 m.tool, .int .i64 m.block] 49)).grownBy W' u16.ownBlock →
                          Hid (OwnM W9.heap.size (((W'.setCell ⟨w.heap.size, 0, none⟩ (.int .i64 tx)).setCell ⟨w.heap.size, 1, none⟩ (.int .i64 ty)).setCell ⟨w.heap.size, 2, none⟩ (.int .i64 tz)) v' (rLegs (x, y, z) (m.tx, m.ty, m.tz) safe r m k ++ [(⟨fx, fy, fz, tx, ty, tz, 0, m.tool, m.block⟩ : Mot)])) ∧ Hid (P3Box (((W'.setCell ⟨w.heap.size, 0, none⟩ (.int .i64 tx)).setCell ⟨w.heap.size, 1, none⟩ (.int .i64 ty)).setCell ⟨w.heap.size, 2, none⟩ (.int .i64 tz)) w.heap.size tx ty tz) ∧ Hid (Only (fun b => b = w.heap.size) W9 (((W'.setCell ⟨w.heap.size, 0, none⟩ (.int .i64 tx)).setCell ⟨w.heap.size, 1, none⟩ (.int .i64 ty)).setCell ⟨w.heap.size, 2, none⟩ (.int .i64 tz))) ∧ W'.cell? ⟨wr.heap.size, 0, none⟩ = some (.int .i64 tx) ∧ W'.cell? ⟨wr.heap.size, 1, none⟩ = some (.int .i64 ty) ∧ W'.cell? ⟨wr.heap.size, 2, none⟩ = some (.int .i64 tz) ∧ W'.cell? ⟨w.heap.size, 0, none⟩ = some (.int .i64 fx) ∧ W'.cell? ⟨w.heap.size, 1, none⟩ = some (.int .i64 fy) ∧ W'.cell? ⟨w.heap.size, 2, none⟩ = some (.int .i64 fz) ∧ W'.frozen? ⟨w.heap.size, 0, none⟩ = false ∧ W'.frozen? ⟨w.heap.size, 1, none⟩ = false ∧ W'.frozen? ⟨w.heap.size, 2, none⟩ = false) := Lib.hid (fun v' W' own' gr' => by
                        obtain ⟨V1, hV1, PB, hE1⟩ := P3Box.mk' wr tx ty tz
                        rw [hV1] at gr'
                        have hE2 : Ext V1 ((V1.alloc (.cells #[.int .i64 fx, .int .i64 fy, .int .i64 fz, .int .i64 tx, .int .i64 ty, .int .i64 tz, .int .i64 0, .int .i64 m.tool, .int .i64 m.block] 49)).alloc (.cells #[.int .i64 fx, .int .i64 fy, .int .i64 fz, .int .i64 tx, .int .i64 ty, .int .i64 tz, .int .i64 0, .int .i64 m.tool, .int .i64 m.block] 49)) := ((Ext.refl V1).alloc _).alloc _
                        have hO4 := Only.of_grown gr'
                        have hO4' : Only (fun b => u16.ownBlock = some b) V1 W' := (Only.of_ext hE2).trans hO4
                        have hO4w : Only (fun b => u16.ownBlock = some b) wr W' := (Only.of_ext hE1).trans hO4'
                        have F5 := HFF.out.only hO4w (fun e => by have := hub _ e; omega)
                        have hul : ∀ b, u16.ownBlock = some b → b < wr.heap.size := fun b hb => HOWN.out.lt hb
                        have PB5 := PB.only hO4' (fun e => by have := hul _ e; omega)
                        obtain ⟨s0, s1, s2, -, -, -⟩ := PB5.at
                        obtain ⟨p0, p1, p2, y0, y1, y2⟩ := F5.at
                        have hO5 : Only (fun b => b = w.heap.size) W9 W' := hO.trans' hO4w (fun i hi e => by have := hub _ e; omega)
                        exact ⟨Lib.hid (own'.only ((Only.refl (fun b => b = w.heap.size) W').set3 (.inl rfl) _ _ _) (fun b hb e => by have := own'.base hb; omega)), Lib.hid (F5.put tx ty tz), Lib.hid (hO5.set3 (.inl rfl) _ _ _), s0, s1, s2, p0, p1, p2, y0, y1, y2⟩)
                      clear own4 lit p0 p1 p2 y0 y1 y2
                      go_wp2_with ((at_builtin; refine appM_at rfl _ _ rfl W9.heap.size _ _ (rLegs (x, y, z) (m.tx, m.ty, m.tz) safe r m k) [(⟨fx, fy, fz, tx, ty, tz, 0, m.tool, m.block⟩ : Mot)] rfl rfl OW.out LI.out LE.out BA.out ?_; intro v5 W10 own5 gr5 lo5; obtain ⟨OW5', HF5, HO5, s0, s1, s2, p0, p1, p2, y0, y1, y2⟩ := HF2.out _ _ own5 gr5; clear own5 gr5 lo5 HF2 OW LI LE BA d0 d1 d2 l7 l8 t0 t1' t2'))
                      go_roundw
                      case rel => exact ⟨k + 1, by omega, by go_num, (by rw [HLEG.out]; rw [if_neg hk3]; exact OW5'.out), (by show P3Box _ _ (rPt (x, y, z) (m.tx, m.ty, m.tz) safe k).1 (rPt (x, y, z) (m.tx, m.ty, m.tz) safe k).2.1 (rPt (x, y, z) (m.tx, m.ty, m.tz) safe k).2.2; rw [HTP.out]; exact HF5.out), HO5.out⟩
                      case measure => simp [intOf]; omega
                · have hlt' : decide ((k : Int) < 4) = false := by simp; omega
                  obtain rfl : k = 4 := by omega
                  have hR := HR9.out.only hO (fun b hb e => HVF.out (by rw [hb, e]))
                  obtain ⟨a11, n11, c11, b11, o11, hv11, -⟩ := id hR
                  have OW := Lib.hid hown; have LI := Lib.hid hR
                  have LE : Hid ((rLegs (x, y, z) (m.tx, m.ty, m.tz) safe r m 4).length + (l.drop (q + 1)).length ≤ 1000000000) := Lib.hid (by omega)
                  have BA := Lib.hid hsz
                  have hE9' : Ext w wr := HE9.out.only hO (fun i hi e => by omega)
                  have hub : ∀ b, u16.ownBlock = some b → W9.heap.size ≤ b := fun b hb => hown.base hb
                  have hw9 := HE9.out.size
                  have HF3 : Hid (∀ v' W', OwnM W9.heap.size W' v' (rLegs (x, y, z) (m.tx, m.ty, m.tz) safe r m 4 ++ l.drop (q + 1)) → wr.grownBy W' u16.ownBlock → Hid (OwnM W9.heap.size W' v' (rLegs (x, y, z) (m.tx, m.ty, m.tz) safe r m 4 ++ l.drop (q + 1))) ∧ Hid (Ext w W')) := Lib.hid (fun v' W' own' gr' => ⟨Lib.hid own', Lib.hid (ext_grown hE9' gr' (fun k hk => by have := hub k hk; omega))⟩)
                  clear hown hR hF hub hE9'
                  go_wp2_with ((at_builtin; refine appM_at rfl _ _ rfl W9.heap.size _ _ (rLegs (x, y, z) (m.tx, m.ty, m.tz) safe r m 4) (l.drop (q + 1)) rfl rfl OW.out LI.out LE.out BA.out ?_; intro v5 W10 own5 gr5 lo5; obtain ⟨OW5', HEE⟩ := HF3.out _ _ own5 gr5; clear own5 gr5 lo5 HF3 OW LI LE BA))
                  obtain ⟨a12, n12, c12, hv12⟩ := OW5'.out.form
                  subst hv12
                  go_ret2
                  exact ⟨_, rfl, OW5'.out.sl, OW5'.out.fre (by omega), HEE.out⟩
            · have t1 : decide (m.tz < 1000) = false := by simpa using hb0
              have hmz : (if m.tz < 1000 then (1000 : Int) else m.tz) = m.tz := by rw [if_neg hb0]
              clear h13
              go_wp2_with fail
              obtain ⟨W9, hW9, T9, hE9⟩ := TBox.mk' w7 x y z m.tx m.ty m.tz safe m.tz hmz
              rw [hW9]; clear hW9
              have P9 := P7.later hE9; have M9 := M7.later hE9
              have hA9 : w7.heap.size < W9.heap.size := T9.1
              have hA0 : w.heap.size + 1 + 1 < w7.heap.size := M7.lt
              have HE9 := Lib.hid (hE7.trans hE9)
              have HR9 := Lib.hid (OW7.out.sl.later hE9)
              have hvF : v7.ownBlock ≠ some w.heap.size := fun e => by have := OW7.out.base e; omega
              have HVF := Lib.hid hvF
              clear p0 p1 p2 q0 q1 q2 P7 Q7 M7 hvF hE9
              generalize w7.heap.size = bT at *
              have hLL : (rLegs (x, y, z) (m.tx, m.ty, m.tz) safe r m 4).length ≤ 4 := rLegs_len _ _ _ _ _ 4
              go_loopw [16, 124] (fun u t wr => ∃ k : Nat, k ≤ 4 ∧ t = .int .i64 k ∧ OwnM W9.heap.size wr u (rLegs (x, y, z) (m.tx, m.ty, m.tz) safe r m k) ∧ P3Box wr w.heap.size (rFrom (x, y, z) (m.tx, m.ty, m.tz) safe k).1 (rFrom (x, y, z) (m.tx, m.ty, m.tz) safe k).2.1 (rFrom (x, y, z) (m.tx, m.ty, m.tz) safe k).2.2 ∧ Only (fun b => b = w.heap.size) W9 wr) (fun _ t _ => 4 - (intOf t).toNat)
              case atStart => exact ⟨0, by omega, rfl, OwnM.nil _ _, P9, Only.refl _ _⟩
              case round =>
                clear P9
                obtain ⟨k, hk, rfl, hown, hF, hO⟩ := hrel
                have hsz := hO.size
                by_cases hlt : k < 4
                · have hlt' : decide ((k : Int) < 4) = true := by simp; omega
                  have hTk := T9.only hO (by omega)
                  obtain ⟨t0, t1', t2'⟩ := hTk.2 k hlt
                  have hleg : rLegs (x, y, z) (m.tx, m.ty, m.tz) safe r m (k + 1) = rLegs (x, y, z) (m.tx, m.ty, m.tz) safe r m k ++ (if eq3 (rFrom (x, y, z) (m.tx, m.ty, m.tz) safe k) (rPt (x, y, z) (m.tx, m.ty, m.tz) safe k) = true then [] else [rMot (x, y, z) (m.tx, m.ty, m.tz) safe r m k]) := rfl
                  have hlk2 := rLegs_len (x, y, z) (m.tx, m.ty, m.tz) safe r m k
                  unfold rMot at hleg
                  obtain ⟨tp, htp⟩ : ∃ tp, rPt (x, y, z) (m.tx, m.ty, m.tz) safe k = tp := ⟨_, rfl⟩
                  obtain ⟨fp, hfp⟩ : ∃ fp, rFrom (x, y, z) (m.tx, m.ty, m.tz) safe k = fp := ⟨_, rfl⟩
                  rw [htp] at t0 t1' t2' hleg
                  rw [hfp] at hF hleg
                  have HTP := Lib.hid htp
                  clear htp hfp
                  obtain ⟨tx, ty, tz⟩ := tp
                  obtain ⟨fx, fy, fz⟩ := fp
                  simp only at t0 t1' t2' hF hleg
                  have heq3 : eq3 (fx, fy, fz) (tx, ty, tz) = eqP fx fy fz tx ty tz := rfl
                  rw [heq3] at hleg
                  clear heq3
                  have hne := fun w => Tryd.neq_pos fx fy fz tx ty tz w
                  have Mk := M9.only hO (by omega)
                  have hFlt : w.heap.size < wr.heap.size := hF.lt
                  have hMlt : w.heap.size + 1 + 1 < wr.heap.size := Mk.lt
                  obtain ⟨p0, p1, p2, y0, y1, y2⟩ := hF.at
                  have d0 : ∀ o, (wr.alloc o).cell? ⟨w.heap.size, 0, none⟩ = some (.int .i64 fx) := fun o => by rw [World.cell?_alloc_lt _ _ _ hFlt]; exact p0
                  have d1 : ∀ o, (wr.alloc o).cell? ⟨w.heap.size, 1, none⟩ = some (.int .i64 fy) := fun o => by rw [World.cell?_alloc_lt _ _ _ hFlt]; exact p1
                  have d2 : ∀ o, (wr.alloc o).cell? ⟨w.heap.size, 2, none⟩ = some (.int .i64 fz) := fun o => by rw [World.cell?_alloc_lt _ _ _ hFlt]; exact p2
                  have l7 : ∀ o, (wr.alloc o).cell? ⟨w.heap.size + 1 + 1, 7, none⟩ = some (.int .i64 m.tool) := fun o => by rw [World.cell?_alloc_lt _ _ _ hMlt]; exact Mk.c7
                  have l8 : ∀ o, (wr.alloc o).cell? ⟨w.heap.size + 1 + 1, 8, none⟩ = some (.int .i64 m.block) := fun o => by rw [World.cell?_alloc_lt _ _ _ hMlt]; exact Mk.c8
                  have HOWN := Lib.hid hown; have HFF := Lib.hid hF; have HTK := Lib.hid hTk; have HLEG := Lib.hid hleg
                  clear hown hF hTk hleg Mk
                  have hub : ∀ b, u16.ownBlock = some b → W9.heap.size ≤ b := fun b hb => HOWN.out.base hb
                  cases hev : eqP fx fy fz tx ty tz
                  case true =>
                    rw [hev] at hne
                    rw [hev] at HLEG
                    rw [if_pos rfl, List.append_nil] at HLEG
                    have F4 := HFF.out.put tx ty tz
                    have hO4 : Only (fun b => b = w.heap.size) wr (((wr.setCell ⟨w.heap.size, 0, none⟩ (.int .i64 tx)).setCell ⟨w.heap.size, 1, none⟩ (.int .i64 ty)).setCell ⟨w.heap.size, 2, none⟩ (.int .i64 tz)) := (Only.refl (fun b => b = w.heap.size) wr).set3 (.inl rfl) _ _ _
                    have own4 := HOWN.out.only hO4 (fun b hb e => by have := hub b hb; omega)
                    have HO4 : Hid (∀ o o2, Only (fun b => b = w.heap.size) W9 (((((wr.setCell ⟨w.heap.size, 0, none⟩ (.int .i64 tx)).setCell ⟨w.heap.size, 1, none⟩ (.int .i64 ty)).setCell ⟨w.heap.size, 2, none⟩ (.int .i64 tz)).alloc o).alloc o2)) := Lib.hid (fun o o2 => ((hO.trans hO4).alloc o).alloc o2)
                    have HF4 : Hid (∀ o o2, P3Box (((((wr.setCell ⟨w.heap.size, 0, none⟩ (.int .i64 tx)).setCell ⟨w.heap.size, 1, none⟩ (.int .i64 ty)).setCell ⟨w.heap.size, 2, none⟩ (.int .i64 tz)).alloc o).alloc o2) w.heap.size tx ty tz) := Lib.hid (fun o o2 => F4.later (((Ext.refl _).alloc o).alloc o2))
                    have OW4 : Hid (∀ o o2, OwnM W9.heap.size (((((wr.setCell ⟨w.heap.size, 0, none⟩ (.int .i64 tx)).setCell ⟨w.heap.size, 1, none⟩ (.int .i64 ty)).setCell ⟨w.heap.size, 2, none⟩ (.int .i64 tz)).alloc o).alloc o2) u16 (rLegs (x, y, z) (m.tx, m.ty, m.tz) safe r m k)) := Lib.hid (fun o o2 => own4.later (((Ext.refl _).alloc o).alloc o2))
                    clear F4 hO4 own4 hub
                    by_cases hk3 : k = 3
                    · have hk3' : ((k : Int) == 3) = true := by simp; omega
                      have HK3 := Lib.hid hk3; clear hk3
                      go_wp2
                      go_roundw
                      case rel => exact ⟨k + 1, by omega, by go_num, (by rw [HLEG.out]; exact OW4.out _ _), (by show P3Box _ _ (rPt (x, y, z) (m.tx, m.ty, m.tz) safe k).1 (rPt (x, y, z) (m.tx, m.ty, m.tz) safe k).2.1 (rPt (x, y, z) (m.tx, m.ty, m.tz) safe k).2.2; rw [HTP.out]; exact HF4.out _ _), HO4.out _ _⟩
                      case measure => simp [intOf]; omega
                    · have hk3' : ((k : Int) == 3) = false := by simp; omega
                      go_wp2
                      go_roundw
                      case rel => exact ⟨k + 1, by omega, by go_num, (by rw [HLEG.out]; exact OW4.out _ _), (by show P3Box _ _ (rPt (x, y, z) (m.tx, m.ty, m.tz) safe k).1 (rPt (x, y, z) (m.tx, m.ty, m.tz) safe k).2.1 (rPt (x, y, z) (m.tx, m.ty, m.tz) safe k).2.2; rw [HTP.out]; exact HF4.out _ _), HO4.out _ _⟩
                      case measure => simp [intOf]; omega
                  case false =>
                    rw [hev] at hne
                    rw [hev] at HLEG
                    rw [if_neg (by decide)] at HLEG
                    by_cases hk3 : k = 3
                    · have hk3' : ((k : Int) == 3) = true := by simp; omega
                      have HK3 := Lib.hid hk3; clear hk3
                      have lit : SlM (((wr.alloc (.cells #[.int .i64 tx, .int .i64 ty, .int .i64 tz] 40)).alloc (.cells #[.int .i64 fx, .int .i64 fy, .int .i64 fz, .int .i64 tx, .int .i64 ty, .int .i64 tz, .int .i64 r, .int .i64 m.tool, .int .i64 m.block] 49)).alloc (.cells #[.int .i64 fx, .int .i64 fy, .int .i64 fz, .int .i64 tx, .int .i64 ty, .int .i64 tz, .int .i64 r, .int .i64 m.tool, .int .i64 m.block] 49)) (.slice (some ⟨wr.heap.size + 1 + 1, 0, none⟩) 1 1) [(⟨fx, fy, fz, tx, ty, tz, r, m.tool, m.block⟩ : Mot)] := by
                        obtain ⟨V4, hV4, B4, hE4⟩ := M9Box.mk' ((wr.alloc (.cells #[.int .i64 tx, .int .i64 ty, .int .i64 tz] 40)).alloc (.cells #[.int .i64 fx, .int .i64 fy, .int .i64 fz, .int .i64 tx, .int .i64 ty, .int .i64 tz, .int .i64 r, .int .i64 m.tool, .int .i64 m.block] 49)) ⟨fx, fy, fz, tx, ty, tz, r, m.tool, m.block⟩
                        have := B4.sl1
                        rw [← hV4] at this
                        simpa using this
                      have own4 : OwnM W9.heap.size (((wr.alloc (.cells #[.int .i64 tx, .int .i64 ty, .int .i64 tz] 40)).alloc (.cells #[.int .i64 fx, .int .i64 fy, .int .i64 fz, .int .i64 tx, .int .i64 ty, .int .i64 tz, .int .i64 r, .int .i64 m.tool, .int .i64 m.block] 49)).alloc (.cells #[.int .i64 fx, .int .i64 fy, .int .i64 fz, .int .i64 tx, .int .i64 ty, .int .i64 tz, .int .i64 r, .int .i64 m.tool, .int .i64 m.block] 49)) u16 (rLegs (x, y, z) (m.tx, m.ty, m.tz) safe r m k) := ((HOWN.out.later ((Ext.refl wr).alloc (.cells #[.int .i64 tx, .int .i64 ty, .int .i64 tz] 40))).later ((Ext.refl _).alloc (.cells #[.int .i64 fx, .int .i64 fy, .int .i64 fz, .int .i64 tx, .int .i64 ty, .int .i64 tz, .int .i64 r, .int .i64 m.tool, .int .i64 m.block] 49))).later ((Ext.refl _).alloc (.cells #[.int .i64 fx, .int .i64 fy, .int .i64 fz, .int .i64 tx, .int .i64 ty, .int .i64 tz, .int .i64 r, .int .i64 m.tool, .int .i64 m.block] 49))
                      have OW := Lib.hid own4; have LI := Lib.hid lit
                      have LE : Hid ((rLegs (x, y, z) (m.tx, m.ty, m.tz) safe r m k).length + [(⟨fx, fy, fz, tx, ty, tz, r, m.tool, m.block⟩ : Mot)].length ≤ 1000000000) := Lib.hid (by simp; omega)
                      have BA : Hid (W9.heap.size ≤ (((wr.alloc (.cells #[.int .i64 tx, .int .i64 ty, .int .i64 tz] 40)).alloc (.cells #[.int .i64 fx, .int .i64 fy, .int .i64 fz, .int .i64 tx, .int .i64 ty, .int .i64 tz, .int .i64 r, .int .i64 m.tool, .int .i64 m.block] 49)).alloc (.cells #[.int .i64 fx, .int .i64 fy, .int .i64 fz, .int .i64 tx, .int .i64 ty, .int .i64 tz, .int .i64 r, .int .i64 m.tool, .int .i64 m.block] 49)).heap.size) := Lib.hid (Nat.le_trans hsz (by simp; omega))
                      have HF2 : Hid (∀ v' W', OwnM W9.heap.size W' v' (rLegs (x, y, z) (m.tx, m.ty, m.tz) safe r m k ++ [(⟨fx, fy, fz, tx, ty, tz, r, m.tool, m.block⟩ : Mot)]) → (((wr.alloc (.cells #[.int .i64 tx, .int .i64 ty, .int .i64 tz] 40)).alloc (.cells #[.int .i64 fx, .int .i64 fy, .int .i64 fz, .int .i64 tx, .int .i64 ty, .int .i64 tz, .int .i64 r, .int .i64 m.tool, .int .i64 m.block] 49)).alloc (.cells #[.int .i64 fx, .int .i64 fy, .int .i64 fz, .int .i64 tx, .int .i64 ty, .int .i64 tz, .int .i64 r, .int .i64 m.tool, .int .i64 m.block] 49)).grownBy W' u16.ownBlock →
                          Hid (OwnM W9.heap.size (((W'.setCell ⟨w.heap.size, 0, none⟩ (.int .i64 tx)).setCell ⟨w.heap.size, 1, none⟩ (.int .i64 ty)).setCell ⟨w.heap.size, 2, none⟩ (.int .i64 tz)) v' (rLegs (x, y, z) (m.tx, m.ty, m.tz) safe r m k ++ [(⟨fx, fy, fz, tx, ty, tz, r, m.tool, m.block⟩ : Mot)])) ∧ Hid (P3Box (((W'.setCell ⟨w.heap.size, 0, none⟩ (.int .i64 tx)).setCell ⟨w.heap.size, 1, none⟩ (.int .i64 ty)).setCell ⟨w.heap.size, 2, none⟩ (.int .i64 tz)) w.heap.size tx ty tz) ∧ Hid (Only (fun b => b = w.heap.size) W9 (((W'.setCell ⟨w.heap.size, 0, none⟩ (.int .i64 tx)).setCell ⟨w.heap.size, 1, none⟩ (.int .i64 ty)).setCell ⟨w.heap.size, 2, none⟩ (.int .i64 tz))) ∧ W'.cell? ⟨wr.heap.size, 0, none⟩ = some (.int .i64 tx) ∧ W'.cell? ⟨wr.heap.size, 1, none⟩ = some (.int .i64 ty) ∧ W'.cell? ⟨wr.heap.size, 2, none⟩ = some (.int .i64 tz) ∧ W'.cell? ⟨w.heap.size, 0, none⟩ = some (.int .i64 fx) ∧ W'.cell? ⟨w.heap.size, 1, none⟩ = some (.int .i64 fy) ∧ W'.cell? ⟨w.heap.size, 2, none⟩ = some (.int .i64 fz) ∧ W'.frozen? ⟨w.heap.size, 0, none⟩ = false ∧ W'.frozen? ⟨w.heap.size, 1, none⟩ = false ∧ W'.frozen? ⟨w.heap.size, 2, none⟩ = false) := Lib.hid (fun v' W' own' gr' => by
                        obtain ⟨V1, hV1, PB, hE1⟩ := P3Box.mk' wr tx ty tz
                        rw [hV1] at gr'
                        have hE2 : Ext V1 ((V1.alloc (.cells #[.int .i64 fx, .int .i64 fy, .int .i64 fz, .int .i64 tx, .int .i64 ty, .int .i64 tz, .int .i64 r, .int .i64 m.tool, .int .i64 m.block] 49)).alloc (.cells #[.int .i64 fx, .int .i64 fy, .int .i64 fz, .int .i64 tx, .int .i64 ty, .int .i64 tz, .int .i64 r, .int .i64 m.tool, .int .i64 m.block] 49)) := ((Ext.refl V1).alloc _).alloc _
                        have hO4 := Only.of_grown gr'
                        have hO4' : Only (fun b => u16.ownBlock = some b) V1 W' := (Only.of_ext hE2).trans hO4
                        have hO4w : Only (fun b => u16.ownBlock = some b) wr W' := (Only.of_ext hE1).trans hO4'
                        have F5 := HFF.out.only hO4w (fun e => by have := hub _ e; omega)
                        have hul : ∀ b, u16.ownBlock = some b → b < wr.heap.size := fun b hb => HOWN.out.lt hb
                        have PB5 := PB.only hO4' (fun e => by have := hul _ e; omega)
                        obtain ⟨s0, s1, s2, -, -, -⟩ := PB5.at
                        obtain ⟨p0, p1, p2, y0, y1, y2⟩ := F5.at
                        have hO5 : Only (fun b => b = w.heap.size) W9 W' := hO.trans' hO4w (fun i hi e => by have := hub _ e; omega)
                        exact ⟨Lib.hid (own'.only ((Only.refl (fun b => b = w.heap.size) W').set3 (.inl rfl) _ _ _) (fun b hb e => by have := own'.base hb; omega)), Lib.hid (F5.put tx ty tz), Lib.hid (hO5.set3 (.inl rfl) _ _ _), s0, s1, s2, p0, p1, p2, y0, y1, y2⟩)
                      clear own4 lit p0 p1 p2 y0 y1 y2
                      go_wp2_with ((at_builtin; refine appM_at rfl _ _ rfl W9.heap.size _ _ (rLegs (x, y, z) (m.tx, m.ty, m.tz) safe r m k) [(⟨fx, fy, fz, tx, ty, tz, r, m.tool, m.block⟩ : Mot)] rfl rfl OW.out LI.out LE.out BA.out ?_; intro v5 W10 own5 gr5 lo5; obtain ⟨OW5', HF5, HO5, s0, s1, s2, p0, p1, p2, y0, y1, y2⟩ := HF2.out _ _ own5 gr5; clear own5 gr5 lo5 HF2 OW LI LE BA d0 d1 d2 l7 l8 t0 t1' t2'))
                      go_roundw
                      case rel => exact ⟨k + 1, by omega, by go_num, (by rw [HLEG.out]; rw [if_pos HK3.out]; exact OW5'.out), (by show P3Box _ _ (rPt (x, y, z) (m.tx, m.ty, m.tz) safe k).1 (rPt (x, y, z) (m.tx, m.ty, m.tz) safe k).2.1 (rPt (x, y, z) (m.tx, m.ty, m.tz) safe k).2.2; rw [HTP.out]; exact HF5.out), HO5.out⟩
                      case measure => simp [intOf]; omega
                    · have hk3' : ((k : Int) == 3) = false := by simp; omega
                      have lit : SlM (((wr.alloc (.cells #[.int .i64 tx, .int .i64 ty, .int .i64 tz] 40)).alloc (.cells #[.int .i64 fx, .int .i64 fy, .int .i64 fz, .int .i64 tx, .int .i64 ty, .int .i64 tz, .int .i64 0, .int .i64 m.tool, .int .i64 m.block] 49)).alloc (.cells #[.int .i64 fx, .int .i64 fy, .int .i64 fz, .int .i64 tx, .int .i64 ty, .int .i64 tz, .int .i64 0, .int .i64 m.tool, .int .i64 m.block] 49)) (.slice (some ⟨wr.heap.size + 1 + 1, 0, none⟩) 1 1) [(⟨fx, fy, fz, tx, ty, tz, 0, m.tool, m.block⟩ : Mot)] := by
                        obtain ⟨V4, hV4, B4, hE4⟩ := M9Box.mk' ((wr.alloc (.cells #[.int .i64 tx, .int .i64 ty, .int .i64 tz] 40)).alloc (.cells #[.int .i64 fx, .int .i64 fy, .int .i64 fz, .int .i64 tx, .int .i64 ty, .int .i64 tz, .int .i64 0, .int .i64 m.tool, .int .i64 m.block] 49)) ⟨fx, fy, fz, tx, ty, tz, 0, m.tool, m.block⟩
                        have := B4.sl1
                        rw [← hV4] at this
                        simpa using this
                      have own4 : OwnM W9.heap.size (((wr.alloc (.cells #[.int .i64 tx, .int .i64 ty, .int .i64 tz] 40)).alloc (.cells #[.int .i64 fx, .int .i64 fy, .int .i64 fz, .int .i64 tx, .int .i64 ty, .int .i64 tz, .int .i64 0, .int .i64 m.tool, .int .i64 m.block] 49)).alloc (.cells #[.int .i64 fx, .int .i64 fy, .int .i64 fz, .int .i64 tx, .int .i64 ty, .int .i64 tz, .int .i64 0, .int .i64 m.tool, .int .i64 m.block] 49)) u16 (rLegs (x, y, z) (m.tx, m.ty, m.tz) safe r m k) := ((HOWN.out.later ((Ext.refl wr).alloc (.cells #[.int .i64 tx, .int .i64 ty, .int .i64 tz] 40))).later ((Ext.refl _).alloc (.cells #[.int .i64 fx, .int .i64 fy, .int .i64 fz, .int .i64 tx, .int .i64 ty, .int .i64 tz, .int .i64 0, .int .i64 m.tool, .int .i64 m.block] 49))).later ((Ext.refl _).alloc (.cells #[.int .i64 fx, .int .i64 fy, .int .i64 fz, .int .i64 tx, .int .i64 ty, .int .i64 tz, .int .i64 0, .int .i64 m.tool, .int .i64 m.block] 49))
                      have OW := Lib.hid own4; have LI := Lib.hid lit
                      have LE : Hid ((rLegs (x, y, z) (m.tx, m.ty, m.tz) safe r m k).length + [(⟨fx, fy, fz, tx, ty, tz, 0, m.tool, m.block⟩ : Mot)].length ≤ 1000000000) := Lib.hid (by simp; omega)
                      have BA : Hid (W9.heap.size ≤ (((wr.alloc (.cells #[.int .i64 tx, .int .i64 ty, .int .i64 tz] 40)).alloc (.cells #[.int .i64 fx, .int .i64 fy, .int .i64 fz, .int .i64 tx, .int .i64 ty, .int .i64 tz, .int .i64 0, .int .i64 m.tool, .int .i64 m.block] 49)).alloc (.cells #[.int .i64 fx, .int .i64 fy, .int .i64 fz, .int .i64 tx, .int .i64 ty, .int .i64 tz, .int .i64 0, .int .i64 m.tool, .int .i64 m.block] 49)).heap.size) := Lib.hid (Nat.le_trans hsz (by simp; omega))
                      have HF2 : Hid (∀ v' W', OwnM W9.heap.size W' v' (rLegs (x, y, z) (m.tx, m.ty, m.tz) safe r m k ++ [(⟨fx, fy, fz, tx, ty, tz, 0, m.tool, m.block⟩ : Mot)]) → (((wr.alloc (.cells #[.int .i64 tx, .int .i64 ty, .int .i64 tz] 40)).alloc (.cells #[.int .i64 fx, .int .i64 fy, .int .i64 fz, .int .i64 tx, .int .i64 ty, .int .i64 tz, .int .i64 0, .int .i64 m.tool, .int .i64 m.block] 49)).alloc (.cells #[.int .i64 fx, .int .i64 fy, .int .i64 fz, .int .i64 tx, .int .i64 ty, .int .i64 tz, .int .i64 0, .int .i64 m.tool, .int .i64 m.block] 49)).grownBy W' u16.ownBlock →
                          Hid (OwnM W9.heap.size (((W'.setCell ⟨w.heap.size, 0, none⟩ (.int .i64 tx)).setCell ⟨w.heap.size, 1, none⟩ (.int .i64 ty)).setCell ⟨w.heap.size, 2, none⟩ (.int .i64 tz)) v' (rLegs (x, y, z) (m.tx, m.ty, m.tz) safe r m k ++ [(⟨fx, fy, fz, tx, ty, tz, 0, m.tool, m.block⟩ : Mot)])) ∧ Hid (P3Box (((W'.setCell ⟨w.heap.size, 0, none⟩ (.int .i64 tx)).setCell ⟨w.heap.size, 1, none⟩ (.int .i64 ty)).setCell ⟨w.heap.size, 2, none⟩ (.int .i64 tz)) w.heap.size tx ty tz) ∧ Hid (Only (fun b => b = w.heap.size) W9 (((W'.setCell ⟨w.heap.size, 0, none⟩ (.int .i64 tx)).setCell ⟨w.heap.size, 1, none⟩ (.int .i64 ty)).setCell ⟨w.heap.size, 2, none⟩ (.int .i64 tz))) ∧ W'.cell? ⟨wr.heap.size, 0, none⟩ = some (.int .i64 tx) ∧ W'.cell? ⟨wr.heap.size, 1, none⟩ = some (.int .i64 ty) ∧ W'.cell? ⟨wr.heap.size, 2, none⟩ = some (.int .i64 tz) ∧ W'.cell? ⟨w.heap.size, 0, none⟩ = some (.int .i64 fx) ∧ W'.cell? ⟨w.heap.size, 1, none⟩ = some (.int .i64 fy) ∧ W'.cell? ⟨w.heap.size, 2, none⟩ = some (.int .i64 fz) ∧ W'.frozen? ⟨w.heap.size, 0, none⟩ = false ∧ W'.frozen? ⟨w.heap.size, 1, none⟩ = false ∧ W'.frozen? ⟨w.heap.size, 2, none⟩ = false) := Lib.hid (fun v' W' own' gr' => by
                        obtain ⟨V1, hV1, PB, hE1⟩ := P3Box.mk' wr tx ty tz
                        rw [hV1] at gr'
                        have hE2 : Ext V1 ((V1.alloc (.cells #[.int .i64 fx, .int .i64 fy, .int .i64 fz, .int .i64 tx, .int .i64 ty, .int .i64 tz, .int .i64 0, .int .i64 m.tool, .int .i64 m.block] 49)).alloc (.cells #[.int .i64 fx, .int .i64 fy, .int .i64 fz, .int .i64 tx, .int .i64 ty, .int .i64 tz, .int .i64 0, .int .i64 m.tool, .int .i64 m.block] 49)) := ((Ext.refl V1).alloc _).alloc _
                        have hO4 := Only.of_grown gr'
                        have hO4' : Only (fun b => u16.ownBlock = some b) V1 W' := (Only.of_ext hE2).trans hO4
                        have hO4w : Only (fun b => u16.ownBlock = some b) wr W' := (Only.of_ext hE1).trans hO4'
                        have F5 := HFF.out.only hO4w (fun e => by have := hub _ e; omega)
                        have hul : ∀ b, u16.ownBlock = some b → b < wr.heap.size := fun b hb => HOWN.out.lt hb
                        have PB5 := PB.only hO4' (fun e => by have := hul _ e; omega)
                        obtain ⟨s0, s1, s2, -, -, -⟩ := PB5.at
                        obtain ⟨p0, p1, p2, y0, y1, y2⟩ := F5.at
                        have hO5 : Only (fun b => b = w.heap.size) W9 W' := hO.trans' hO4w (fun i hi e => by have := hub _ e; omega)
                        exact ⟨Lib.hid (own'.only ((Only.refl (fun b => b = w.heap.size) W').set3 (.inl rfl) _ _ _) (fun b hb e => by have := own'.base hb; omega)), Lib.hid (F5.put tx ty tz), Lib.hid (hO5.set3 (.inl rfl) _ _ _), s0, s1, s2, p0, p1, p2, y0, y1, y2⟩)
                      clear own4 lit p0 p1 p2 y0 y1 y2
                      go_wp2_with ((at_builtin; refine appM_at rfl _ _ rfl W9.heap.size _ _ (rLegs (x, y, z) (m.tx, m.ty, m.tz) safe r m k) [(⟨fx, fy, fz, tx, ty, tz, 0, m.tool, m.block⟩ : Mot)] rfl rfl OW.out LI.out LE.out BA.out ?_; intro v5 W10 own5 gr5 lo5; obtain ⟨OW5', HF5, HO5, s0, s1, s2, p0, p1, p2, y0, y1, y2⟩ := HF2.out _ _ own5 gr5; clear own5 gr5 lo5 HF2 OW LI LE BA d0 d1 d2 l7 l8 t0 t1' t2'))
                      go_roundw
                      case rel => exact ⟨k + 1, by omega, by go_num, (by rw [HLEG.out]; rw [if_neg hk3]; exact OW5'.out), (by show P3Box _ _ (rPt (x, y, z) (m.tx, m.ty, m.tz) safe k).1 (rPt (x, y, z) (m.tx, m.ty, m.tz) safe k).2.1 (rPt (x, y, z) (m.tx, m.ty, m.tz) safe k).2.2; rw [HTP.out]; exact HF5.out), HO5.out⟩
                      case measure => simp [intOf]; omega
                · have hlt' : decide ((k : Int) < 4) = false := by simp; omega
                  obtain rfl : k = 4 := by omega
                  have hR := HR9.out.only hO (fun b hb e => HVF.out (by rw [hb, e]))
                  obtain ⟨a11, n11, c11, b11, o11, hv11, -⟩ := id hR
                  have OW := Lib.hid hown; have LI := Lib.hid hR
                  have LE : Hid ((rLegs (x, y, z) (m.tx, m.ty, m.tz) safe r m 4).length + (l.drop (q + 1)).length ≤ 1000000000) := Lib.hid (by omega)
                  have BA := Lib.hid hsz
                  have hE9' : Ext w wr := HE9.out.only hO (fun i hi e => by omega)
                  have hub : ∀ b, u16.ownBlock = some b → W9.heap.size ≤ b := fun b hb => hown.base hb
                  have hw9 := HE9.out.size
                  have HF3 : Hid (∀ v' W', OwnM W9.heap.size W' v' (rLegs (x, y, z) (m.tx, m.ty, m.tz) safe r m 4 ++ l.drop (q + 1)) → wr.grownBy W' u16.ownBlock → Hid (OwnM W9.heap.size W' v' (rLegs (x, y, z) (m.tx, m.ty, m.tz) safe r m 4 ++ l.drop (q + 1))) ∧ Hid (Ext w W')) := Lib.hid (fun v' W' own' gr' => ⟨Lib.hid own', Lib.hid (ext_grown hE9' gr' (fun k hk => by have := hub k hk; omega))⟩)
                  clear hown hR hF hub hE9'
                  go_wp2_with ((at_builtin; refine appM_at rfl _ _ rfl W9.heap.size _ _ (rLegs (x, y, z) (m.tx, m.ty, m.tz) safe r m 4) (l.drop (q + 1)) rfl rfl OW.out LI.out LE.out BA.out ?_; intro v5 W10 own5 gr5 lo5; obtain ⟨OW5', HEE⟩ := HF3.out _ _ own5 gr5; clear own5 gr5 lo5 HF3 OW LI LE BA))
                  obtain ⟨a12, n12, c12, hv12⟩ := OW5'.out.form
                  subst hv12
                  go_ret2
                  exact ⟨_, rfl, OW5'.out.sl, OW5'.out.fre (by omega), HEE.out⟩

end Go.Proofs.YtjibcnnbclcboaaDoor
