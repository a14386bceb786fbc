/-
  Walks: position of the law's model.
  Walks: start of the law's model.
  Walks: piece of the law's model.
  Walks: stop, pieces of the law's model.
-/
import Derived.Test.YtfmjmabaabmgcaaQB14
namespace Go.Proofs.Ytfmjmabaabmgcaa
open Go.RowKit
set_option maxRecDepth 8000

/-- The present position of the model. -/
def Mdl.at3 (C : Mdl) : Int × Int × Int :=
  if C.ms.length = 0 then (0, 0, 0)
  else if C.idx = C.ms.length then ((C.ms.getD (C.idx - 1) Mot.zero).tx, (C.ms.getD (C.idx - 1) Mot.zero).ty, (C.ms.getD (C.idx - 1) Mot.zero).tz)
  else (btw C.cur.fx C.cur.tx C.part C.cur.len, btw C.cur.fy C.cur.ty C.part C.cur.len, btw C.cur.fz C.cur.tz C.part C.cur.len)

set_option maxHeartbeats 1000000 in
theorem mpos_cur {w : World} {N : Nat} {vm vp vq : Value} {C : Mdl} (h : GBox w N vm vp vq C) (hm : SlM w vm C.ms) (hi : C.idx < C.ms.length) (hr : C.cur.rng) (p0 : 0 ≤ C.part) (p1 : C.part ≤ C.cur.len) (p2 : 1 ≤ C.cur.len) (hok : C.ok = true) :
    Calls Try.prog 42 #[.pointer (some ⟨N, 0, none⟩)] w fun e w' => e = .returned (P3 C.at3) ∧ GBox w' N vm vp vq C ∧ Only (fun k => k = N) w w' := by
  have e3 : C.at3 = (btw C.cur.fx C.cur.tx C.part C.cur.len, btw C.cur.fy C.cur.ty C.part C.cur.len, btw C.cur.fz C.cur.tz C.part C.cur.len) := by
    unfold Mdl.at3; rw [if_neg (by omega), if_neg (by omega)]
  rw [e3]; clear e3
  have c0 := h.c0; have c4 := h.c4; have c5 := h.c5; have hN := h.lt
  obtain ⟨ad, n, cap, b, off, rfl, rfl, h3, -, h4⟩ := hm
  obtain ⟨hb1, hb2⟩ := h4 C.idx hi
  obtain rfl : ad = some ⟨b, off, none⟩ := h3.resolve_left (by omega)
  clear h3 h4
  have hl := Mot.len_bounds hr
  have HR := Lib.hid hr
  unfold Mdl.cur at *
  clear hr
  generalize C.ms.getD C.idx Mot.zero = p at *
  generalize C.ms.length = n at *
  have kp := fun w => pos_mot p C.part w HR.out p0 p1 p2
  have KP := Lib.hid kp; clear kp
  generalize btw p.fx p.tx C.part p.len = X at KP ⊢; generalize btw p.fy p.ty C.part p.len = Y at KP ⊢; generalize btw p.fz p.tz C.part p.len = Z at KP ⊢
  have hin : ¬ (C.idx : Int) = (n : Int) := by omega
  go_enter Try.func42, Try.ntmps42
  go_wp2_with fail
  obtain ⟨W1, hW1, P1, hE1⟩ := P3Box.mk' w 0 0 0
  rw [hW1]; clear hW1
  have h1 := h.later hE1
  have hb3 := hb2.later hb1 hE1
  clear c0 c4 c5 h hb2
  have c0 := Later.cell h1.c0; have c4 := Later.cell h1.c4; have c5 := Later.cell h1.c5
  have d0 := Later.cell hb3.c0; have d1 := Later.cell hb3.c1; have d2 := Later.cell hb3.c2; have d3 := Later.cell hb3.c3; have d4 := Later.cell hb3.c4; have d5 := Later.cell hb3.c5; have d6 := Later.cell hb3.c6; have d7 := Later.cell hb3.c7; have d8 := Later.cell hb3.c8
  refine wp_region_later (by kernel_rfl) (by kernel_rfl) ?_
  repeat (go_big_quiet_step (fail))
  refine wpQuiet_nil ?_
  rintro _ ⟨x, rfl⟩
  go_wp2_with fail
  refine wp_region_plan (fun w' => ∃ y : Later W1, w' = y.w) 11 [([0, 1, 2, 3, 4, 5, 6, 7, 8, 9], 10)] [] (by kernel_rfl) (by kernel_rfl) (by kernel_rfl) ⟨⟨_, x.ext.drew⟩, rfl⟩ ?_
  simp only [List.take_succ_cons, List.take_zero, List.map_cons, List.map_nil, pickSeg, pickOp, List.getElem?_cons_zero, List.getElem?_cons_succ, Option.getD_some]
  refine segs_cons fun K hK => ?_
  repeat (go_big_quiet_step (fail))
  refine wpQuiet_nil ?_
  go_wp2_with fail
  refine onlyK_normal (hK _ _ ⟨⟨_, (x.ext.drew).alloc _⟩, rfl⟩ ?_); clear hK K
  refine segs_last ?_
  simp only [List.drop_succ_cons, List.drop_zero]
  refine wpQuiet_nil ?_
  go_wp2_with fail
  have hx := x.ext
  have hNx : N < x.w.heap.size := Nat.lt_of_lt_of_le h1.lt hx.size
  have hbx : b < x.w.heap.size := Nat.lt_of_lt_of_le hb1 (Nat.le_trans hE1.size hx.size)
  obtain ⟨W2, hW2, B2, hE2⟩ := MBox.mk' x.w p
  rw [hW2]; clear hW2
  have h2 := h1.later (hx.trans hE2)
  have hP2 := P1.later (hx.trans hE2)
  have hE3 : Ext w W2 := hE1.trans (hx.trans hE2)
  clear c0 c4 c5 d0 d1 d2 d3 d4 d5 d6 d7 d8 h1 hb3
  have c5 := Later.cell h2.c5
  have d0 := B2.c0; have d1 := B2.c1; have d2 := B2.c2; have d3 := B2.c3; have d4 := B2.c4; have d5 := B2.c5; have d6 := B2.c6; have d7 := B2.c7; have d8 := B2.c8
  have hws : w.heap.size < W2.heap.size := hP2.lt
  generalize x.w.heap.size = M at *
  have HH2 := Lib.hid h2
  have hNw : N < w.heap.size := hN
  clear hx hE2 hE1 P1 x hb1 hbx hNx B2 h2
  clear W1
  refine wp_region_tree (fun w' => ∃ y : Later W2, w' = y.w) 17 (.two [0, 1, 2, 3, 4, 5, 6, 7, 8] 9 14 (.two [] 10 14 (.one [11, 12, 13] 14 (.one [] 15 (.leaf [16]))) (.one [] 10 (.one [11, 12, 13] 15 (.leaf [16])))) (.one [] 9 (.one [] 10 (.one [11, 12, 13] 15 (.leaf [16]))))) (by kernel_rfl) (by kernel_rfl) (by kernel_rfl) ⟨⟨_, (Ext.refl W2).drew.drew⟩, rfl⟩ ?_
  simp only [List.take_succ_cons, List.take_zero]
  refine tree_two fun K1 K2 hK1 hK2 => ?_
  simp only [List.map_cons, List.map_nil, pickOp, List.getElem?_cons_zero, List.getElem?_cons_succ, Option.getD_some]
  repeat (go_big_quiet_step (fail))
  refine wpQuiet_nil ⟨?_, ?_⟩
  · clear hK2 K2
    go_wp2_with ((go_at_call 16; with_reducible refine (rlength_any p _ HR.out).mono ?_); rintro e w3 ⟨rfl, hx3⟩)
    have hx3 : Ext W2 w3 := ((Ext.refl W2).drew.drew).trans hx3
    refine onlyK_normal (hK1 _ _ ⟨⟨_, hx3⟩, rfl⟩ ?_); clear hK1 K1
    refine tree_two0 fun K1 K2 hK1 hK2 => ?_
    simp only [pickOp, List.getElem?_cons_zero, List.getElem?_cons_succ, Option.getD_some]
    refine ⟨?_, ?_⟩
    · clear hK2 K2
      go_wp2_with ((go_at_call 58; with_reducible refine (KP.out _).mono ?_); rintro e w4 ⟨rfl, hx4⟩)
      have hx4 : Ext W2 w4 := hx3.trans hx4
      refine onlyK_normal (hK1 _ _ ⟨⟨_, hx4⟩, rfl⟩ ?_); clear hK1 K1
      refine tree_one fun K hK => ?_
      simp only [List.map_cons, List.map_nil, pickOp, List.getElem?_cons_zero, List.getElem?_cons_succ, Option.getD_some]
      repeat (go_big_quiet_step (fail))
      refine wpQuiet_nil ?_
      go_wp2_with fail
      refine onlyK_normal (hK _ _ ⟨⟨_, hx4.alloc _⟩, rfl⟩ ?_); clear hK K
      refine tree_one0 fun K hK => ?_
      simp only [pickOp, List.getElem?_cons_zero, List.getElem?_cons_succ, Option.getD_some]
      go_wp2_with fail
      refine onlyK_normal (hK _ _ ⟨⟨_, hx4.alloc _⟩, rfl⟩ ?_); clear hK K
      refine tree_leaf ?_
      simp only [List.map_cons, List.map_nil, pickOp, List.getElem?_cons_zero, List.getElem?_cons_succ, Option.getD_some]
      repeat (go_big_quiet_step (fail))
      refine wpQuiet_nil ?_
      simp only [List.drop_succ_cons, List.drop_zero]
      obtain ⟨W5, hW5, B5, hE5⟩ := P3Box.mk' w4 X Y Z
      rw [hW5]; clear hW5
      have hE5 := hx4.trans hE5
      have hP5 := hP2.later hE5
      obtain ⟨b0, b1, b2, -, -, -⟩ := B5.at
      obtain ⟨g0, g1, g2, g3, g4, g5⟩ := hP5.at
      have hG5 := HH2.out.later hE5
      have c12 := hG5.c12; have f12 := hG5.fr 12
      rw [hok] at c12
      clear HH2
      go_wp2
      refine bodyPost_ret (v := Ps X Y Z) (by simp [results, Try.results42, go_sem, g0, g1, g2]) rfl ⟨rfl, ?_, ?_⟩
      · have hs := hG5.set_ok true
        have e : { C with ok := true } = C := by cases C; simp only at hok; subst hok; rfl
        rw [e] at hs
        exact hs.only ((Only.refl (fun k => k = w.heap.size) _).set3 (.inl rfl) _ _ _) (by omega)
      · exact ((Only.of_ext (D := fun k => k = N) (hE3.trans hE5)).set (.inl rfl) _).set3 (.inr (Nat.le_refl _)) _ _ _
    · clear hK1 K1
      go_wp2_with fail
      obtain ⟨W4, hW4, B4, hE4⟩ := P3Box.mk' w3 0 0 0
      rw [hW4]; clear hW4
      have hb : W2.heap.size ≤ w3.heap.size := hx3.size
      generalize w3.heap.size = b3 at *
      have hE4 := hx3.trans hE4
      refine onlyK_normal (hK2 _ _ ⟨⟨_, hE4⟩, rfl⟩ ?_); clear hK2 K2
      refine tree_one0 fun K hK => ?_
      simp only [pickOp, List.getElem?_cons_zero, List.getElem?_cons_succ, Option.getD_some]
      go_wp2_with ((go_at_call 58; with_reducible refine (KP.out _).mono ?_); rintro e w4 ⟨rfl, hx4⟩)
      have B4 := B4.later hx4
      have hx4 : Ext W2 w4 := hE4.trans hx4
      clear hE4
      refine onlyK_normal (hK _ _ ⟨⟨_, hx4⟩, rfl⟩ ?_); clear hK K
      refine tree_one fun K hK => ?_
      simp only [List.map_cons, List.map_nil, pickOp, List.getElem?_cons_zero, List.getElem?_cons_succ, Option.getD_some]
      repeat (go_big_quiet_step (fail))
      refine wpQuiet_nil ?_
      obtain ⟨b0, b1, b2, b3', b4', b5'⟩ := B4.at
      go_wp2_with fail
      have hE5 := ((hx4.setCell (p := ⟨b3, 0, none⟩) hb (.int .i64 X)).setCell (p := ⟨b3, 1, none⟩) hb (.int .i64 Y)).setCell (p := ⟨b3, 2, none⟩) hb (.int .i64 Z)
      have B5 := B4.put X Y Z
      refine onlyK_normal (hK _ _ ⟨⟨_, hE5⟩, rfl⟩ ?_); clear hK K
      clear b0 b1 b2 b3' b4' b5'
      generalize ((w4.setCell ⟨b3, 0, none⟩ (.int .i64 X)).setCell ⟨b3, 1, none⟩ (.int .i64 Y)).setCell ⟨b3, 2, none⟩ (.int .i64 Z) = W5 at *
      refine tree_leaf ?_
      simp only [List.map_cons, List.map_nil, pickOp, List.getElem?_cons_zero, List.getElem?_cons_succ, Option.getD_some]
      repeat (go_big_quiet_step (fail))
      refine wpQuiet_nil ?_
      simp only [List.drop_succ_cons, List.drop_zero]
      have hP5 := hP2.later hE5
      obtain ⟨b0, b1, b2, -, -, -⟩ := B5.at
      obtain ⟨g0, g1, g2, g3, g4, g5⟩ := hP5.at
      have hG5 := HH2.out.later hE5
      have c12 := hG5.c12; have f12 := hG5.fr 12
      rw [hok] at c12
      clear HH2
      go_wp2
      refine bodyPost_ret (v := Ps X Y Z) (by simp [results, Try.results42, go_sem, g0, g1, g2]) rfl ⟨rfl, ?_, ?_⟩
      · have hs := hG5.set_ok true
        have e : { C with ok := true } = C := by cases C; simp only at hok; subst hok; rfl
        rw [e] at hs
        exact hs.only ((Only.refl (fun k => k = w.heap.size) _).set3 (.inl rfl) _ _ _) (by omega)
      · exact ((Only.of_ext (D := fun k => k = N) (hE3.trans hE5)).set (.inl rfl) _).set3 (.inr (Nat.le_refl _)) _ _ _
  · clear hK1 K1
    go_wp2_with fail
    obtain ⟨W4, hW4, B4, hE4⟩ := P3Box.mk' W2 0 0 0
    rw [hW4]; clear hW4
    have hb : W2.heap.size ≤ W2.heap.size := Nat.le_refl _
    generalize hb3 : W2.heap.size = b3 at B4
    rw [hb3] at hb
    have HB3 := Lib.hid hb3; clear hb3
    have hb : W2.heap.size ≤ b3 := by rw [HB3.out]; exact Nat.le_refl _
    refine onlyK_normal (hK2 _ _ ⟨⟨_, hE4.drew.drew⟩, rfl⟩ ?_); clear hK2 K2
    refine tree_one0 fun K hK => ?_
    simp only [pickOp, List.getElem?_cons_zero, List.getElem?_cons_succ, Option.getD_some]
    go_wp2_with ((go_at_call 16; with_reducible refine (rlength_any p _ HR.out).mono ?_); rintro e w3 ⟨rfl, hx3⟩)
    have B4 := B4.later ((Ext.refl W4).drew.drew.trans hx3)
    have hx3' : Ext W2 w3 := hE4.drew.drew.trans hx3
    clear hE4
    refine onlyK_normal (hK _ _ ⟨⟨_, hx3'⟩, rfl⟩ ?_); clear hK K
    refine tree_one0 fun K hK => ?_
    simp only [pickOp, List.getElem?_cons_zero, List.getElem?_cons_succ, Option.getD_some]
    go_wp2_with ((go_at_call 58; with_reducible refine (KP.out _).mono ?_); rintro e w4 ⟨rfl, hx4⟩)
    have B4 := B4.later hx4
    have hx4 : Ext W2 w4 := hx3'.trans hx4
    refine onlyK_normal (hK _ _ ⟨⟨_, hx4⟩, rfl⟩ ?_); clear hK K
    refine tree_one fun K hK => ?_
    simp only [List.map_cons, List.map_nil, pickOp, List.getElem?_cons_zero, List.getElem?_cons_succ, Option.getD_some]
    repeat (go_big_quiet_step (fail))
    refine wpQuiet_nil ?_
    obtain ⟨b0, b1, b2, b3', b4', b5'⟩ := B4.at
    go_wp2_with fail
    have hE5 := ((hx4.setCell (p := ⟨b3, 0, none⟩) hb (.int .i64 X)).setCell (p := ⟨b3, 1, none⟩) hb (.int .i64 Y)).setCell (p := ⟨b3, 2, none⟩) hb (.int .i64 Z)
    have B5 := B4.put X Y Z
    refine onlyK_normal (hK _ _ ⟨⟨_, hE5⟩, rfl⟩ ?_); clear hK K
    clear b0 b1 b2 b3' b4' b5'
    generalize ((w4.setCell ⟨b3, 0, none⟩ (.int .i64 X)).setCell ⟨b3, 1, none⟩ (.int .i64 Y)).setCell ⟨b3, 2, none⟩ (.int .i64 Z) = W5 at *
    refine tree_leaf ?_
    simp only [List.map_cons, List.map_nil, pickOp, List.getElem?_cons_zero, List.getElem?_cons_succ, Option.getD_some]
    repeat (go_big_quiet_step (fail))
    refine wpQuiet_nil ?_
    simp only [List.drop_succ_cons, List.drop_zero]
    have hP5 := hP2.later hE5
    obtain ⟨b0, b1, b2, -, -, -⟩ := B5.at
    obtain ⟨g0, g1, g2, g3, g4, g5⟩ := hP5.at
    have hG5 := HH2.out.later hE5
    have c12 := hG5.c12; have f12 := hG5.fr 12
    rw [hok] at c12
    clear HH2
    go_wp2
    refine bodyPost_ret (v := Ps X Y Z) (by simp [results, Try.results42, go_sem, g0, g1, g2]) rfl ⟨rfl, ?_, ?_⟩
    · have hs := hG5.set_ok true
      have e : { C with ok := true } = C := by cases C; simp only at hok; subst hok; rfl
      rw [e] at hs
      exact hs.only ((Only.refl (fun k => k = w.heap.size) _).set3 (.inl rfl) _ _ _) (by omega)
    · exact ((Only.of_ext (D := fun k => k = N) (hE3.trans hE5)).set (.inl rfl) _).set3 (.inr (Nat.le_refl _)) _ _ _

set_option maxHeartbeats 400000 in
theorem mpos_nil {w : World} {N : Nat} {vm vp vq : Value} {C : Mdl} (h : GBox w N vm vp vq C) (hm : SlM w vm C.ms) (hi : C.ms.length = 0) (hi2 : C.idx = C.ms.length) :
    Calls Try.prog 42 #[.pointer (some ⟨N, 0, none⟩)] w fun e w' => e = .returned (P3 C.at3) ∧ Ext w w' := by
  have e3 : C.at3 = (0, 0, 0) := by unfold Mdl.at3; rw [if_pos hi]
  rw [e3]; clear e3
  have hN := h.lt
  obtain ⟨W1, hW1, P1, hE1⟩ := P3Box.mk' w 0 0 0
  have HW1 := Lib.hid hW1; clear hW1
  have h1 := h.later hE1
  obtain ⟨ad, n, cap, b, off, rfl, rfl, -, -, -⟩ := hm
  have c0 := Later.cell h1.c0; have c4 := Later.cell h1.c4
  rw [hi] at c0
  rw [hi2, hi] at c4
  simp at c4
  clear h hi hi2 h1
  go_enter Try.func42, Try.ntmps42
  go_wp2_with fail
  rw [HW1.out]; clear HW1
  refine wp_region_later (by kernel_rfl) (by kernel_rfl) ?_
  repeat (go_big_quiet_step (fail))
  refine wpQuiet_nil ?_
  rintro _ ⟨x, rfl⟩
  have P2 := P1.later x.ext
  have hE2 := hE1.trans x.ext
  have d0 := c0 x
  clear c0 c4
  generalize x.w = W2 at *
  clear x
  obtain ⟨g0, g1, g2, g3, g4, g5⟩ := P2.at
  go_wp2
  refine bodyPost_ret (v := Ps 0 0 0) (by simp [results, Try.results42, go_sem, g0, g1, g2]) rfl ⟨rfl, ?_⟩
  exact Ext.of_only ((Only.of_ext hE2).set3 (.inr (Nat.le_refl _)) _ _ _)

set_option maxHeartbeats 1000000 in
theorem mpos_end {w : World} {N : Nat} {vm vp vq : Value} {C : Mdl} (h : GBox w N vm vp vq C) (hm : SlM w vm C.ms) (hi : C.idx = C.ms.length) (h0 : C.ms.length ≠ 0) (hn : C.ms.length ≤ 1000000000000) :
    Calls Try.prog 42 #[.pointer (some ⟨N, 0, none⟩)] w fun e w' => e = .returned (P3 C.at3) ∧ Ext w w' := by
  have e3 : C.at3 = ((C.ms.getD (C.idx - 1) Mot.zero).tx, (C.ms.getD (C.idx - 1) Mot.zero).ty, (C.ms.getD (C.idx - 1) Mot.zero).tz) := by unfold Mdl.at3; rw [if_neg h0, if_pos hi]
  rw [e3]; clear e3
  have c0 := h.c0; have c4 := h.c4; have hN := h.lt
  obtain ⟨ad, n, cap, b, off, rfl, rfl, h3, -, h4⟩ := hm
  obtain ⟨hb1, hb2⟩ := h4 (C.idx - 1) (by omega)
  obtain rfl : ad = some ⟨b, off, none⟩ := h3.resolve_left (by omega)
  clear h3 h4
  generalize C.ms.getD (C.idx - 1) Mot.zero = p at *
  rw [hi] at hb2
  have c4 : w.cell? ⟨N, 4, none⟩ = some (.int .i64 ((C.ms.length : Nat) : Int)) := by rw [← hi]; exact h.c4
  clear hi
  generalize hK : C.ms.length = n at *
  obtain ⟨k, rfl⟩ : ∃ k, n = k + 1 := ⟨n - 1, by omega⟩
  have HK := Lib.hid hK; clear hK h0
  have hn0 : ¬ ((k + 1 : Nat) : Int) = 0 := by omega
  have e1 : (((k + 1 : Nat) : Int) - 1).toNat = k := by omega
  have e2 : k + 1 - 1 = k := by omega
  rw [e2] at hb2
  clear e2
  go_enter Try.func42, Try.ntmps42
  go_wp2_with fail
  obtain ⟨W1, hW1, P1, hE1⟩ := P3Box.mk' w 0 0 0
  rw [hW1]; clear hW1
  have hb3 := hb2.later hb1 hE1
  have c0' := Later.cell (show W1.cell? _ = _ by rw [hE1.cell (p := ⟨N, 0, none⟩) hN]; exact c0)
  have c4' := Later.cell (show W1.cell? _ = _ by rw [hE1.cell (p := ⟨N, 4, none⟩) hN]; exact c4)
  clear c0 c4 hb2 h
  have d3 := Later.cell hb3.c3; have d4 := Later.cell hb3.c4; have d5 := Later.cell hb3.c5
  refine wp_region_later (by kernel_rfl) (by kernel_rfl) ?_
  repeat (go_big_quiet_step (fail))
  refine wpQuiet_nil ?_
  rintro _ ⟨x, rfl⟩
  go_wp2_with fail
  have P2 := P1.later x.ext
  have hx := x.ext
  have c0 := Later.cell (c0' x); have c4 := Later.cell (c4' x); have d3' := Later.cell (d3 x); have d4' := Later.cell (d4 x); have d5' := Later.cell (d5 x)
  clear c0' c4' d3 d4 d5 P1
  generalize x.w = W3 at *
  clear x
  have f0 := P2.f0; have f1 := P2.f1; have f2 := P2.f2; have g0 := P2.c0; have g1 := P2.c1; have g2 := P2.c2
  refine wp_region_tail 13 (by kernel_rfl) (by kernel_rfl) (by kernel_rfl) ?_
  simp only [List.take_succ_cons, List.take_zero, List.drop_succ_cons, List.drop_zero]
  repeat (go_big_quiet_step (fail))
  refine wpQuiet_nil ?_
  rintro _ ⟨x, rfl⟩
  go_wp2
  refine bodyPost_ret (v := Ps p.tx p.ty p.tz) (by simp [results, Try.results42, go_sem, g0, g1, g2]) rfl ⟨rfl, ?_⟩
  exact ((((hE1.trans hx).trans x.ext).setCell (Nat.le_refl _) _).setCell (Nat.le_refl _) _).setCell (Nat.le_refl _) _


/-- May the model's position be asked for? -/
structure Mdl.posOk (C : Mdl) : Prop where
  le : C.idx ≤ C.ms.length
  n : C.ms.length ≤ 1000000000000
  rng : C.idx < C.ms.length → C.cur.rng
  p0 : C.idx < C.ms.length → 0 ≤ C.part
  p1 : C.idx < C.ms.length → C.part ≤ C.cur.len
  p2 : C.idx < C.ms.length → 1 ≤ C.cur.len
  ok : C.ok = true

theorem mpos_any {w : World} {N : Nat} {vm vp vq : Value} {C : Mdl} (h : GBox w N vm vp vq C) (hm : SlM w vm C.ms) (k : C.posOk) :
    Calls Try.prog 42 #[.pointer (some ⟨N, 0, none⟩)] w fun e w' => e = .returned (P3 C.at3) ∧ GBox w' N vm vp vq C ∧ Only (fun k => k = N) w w' := by
  by_cases h1 : C.idx = C.ms.length
  · by_cases h0 : C.ms.length = 0
    · exact (mpos_nil h hm h0 h1).mono fun _ _ ⟨he, hx⟩ => ⟨he, h.later hx, Only.of_ext hx⟩
    · exact (mpos_end h hm h1 h0 k.n).mono fun _ _ ⟨he, hx⟩ => ⟨he, h.later hx, Only.of_ext hx⟩
  · have h2 : C.idx < C.ms.length := by have := k.le; omega
    exact mpos_cur h hm h2 (k.rng h2) (k.p0 h2) (k.p1 h2) (k.p2 h2) k.ok

end Go.Proofs.Ytfmjmabaabmgcaa

namespace Go.Proofs.Ytfmjmabaabmgcaa
open Go.RowKit
set_option maxRecDepth 8000

/-- The model at its beginning. -/
def Mdl.new (l : List Mot) (s a j : Int) : Mdl :=
  { ms := l, s := s, a := a, j := j, idx := skp l 0, part := 0, plan := [], bef := 0, lst := 0, hd := false, br := false, bk := false, ok := true
    bx := (l.getD 0 Mot.zero).fx, byy := (l.getD 0 Mot.zero).fy, bz := (l.getD 0 Mot.zero).fz, dn := [] }

/-- What start returns. -/
def StartPost (w : World) (v : Value) (l : List Mot) (s a j : Int) (e : Ending) (w' : World) : Prop :=
  ∃ N, e = .returned (.pointer (some ⟨N, 0, none⟩)) ∧ GInv w' N v (.slice none 0 0) (.slice none 0 0) (Mdl.new l s a j) ∧ Ext w w' ∧ w.heap.size ≤ N

theorem nilI (w : World) : SlI w (.slice none 0 0) [] := ⟨none, 0, 0, 0, 0, rfl, rfl, .inl rfl, fun i hi => by omega⟩
theorem nilM (w : World) : SlM w (.slice none 0 0) [] := ⟨none, 0, 0, 0, 0, rfl, rfl, .inl rfl, fun _ => rfl, fun i hi => by omega⟩

set_option maxHeartbeats 2000000 in
theorem start_any (v : Value) (l : List Mot) (s a j : Int) (w : World) (h : SlM w v l) (hn : l.length ≤ 1000000000) (hr : ∀ i, i < l.length → (l.getD i Mot.zero).rng) :
    Calls Try.prog 18 #[v, Lm s a j] w (StartPost w v l s a j) := by
  have HR := Lib.hid hr
  have HS := Lib.hid h
  clear hr
  obtain ⟨ad, n, cap, b, off, hv, hnl, h3, -, h4⟩ := h
  subst hv
  by_cases h0 : l.length = 0
  · rw [h0] at hnl
    subst hnl
    clear h3 h4
    have HZ := Lib.hid (List.length_eq_zero_iff.1 h0)
    go_enter Try.func18, Try.ntmps18
    go_wp2_with fail
    obtain ⟨W1, hW1⟩ : ∃ W1 : World, w.alloc (.cells #[.int .i64 s, .int .i64 a, .int .i64 j] 25) = W1 := ⟨_, rfl⟩
    have hE1 : Ext w W1 := by rw [← hW1]; exact (Ext.refl w).alloc _
    have hz1 : W1.heap.size = w.heap.size + 1 := by rw [← hW1]; simp
    rw [hW1]; clear hW1
    obtain ⟨W2, hW2⟩ : ∃ W2 : World, W1.alloc (.cells #[.slice ad 0 cap, .int .i64 s, .int .i64 a, .int .i64 j, .int .i64 0, .int .i64 0, .slice none 0 0, .int .i64 0, .int .i64 0, .bool false, .bool false, .bool false, .bool true, .int .i64 0, .int .i64 0, .int .i64 0, .slice none 0 0] 52) = W2 := ⟨_, rfl⟩
    have hE2 : Ext W1 W2 := by rw [← hW2]; exact (Ext.refl W1).alloc _
    have hG2 : GBox W2 (w.heap.size + 1) (.slice ad 0 cap) (.slice none 0 0) (.slice none 0 0) { ms := l, s := s, a := a, j := j, idx := 0, part := 0, plan := [], bef := 0, lst := 0, hd := false, br := false, bk := false, ok := true, bx := 0, byy := 0, bz := 0, dn := [] } := by
      rw [← hW2, ← hz1]
      constructor <;> simp [go_sem]
    rw [hW2]; clear hW2
    have hE3 := hE1.trans hE2
    have hS3 := HS.out.later hE3
    have hNL : 0 < l.length → (Value.slice ad 0 cap).ownBlock ≠ some (w.heap.size + 1) := fun hl e => by have := HS.out.lt hl e; omega
    refine (mskip_any hG2 hS3 hNL HR.out (by simp only; omega) (by simp only; omega)).mono ?_
    rintro e w4 ⟨rfl, hG4, hO4⟩
    have hS4 := hS3.only0 hO4 (fun hl b hb e => hNL hl (by rw [hb, e]))
    have hE4 : Ext w w4 := hE3.only hO4 (fun i hi e => by omega)
    have hI : GInv w4 (w.heap.size + 1) (.slice ad 0 cap) (.slice none 0 0) (.slice none 0 0) (Mdl.new l s a j) := ⟨(by have hz := HZ.out; subst hz; exact hG4), hS4, nilI _, nilM _, hNL, (by intro h; cases h), (by intro h; cases h)⟩
    have HI := Lib.hid hI
    clear hI hG4 hS4 hO4
    go_wp2
    go_ret
    exact ⟨_, rfl, HI.out, hE4, by omega⟩
  · have hln : 0 < n := by omega
    obtain ⟨hb1, hb2⟩ := h4 0 hln
    obtain rfl : ad = some ⟨b, off, none⟩ := h3.resolve_left (by omega)
    rw [Nat.zero_mul, Nat.add_zero] at hb2
    have e0 := hb2.c0; have e1 := hb2.c1; have e2 := hb2.c2
    have HNL := Lib.hid hnl
    clear h3 h4 hnl
    generalize hp : l.getD 0 Mot.zero = p at *
    have HP := Lib.hid hp; clear hp hb2
    go_enter Try.func18, Try.ntmps18
    go_wp2_with fail
    obtain ⟨W1, hW1⟩ : ∃ W1 : World, w.alloc (.cells #[.int .i64 s, .int .i64 a, .int .i64 j] 25) = W1 := ⟨_, rfl⟩
    have hE1 : Ext w W1 := by rw [← hW1]; exact (Ext.refl w).alloc _
    have hz1 : W1.heap.size = w.heap.size + 1 := by rw [← hW1]; simp
    rw [hW1]; clear hW1
    obtain ⟨W2, hW2⟩ : ∃ W2 : World, W1.alloc (.cells #[.slice (some ⟨b, off, none⟩) n cap, .int .i64 s, .int .i64 a, .int .i64 j, .int .i64 0, .int .i64 0, .slice none 0 0, .int .i64 0, .int .i64 0, .bool false, .bool false, .bool false, .bool true, .int .i64 p.fx, .int .i64 p.fy, .int .i64 p.fz, .slice none 0 0] 52) = W2 := ⟨_, rfl⟩
    have hE2 : Ext W1 W2 := by rw [← hW2]; exact (Ext.refl W1).alloc _
    have hG2 : GBox W2 (w.heap.size + 1) (.slice (some ⟨b, off, none⟩) n cap) (.slice none 0 0) (.slice none 0 0) { ms := l, s := s, a := a, j := j, idx := 0, part := 0, plan := [], bef := 0, lst := 0, hd := false, br := false, bk := false, ok := true, bx := p.fx, byy := p.fy, bz := p.fz, dn := [] } := by
      rw [← hW2, ← hz1]
      constructor <;> simp [go_sem]
    rw [hW2]; clear hW2
    have hE3 := hE1.trans hE2
    have hS3 := HS.out.later hE3
    have hNL : 0 < l.length → (Value.slice (some ⟨b, off, none⟩) n cap).ownBlock ≠ some (w.heap.size + 1) := fun hl e => by have := HS.out.lt hl e; omega
    refine (mskip_any hG2 hS3 hNL HR.out (by simp only; omega) (by simp only; omega)).mono ?_
    rintro e w4 ⟨rfl, hG4, hO4⟩
    have hS4 := hS3.only0 hO4 (fun hl b hb e => hNL hl (by rw [hb, e]))
    have hE4 : Ext w w4 := hE3.only hO4 (fun i hi e => by omega)
    have hI : GInv w4 (w.heap.size + 1) (.slice (some ⟨b, off, none⟩) n cap) (.slice none 0 0) (.slice none 0 0) (Mdl.new l s a j) := ⟨(by have := hG4; unfold Mdl.new; rw [HP.out]; exact this), hS4, nilI _, nilM _, hNL, (by intro h; cases h), (by intro h; cases h)⟩
    have HI := Lib.hid hI
    clear hI hG4 hS4 hO4
    go_wp2
    go_ret
    exact ⟨_, rfl, HI.out, hE4, by omega⟩

end Go.Proofs.Ytfmjmabaabmgcaa

namespace Go.Proofs.Ytfmjmabaabmgcaa
open Go.RowKit
set_option maxRecDepth 8000

def Mdl.beg3 (C : Mdl) : Int × Int × Int := (C.bx, C.byy, C.bz)
/-- The pieces, with the one up to the present position. -/
def Mdl.pcs (C : Mdl) (m : Mot) : List Mot := if eq3 C.at3 C.beg3 = true then C.dn else C.dn ++ [m.way C.beg3 C.at3]

def PiecePost (w : World) (N : Nat) (vl vp vd : Value) (C : Mdl) (L : List Mot) (e : Ending) (w' : World) : Prop :=
  ∃ v', e = .returned v' ∧ SlM w' v' L ∧ GBox w' N vl vp vd C ∧ Only (fun k => k = N) w w' ∧ (∀ b, v'.ownBlock = some b → vd.ownBlock = some b ∨ (w.heap.size ≤ b ∧ b < w'.heap.size))

/-- An empty slice of one's own. -/
theorem OwnM.empty (B : Nat) (w : World) (hB : B ≤ w.heap.size) : OwnM B (w.alloc (.cells #[] 38)) (.slice (some ⟨w.heap.size, 0, none⟩) 0 0) [] := World.ownsRow_lit (base := B) (e := 38) (size := 9) w #[] 0 hB (by decide) rfl

set_option maxHeartbeats 4000000 in
theorem mpiece_any {w : World} {N : Nat} {vl vp vd : Value} {C : Mdl} (m : Mot) (h : GInv w N vl vp vd C) (k : C.posOk) (hd : C.dn.length ≤ 999999998) :
    Calls Try.prog 67 #[.pointer (some ⟨N, 0, none⟩), Mv m] w (PiecePost w N vl vp vd C (C.pcs m)) := by
  have HH := Lib.hid h
  have HK := Lib.hid k; clear k
  have hN := h.box.lt
  have hnd := h.nd
  have hP : C.pcs m = if eq3 C.at3 C.beg3 = true then C.dn else C.dn ++ [m.way C.beg3 C.at3] := rfl
  have HP := Lib.hid hP
  clear hP
  have kp : ∀ w', Ext w w' → Calls Try.prog 42 #[.pointer (some ⟨N, 0, none⟩)] w' fun e w'' => e = .returned (P3 C.at3) ∧ GBox w'' N vl vp vd C ∧ Only (fun k => k = N) w' w'' := fun w' he => mpos_any (HH.out.later he).box (HH.out.later he).sl HK.out
  have KP := Lib.hid kp
  clear kp h
  obtain ⟨ad, nd0, cd, bd, od, hvd, -⟩ := HH.out.sd
  unfold Mdl.beg3 at HP
  generalize C.pcs m = L at *
  generalize C.at3 = q at *
  obtain ⟨qx, qy, qz⟩ := q
  simp only [P3] at KP
  have heq := fun w => Try.eql_pos qx qy qz C.bx C.byy C.bz w
  have HEQ : Hid (eq3 (qx, qy, qz) (C.bx, C.byy, C.bz) = eqP qx qy qz C.bx C.byy C.bz) := Lib.hid rfl
  rw [HEQ.out] at HP
  clear HEQ
  generalize eqP qx qy qz C.bx C.byy C.bz = bv at *
  go_enter Try.func67, Try.ntmps67
  go_wp2_with fail
  obtain ⟨W1, hW1, B1, hE1⟩ := M9Box.mk' w m
  rw [hW1]; clear hW1
  refine (KP.out _ hE1).mono ?_
  rintro e w2 ⟨rfl, hG2, hO2⟩
  have B2 := B1.only hO2 (by omega)
  have hO2' : Only (fun k => k = N) w w2 := (Only.of_ext hE1).trans hO2
  have hsd2 := (HH.out.sd.later hE1).only hO2 (fun b hb e => hnd (by rw [hb, e]))
  clear B1 hO2 hE1 KP
  clear W1
  go_wp2_with fail
  obtain ⟨W3, hW3, P3', hE3⟩ := P3Box.mk' w2 qx qy qz
  rw [hW3]; clear hW3
  have hG3 := hG2.later hE3; have B3' := B2.later hE3; have hsd3 := hsd2.later hE3
  have hO3 := hO2'.trans (Only.of_ext hE3)
  generalize w2.heap.size = b5 at *
  clear hG2 B2 hsd2 hO2' hE3
  have p0 := P3'.c0; have p1 := P3'.c1; have p2 := P3'.c2
  have g0 := Later.cell hG3.c13; have g1 := Later.cell hG3.c14; have g2 := Later.cell hG3.c15; have g16 := Later.cell hG3.c16
  rw [hvd] at g16
  refine wp_region_later (by kernel_rfl) (by kernel_rfl) ?_
  repeat (go_big_quiet_step (fail))
  refine wpQuiet_nil ?_
  rintro _ ⟨x, rfl⟩
  cases bv
  · have m0 := Later.cell B3'.c0; have m1 := Later.cell B3'.c1; have m2 := Later.cell B3'.c2; have m3 := Later.cell B3'.c3; have m4 := Later.cell B3'.c4; have m5 := Later.cell B3'.c5; have m6 := Later.cell B3'.c6; have m7 := Later.cell B3'.c7; have m8 := Later.cell B3'.c8
    have HG3 := Lib.hid hG3; have HS3 := Lib.hid hsd3
    clear hG3 hsd3
    go_wp2_with fail
    refine wp_region_tree (fun w' => ∃ y : Later W3, w' = y.w) 20 (.two [1, 2, 3, 4, 6, 7, 8, 9, 10, 11, 12, 13, 14, 15, 16, 17] 0 18 (.two [] 5 18 (.one [] 18 (.one [] 19 (.leaf []))) (.one [] 5 (.one [] 19 (.leaf [])))) (.one [] 0 (.one [] 5 (.one [] 19 (.leaf []))))) (by kernel_rfl) (by kernel_rfl) (by kernel_rfl) ⟨⟨_, x.ext.drew⟩, rfl⟩ ?_
    simp only [List.take_succ_cons, List.take_zero]
    refine tree_two fun K1 K2 hK1 hK2 => ?_
    simp only [List.map_cons, List.map_nil, pickOp, List.getElem?_cons_zero, List.getElem?_cons_succ, Option.getD_some]
    repeat (go_big_quiet_step (fail))
    have hV : Ext W3 x.w.drew := x.ext.drew
    clear p0 p1 p2 g0 g1 g2 g16 m0 m1 m2 m3 m4 m5 m6 m7 m8 P3'
    generalize x.w.drew = V at *
    clear x
    refine wpQuiet_nil ⟨?_, ?_⟩
    · clear hK2 K2
      go_wp2_with fail
      obtain ⟨V1, hV1⟩ : ∃ V1 : World, V.alloc (.cells #[] 38) = V1 := ⟨_, rfl⟩
      have eV1 : Ext V V1 := by rw [← hV1]; exact (Ext.refl V).alloc _
      have hbE : V.heap.size < V1.heap.size := by rw [← hV1]; simp
      have own : OwnM W3.heap.size V1 (.slice (some ⟨V.heap.size, 0, none⟩) 0 0) [] := by rw [← hV1]; exact OwnM.empty _ _ hV.size
      rw [hV1]; clear hV1
      have hV1 := hV.trans eV1
      generalize V.heap.size = bE at *
      refine onlyK_normal (hK1 _ _ ⟨⟨_, hV1⟩, rfl⟩ ?_); clear hK1 K1
      refine tree_two0 fun K1 K2 hK1 hK2 => ?_
      simp only [pickOp, List.getElem?_cons_zero, List.getElem?_cons_succ, Option.getD_some]
      refine ⟨?_, ?_⟩
      · clear hK2 K2
        have OW := Lib.hid own; clear own
        have DN := Lib.hid (HS3.out.later hV1)
        have LE : Hid (([] : List Mot).length + C.dn.length ≤ 1000000000) := Lib.hid (by simp; omega)
        have BA := Lib.hid hV1.size
        rw [hvd] at DN
        go_wp2_with ((at_builtin; refine appM_at rfl _ _ rfl W3.heap.size _ _ [] C.dn rfl rfl OW.out DN.out LE.out BA.out ?_; intro v23 V2 own gr lo))
        have eV2 : Ext W3 V2 := ext_grown hV1 gr (fun k hk => OW.out.base hk)
        have own : OwnM W3.heap.size V2 v23 C.dn := own
        clear gr lo OW DN LE BA
        have hV2 := eV2
        refine onlyK_normal (hK1 _ _ ⟨⟨_, hV2⟩, rfl⟩ ?_); clear hK1 K1
        refine tree_one0 fun K hK => ?_
        simp only [pickOp, List.getElem?_cons_zero, List.getElem?_cons_succ, Option.getD_some]
        go_wp2_with fail
        obtain ⟨V3, hV3, bV3, eV3⟩ := M9Box.mk' V2 (m.way (C.bx, C.byy, C.bz) (qx, qy, qz))
        simp only [Mot.way] at hV3
        have hbL : V2.heap.size < V3.heap.size := by rw [← hV3]; simp
        rw [hV3]; clear hV3
        have hV3 := hV2.trans eV3
        have lit := bV3.sl1
        have own := own.later eV3
        generalize V2.heap.size = bL at *
        refine onlyK_normal (hK _ _ ⟨⟨_, hV3⟩, rfl⟩ ?_); clear hK K
        refine tree_one0 fun K hK => ?_
        simp only [pickOp, List.getElem?_cons_zero, List.getElem?_cons_succ, Option.getD_some]
        have OW := Lib.hid own; clear own
        have LI := Lib.hid lit; clear lit
        have LE : Hid (C.dn.length + [m.way (C.bx, C.byy, C.bz) (qx, qy, qz)].length ≤ 1000000000) := Lib.hid (by simp; omega)
        have BA := Lib.hid hV3.size
        go_wp2_with ((at_builtin; refine appM_at rfl _ _ rfl W3.heap.size _ _ C.dn [m.way (C.bx, C.byy, C.bz) (qx, qy, qz)] rfl rfl OW.out LI.out LE.out BA.out ?_; intro v37 V4 own gr lo))
        have eV4 : Ext W3 V4 := ext_grown hV3 gr (fun k hk => OW.out.base hk)
        clear gr lo OW LI LE BA
        refine onlyK_normal (hK _ _ ⟨⟨_, eV4⟩, rfl⟩ ?_); clear hK K
        refine tree_leaf0 ?_
        simp only [List.drop_succ_cons, List.drop_zero]
        have FG := Lib.hid (HG3.out.later eV4)
        have hO9 := hO3.trans (Only.of_ext eV4)
        have OW := Lib.hid own; clear own
        go_wp2
        go_ret
        exact ⟨v37, rfl, by rw [HP.out]; exact OW.out.sl, FG.out, hO9, fun b hb => .inr ⟨Nat.le_trans hO3.size (OW.out.base hb), OW.out.lt hb⟩⟩
      · clear hK1 K1
        go_wp2_with fail
        obtain ⟨V2, hV2, bV2, eV2⟩ := M9Box.mk' V1 (m.way (C.bx, C.byy, C.bz) (qx, qy, qz))
        simp only [Mot.way] at hV2
        have hbL : V1.heap.size < V2.heap.size := by rw [← hV2]; simp
        rw [hV2]; clear hV2
        have hV2 := hV1.trans eV2
        have lit := bV2.sl1
        have own := own.later eV2
        generalize V1.heap.size = bL at *
        refine onlyK_normal (hK2 _ _ ⟨⟨_, hV2⟩, rfl⟩ ?_); clear hK2 K2
        refine tree_one0 fun K hK => ?_
        simp only [pickOp, List.getElem?_cons_zero, List.getElem?_cons_succ, Option.getD_some]
        have OW := Lib.hid own; clear own
        have DN := Lib.hid (HS3.out.later hV2)
        have LE : Hid (([] : List Mot).length + C.dn.length ≤ 1000000000) := Lib.hid (by simp; omega)
        have BA := Lib.hid hV2.size
        rw [hvd] at DN
        go_wp2_with ((at_builtin; refine appM_at rfl _ _ rfl W3.heap.size _ _ [] C.dn rfl rfl OW.out DN.out LE.out BA.out ?_; intro v23 V3 own gr lo))
        have eV3 : Ext W3 V3 := ext_grown hV2 gr (fun k hk => OW.out.base hk)
        have own : OwnM W3.heap.size V3 v23 C.dn := own
        have gr2 : V2.grownBy V3 (some bE) := gr
        have lit := lit.grown gr2 (.inr (by intro e; simp [Value.ownBlock] at e; omega))
        clear gr lo OW DN LE BA
        have hV3 := eV3
        refine onlyK_normal (hK _ _ ⟨⟨_, hV3⟩, rfl⟩ ?_); clear hK K
        refine tree_one0 fun K hK => ?_
        simp only [pickOp, List.getElem?_cons_zero, List.getElem?_cons_succ, Option.getD_some]
        have OW := Lib.hid own; clear own
        have LI := Lib.hid lit; clear lit
        have LE : Hid (C.dn.length + [m.way (C.bx, C.byy, C.bz) (qx, qy, qz)].length ≤ 1000000000) := Lib.hid (by simp; omega)
        have BA := Lib.hid hV3.size
        go_wp2_with ((at_builtin; refine appM_at rfl _ _ rfl W3.heap.size _ _ C.dn [m.way (C.bx, C.byy, C.bz) (qx, qy, qz)] rfl rfl OW.out LI.out LE.out BA.out ?_; intro v37 V4 own gr lo))
        have eV4 : Ext W3 V4 := ext_grown hV3 gr (fun k hk => OW.out.base hk)
        clear gr lo OW LI LE BA
        refine onlyK_normal (hK _ _ ⟨⟨_, eV4⟩, rfl⟩ ?_); clear hK K
        refine tree_leaf0 ?_
        simp only [List.drop_succ_cons, List.drop_zero]
        have FG := Lib.hid (HG3.out.later eV4)
        have hO9 := hO3.trans (Only.of_ext eV4)
        have OW := Lib.hid own; clear own
        go_wp2
        go_ret
        exact ⟨v37, rfl, by rw [HP.out]; exact OW.out.sl, FG.out, hO9, fun b hb => .inr ⟨Nat.le_trans hO3.size (OW.out.base hb), OW.out.lt hb⟩⟩
    · clear hK1 K1
      go_wp2_with fail
      obtain ⟨V1, hV1, bV1, eV1⟩ := M9Box.mk' V (m.way (C.bx, C.byy, C.bz) (qx, qy, qz))
      simp only [Mot.way] at hV1
      have hbL : V.heap.size < V1.heap.size := by rw [← hV1]; simp
      rw [hV1]; clear hV1
      have hV1 := hV.trans eV1
      have lit := bV1.sl1
      generalize V.heap.size = bL at *
      refine onlyK_normal (hK2 _ _ ⟨⟨_, hV1⟩, rfl⟩ ?_); clear hK2 K2
      refine tree_one0 fun K hK => ?_
      simp only [pickOp, List.getElem?_cons_zero, Option.getD_some]
      go_wp2_with fail
      obtain ⟨V2, hV2⟩ : ∃ V2 : World, V1.alloc (.cells #[] 38) = V2 := ⟨_, rfl⟩
      have eV2 : Ext V1 V2 := by rw [← hV2]; exact (Ext.refl V1).alloc _
      have hbE : V1.heap.size < V2.heap.size := by rw [← hV2]; simp
      have own : OwnM W3.heap.size V2 (.slice (some ⟨V1.heap.size, 0, none⟩) 0 0) [] := by rw [← hV2]; exact OwnM.empty _ _ hV1.size
      rw [hV2]; clear hV2
      have hV2 := hV1.trans eV2
      have lit := lit.later eV2
      generalize V1.heap.size = bE at *
      refine onlyK_normal (hK _ _ ⟨⟨_, hV2⟩, rfl⟩ ?_); clear hK K
      refine tree_one0 fun K hK => ?_
      simp only [pickOp, List.getElem?_cons_zero, List.getElem?_cons_succ, Option.getD_some]
      have OW := Lib.hid own; clear own
      have DN := Lib.hid (HS3.out.later hV2)
      have LE : Hid (([] : List Mot).length + C.dn.length ≤ 1000000000) := Lib.hid (by simp; omega)
      have BA := Lib.hid hV2.size
      rw [hvd] at DN
      go_wp2_with ((at_builtin; refine appM_at rfl _ _ rfl W3.heap.size _ _ [] C.dn rfl rfl OW.out DN.out LE.out BA.out ?_; intro v23 V3 own gr lo))
      have eV3 : Ext W3 V3 := ext_grown hV2 gr (fun k hk => OW.out.base hk)
      have own : OwnM W3.heap.size V3 v23 C.dn := own
      have gr2 : V2.grownBy V3 (some bE) := gr
      have lit := lit.grown gr2 (.inr (by intro e; simp [Value.ownBlock] at e; omega))
      clear gr lo OW DN LE BA
      have hV3 := eV3
      refine onlyK_normal (hK _ _ ⟨⟨_, hV3⟩, rfl⟩ ?_); clear hK K
      refine tree_one0 fun K hK => ?_
      simp only [pickOp, List.getElem?_cons_zero, List.getElem?_cons_succ, Option.getD_some]
      have OW := Lib.hid own; clear own
      have LI := Lib.hid lit; clear lit
      have LE : Hid (C.dn.length + [m.way (C.bx, C.byy, C.bz) (qx, qy, qz)].length ≤ 1000000000) := Lib.hid (by simp; omega)
      have BA := Lib.hid hV3.size
      go_wp2_with ((at_builtin; refine appM_at rfl _ _ rfl W3.heap.size _ _ C.dn [m.way (C.bx, C.byy, C.bz) (qx, qy, qz)] rfl rfl OW.out LI.out LE.out BA.out ?_; intro v37 V4 own gr lo))
      have eV4 : Ext W3 V4 := ext_grown hV3 gr (fun k hk => OW.out.base hk)
      clear gr lo OW LI LE BA
      refine onlyK_normal (hK _ _ ⟨⟨_, eV4⟩, rfl⟩ ?_); clear hK K
      refine tree_leaf0 ?_
      simp only [List.drop_succ_cons, List.drop_zero]
      have FG := Lib.hid (HG3.out.later eV4)
      have hO9 := hO3.trans (Only.of_ext eV4)
      have OW := Lib.hid own; clear own
      go_wp2
      go_ret
      exact ⟨v37, rfl, by rw [HP.out]; exact OW.out.sl, FG.out, hO9, fun b hb => .inr ⟨Nat.le_trans hO3.size (OW.out.base hb), OW.out.lt hb⟩⟩
  · have c16 := g16 x
    have hx := x.ext
    have hG4 := hG3.later hx; have hsd4 := hsd3.later hx
    have hO4 := hO3.trans (Only.of_ext hx)
    have HG4 := Lib.hid hG4; have HS4 := Lib.hid hsd4
    clear p0 p1 p2 g0 g1 g2 g16 hG3 hsd3 hO3 B3' P3' hG4 hsd4
    generalize x.w = W4 at *
    clear x
    have HVD := Lib.hid hvd; clear hvd
    go_wp2
    go_ret
    exact ⟨_, rfl, by rw [HP.out, ← HVD.out]; exact HS4.out, HG4.out, hO4, fun b hb => .inl (by rw [HVD.out]; exact hb)⟩

end Go.Proofs.Ytfmjmabaabmgcaa

namespace Go.Proofs.Ytfmjmabaabmgcaa
open Go.RowKit
set_option maxRecDepth 8000

/-- What a call that changes the model leaves. -/
def MRet (w : World) (N : Nat) (vl vp vd : Value) (C' : Mdl) (v : Value) (e : Ending) (w' : World) : Prop :=
  e = .returned v ∧ ∃ vp' vd', GInv w' N vl vp' vd' C' ∧ Only (fun k => k = N) w w' ∧ (∀ b, vd'.ownBlock = some b → vd.ownBlock = some b ∨ (w.heap.size ≤ b ∧ b < w'.heap.size)) ∧ (∀ b, vp'.ownBlock = some b → vp.ownBlock = some b ∨ (w.heap.size ≤ b ∧ b < w'.heap.size))

/-- A piece ends. -/
def Mdl.stopM (C : Mdl) (m : Mot) : Mdl := { C with dn := C.pcs m, bx := C.at3.1, byy := C.at3.2.1, bz := C.at3.2.2 }

set_option maxHeartbeats 4000000 in
theorem mstop_any {w : World} {N : Nat} {vl vp vd : Value} {C : Mdl} (m : Mot) (h : GInv w N vl vp vd C) (k : C.posOk) (hd : C.dn.length ≤ 999999998) (hlp : ∀ b, vp.ownBlock = some b → b < w.heap.size) :
    Calls Try.prog 53 #[.pointer (some ⟨N, 0, none⟩), Mv m] w (MRet w N vl vp vd (C.stopM m) (.tuple #[])) := by
  have HH := Lib.hid h
  have HK := Lib.hid k; clear k
  have hN := h.box.lt
  have HLP := Lib.hid hlp; clear hlp
  clear h
  obtain ⟨W1, hW1, B1, hE1⟩ := M9Box.mk' w m
  have HW1 := Lib.hid hW1; clear hW1
  have k1 := mpiece_any m (HH.out.later hE1) HK.out hd
  have hst : C.stopM m = { C with dn := C.pcs m, bx := C.at3.1, byy := C.at3.2.1, bz := C.at3.2.2 } := rfl
  rw [hst]
  clear hst
  have kp : ∀ w', GBox w' N vl vp vd C → SlM w' vl C.ms → Calls Try.prog 42 #[.pointer (some ⟨N, 0, none⟩)] w' fun e w'' => e = .returned (P3 C.at3) ∧ GBox w'' N vl vp vd C ∧ Only (fun k => k = N) w' w'' := fun w' hg hs => mpos_any hg hs HK.out
  have KP := Lib.hid kp; have K1 := Lib.hid k1
  clear kp k1
  generalize C.pcs m = L at *
  generalize C.at3 = q at *
  obtain ⟨qx, qy, qz⟩ := q
  simp only [P3] at KP
  simp only
  have b0 := B1.c0; have b1 := B1.c1; have b2 := B1.c2; have b3 := B1.c3; have b4 := B1.c4; have b5 := B1.c5; have b6 := B1.c6; have b7 := B1.c7; have b8 := B1.c8
  go_enter Try.func53, Try.ntmps53
  go_wp2_with fail
  rw [HW1.out]; clear HW1
  refine K1.out.mono ?_
  rintro e w2 ⟨v2, rfl, hs2, hG2, hO2, hl2⟩
  have hO2' : Only (fun k => k = N) w w2 := (Only.of_ext hE1).trans hO2
  have hsl2 := (HH.out.sl.later hE1).only0 hO2 (fun hl b hb e => HH.out.nl hl (by rw [hb, e]))
  have hsp2 := (HH.out.sp.later hE1).only hO2 (fun b hb e => HH.out.np (by rw [hb, e]))
  have hl2' : ∀ b, v2.ownBlock = some b → vd.ownBlock = some b ∨ (w.heap.size ≤ b ∧ b < w2.heap.size) := fun b hb => (hl2 b hb).imp id (fun h => ⟨Nat.le_trans hE1.size h.1, h.2⟩)
  have hn2 : v2.ownBlock ≠ some N := fun e => by
    rcases hl2' N e with h | h
    · exact HH.out.nd h
    · omega
  clear hO2 hl2 b0 b1 b2 b3 b4 b5 b6 b7 b8 B1 K1 hE1
  clear W1
  go_wp2_with fail
  refine (KP.out _ hG2 hsl2).mono ?_
  rintro e w3 ⟨rfl, hG3, hO3⟩
  have hs3 := hs2.only hO3 (fun b hb e => hn2 (by rw [hb, e]))
  have hsl3 := hsl2.only0 hO3 (fun hl b hb e => HH.out.nl hl (by rw [hb, e]))
  have hsp3 := hsp2.only hO3 (fun b hb e => HH.out.np (by rw [hb, e]))
  have hO3' := hO2'.trans hO3
  have hz := hO3.size
  clear hG2 hs2 hsl2 hsp2 hO2' hO3 KP
  have hs3' := hs3
  obtain ⟨a2, n2, c2, bb2, o2, hv2, -⟩ := hs3
  subst hv2
  have c13 := hG3.c13; have c14 := hG3.c14; have c15 := hG3.c15; have c16 := hG3.c16; have f13 := hG3.fr 13; have f14 := hG3.fr 14; have f15 := hG3.fr 15; have f16 := hG3.fr 16
  go_wp2
  obtain ⟨W4, hW4⟩ : ∃ W4 : World, (((w3.setCell ⟨N, 16, none⟩ (.slice a2 n2 c2)).setCell ⟨N, 13, none⟩ (.int .i64 qx)).setCell ⟨N, 14, none⟩ (.int .i64 qy)).setCell ⟨N, 15, none⟩ (.int .i64 qz) = W4 := ⟨_, rfl⟩
  have hG4 := (((hG3.set_vd (.slice a2 n2 c2) L).set_bx qx).set_byy qy).set_bz qz
  rw [hW4] at hG4
  have hO4 : Only (fun k => k = N) w3 W4 := by rw [← hW4]; exact ((((Only.refl (fun k => k = N) w3).set (.inl rfl) _).set (.inl rfl) _).set (.inl rfl) _).set (.inl rfl) _
  rw [hW4]; clear hW4
  have hI : GInv W4 N vl vp (.slice a2 n2 c2) { C with dn := L, bx := qx, byy := qy, bz := qz } := ⟨hG4, hsl3.only0 hO4 (fun hl b hb e => HH.out.nl hl (by rw [hb, e])), hsp3.only hO4 (fun b hb e => HH.out.np (by rw [hb, e])), hs3'.only hO4 (fun b hb e => hn2 (by rw [hb, e])), HH.out.nl, HH.out.np, hn2⟩
  go_end0
  exact ⟨rfl, vp, _, hI, hO3'.trans hO4, fun b hb => (hl2' b hb).imp id (fun h => ⟨h.1, Nat.lt_of_lt_of_le h.2 (Nat.le_trans hz hO4.size)⟩), fun b hb => .inl hb⟩

end Go.Proofs.Ytfmjmabaabmgcaa
