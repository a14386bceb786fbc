/-
  Walks: tick of the law's model at the start of a plan.
  Walks: stopped of the law's model.
-/
import Derived.Test.YtfmjmabaabmgcaaQB17
namespace Go.Proofs.Ytfmjmabaabmgcaa
open Go.RowKit
set_option maxRecDepth 8000

set_option maxHeartbeats 8000000 in
theorem mtick_start {w : World} {N : Nat} {vl vp vd : Value} {C : Mdl} {x : Int} {r : List Int} (h : GInv w N vl vp vd C) (hlp : ∀ b, vp.ownBlock = some b → b < w.heap.size) (hg : C.Can) (hhd : C.hd = false) (hpl : C.plan = []) (hst : C.steps = x :: r) (hse : stepsE (C.cur.len - C.part) (C.cur.spd C.s) C.a C.j = 0) (x0 : 0 < x) (p1 : C.part + x ≤ C.cur.len) (h0 : -9000000000000000 ≤ C.s) (h1 : C.s ≤ 9000000000000000) :
    Calls Try.prog 22 #[.pointer (some ⟨N, 0, none⟩)] w (MRetC w N vl vp vd (Mdl.advM { C with plan := x :: r, bef := 0, lst := 0, br := false } x r) (.bool true)) := by
  have HH := Lib.hid h
  have hgD : Mdl.Can { C with plan := x :: r, bef := 0, lst := 0, br := false } := ⟨hg.bk, hg.i, hg.n, hg.r, hg.ok, hg.dn, hg.p0, hg.p1, hg.p2⟩
  have HGD := Lib.hid hgD
  have hN := h.box.lt
  have c11 := Later.cell h.box.c11; have c0 := Later.cell h.box.c0; have c4 := Later.cell h.box.c4; have c9 := Later.cell h.box.c9
  rw [hg.bk] at c11
  rw [hhd] at c9
  have hK : ∀ w', Ext w w' → Calls Try.prog 43 #[.pointer (some ⟨N, 0, none⟩)] w' fun e w'' => e = .returned (.bool true) ∧ Ext w' w'' := fun w' he => mrest_any (HH.out.later he).box (HH.out.later he).sp true (by simp [hpl])
  have HK := Lib.hid hK
  clear hK
  obtain ⟨ad, n, cap, b, off, hv, hn, h3, -, h4⟩ := h.sl
  have hi := hg.i
  obtain ⟨hb1, hb2⟩ := h4 C.idx (by omega)
  obtain rfl : ad = some ⟨b, off, none⟩ := h3.resolve_left (by omega)
  have hi2 : C.idx < n := by omega
  rw [hv] at c0
  have HV := Lib.hid hv; clear hv
  have hcur : C.ms.getD C.idx Mot.zero = C.cur := rfl
  rw [hcur] at hb2
  have hrg : C.cur.rng := hg.r _ hi
  have hlb := Mot.len_bounds hrg
  have q0 := hg.p0
  have hsR : stepsR (C.cur.len - C.part) (C.cur.spd C.s) C.a C.j = x :: r := hst
  have kst := fun w => steps_any (C.cur.len - C.part) (C.cur.spd C.s) C.a C.j w
  rw [hsR, hse] at kst
  have KST := Lib.hid kst
  have ko : ∀ w', Ext w w' → Calls Try.prog 51 #[.pointer (some ⟨N, 0, none⟩)] w' fun e w'' => e = .returned (Lm (C.cur.spd C.s) C.a C.j) ∧ Ext w' w'' := fun w' he => own_any (HH.out.later he).box (HH.out.later he).sl hi h0 h1
  have KO := Lib.hid ko
  clear hcur h3 h4 hn h hg hgD kst ko hsR hse hst hpl
  have HLP := Lib.hid hlp; clear hlp
  have hin : ¬ (C.idx : Int) = (n : Int) := by omega
  have hd0 : ((C.idx : Int) == (n : Int)) = false := by simpa using hin
  generalize hcr : C.cur = cr at *
  have HCRC := Lib.hid hcr; clear hcr
  have HRG := Lib.hid hrg; clear hrg
  have hp1 : 0 ≤ cr.len - C.part := by omega
  have hp2 : cr.len - C.part ≤ 40000000 := by omega
  generalize cr.spd C.s = vs at *
  go_enter Try.func22, Try.ntmps22
  go_wp2_with fail
  refine wp_region_later (by kernel_rfl) (by kernel_rfl) ?_
  repeat (go_big_quiet_step ((go_at_call 43; exact Calls.later (HK.out _ (Later.ext _)))))
  refine wpQuiet_nil ?_
  rintro _ ⟨y, rfl⟩
  go_wp2_with fail
  have d0 := Later.cell hb2.c0; have d1 := Later.cell hb2.c1; have d2 := Later.cell hb2.c2; have d3 := Later.cell hb2.c3; have d4 := Later.cell hb2.c4; have d5 := Later.cell hb2.c5; have d6 := Later.cell hb2.c6; have d7 := Later.cell hb2.c7; have d8 := Later.cell hb2.c8
  refine wp_region_tree (fun w' => ∃ z : Later w, w' = z.w) 11 (.one [0, 1, 2, 3, 4, 5, 6, 7, 8, 9] 10 (.leaf [])) (by kernel_rfl) (by kernel_rfl) (by kernel_rfl) ⟨⟨_, y.ext.drew⟩, rfl⟩ ?_
  simp only [List.take_succ_cons, List.take_zero]
  refine tree_one fun K hK => ?_
  simp only [List.map_cons, List.map_nil, pickOp, List.getElem?_cons_zero, List.getElem?_cons_succ, Option.getD_some]
  repeat (go_big_quiet_step (fail))
  refine wpQuiet_nil ?_
  go_wp2_with fail
  refine onlyK_normal (hK _ _ ⟨⟨_, (y.ext.drew).alloc _⟩, rfl⟩ ?_); clear hK K
  refine tree_leaf0 ?_
  simp only [List.drop_succ_cons, List.drop_zero]
  go_wp2_with fail
  obtain ⟨W2, hW2, B2, hE2⟩ := M9Box.mk' y.w cr
  rw [hW2]; clear hW2
  have hE2' : Ext w W2.drew := (y.ext.trans hE2).drew
  have B3' := B2.later (Ext.refl W2).drew
  have hM : w.heap.size ≤ y.w.heap.size := y.ext.size
  generalize y.w.heap.size = M at *
  refine (HK.out _ hE2').mono ?_
  rintro e Wa ⟨rfl, hx3⟩
  have hIa := HH.out.later (hE2'.trans hx3)
  have Ba := B3'.later hx3
  have hEa : Ext w Wa := hE2'.trans hx3
  clear c0 c4 c9 c11 d0 d1 d2 d3 d4 d5 d6 d7 d8 B2 B3' hE2 hE2' hx3 y HK hb2
  clear W2
  have c5 := Later.cell hIa.box.c5
  have d0 := Later.cell Ba.c0; have d1 := Later.cell Ba.c1; have d2 := Later.cell Ba.c2; have d3 := Later.cell Ba.c3; have d4 := Later.cell Ba.c4; have d5 := Later.cell Ba.c5; have d6 := Later.cell Ba.c6; have d7 := Later.cell Ba.c7; have d8 := Later.cell Ba.c8
  have HIA := Lib.hid hIa
  clear hIa
  have kl := fun w => rlength_any cr w HRG.out
  have KL := Lib.hid kl; clear kl
  go_wp2_with fail
  refine wp_region_tree (fun w' => ∃ z : Later Wa, w' = z.w) 14 (.one [0, 2, 3, 4, 5, 7] 1 (.one [6] 8 (.one [] 9 (.leaf [10, 11, 12, 13])))) (by kernel_rfl) (by kernel_rfl) (by kernel_rfl) ⟨⟨_, (Ext.refl Wa).drew⟩, rfl⟩ ?_
  simp only [List.take_succ_cons, List.take_zero]
  refine tree_one fun K hK => ?_
  simp only [List.map_cons, List.map_nil, pickOp, List.getElem?_cons_zero, List.getElem?_cons_succ, Option.getD_some]
  repeat (go_big_quiet_step (fail))
  refine wpQuiet_nil ?_
  go_wp2_with ((go_at_call 16; with_reducible refine (KL.out _).mono ?_); rintro e w5 ⟨rfl, hx5⟩)
  have hx5' : Ext Wa w5 := (Ext.refl Wa).drew.trans hx5
  refine onlyK_normal (hK _ _ ⟨⟨w5, hx5'⟩, rfl⟩ ?_); clear hK K
  refine tree_one fun K hK => ?_
  simp only [List.map_cons, List.map_nil, pickOp, List.getElem?_cons_zero, List.getElem?_cons_succ, Option.getD_some]
  repeat (go_big_quiet_step (fail))
  refine wpQuiet_nil ?_
  go_wp2_with ((go_at_call 51; with_reducible refine (KO.out _ (hEa.trans hx5')).mono ?_); rintro e w6 ⟨rfl, hx6⟩)
  have hx6' : Ext Wa w6 := hx5'.trans hx6
  refine onlyK_normal (hK _ _ ⟨⟨w6, hx6'⟩, rfl⟩ ?_); clear hK K
  refine tree_one0 fun K hK => ?_
  simp only [pickOp, List.getElem?_cons_zero, List.getElem?_cons_succ, Option.getD_some]
  go_wp2_with ((go_at_call 15; with_reducible refine (KST.out _).mono ?_); rintro e w7 ⟨v7, rfl, own7, hx7⟩)
  have hx7' : Ext Wa w7 := hx6'.trans hx7
  refine onlyK_normal (hK _ _ ⟨⟨w7, hx7'⟩, rfl⟩ ?_); clear hK K
  refine tree_leaf ?_
  simp only [List.map_cons, List.map_nil, pickOp, List.getElem?_cons_zero, List.getElem?_cons_succ, Option.getD_some, List.drop_succ_cons, List.drop_zero]
  repeat (go_big_quiet_step (fail))
  refine wpQuiet_nil ?_
  clear c5 d0 d1 d2 d3 d4 d5 d6 d7 d8
  have hs7 := own7.sl
  have hcap7 := own7.cap
  have hbase : ∀ b, v7.ownBlock = some b → w6.heap.size ≤ b ∧ b < w7.heap.size := fun b hb => ⟨own7.base hb, ownsRow_lt own7 hb⟩
  have hz6 : w.heap.size ≤ w6.heap.size := Nat.le_trans hEa.size hx6'.size
  have hI7 := HIA.out.later hx7'
  have B7 := Ba.later hx7'
  have hE7 := hEa.trans hx7'
  obtain ⟨a7, n7, c7, b7, o7, hv7, hn7, -⟩ := id hs7
  subst hv7
  simp only [List.length_cons] at hn7
  have hn70 : ((n7 : Int) == 0) = false := by simp; omega
  have HN7 := Lib.hid hn7
  clear hn7 hx5 hx5' hx6 hx6' hx7 hx7' HIA Ba own7 hEa
  clear Wa
  have k6 := hI7.box.c6; have k7 := hI7.box.c7; have k8 := hI7.box.c8; have k10 := hI7.box.c10; have f6 := hI7.box.fr 6; have f7 := hI7.box.fr 7; have f8 := hI7.box.fr 8; have f10 := hI7.box.fr 10
  obtain ⟨ap, np, cp, bp, op, hvp, -⟩ := hI7.sp
  rw [hvp] at k6
  clear hvp
  have HI7 := Lib.hid hI7
  clear hI7
  have HCAP0 := Lib.hid hcap7; have HS7 := Lib.hid hs7; have HBS := Lib.hid hbase
  clear hcap7 hs7 hbase
  go_wp2_with fail
  have hG3 := (((HI7.out.box.set_vp (.slice a7 n7 c7) (x :: r)).set_bef 0).set_lst 0).set_br false
  have hO7 : Only (fun k => k = N) w7 ((((w7.setCell ⟨N, 6, none⟩ (.slice a7 n7 c7)).setCell ⟨N, 7, none⟩ (.int .i64 0)).setCell ⟨N, 8, none⟩ (.int .i64 0)).setCell ⟨N, 10, none⟩ (.bool false)) := ((((Only.refl (fun k => k = N) w7).set (.inl rfl) _).set (.inl rfl) _).set (.inl rfl) _).set (.inl rfl) _
  clear k6 k7 k8 k10 f6 f7 f8 f10
  generalize (((w7.setCell ⟨N, 6, none⟩ (.slice a7 n7 c7)).setCell ⟨N, 7, none⟩ (.int .i64 0)).setCell ⟨N, 8, none⟩ (.int .i64 0)).setCell ⟨N, 10, none⟩ (.bool false) = W3 at *
  have hv7N : (Value.slice a7 n7 c7).ownBlock ≠ some N := fun e => by have := (HBS.out N e).1; omega
  have hI3 : GInv W3 N vl (.slice a7 n7 c7) vd ({ C with plan := x :: r, bef := 0, lst := 0, br := false } : Mdl) := ⟨hG3, HI7.out.sl.only0 hO7 (fun hl b hb e => HI7.out.nl hl (by rw [hb, e])), HS7.out.only hO7 (fun b hb e => hv7N (by rw [hb, e])), HI7.out.sd.only hO7 (fun b hb e => HI7.out.nd (by rw [hb, e])), HI7.out.nl, hv7N, HI7.out.nd⟩
  have B4 := B7.only hO7 (by omega)
  have hO3 : Only (fun k => k = N) w W3 := (Only.of_ext hE7).trans hO7
  have HLP3 : Hid (∀ b, (Value.slice a7 n7 c7).ownBlock = some b → vp.ownBlock = some b ∨ (w.heap.size ≤ b ∧ b < W3.heap.size)) := Lib.hid (fun b hb => .inr ⟨by have := (HBS.out b hb).1; omega, Nat.lt_of_lt_of_le (HBS.out b hb).2 hO7.size⟩)
  have HPL : Hid (({ C with plan := x :: r, bef := 0, lst := 0, br := false } : Mdl).plan = x :: r) := Lib.hid rfl
  have HCR : Hid (({ C with plan := x :: r, bef := 0, lst := 0, br := false } : Mdl).cur = cr) := Lib.hid HCRC.out
  have q0' : 0 ≤ ({ C with plan := x :: r, bef := 0, lst := 0, br := false } : Mdl).part := q0
  have p1' : ({ C with plan := x :: r, bef := 0, lst := 0, br := false } : Mdl).part + x ≤ cr.len := p1
  clear q0 p1 hp1 hp2 hG3 HS7 HBS hO7 HI7 B7 hv7N hE7 HCRC hn70 HN7 KST KO KL HV hhd h0 h1 hi hi2 hin hd0 hb1
  generalize ({ C with plan := x :: r, bef := 0, lst := 0, br := false } : Mdl) = D at *
  have q0 := q0'
  have p1 := p1'
  clear q0' p1'
  generalize Value.slice a7 n7 c7 = v3 at *
  have HG := HGD
  have HCAP := HCAP0
  clear HGD HCAP0
  have hMN : ¬ M = N := by omega
  have hsp := hI3.sp
  rw [HPL.out] at hsp
  obtain ⟨ap, np, cp, bp, op, hvp, hnp, h3p, h4p⟩ := hsp
  obtain ⟨hbp1, hbp2⟩ := h4p 0 (by rw [hnp]; simp)
  obtain rfl : ap = some ⟨bp, op, none⟩ := h3p.resolve_left (by rw [hnp]; simp)
  have hx0 : (x :: r).getD 0 0 = x := rfl
  rw [hx0, Nat.add_zero] at hbp2
  have hcpp := HCAP.out _ _ _ hvp
  simp only [List.length_cons] at hnp
  obtain ⟨n3, rfl⟩ : ∃ n3, np = n3 + 1 := ⟨np - 1, by omega⟩
  have hn3 : n3 = r.length := by omega
  have HN3 := Lib.hid hn3
  have hbpN : ¬ bp = N := fun e => hI3.np (by rw [hvp, e]; rfl)
  have hst : SlI W3 (.slice (some ⟨bp, op, none⟩) (n3 + 1) cp) (x :: r) := by have := hI3.sp; rw [HPL.out, hvp] at this; exact this
  have HST := Lib.hid hst.tail
  have HVP := Lib.hid hvp
  clear hvp hx0 h3p h4p hnp hst hn3
  have c6' : ∀ z : Cls (P10 N W3 (.slice (some ⟨bp, op, none⟩) (n3 + 1) cp) (.int .i64 D.lst)), z.w.cell? ⟨N, 6, none⟩ = some (.slice (some ⟨bp, op, none⟩) (n3 + 1) cp) := fun z => z.p.2.1
  have c8' : ∀ z : Cls (P10 N W3 (.slice (some ⟨bp, op, none⟩) (n3 + 1) cp) (.int .i64 D.lst)), z.w.cell? ⟨N, 8, none⟩ = some (.int .i64 D.lst) := fun z => z.p.2.2
  have dp' : ∀ z : Cls (P10 N W3 (.slice (some ⟨bp, op, none⟩) (n3 + 1) cp) (.int .i64 D.lst)), z.w.cell? ⟨bp, op, none⟩ = some (.int .i64 x) := fun z => by rw [z.p.1.cell hbp1 hbpN]; exact hbp2
  have c6 := hI3.box.c6; have c8 := hI3.box.c8
  rw [HVP.out] at c6
  haveI : Nonempty (Cls (P10 N W3 (.slice (some ⟨bp, op, none⟩) (n3 + 1) cp) (.int .i64 D.lst))) := ⟨⟨W3, Only.refl _ _, c6, c8⟩⟩
  go_wp2_with fail
  refine wp_region_tree (fun w' => ∃ z : Cls (P10 N W3 (.slice (some ⟨bp, op, none⟩) (n3 + 1) cp) (.int .i64 D.lst)), w' = z.w) 15 (.one [0, 1, 2, 3, 4, 5, 6, 7, 8, 9, 10, 11, 12, 13] 14 (.leaf [])) (by kernel_rfl) (by kernel_rfl) (by kernel_rfl) ⟨⟨W3.drew, (Only.refl _ W3).drew, by simpa using c6, by simpa using c8⟩, rfl⟩ ?_
  simp only [List.take_succ_cons, List.take_zero]
  refine tree_one fun K hK => ?_
  simp only [List.map_cons, List.map_nil, pickOp, List.getElem?_cons_zero, List.getElem?_cons_succ, Option.getD_some]
  repeat (go_big_quiet_step (fail))
  refine wpQuiet_nil ?_
  have c7 := hI3.box.c7; have f7 := hI3.box.fr 7; have f8 := hI3.box.fr 8
  go_wp2_with fail
  have hG4 := hI3.box.set_bef D.lst
  have hO4 : Only (fun k => k = N) W3 (W3.setCell ⟨N, 7, none⟩ (.int .i64 D.lst)) := (Only.refl (fun k => k = N) W3).set (.inl rfl) _
  have k6 := hG4.c6; have k8 := hG4.c8
  rw [HVP.out] at k6
  refine onlyK_normal (hK _ _ ⟨⟨_, hO4.drew, by simpa using k6, by simpa using k8⟩, rfl⟩ ?_); clear hK K
  refine tree_leaf0 ?_
  simp only [List.drop_succ_cons, List.drop_zero]
  clear c6 c7 c8 f7 k6 k8 c6' c8' dp'
  generalize W3.setCell ⟨N, 7, none⟩ (.int .i64 D.lst) = W4 at *
  have k8 := hG4.c8; have f8' := hG4.fr 8
  simp only at k8
  go_wp2_with fail
  have hG5 := hG4.set_lst x
  have hO5 : Only (fun k => k = N) W3 (W4.setCell ⟨N, 8, none⟩ (.int .i64 x)) := hO4.set (.inl rfl) _
  clear k8 f8 f8' hG4 hO4
  generalize W4.setCell ⟨N, 8, none⟩ (.int .i64 x) = W5 at *
  clear W4
  have hG6 := hG5.later (Ext.refl W5).drew
  have hO6 : Only (fun k => k = N) W3 W5.drew := hO5.drew
  clear hG5 hO5
  generalize W5.drew = W6 at *
  clear W5
  have c6 := hG6.c6; have c5 := hG6.c5; have f5 := hG6.fr 5; have f6 := hG6.fr 6
  simp only at c5
  rw [HVP.out] at c6
  have ha0 : 0 ≤ D.part + x := by omega
  have ha1 : D.part + x ≤ 40000000 := by omega
  have c6' : ∀ z : Cls (P11 N W6 (.slice (some ⟨bp, op, none⟩) (n3 + 1) cp)), z.w.cell? ⟨N, 6, none⟩ = some (.slice (some ⟨bp, op, none⟩) (n3 + 1) cp) := fun z => z.p.2
  have dp' : ∀ z : Cls (P11 N W6 (.slice (some ⟨bp, op, none⟩) (n3 + 1) cp)), z.w.cell? ⟨bp, op, none⟩ = some (.int .i64 x) := fun z => by rw [z.p.1.cell (Nat.lt_of_lt_of_le hbp1 hO6.size) hbpN, hO6.cell hbp1 hbpN]; exact hbp2
  haveI : Nonempty (Cls (P11 N W6 (.slice (some ⟨bp, op, none⟩) (n3 + 1) cp))) := ⟨⟨W6, Only.refl _ _, c6⟩⟩
  by_cases hcp : cp = 1
  · obtain rfl : n3 = 0 := by omega
    subst hcp
    have e01 : (0 : Nat) + 1 = 1 := rfl
    rw [e01] at c6 c6' dp' this
    refine wp_region_tree (fun w' => ∃ z : Cls (P11 N W6 (.slice (some ⟨bp, op, none⟩) 1 1)), w' = z.w) 21 (.one [0, 1, 2, 3, 4, 6, 7, 8, 9, 10, 11, 13, 14, 15, 16, 17] 5 (.one [12, 18, 19] 20 (.leaf []))) (by kernel_rfl) (by kernel_rfl) (by kernel_rfl) ⟨⟨W6.drew, (Only.refl _ W6).drew, by simpa using c6⟩, rfl⟩ ?_
    simp only [List.take_succ_cons, List.take_zero]
    refine tree_one fun K hK => ?_
    simp only [List.map_cons, List.map_nil, pickOp, List.getElem?_cons_zero, List.getElem?_cons_succ, Option.getD_some]
    repeat (go_big_quiet_step (fail))
    refine wpQuiet_nil ?_
    go_wp2_with fail
    refine onlyK_normal (hK _ _ ⟨⟨W6.drew, (Only.refl _ W6).drew, by simpa using c6⟩, rfl⟩ ?_); clear hK K
    refine tree_one fun K hK => ?_
    simp only [List.map_cons, List.map_nil, pickOp, List.getElem?_cons_zero, List.getElem?_cons_succ, Option.getD_some]
    repeat (go_big_quiet_step (fail))
    refine wpQuiet_nil ?_
    go_wp2_with fail
    have hG7 := hG6.set_part (D.part + x)
    have hO7 : Only (fun k => k = N) W3 (W6.setCell ⟨N, 5, none⟩ (.int .i64 (D.part + x))) := hO6.set (.inl rfl) _
    have hO7' : Only (fun k => k = N) W6 (W6.setCell ⟨N, 5, none⟩ (.int .i64 (D.part + x))) := (Only.refl (fun k => k = N) W6).set (.inl rfl) _
    have k6 := hG7.c6
    rw [HVP.out] at k6
    refine onlyK_normal (hK _ _ ⟨⟨_, hO7'.drew, by simpa using k6⟩, rfl⟩ ?_); clear hK K
    refine tree_leaf0 ?_
    simp only [List.drop_succ_cons, List.drop_zero]
    clear c6 c5 f5 f6 k6 c6' dp' hO7' hO6 hG6
    generalize W6.setCell ⟨N, 5, none⟩ (.int .i64 (D.part + x)) = W7 at *
    have k6 := hG7.c6; have f6 := hG7.fr 6
    rw [HVP.out] at k6
    go_wp2_with fail
    have hG8 := hG7.set_vp (Value.slice (some ⟨bp, op, none⟩) 0 0) r
    have hO8 : Only (fun k => k = N) W3 (W7.setCell ⟨N, 6, none⟩ (Value.slice (some ⟨bp, op, none⟩) 0 0)) := hO7.set (.inl rfl) _
    clear k6 f6 hG7 hO7
    generalize W7.setCell ⟨N, 6, none⟩ (Value.slice (some ⟨bp, op, none⟩) 0 0) = W8 at *
    clear W7
    have hG9 := hG8.later (Ext.refl W8).drew
    have hO9 := hO8.drew
    clear hG8 hO8
    generalize W8.drew = W9 at *
    clear W8
    have hov : (Value.slice (some ⟨bp, op, none⟩) 0 0).ownBlock = some bp := rfl
    have hsr : SlI W9 (Value.slice (some ⟨bp, op, none⟩) 0 0) r := ⟨_, 0, 0, bp, op, rfl, HN3.out, .inl rfl, fun i hi => by omega⟩
    have hcv : CapV (Value.slice (some ⟨bp, op, none⟩) 0 0) := fun a n c e => by cases e; omega
    have hlv : ∀ b, (Value.slice (some ⟨bp, op, none⟩) 0 0).ownBlock = some b → vp.ownBlock = some b ∨ (w.heap.size ≤ b ∧ b < W9.heap.size) := fun b hb => by
      rw [hov] at hb
      rcases HLP3.out b (by rw [HVP.out]; exact hb) with h | h
      · exact .inl h
      · exact .inr ⟨h.1, Nat.lt_of_lt_of_le h.2 hO9.size⟩
    have hnv : (Value.slice (some ⟨bp, op, none⟩) 0 0).ownBlock ≠ some N := fun e => hbpN (by rw [hov] at e; injection e)
    have hI9 : GInv W9 N vl (Value.slice (some ⟨bp, op, none⟩) 0 0) vd { D with bef := D.lst, lst := x, part := D.part + x, plan := r } := ⟨hG9, hI3.sl.only0 hO9 (fun hl b hb e => hI3.nl hl (by rw [hb, e])), hsr, hI3.sd.only hO9 (fun b hb e => hI3.nd (by rw [hb, e])), hI3.nl, hnv, hI3.nd⟩
    have B9 := B4.only hO9 hMN
    have hO9' : Only (fun k => k = N) w W9 := hO3.trans hO9
    clear hG9 hO9 B4 hI3 hO3 hsr hbp1 hbp2 HST HVP HLP3
    have c5 := Later.cell hI9.box.c5
    simp only at c5
    have d0 := Later.cell B9.c0; have d1 := Later.cell B9.c1; have d2 := Later.cell B9.c2; have d3 := Later.cell B9.c3; have d4 := Later.cell B9.c4; have d5 := Later.cell B9.c5; have d6 := Later.cell B9.c6; have d7 := Later.cell B9.c7; have d8 := Later.cell B9.c8
    have kl := fun w => rlength_any cr w HRG.out
    have KL := Lib.hid kl; clear kl
    have HI9 := Lib.hid hI9; have HO9 := Lib.hid hO9'; have HLV := Lib.hid hlv; have HCV := Lib.hid hcv
    clear hI9 hO9' hlv hcv hov hnv
    have hdl : D.dn.length ≤ 999999998 := by have := HG.out.dn; omega
    by_cases hfin : D.part + x = cr.len
    · have hadv : D.advM x r = { Mdl.stopAtM { D with bef := D.lst, lst := x, idx := D.idx + 1, part := 0, plan := [] } cr with idx := skp D.ms (D.idx + 1) } := by unfold Mdl.advM; rw [HCR.out, if_pos hfin]
      have HADV := Lib.hid hadv; clear hadv
      have hfd : (D.part + x == cr.len) = true := by simpa using hfin
      have HFIN := Lib.hid hfin; clear hfin
      refine wp_region_later (by kernel_rfl) (by kernel_rfl) ?_
      repeat (go_big_quiet_step ((go_at_call 16; exact Calls.later (KL.out _))))
      refine wpQuiet_nil ?_
      rintro _ ⟨y, rfl⟩
      have hIy := HI9.out.later y.ext
      have By := B9.later y.ext
      have hOy := HO9.out.trans (Only.of_ext y.ext)
      have hzy : W9.heap.size ≤ y.w.heap.size := y.ext.size
      clear c5 d0 d1 d2 d3 d4 d5 d6 d7 d8 B9 HO9
      generalize y.w = W10 at *
      clear y
      have c4 := hIy.box.c4; have c5 := hIy.box.c5; have c6 := hIy.box.c6; have f4 := hIy.box.fr 4; have f5 := hIy.box.fr 5; have f6 := hIy.box.fr 6
      simp only at c4 c5
      have e0 := By.c0; have e1 := By.c1; have e2 := By.c2; have e3 := By.c3; have e4 := By.c4; have e5 := By.c5; have e6 := By.c6; have e7 := By.c7; have e8 := By.c8
      have hG11 := ((hIy.box.set_idx (D.idx + 1)).set_part 0).set_vp (.slice none 0 0) []
      have hO11 : Only (fun k => k = N) W10 (((W10.setCell ⟨N, 4, none⟩ (.int .i64 ((D.idx + 1 : Nat) : Int))).setCell ⟨N, 5, none⟩ (.int .i64 0)).setCell ⟨N, 6, none⟩ (.slice none 0 0)) := (((Only.refl (fun k => k = N) W10).set (.inl rfl) _).set (.inl rfl) _).set (.inl rfl) _
      have hI11 : GInv (((W10.setCell ⟨N, 4, none⟩ (.int .i64 ((D.idx + 1 : Nat) : Int))).setCell ⟨N, 5, none⟩ (.int .i64 0)).setCell ⟨N, 6, none⟩ (.slice none 0 0)) N vl (.slice none 0 0) vd { D with bef := D.lst, lst := x, idx := D.idx + 1, part := 0, plan := [] } := ⟨hG11, hIy.sl.only0 hO11 (fun hl b hb e => hIy.nl hl (by rw [hb, e])), nilI _, hIy.sd.only hO11 (fun b hb e => hIy.nd (by rw [hb, e])), hIy.nl, (by intro h; cases h), hIy.nd⟩
      rw [show ((D.idx + 1 : Nat) : Int) = (D.idx : Int) + 1 by omega] at hI11 hO11
      have ks := mstopAt_any cr hI11 hdl
      have hO11' := hOy.trans hO11
      have hz11 := hO11.size
      have hil : (D.idx : Int) + 1 ≤ 1000000 := by have := HG.out.i; have := HG.out.n; omega
      have KS := Lib.hid ks; have HO11 := Lib.hid hO11'
      clear ks hG11 hI11 hO11 hO11' hIy By
      go_wp2_with fail
      refine KS.out.mono ?_
      rintro e w12 ⟨rfl, vp12, vd12, hI12, hO12, hd12, hp12⟩
      have kk := mskip_any hI12.box hI12.sl hI12.nl HG.out.r (Nat.le_trans HG.out.n (by decide)) (show D.idx + 1 ≤ D.ms.length from HG.out.i)
      have HI12 := Lib.hid hI12; have KK := Lib.hid kk
      clear c4 c5 c6 f4 f5 f6 e0 e1 e2 e3 e4 e5 e6 e7 e8 KS hI12 kk
      go_wp2_with fail
      refine KK.out.mono ?_
      rintro e w13 ⟨rfl, hG13, hO13⟩
      have HG13 := Lib.hid hG13
      clear hG13 KK
      go_wp2
      go_ret
      rw [HADV.out]
      exact ⟨rfl, vp12, vd12, ⟨HG13.out, HI12.out.sl.only0 hO13 (fun hl b hb e => HI12.out.nl hl (by rw [hb, e])), HI12.out.sp.only hO13 (fun b hb e => HI12.out.np (by rw [hb, e])), HI12.out.sd.only hO13 (fun b hb e => HI12.out.nd (by rw [hb, e])), HI12.out.nl, HI12.out.np, HI12.out.nd⟩, SlI.cap_nil (w := w12) HI12.out.sp, HO11.out.trans (hO12.trans hO13), fun b hb => (hd12 b hb).imp id (fun h => ⟨Nat.le_trans HO11.out.size h.1, Nat.lt_of_lt_of_le h.2 hO13.size⟩), fun b hb => (hp12 b hb).elim (fun h => by cases h) (fun h => .inr ⟨Nat.le_trans HO11.out.size h.1, Nat.lt_of_lt_of_le h.2 hO13.size⟩)⟩
    · have hfd : (D.part + x == cr.len) = false := by simpa using hfin
      refine wp_region_later (by kernel_rfl) (by kernel_rfl) ?_
      repeat (go_big_quiet_step ((go_at_call 16; exact Calls.later (KL.out _))))
      refine wpQuiet_nil ?_
      rintro _ ⟨y, rfl⟩
      have hIy := HI9.out.later y.ext
      have By := B9.later y.ext
      have hOy := HO9.out.trans (Only.of_ext y.ext)
      have hzy : W9.heap.size ≤ y.w.heap.size := y.ext.size
      clear c5 d0 d1 d2 d3 d4 d5 d6 d7 d8 B9 HO9
      generalize y.w = W10 at *
      clear y
      by_cases hr0 : r = []
      · have hadv : D.advM x r = Mdl.stopM { D with bef := D.lst, lst := x, part := D.part + x, plan := r } cr := by unfold Mdl.advM; rw [HCR.out, if_neg hfin, if_pos hr0]
        have HADV := Lib.hid hadv; clear hadv
        have kr := mrest_any hIy.box hIy.sp true (by simp [hr0])
        have HR0 := Lib.hid hr0; have HIY := Lib.hid hIy; have HOY := Lib.hid hOy
        clear hr0 hIy hOy
        go_wp2_with fail
        refine kr.mono ?_
        rintro e w11 ⟨rfl, hx11⟩
        clear kr
        have Bz := By.later hx11
        have e0 := Bz.c0; have e1 := Bz.c1; have e2 := Bz.c2; have e3 := Bz.c3; have e4 := Bz.c4; have e5 := Bz.c5; have e6 := Bz.c6; have e7 := Bz.c7; have e8 := Bz.c8
        have kst := mstop_any cr (HIY.out.later hx11) ⟨Nat.le_of_lt HG.out.i, Nat.le_trans HG.out.n (by decide), fun hi => HG.out.r _ hi, fun _ => ha0, fun _ => (by show D.part + x ≤ D.cur.len; rw [HCR.out]; exact p1), fun _ => HG.out.p2, HG.out.ok⟩ hdl (fun b hb => (HLV.out b hb).elim (fun h => Nat.lt_of_lt_of_le (HLP.out b h) (Nat.le_trans HOY.out.size hx11.size)) (fun h => Nat.lt_of_lt_of_le h.2 (Nat.le_trans hzy hx11.size)))
        have KST := Lib.hid kst; clear kst
        have hO11 := HOY.out.trans (Only.of_ext hx11)
        go_wp2_with fail
        refine KST.out.mono ?_
        rintro e w12 ⟨rfl, vp12, vd12, hI12, hO12, hd12, hp12⟩
        have HI12 := Lib.hid hI12
        clear e0 e1 e2 e3 e4 e5 e6 e7 e8 hI12 KST
        go_wp2
        go_ret
        rw [HADV.out]
        exact ⟨rfl, vp12, vd12, HI12.out, SlI.cap_nil (w := w12) (by have := HI12.out.sp; rw [show (Mdl.stopM { D with bef := D.lst, lst := x, part := D.part + x, plan := r } cr).plan = [] from HR0.out] at this; exact this), hO11.trans hO12, fun b hb => (hd12 b hb).imp id (fun h => ⟨Nat.le_trans hO11.size h.1, h.2⟩), fun b hb => (hp12 b hb).elim (fun h => (HLV.out b h).imp id (fun h => ⟨h.1, Nat.lt_of_lt_of_le h.2 (Nat.le_trans hzy (Nat.le_trans hx11.size hO12.size))⟩)) (fun h => .inr ⟨Nat.le_trans hO11.size h.1, h.2⟩)⟩
      · have hadv : D.advM x r = { D with bef := D.lst, lst := x, part := D.part + x, plan := r } := by unfold Mdl.advM; rw [HCR.out, if_neg hfin, if_neg hr0]
        have HADV := Lib.hid hadv; clear hadv
        have kr := mrest_any hIy.box hIy.sp false (by simp [hr0])
        have HIY := Lib.hid hIy; have HOY := Lib.hid hOy
        clear hr0 hIy hOy
        go_wp2_with fail
        refine kr.mono ?_
        rintro e w11 ⟨rfl, hx11⟩
        clear kr
        go_wp2
        go_ret
        rw [HADV.out]
        exact ⟨rfl, _, vd, HIY.out.later hx11, HCV.out, HOY.out.trans (Only.of_ext hx11), fun b hb => .inl hb, fun b hb => (HLV.out b hb).imp id (fun h => ⟨h.1, Nat.lt_of_lt_of_le h.2 (Nat.le_trans hzy hx11.size)⟩)⟩
  · refine wp_region_tree (fun w' => ∃ z : Cls (P11 N W6 (.slice (some ⟨bp, op, none⟩) (n3 + 1) cp)), w' = z.w) 21 (.one [0, 1, 2, 3, 4, 6, 7, 8, 9, 10, 11, 13, 14, 15, 16, 17] 5 (.one [12, 18, 19] 20 (.leaf []))) (by kernel_rfl) (by kernel_rfl) (by kernel_rfl) ⟨⟨W6.drew, (Only.refl _ W6).drew, by simpa using c6⟩, rfl⟩ ?_
    simp only [List.take_succ_cons, List.take_zero]
    refine tree_one fun K hK => ?_
    simp only [List.map_cons, List.map_nil, pickOp, List.getElem?_cons_zero, List.getElem?_cons_succ, Option.getD_some]
    repeat (go_big_quiet_step (fail))
    refine wpQuiet_nil ?_
    go_wp2_with fail
    refine onlyK_normal (hK _ _ ⟨⟨W6.drew, (Only.refl _ W6).drew, by simpa using c6⟩, rfl⟩ ?_); clear hK K
    refine tree_one fun K hK => ?_
    simp only [List.map_cons, List.map_nil, pickOp, List.getElem?_cons_zero, List.getElem?_cons_succ, Option.getD_some]
    repeat (go_big_quiet_step (fail))
    refine wpQuiet_nil ?_
    go_wp2_with fail
    have hG7 := hG6.set_part (D.part + x)
    have hO7 : Only (fun k => k = N) W3 (W6.setCell ⟨N, 5, none⟩ (.int .i64 (D.part + x))) := hO6.set (.inl rfl) _
    have hO7' : Only (fun k => k = N) W6 (W6.setCell ⟨N, 5, none⟩ (.int .i64 (D.part + x))) := (Only.refl (fun k => k = N) W6).set (.inl rfl) _
    have k6 := hG7.c6
    rw [HVP.out] at k6
    refine onlyK_normal (hK _ _ ⟨⟨_, hO7'.drew, by simpa using k6⟩, rfl⟩ ?_); clear hK K
    refine tree_leaf0 ?_
    simp only [List.drop_succ_cons, List.drop_zero]
    clear c6 c5 f5 f6 k6 c6' dp' hO7' hO6 hG6
    generalize W6.setCell ⟨N, 5, none⟩ (.int .i64 (D.part + x)) = W7 at *
    have k6 := hG7.c6; have f6 := hG7.fr 6
    rw [HVP.out] at k6
    go_wp2_with fail
    have hG8 := hG7.set_vp (Value.slice (some ⟨bp, op + 1, none⟩) n3 (cp - 1)) r
    have hO8 : Only (fun k => k = N) W3 (W7.setCell ⟨N, 6, none⟩ (Value.slice (some ⟨bp, op + 1, none⟩) n3 (cp - 1))) := hO7.set (.inl rfl) _
    clear k6 f6 hG7 hO7
    generalize W7.setCell ⟨N, 6, none⟩ (Value.slice (some ⟨bp, op + 1, none⟩) n3 (cp - 1)) = W8 at *
    clear W7
    have hG9 := hG8.later (Ext.refl W8).drew
    have hO9 := hO8.drew
    clear hG8 hO8
    generalize W8.drew = W9 at *
    clear W8
    have hov : (Value.slice (some ⟨bp, op + 1, none⟩) n3 (cp - 1)).ownBlock = some bp := rfl
    have hsr : SlI W9 (Value.slice (some ⟨bp, op + 1, none⟩) n3 (cp - 1)) r := HST.out.only hO9 (fun b hb e => hbpN (by rw [hov] at hb; injection hb with hb; rw [hb]; exact e))
    have hcv : CapV (Value.slice (some ⟨bp, op + 1, none⟩) n3 (cp - 1)) := fun a n c e => by cases e; omega
    have hlv : ∀ b, (Value.slice (some ⟨bp, op + 1, none⟩) n3 (cp - 1)).ownBlock = some b → vp.ownBlock = some b ∨ (w.heap.size ≤ b ∧ b < W9.heap.size) := fun b hb => by
      rw [hov] at hb
      rcases HLP3.out b (by rw [HVP.out]; exact hb) with h | h
      · exact .inl h
      · exact .inr ⟨h.1, Nat.lt_of_lt_of_le h.2 hO9.size⟩
    have hnv : (Value.slice (some ⟨bp, op + 1, none⟩) n3 (cp - 1)).ownBlock ≠ some N := fun e => hbpN (by rw [hov] at e; injection e)
    have hI9 : GInv W9 N vl (Value.slice (some ⟨bp, op + 1, none⟩) n3 (cp - 1)) vd { D with bef := D.lst, lst := x, part := D.part + x, plan := r } := ⟨hG9, hI3.sl.only0 hO9 (fun hl b hb e => hI3.nl hl (by rw [hb, e])), hsr, hI3.sd.only hO9 (fun b hb e => hI3.nd (by rw [hb, e])), hI3.nl, hnv, hI3.nd⟩
    have B9 := B4.only hO9 hMN
    have hO9' : Only (fun k => k = N) w W9 := hO3.trans hO9
    clear hG9 hO9 B4 hI3 hO3 hsr hbp1 hbp2 HST HVP HLP3
    have c5 := Later.cell hI9.box.c5
    simp only at c5
    have d0 := Later.cell B9.c0; have d1 := Later.cell B9.c1; have d2 := Later.cell B9.c2; have d3 := Later.cell B9.c3; have d4 := Later.cell B9.c4; have d5 := Later.cell B9.c5; have d6 := Later.cell B9.c6; have d7 := Later.cell B9.c7; have d8 := Later.cell B9.c8
    have kl := fun w => rlength_any cr w HRG.out
    have KL := Lib.hid kl; clear kl
    have HI9 := Lib.hid hI9; have HO9 := Lib.hid hO9'; have HLV := Lib.hid hlv; have HCV := Lib.hid hcv
    clear hI9 hO9' hlv hcv hov hnv
    have hdl : D.dn.length ≤ 999999998 := by have := HG.out.dn; omega
    by_cases hfin : D.part + x = cr.len
    · have hadv : D.advM x r = { Mdl.stopAtM { D with bef := D.lst, lst := x, idx := D.idx + 1, part := 0, plan := [] } cr with idx := skp D.ms (D.idx + 1) } := by unfold Mdl.advM; rw [HCR.out, if_pos hfin]
      have HADV := Lib.hid hadv; clear hadv
      have hfd : (D.part + x == cr.len) = true := by simpa using hfin
      have HFIN := Lib.hid hfin; clear hfin
      refine wp_region_later (by kernel_rfl) (by kernel_rfl) ?_
      repeat (go_big_quiet_step ((go_at_call 16; exact Calls.later (KL.out _))))
      refine wpQuiet_nil ?_
      rintro _ ⟨y, rfl⟩
      have hIy := HI9.out.later y.ext
      have By := B9.later y.ext
      have hOy := HO9.out.trans (Only.of_ext y.ext)
      have hzy : W9.heap.size ≤ y.w.heap.size := y.ext.size
      clear c5 d0 d1 d2 d3 d4 d5 d6 d7 d8 B9 HO9
      generalize y.w = W10 at *
      clear y
      have c4 := hIy.box.c4; have c5 := hIy.box.c5; have c6 := hIy.box.c6; have f4 := hIy.box.fr 4; have f5 := hIy.box.fr 5; have f6 := hIy.box.fr 6
      simp only at c4 c5
      have e0 := By.c0; have e1 := By.c1; have e2 := By.c2; have e3 := By.c3; have e4 := By.c4; have e5 := By.c5; have e6 := By.c6; have e7 := By.c7; have e8 := By.c8
      have hG11 := ((hIy.box.set_idx (D.idx + 1)).set_part 0).set_vp (.slice none 0 0) []
      have hO11 : Only (fun k => k = N) W10 (((W10.setCell ⟨N, 4, none⟩ (.int .i64 ((D.idx + 1 : Nat) : Int))).setCell ⟨N, 5, none⟩ (.int .i64 0)).setCell ⟨N, 6, none⟩ (.slice none 0 0)) := (((Only.refl (fun k => k = N) W10).set (.inl rfl) _).set (.inl rfl) _).set (.inl rfl) _
      have hI11 : GInv (((W10.setCell ⟨N, 4, none⟩ (.int .i64 ((D.idx + 1 : Nat) : Int))).setCell ⟨N, 5, none⟩ (.int .i64 0)).setCell ⟨N, 6, none⟩ (.slice none 0 0)) N vl (.slice none 0 0) vd { D with bef := D.lst, lst := x, idx := D.idx + 1, part := 0, plan := [] } := ⟨hG11, hIy.sl.only0 hO11 (fun hl b hb e => hIy.nl hl (by rw [hb, e])), nilI _, hIy.sd.only hO11 (fun b hb e => hIy.nd (by rw [hb, e])), hIy.nl, (by intro h; cases h), hIy.nd⟩
      rw [show ((D.idx + 1 : Nat) : Int) = (D.idx : Int) + 1 by omega] at hI11 hO11
      have ks := mstopAt_any cr hI11 hdl
      have hO11' := hOy.trans hO11
      have hz11 := hO11.size
      have hil : (D.idx : Int) + 1 ≤ 1000000 := by have := HG.out.i; have := HG.out.n; omega
      have KS := Lib.hid ks; have HO11 := Lib.hid hO11'
      clear ks hG11 hI11 hO11 hO11' hIy By
      go_wp2_with fail
      refine KS.out.mono ?_
      rintro e w12 ⟨rfl, vp12, vd12, hI12, hO12, hd12, hp12⟩
      have kk := mskip_any hI12.box hI12.sl hI12.nl HG.out.r (Nat.le_trans HG.out.n (by decide)) (show D.idx + 1 ≤ D.ms.length from HG.out.i)
      have HI12 := Lib.hid hI12; have KK := Lib.hid kk
      clear c4 c5 c6 f4 f5 f6 e0 e1 e2 e3 e4 e5 e6 e7 e8 KS hI12 kk
      go_wp2_with fail
      refine KK.out.mono ?_
      rintro e w13 ⟨rfl, hG13, hO13⟩
      have HG13 := Lib.hid hG13
      clear hG13 KK
      go_wp2
      go_ret
      rw [HADV.out]
      exact ⟨rfl, vp12, vd12, ⟨HG13.out, HI12.out.sl.only0 hO13 (fun hl b hb e => HI12.out.nl hl (by rw [hb, e])), HI12.out.sp.only hO13 (fun b hb e => HI12.out.np (by rw [hb, e])), HI12.out.sd.only hO13 (fun b hb e => HI12.out.nd (by rw [hb, e])), HI12.out.nl, HI12.out.np, HI12.out.nd⟩, SlI.cap_nil (w := w12) HI12.out.sp, HO11.out.trans (hO12.trans hO13), fun b hb => (hd12 b hb).imp id (fun h => ⟨Nat.le_trans HO11.out.size h.1, Nat.lt_of_lt_of_le h.2 hO13.size⟩), fun b hb => (hp12 b hb).elim (fun h => by cases h) (fun h => .inr ⟨Nat.le_trans HO11.out.size h.1, Nat.lt_of_lt_of_le h.2 hO13.size⟩)⟩
    · have hfd : (D.part + x == cr.len) = false := by simpa using hfin
      refine wp_region_later (by kernel_rfl) (by kernel_rfl) ?_
      repeat (go_big_quiet_step ((go_at_call 16; exact Calls.later (KL.out _))))
      refine wpQuiet_nil ?_
      rintro _ ⟨y, rfl⟩
      have hIy := HI9.out.later y.ext
      have By := B9.later y.ext
      have hOy := HO9.out.trans (Only.of_ext y.ext)
      have hzy : W9.heap.size ≤ y.w.heap.size := y.ext.size
      clear c5 d0 d1 d2 d3 d4 d5 d6 d7 d8 B9 HO9
      generalize y.w = W10 at *
      clear y
      by_cases hr0 : r = []
      · have hadv : D.advM x r = Mdl.stopM { D with bef := D.lst, lst := x, part := D.part + x, plan := r } cr := by unfold Mdl.advM; rw [HCR.out, if_neg hfin, if_pos hr0]
        have HADV := Lib.hid hadv; clear hadv
        have kr := mrest_any hIy.box hIy.sp true (by simp [hr0])
        have HR0 := Lib.hid hr0; have HIY := Lib.hid hIy; have HOY := Lib.hid hOy
        clear hr0 hIy hOy
        go_wp2_with fail
        refine kr.mono ?_
        rintro e w11 ⟨rfl, hx11⟩
        clear kr
        have Bz := By.later hx11
        have e0 := Bz.c0; have e1 := Bz.c1; have e2 := Bz.c2; have e3 := Bz.c3; have e4 := Bz.c4; have e5 := Bz.c5; have e6 := Bz.c6; have e7 := Bz.c7; have e8 := Bz.c8
        have kst := mstop_any cr (HIY.out.later hx11) ⟨Nat.le_of_lt HG.out.i, Nat.le_trans HG.out.n (by decide), fun hi => HG.out.r _ hi, fun _ => ha0, fun _ => (by show D.part + x ≤ D.cur.len; rw [HCR.out]; exact p1), fun _ => HG.out.p2, HG.out.ok⟩ hdl (fun b hb => (HLV.out b hb).elim (fun h => Nat.lt_of_lt_of_le (HLP.out b h) (Nat.le_trans HOY.out.size hx11.size)) (fun h => Nat.lt_of_lt_of_le h.2 (Nat.le_trans hzy hx11.size)))
        have KST := Lib.hid kst; clear kst
        have hO11 := HOY.out.trans (Only.of_ext hx11)
        go_wp2_with fail
        refine KST.out.mono ?_
        rintro e w12 ⟨rfl, vp12, vd12, hI12, hO12, hd12, hp12⟩
        have HI12 := Lib.hid hI12
        clear e0 e1 e2 e3 e4 e5 e6 e7 e8 hI12 KST
        go_wp2
        go_ret
        rw [HADV.out]
        exact ⟨rfl, vp12, vd12, HI12.out, SlI.cap_nil (w := w12) (by have := HI12.out.sp; rw [show (Mdl.stopM { D with bef := D.lst, lst := x, part := D.part + x, plan := r } cr).plan = [] from HR0.out] at this; exact this), hO11.trans hO12, fun b hb => (hd12 b hb).imp id (fun h => ⟨Nat.le_trans hO11.size h.1, h.2⟩), fun b hb => (hp12 b hb).elim (fun h => (HLV.out b h).imp id (fun h => ⟨h.1, Nat.lt_of_lt_of_le h.2 (Nat.le_trans hzy (Nat.le_trans hx11.size hO12.size))⟩)) (fun h => .inr ⟨Nat.le_trans hO11.size h.1, h.2⟩)⟩
      · have hadv : D.advM x r = { D with bef := D.lst, lst := x, part := D.part + x, plan := r } := by unfold Mdl.advM; rw [HCR.out, if_neg hfin, if_neg hr0]
        have HADV := Lib.hid hadv; clear hadv
        have kr := mrest_any hIy.box hIy.sp false (by simp [hr0])
        have HIY := Lib.hid hIy; have HOY := Lib.hid hOy
        clear hr0 hIy hOy
        go_wp2_with fail
        refine kr.mono ?_
        rintro e w11 ⟨rfl, hx11⟩
        clear kr
        go_wp2
        go_ret
        rw [HADV.out]
        exact ⟨rfl, _, vd, HIY.out.later hx11, HCV.out, HOY.out.trans (Only.of_ext hx11), fun b hb => .inl hb, fun b hb => (HLV.out b hb).imp id (fun h => ⟨h.1, Nat.lt_of_lt_of_le h.2 (Nat.le_trans hzy hx11.size)⟩)⟩

end Go.Proofs.Ytfmjmabaabmgcaa

namespace Go.Proofs.Ytfmjmabaabmgcaa
open Go.RowKit
set_option maxRecDepth 8000

def P12 (N : Nat) (W : World) (v0 v4 : Value) (w' : World) : Prop := Only (fun k => k = N) W w' ∧ w'.cell? ⟨N, 0, none⟩ = some v0 ∧ w'.cell? ⟨N, 4, none⟩ = some v4

set_option maxHeartbeats 1000000 in
theorem mstopped_bk {w : World} {N : Nat} {vl vp vd : Value} {C : Mdl} (h : GBox w N vl vp vd C) (hbk : C.bk = true) :
    Calls Try.prog 61 #[.pointer (some ⟨N, 0, none⟩)] w fun e w' => e = .returned (.tuple #[]) ∧ Ext w w' := by
  have c11 := h.c11
  rw [hbk] at c11
  clear h hbk
  go_enter Try.func61, Try.ntmps61
  go_wp2
  refine bodyPost_ret (v := .tuple #[]) (by simp [results, Try.results61, go_sem]) rfl ⟨rfl, Ext.refl _⟩

set_option maxHeartbeats 1000000 in
theorem mstopped_rest {w : World} {N : Nat} {vl vp vd : Value} {C : Mdl} (h : GInv w N vl vp vd C) (hbk : C.bk = false) (hpl : C.plan = []) :
    Calls Try.prog 61 #[.pointer (some ⟨N, 0, none⟩)] w (MRetC w N vl vp vd C.brkM (.tuple #[])) := by
  have hB : C.brkM = { C with bk := true, hd := false, plan := [] } := by unfold Mdl.brkM; rw [if_neg (by rw [hbk]; decide), if_pos hpl]
  rw [hB]; clear hB
  have HH := Lib.hid h
  have c11 := h.box.c11
  rw [hbk] at c11
  have kr := mrest_any h.box h.sp true (by simp [hpl])
  clear h hbk hpl
  go_enter Try.func61, Try.ntmps61
  go_wp2_with fail
  refine kr.mono ?_
  rintro e w2 ⟨rfl, hx2⟩
  clear kr c11
  have hI2 := HH.out.later hx2
  obtain ⟨a6, n6, p6, b6, o6, hv6, -⟩ := hI2.sp
  have k6 := hI2.box.c6; have k9 := hI2.box.c9; have k11 := hI2.box.c11; have f6 := hI2.box.fr 6; have f9 := hI2.box.fr 9; have f11 := hI2.box.fr 11
  rw [hv6] at k6
  have HI2 := Lib.hid hI2
  clear hI2
  go_wp2
  have hG4 := ((HI2.out.box.set_bk true).set_hd false).set_vp (.slice none 0 0) []
  have hO4 : Only (fun k => k = N) w2 (((w2.setCell ⟨N, 11, none⟩ (.bool true)).setCell ⟨N, 9, none⟩ (.bool false)).setCell ⟨N, 6, none⟩ (.slice none 0 0)) := (((Only.refl (fun k => k = N) w2).set (.inl rfl) _).set (.inl rfl) _).set (.inl rfl) _
  generalize ((w2.setCell ⟨N, 11, none⟩ (.bool true)).setCell ⟨N, 9, none⟩ (.bool false)).setCell ⟨N, 6, none⟩ (.slice none 0 0) = W4 at *
  have hI : GInv W4 N vl (.slice none 0 0) vd { C with bk := true, hd := false, plan := [] } := ⟨hG4, HI2.out.sl.only0 hO4 (fun hl b hb e => HI2.out.nl hl (by rw [hb, e])), nilI _, HI2.out.sd.only hO4 (fun b hb e => HI2.out.nd (by rw [hb, e])), HI2.out.nl, (by intro h; cases h), HI2.out.nd⟩
  go_end0
  exact ⟨rfl, _, _, hI, hI.sp.cap_nil, (Only.of_ext hx2).trans hO4, fun b hb => .inl hb, fun b hb => by cases hb⟩

set_option maxHeartbeats 4000000 in
theorem mstopped_run {w : World} {N : Nat} {vl vp vd : Value} {C : Mdl} (h : GInv w N vl vp vd C) (hbk : C.bk = false) (hpl : C.plan ≠ []) (hi : C.idx < C.ms.length) (k : C.posOk) (hd : C.dn.length ≤ 999999998) (hlp : ∀ b, vp.ownBlock = some b → b < w.heap.size) :
    Calls Try.prog 61 #[.pointer (some ⟨N, 0, none⟩)] w (MRetC w N vl vp vd C.brkM (.tuple #[])) := by
  have hB : C.brkM = { (C.stopM C.cur) with bk := true, hd := false, plan := [] } := by unfold Mdl.brkM; rw [if_neg (by rw [hbk]; decide), if_neg hpl]
  rw [hB]; clear hB
  have HH := Lib.hid h
  have HK := Lib.hid k
  have HLP := Lib.hid hlp
  have c11 := h.box.c11
  rw [hbk] at c11
  have kr := mrest_any h.box h.sp false (by simp [hpl])
  clear h hbk hpl k hlp
  go_enter Try.func61, Try.ntmps61
  go_wp2_with fail
  refine kr.mono ?_
  rintro e w2 ⟨rfl, hx2⟩
  clear kr c11
  have hI2 := HH.out.later hx2
  obtain ⟨ad, n, cap, b, off, hv, hn, h3, -, h4⟩ := hI2.sl
  obtain ⟨hb1, hb2⟩ := h4 C.idx (by omega)
  obtain rfl : ad = some ⟨b, off, none⟩ := h3.resolve_left (by omega)
  have hi2 : C.idx < n := by omega
  have hbN : ¬ b = N := fun e => HH.out.nl (by omega) (by rw [hv, e]; rfl)
  clear h3 h4 hn
  have hcur : C.ms.getD C.idx Mot.zero = C.cur := rfl
  rw [hcur] at hb2
  clear hcur
  have c0 := hI2.box.c0; have c4 := hI2.box.c4
  rw [hv] at c0
  have c0' : ∀ z : Cls (P12 N w2 (.slice (some ⟨b, off, none⟩) n cap) (.int .i64 ((C.idx : Nat) : Int))), z.w.cell? ⟨N, 0, none⟩ = some (.slice (some ⟨b, off, none⟩) n cap) := fun z => z.p.2.1
  have c4' : ∀ z : Cls (P12 N w2 (.slice (some ⟨b, off, none⟩) n cap) (.int .i64 ((C.idx : Nat) : Int))), z.w.cell? ⟨N, 4, none⟩ = some (.int .i64 ((C.idx : Nat) : Int)) := fun z => z.p.2.2
  have g0 : ∀ z : Cls (P12 N w2 (.slice (some ⟨b, off, none⟩) n cap) (.int .i64 ((C.idx : Nat) : Int))), z.w.cell? ⟨b, off + C.idx * 9, none⟩ = some (.int .i64 C.cur.fx) := fun z => by rw [z.p.1.cell hb1 hbN]; exact hb2.c0
  have g1 : ∀ z : Cls (P12 N w2 (.slice (some ⟨b, off, none⟩) n cap) (.int .i64 ((C.idx : Nat) : Int))), z.w.cell? ⟨b, off + C.idx * 9 + 1, none⟩ = some (.int .i64 C.cur.fy) := fun z => by rw [z.p.1.cell hb1 hbN]; exact hb2.c1
  have g2 : ∀ z : Cls (P12 N w2 (.slice (some ⟨b, off, none⟩) n cap) (.int .i64 ((C.idx : Nat) : Int))), z.w.cell? ⟨b, off + C.idx * 9 + 2, none⟩ = some (.int .i64 C.cur.fz) := fun z => by rw [z.p.1.cell hb1 hbN]; exact hb2.c2
  have g3 : ∀ z : Cls (P12 N w2 (.slice (some ⟨b, off, none⟩) n cap) (.int .i64 ((C.idx : Nat) : Int))), z.w.cell? ⟨b, off + C.idx * 9 + 3, none⟩ = some (.int .i64 C.cur.tx) := fun z => by rw [z.p.1.cell hb1 hbN]; exact hb2.c3
  have g4 : ∀ z : Cls (P12 N w2 (.slice (some ⟨b, off, none⟩) n cap) (.int .i64 ((C.idx : Nat) : Int))), z.w.cell? ⟨b, off + C.idx * 9 + 4, none⟩ = some (.int .i64 C.cur.ty) := fun z => by rw [z.p.1.cell hb1 hbN]; exact hb2.c4
  have g5 : ∀ z : Cls (P12 N w2 (.slice (some ⟨b, off, none⟩) n cap) (.int .i64 ((C.idx : Nat) : Int))), z.w.cell? ⟨b, off + C.idx * 9 + 5, none⟩ = some (.int .i64 C.cur.tz) := fun z => by rw [z.p.1.cell hb1 hbN]; exact hb2.c5
  have g6 : ∀ z : Cls (P12 N w2 (.slice (some ⟨b, off, none⟩) n cap) (.int .i64 ((C.idx : Nat) : Int))), z.w.cell? ⟨b, off + C.idx * 9 + 6, none⟩ = some (.int .i64 C.cur.rate) := fun z => by rw [z.p.1.cell hb1 hbN]; exact hb2.c6
  have g7 : ∀ z : Cls (P12 N w2 (.slice (some ⟨b, off, none⟩) n cap) (.int .i64 ((C.idx : Nat) : Int))), z.w.cell? ⟨b, off + C.idx * 9 + 7, none⟩ = some (.int .i64 C.cur.tool) := fun z => by rw [z.p.1.cell hb1 hbN]; exact hb2.c7
  have g8 : ∀ z : Cls (P12 N w2 (.slice (some ⟨b, off, none⟩) n cap) (.int .i64 ((C.idx : Nat) : Int))), z.w.cell? ⟨b, off + C.idx * 9 + 8, none⟩ = some (.int .i64 C.cur.block) := fun z => by rw [z.p.1.cell hb1 hbN]; exact hb2.c8
  haveI : Nonempty (Cls (P12 N w2 (.slice (some ⟨b, off, none⟩) n cap) (.int .i64 ((C.idx : Nat) : Int)))) := ⟨⟨w2, Only.refl _ _, c0, c4⟩⟩
  have HI2 := Lib.hid hI2
  clear hI2 hb2
  have k1 := mstop_any C.cur (HI2.out.later (Ext.refl w2).drew) HK.out hd (fun b hb => Nat.lt_of_lt_of_le (HLP.out b hb) (hx2.drew).size)
  have hsi : (C.stopM C.cur).idx = C.idx := rfl
  generalize C.stopM C.cur = E at *
  have K1 := Lib.hid k1; clear k1
  generalize C.cur = cr at *
  go_wp2_with fail
  refine wp_region_tree (fun w' => ∃ z : Cls (P12 N w2 (.slice (some ⟨b, off, none⟩) n cap) (.int .i64 ((C.idx : Nat) : Int))), w' = z.w) 12 (.one [0, 1, 2, 3, 4, 5, 6, 7, 8, 9, 10] 11 (.leaf [])) (by kernel_rfl) (by kernel_rfl) (by kernel_rfl) ⟨⟨w2.drew, (Only.refl _ w2).drew, by simpa using c0, by simpa using c4⟩, rfl⟩ ?_
  simp only [List.take_succ_cons, List.take_zero]
  refine tree_one fun K hK => ?_
  simp only [List.map_cons, List.map_nil, pickOp, List.getElem?_cons_zero, List.getElem?_cons_succ, Option.getD_some]
  repeat (go_big_quiet_step (fail))
  refine wpQuiet_nil ?_
  go_wp2_with ((go_at_call 53; with_reducible refine K1.out.mono ?_); rintro e w3 ⟨rfl, vp3, vd3, hI3, hO3, hd3, hp3⟩)
  have hO3' : Only (fun k => k = N) w2 w3 := (Only.refl _ w2).drew.trans hO3
  have k0 := hI3.box.c0; have k4 := hI3.box.c4
  rw [hv] at k0
  rw [hsi] at k4
  refine onlyK_normal (hK _ _ ⟨⟨w3, hO3', k0, k4⟩, rfl⟩ ?_); clear hK K
  clear c0' c4' g0 g1 g2 g3 g4 g5 g6 g7 g8 k0 k4 K1 c0 c4
  refine tree_leaf0 ?_
  simp only [List.drop_succ_cons, List.drop_zero]
  obtain ⟨a6, n6, p6, b6, o6, hv6, -⟩ := hI3.sp
  have k6 := hI3.box.c6; have k9 := hI3.box.c9; have k11 := hI3.box.c11; have f6 := hI3.box.fr 6; have f9 := hI3.box.fr 9; have f11 := hI3.box.fr 11
  rw [hv6] at k6
  have HI3 := Lib.hid hI3
  clear hI3
  go_wp2
  have hG4 := ((HI3.out.box.set_bk true).set_hd false).set_vp (.slice none 0 0) []
  have hO4 : Only (fun k => k = N) w3 (((w3.setCell ⟨N, 11, none⟩ (.bool true)).setCell ⟨N, 9, none⟩ (.bool false)).setCell ⟨N, 6, none⟩ (.slice none 0 0)) := (((Only.refl (fun k => k = N) w3).set (.inl rfl) _).set (.inl rfl) _).set (.inl rfl) _
  generalize ((w3.setCell ⟨N, 11, none⟩ (.bool true)).setCell ⟨N, 9, none⟩ (.bool false)).setCell ⟨N, 6, none⟩ (.slice none 0 0) = W4 at *
  have hI : GInv W4 N vl (.slice none 0 0) vd3 { E with bk := true, hd := false, plan := [] } := ⟨hG4, HI3.out.sl.only0 hO4 (fun hl b hb e => HI3.out.nl hl (by rw [hb, e])), nilI _, HI3.out.sd.only hO4 (fun b hb e => HI3.out.nd (by rw [hb, e])), HI3.out.nl, (by intro h; cases h), HI3.out.nd⟩
  go_end0
  exact ⟨rfl, _, _, hI, hI.sp.cap_nil, ((Only.of_ext hx2).trans hO3').trans hO4, fun b hb => (hd3 b hb).imp id (fun h => ⟨Nat.le_trans (hx2.drew).size h.1, Nat.lt_of_lt_of_le h.2 hO4.size⟩), fun b hb => by cases hb⟩

end Go.Proofs.Ytfmjmabaabmgcaa
