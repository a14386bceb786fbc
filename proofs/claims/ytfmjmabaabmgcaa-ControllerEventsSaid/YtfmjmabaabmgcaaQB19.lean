/-
  Walks: hold of the law's model.
  The model's calls in one contract each; the controller and the model in step.
-/
import Derived.Test.YtfmjmabaabmgcaaQB18
import Derived.Test.YtfmjmabaabmgcaaQB16
namespace Go.Proofs.Ytfmjmabaabmgcaa
open Go.RowKit
set_option maxRecDepth 8000

set_option maxHeartbeats 1000000 in
theorem mhold_bk {w : World} {N : Nat} {vl vp vd : Value} {C : Mdl} (h : GBox w N vl vp vd C) (hbk : C.bk = true) :
    Calls Try.prog 60 #[.pointer (some ⟨N, 0, none⟩)] w fun e w' => e = .returned (.tuple #[]) ∧ Ext w w' := by
  have c11 := h.c11
  rw [hbk] at c11
  clear h hbk
  go_enter Try.func60, Try.ntmps60
  go_wp2
  refine bodyPost_ret (v := .tuple #[]) (by simp [results, Try.results60, go_sem]) rfl ⟨rfl, Ext.refl _⟩

theorem GInv.set_hd {w : World} {N : Nat} {vl vp vd : Value} {C : Mdl} (h : GInv w N vl vp vd C) (x : Bool) : GInv (w.setCell ⟨N, 9, none⟩ (.bool x)) N vl vp vd { C with hd := x } := by
  have hO : Only (fun k => k = N) w (w.setCell ⟨N, 9, none⟩ (.bool x)) := (Only.refl (fun k => k = N) w).set (.inl rfl) _
  exact ⟨h.box.set_hd x, h.sl.only0 hO (fun hl b hb e => h.nl hl (by rw [hb, e])), h.sp.only hO (fun b hb e => h.np (by rw [hb, e])), h.sd.only hO (fun b hb e => h.nd (by rw [hb, e])), h.nl, h.np, h.nd⟩

set_option maxHeartbeats 1000000 in
theorem mhold_rest {w : World} {N : Nat} {vl vp vd : Value} {C : Mdl} (h : GInv w N vl vp vd C) (hcap : CapV vp) (hbk : C.bk = false) (hc : C.plan = [] ∨ C.br = true) :
    Calls Try.prog 60 #[.pointer (some ⟨N, 0, none⟩)] w (MRetC w N vl vp vd C.holdM (.tuple #[])) := by
  have hB : C.holdM = { C with hd := true } := by unfold Mdl.holdM; rw [if_neg (by rw [hbk]; decide), if_pos hc]
  rw [hB]; clear hB
  have hI1 := h.set_hd true
  have hO : Only (fun k => k = N) w (w.setCell ⟨N, 9, none⟩ (.bool true)) := (Only.refl (fun k => k = N) w).set (.inl rfl) _
  have c11 := h.box.c11; have c9 := h.box.c9; have f9 := h.box.fr 9
  rw [hbk] at c11
  clear hbk h
  have HI1 := Lib.hid hI1; have HO1 := Lib.hid hO
  by_cases hpl : C.plan = []
  · have kr := mrest_any hI1.box hI1.sp true (by simp [hpl])
    clear hpl hc hI1 hO
    go_enter Try.func60, Try.ntmps60
    go_wp2_with fail
    refine kr.mono ?_
    rintro e w2 ⟨rfl, hx2⟩
    clear c11 c9 f9 kr
    go_wp2
    refine bodyPost_ret (v := .tuple #[]) (by simp [results, Try.results60, go_sem]) rfl ⟨rfl, vp, vd, HI1.out.later hx2, hcap, HO1.out.trans (Only.of_ext hx2), fun b hb => .inl hb, fun b hb => .inl hb⟩
  · have kr := mrest_any hI1.box hI1.sp false (by simp [hpl])
    have hbr := hc.resolve_left hpl
    clear hpl hc hI1 hO
    go_enter Try.func60, Try.ntmps60
    go_wp2_with fail
    refine kr.mono ?_
    rintro e w2 ⟨rfl, hx2⟩
    clear c11 c9 f9 kr
    have k10 := (HI1.out.later hx2).box.c10
    simp only at k10
    rw [hbr] at k10
    go_wp2
    refine bodyPost_ret (v := .tuple #[]) (by simp [results, Try.results60, go_sem]) rfl ⟨rfl, vp, vd, HI1.out.later hx2, hcap, HO1.out.trans (Only.of_ext hx2), fun b hb => .inl hb, fun b hb => .inl hb⟩

set_option maxHeartbeats 8000000 in
theorem mhold_run {w : World} {N : Nat} {vl vp vd : Value} {C : Mdl} (h : GInv w N vl vp vd C) (hcap : CapV vp) (hlp : ∀ b, vp.ownBlock = some b → b < w.heap.size) (hg : C.Can) (hbr : C.br = false) (hpl : C.plan ≠ []) (h0 : -9000000000000000 ≤ C.s) (h1 : C.s ≤ 9000000000000000) (hmv : mvg (C.cur.spd C.s) C.a C.j C.bef C.lst = true) :
    Calls Try.prog 60 #[.pointer (some ⟨N, 0, none⟩)] w (MRetC w N vl vp vd C.holdM (.tuple #[])) := by
  have hB : C.holdM = if C.needed ≤ C.cur.len - C.part then (if C.stopL = [] then Mdl.stopM { C with hd := true, plan := C.stopL, br := true } C.cur else { C with hd := true, plan := C.stopL, br := true }) else { C with hd := true } := by unfold Mdl.holdM; rw [if_neg (by rw [hg.bk]; decide), if_neg (by rintro (e | e); exact hpl e; rw [hbr] at e; cases e)]
  have HB := Lib.hid hB; clear hB
  have hI1 := h.set_hd true
  have hO : Only (fun k => k = N) w (w.setCell ⟨N, 9, none⟩ (.bool true)) := (Only.refl (fun k => k = N) w).set (.inl rfl) _
  have c11 := h.box.c11; have c9 := h.box.c9; have f9 := h.box.fr 9
  have hN := h.box.lt
  rw [hg.bk] at c11
  have hi := hg.i
  have hrg : C.cur.rng := hg.r _ hi
  have q0 := hg.p0; have q1 := hg.p1
  have hlb := Mot.len_bounds hrg
  have HI1 := Lib.hid hI1; have HO1 := Lib.hid hO; have HG := Lib.hid hg; have HLP := Lib.hid hlp; have HCAP := Lib.hid hcap; have HMV := Lib.hid hmv; have HRG := Lib.hid hrg; have HBR := Lib.hid hbr
  have kr := mrest_any hI1.box hI1.sp false (by simp [hpl])
  clear hI1 hO hg hlp hcap hmv hrg hpl h hbr
  go_enter Try.func60, Try.ntmps60
  go_wp2_with fail
  refine kr.mono ?_
  rintro e w2 ⟨rfl, hx2⟩
  clear c11 c9 f9 kr
  have hI2 := HI1.out.later hx2
  have hO2 : Only (fun k => k = N) w w2 := HO1.out.trans (Only.of_ext hx2)
  have HO2 := Lib.hid hO2
  clear hO2
  have k10 := hI2.box.c10
  simp only at k10
  rw [HBR.out] at k10
  obtain ⟨ad, n, cap, b, off, hv, hn, h3, -, h4⟩ := hI2.sl
  obtain ⟨hb1, hb2⟩ := h4 C.idx (by rw [hn]; exact hi)
  obtain rfl : ad = some ⟨b, off, none⟩ := h3.resolve_left (by rw [hn]; show C.ms.length ≠ 0; omega)
  have hi2 : C.idx < n := by rw [hn]; exact hi
  clear h3 h4 hn
  have hcur : C.ms.getD C.idx Mot.zero = C.cur := rfl
  have hb3 : CellsM w2 b (off + C.idx * 9) C.cur := hb2
  clear hcur hb2
  have c0 := Later.cell hI2.box.c0; have c4 := Later.cell hI2.box.c4
  simp only at c0 c4
  rw [hv] at c0
  have HV := Lib.hid hv; clear hv
  have HI2 := Lib.hid hI2
  clear hI2
  have HCU : Hid (C.cur = C.cur) := Lib.hid rfl
  generalize hcr : C.cur = cr at *
  have HCR := Lib.hid hcr; clear hcr HCU
  have d0 := Later.cell hb3.c0; have d1 := Later.cell hb3.c1; have d2 := Later.cell hb3.c2; have d3 := Later.cell hb3.c3; have d4 := Later.cell hb3.c4; have d5 := Later.cell hb3.c5; have d6 := Later.cell hb3.c6; have d7 := Later.cell hb3.c7; have d8 := Later.cell hb3.c8
  go_wp2_with fail
  refine wp_region_tree (fun w' => ∃ z : Later w2, w' = z.w) 11 (.one [0, 1, 2, 3, 4, 5, 6, 7, 8, 9] 10 (.leaf [])) (by kernel_rfl) (by kernel_rfl) (by kernel_rfl) ⟨⟨_, (Ext.refl w2).drew⟩, rfl⟩ ?_
  simp only [List.take_succ_cons, List.take_zero]
  refine tree_one fun K hK => ?_
  simp only [List.map_cons, List.map_nil, pickOp, List.getElem?_cons_zero, List.getElem?_cons_succ, Option.getD_some]
  repeat (go_big_quiet_step (fail))
  refine wpQuiet_nil ?_
  go_wp2_with fail
  refine onlyK_normal (hK _ _ ⟨⟨_, ((Ext.refl w2).drew).alloc _⟩, rfl⟩ ?_); clear hK K
  refine tree_leaf0 ?_
  simp only [List.drop_succ_cons, List.drop_zero]
  go_wp2_with fail
  obtain ⟨W3, hW3, B3', hE3⟩ := M9Box.mk' w2 cr
  rw [hW3]; clear hW3
  have hM : N < w2.heap.size := HI2.out.box.lt
  generalize hMM : w2.heap.size = M at *
  have hM2 : w2.heap.size ≤ M := by omega
  have HMM := Lib.hid hMM; clear hMM
  have hI3 := HI2.out.later (hE3.drew)
  have B4 := B3'.later (Ext.refl W3).drew
  have HE3 := Lib.hid hE3.drew
  clear c0 c4 d0 d1 d2 d3 d4 d5 d6 d7 d8 hb3 hE3 B3' k10
  generalize W3.drew = W4 at *
  clear W3
  have c7 := Later.cell hI3.box.c7; have c8 := Later.cell hI3.box.c8
  simp only at c7 c8
  have HI3 := Lib.hid hI3
  clear hI3
  have ko : ∀ w', Ext W4 w' → Calls Try.prog 51 #[.pointer (some ⟨N, 0, none⟩)] w' fun e w'' => e = .returned (Lm (cr.spd C.s) C.a C.j) ∧ Ext w' w'' := fun w' he => by
    have := own_any (HI3.out.later he).box (HI3.out.later he).sl hi h0 h1
    rw [show Mdl.cur { C with hd := true } = cr from HCR.out] at this
    exact this
  have KO := Lib.hid ko; clear ko
  generalize hvs : cr.spd C.s = vs at *
  refine wp_region_tree (fun w' => ∃ z : Later W4, w' = z.w) 15 (.one [0, 1, 2, 3, 4, 5, 6, 7, 8] 9 (.one [] 10 (.leaf [11, 12, 13, 14]))) (by kernel_rfl) (by kernel_rfl) (by kernel_rfl) ⟨⟨_, (Ext.refl W4).drew⟩, rfl⟩ ?_
  simp only [List.take_succ_cons, List.take_zero]
  refine tree_one fun K hK => ?_
  simp only [List.map_cons, List.map_nil, pickOp, List.getElem?_cons_zero, List.getElem?_cons_succ, Option.getD_some]
  repeat (go_big_quiet_step (fail))
  refine wpQuiet_nil ?_
  go_wp2_with ((go_at_call 51; with_reducible refine (KO.out _ (Ext.refl W4).drew).mono ?_); rintro e w5 ⟨rfl, hx5⟩)
  have hx5' : Ext W4 w5 := (Ext.refl W4).drew.trans hx5
  refine onlyK_normal (hK _ _ ⟨⟨w5, hx5'⟩, rfl⟩ ?_); clear hK K
  refine tree_one0 fun K hK => ?_
  simp only [pickOp, List.getElem?_cons_zero, List.getElem?_cons_succ, Option.getD_some]
  go_wp2_with ((go_at_call 56; with_reducible refine (needed_yes vs C.a C.j C.bef C.lst _ HMV.out).mono ?_); rintro e w6 ⟨rfl, hx6⟩)
  have hx6' : Ext W4 w6 := hx5'.trans hx6
  refine onlyK_normal (hK _ _ ⟨⟨w6, hx6'⟩, rfl⟩ ?_); clear hK K
  have hne : C.needed = dsum vs C.a C.j C.lst (C.lst - C.bef) := by unfold Mdl.needed; rw [HCR.out, hvs]
  have HNE := Lib.hid hne; clear hne
  generalize dsum vs C.a C.j C.lst (C.lst - C.bef) = nd at *
  refine tree_leaf ?_
  simp only [List.map_cons, List.map_nil, pickOp, List.getElem?_cons_zero, List.getElem?_cons_succ, Option.getD_some, List.drop_succ_cons, List.drop_zero]
  repeat (go_big_quiet_step (fail))
  refine wpQuiet_nil ?_
  have e7 := c7 ⟨w6, hx6'⟩
  clear e7
  clear c7 c8
  have hI6 := HI3.out.later hx6'
  have B6 := B4.later hx6'
  have HE6 := Lib.hid (HE3.out.trans hx6')
  have HX6 := Lib.hid hx6'
  clear hx5 hx6 hx5' hx6' B4 HI3
  have c7 := Later.cell hI6.box.c7; have c8 := Later.cell hI6.box.c8
  simp only at c7 c8
  have HI6 := Lib.hid hI6
  clear hI6
  go_wp2_with fail
  refine wp_region_tree (fun w' => ∃ z : Later w6, w' = z.w) 15 (.one [0, 1, 2, 3, 4, 5, 6, 7, 8] 9 (.one [] 10 (.leaf [11, 12, 13, 14]))) (by kernel_rfl) (by kernel_rfl) (by kernel_rfl) ⟨⟨_, (Ext.refl w6).drew⟩, rfl⟩ ?_
  simp only [List.take_succ_cons, List.take_zero]
  refine tree_one fun K hK => ?_
  simp only [List.map_cons, List.map_nil, pickOp, List.getElem?_cons_zero, List.getElem?_cons_succ, Option.getD_some]
  repeat (go_big_quiet_step (fail))
  refine wpQuiet_nil ?_
  go_wp2_with ((go_at_call 51; with_reducible refine (KO.out _ HX6.out.drew).mono ?_); rintro e w7 ⟨rfl, hx7⟩)
  have hx7' : Ext w6 w7 := (Ext.refl w6).drew.trans hx7
  refine onlyK_normal (hK _ _ ⟨⟨w7, hx7'⟩, rfl⟩ ?_); clear hK K
  refine tree_one0 fun K hK => ?_
  simp only [pickOp, List.getElem?_cons_zero, List.getElem?_cons_succ, Option.getD_some]
  go_wp2_with ((go_at_call 57; with_reducible refine (stop_yes vs C.a C.j C.bef C.lst _ HMV.out).mono ?_); rintro e w8 ⟨v8, rfl, own8, hx8⟩)
  have hx8' : Ext w6 w8 := hx7'.trans hx8
  refine onlyK_normal (hK _ _ ⟨⟨w8, hx8'⟩, rfl⟩ ?_); clear hK K
  have hsl : C.stopL = stops vs C.a C.j C.lst (C.lst - C.bef) := by unfold Mdl.stopL; rw [HCR.out, hvs]
  have HSL := Lib.hid hsl; clear hsl
  generalize stops vs C.a C.j C.lst (C.lst - C.bef) = ls at *
  refine tree_leaf ?_
  simp only [List.map_cons, List.map_nil, pickOp, List.getElem?_cons_zero, List.getElem?_cons_succ, Option.getD_some, List.drop_succ_cons, List.drop_zero]
  repeat (go_big_quiet_step (fail))
  refine wpQuiet_nil ?_
  clear c7 c8
  have hI8 := HI6.out.later hx8'
  have B8 := B6.later hx8'
  have HE8 := Lib.hid (HE6.out.trans hx8')
  have hbase : ∀ b, v8.ownBlock = some b → w7.heap.size ≤ b ∧ b < w8.heap.size := fun b hb => ⟨own8.base hb, ownsRow_lt own8 hb⟩
  have hcap8 := own8.cap
  have hs8 := own8.sl
  have hz7 : M ≤ w7.heap.size := Nat.le_trans (Nat.le_of_lt B6.lt) hx7'.size
  have HB8 := Lib.hid hbase; have HC8 := Lib.hid hcap8; have HS8 := Lib.hid hs8
  clear hx7 hx8 hx7' hx8' B6 HI6 own8 hbase hcap8 hs8
  have k12 := hI8.box.c12; have f12 := hI8.box.fr 12
  simp only at k12
  rw [HG.out.ok] at k12
  have HI8 := Lib.hid hI8
  clear hI8
  go_wp2_with fail
  have hG9 := HI8.out.box.set_ok true
  have hO9 : Only (fun k => k = N) w8 (w8.setCell ⟨N, 12, none⟩ (.bool true)) := (Only.refl (fun k => k = N) w8).set (.inl rfl) _
  have hok1 : ({ ({ C with hd := true } : Mdl) with ok := true } : Mdl) = { C with hd := true } := by
    have := HG.out.ok
    cases C; simp only at this; subst this; rfl
  rw [hok1] at hG9
  clear hok1
  generalize w8.setCell ⟨N, 12, none⟩ (.bool true) = W9 at *
  have hvN : v8.ownBlock ≠ some N := fun e => by have := (HB8.out N e).1; omega
  have HVN := Lib.hid hvN
  have hI9 : GInv W9 N vl vp vd { C with hd := true } := ⟨hG9, HI8.out.sl.only0 hO9 (fun hl b hb e => HI8.out.nl hl (by rw [hb, e])), HI8.out.sp.only hO9 (fun b hb e => HI8.out.np (by rw [hb, e])), HI8.out.sd.only hO9 (fun b hb e => HI8.out.nd (by rw [hb, e])), HI8.out.nl, HI8.out.np, HI8.out.nd⟩
  have B9 := B8.only hO9 (by omega)
  have hO9' : Only (fun k => k = N) w W9 := (HO2.out.trans (Only.of_ext HE8.out)).trans hO9
  have hs9 := HS8.out.only hO9 (fun b hb e => hvN (by rw [hb, e]))
  have hzw : w.heap.size ≤ w7.heap.size := Nat.le_trans (Nat.le_trans HO2.out.size hM2) hz7
  have hlv : ∀ b, v8.ownBlock = some b → w.heap.size ≤ b ∧ b < W9.heap.size := fun b hb => ⟨Nat.le_trans hzw (HB8.out b hb).1, Nat.lt_of_lt_of_le (HB8.out b hb).2 hO9.size⟩
  have HLV := Lib.hid hlv
  clear k12 f12 hG9 hO9 hvN HI8 B8 HS8 HB8 hlv
  have c5 := Later.cell hI9.box.c5
  simp only at c5
  have d0 := Later.cell B9.c0; have d1 := Later.cell B9.c1; have d2 := Later.cell B9.c2; have d3 := Later.cell B9.c3; have d4 := Later.cell B9.c4; have d5 := Later.cell B9.c5; have d6 := Later.cell B9.c6; have d7 := Later.cell B9.c7; have d8 := Later.cell B9.c8
  have kl := fun w => rlength_any cr w HRG.out
  have KL := Lib.hid kl; clear kl
  have HI9 := Lib.hid hI9; have HO9 := Lib.hid hO9'; have HS9 := Lib.hid hs9
  clear hI9 hO9' hs9
  have hdl : C.dn.length ≤ 999999998 := by have := HG.out.dn; omega
  have hs1 : 0 ≤ cr.len - C.part := by omega
  have hs2 : cr.len - C.part ≤ 40000000 := by omega
  obtain ⟨a8, n8, c8, b8, o8, hv8, -⟩ := id HS9.out
  subst hv8
  by_cases hnd : nd ≤ cr.len - C.part
  · have hnd' : decide (nd ≤ cr.len - C.part) = true := by simpa using hnd
    by_cases hl0 : ls = []
    · have hB : C.holdM = Mdl.stopM { C with hd := true, plan := ls, br := true } cr := by rw [HB.out, HNE.out, HSL.out, if_pos hnd, if_pos hl0]
      have HF := Lib.hid hB
      clear hB HB hnd
      refine wp_region_later (by kernel_rfl) (by kernel_rfl) ?_
      repeat (go_big_quiet_step ((go_at_call 16; exact Calls.later (KL.out _))))
      refine wpQuiet_nil ?_
      rintro _ ⟨y, rfl⟩
      have hIy := HI9.out.later y.ext
      have By := B9.later y.ext
      have hsy := HS9.out.later y.ext
      have hOy := HO9.out.trans (Only.of_ext y.ext)
      have hzy : W9.heap.size ≤ y.w.heap.size := y.ext.size
      clear c5 d0 d1 d2 d3 d4 d5 d6 d7 d8 B9 HO9 HI9 HS9
      generalize y.w = W10 at *
      clear y
      obtain ⟨ap, np, cp, bp, op, hvp, -⟩ := hIy.sp
      have k6 := hIy.box.c6; have k10 := hIy.box.c10; have f6 := hIy.box.fr 6; have f10 := hIy.box.fr 10
      simp only at k10
      rw [HBR.out] at k10
      rw [hvp] at k6
      clear hvp
      have hG11 := (hIy.box.set_vp (.slice a8 n8 c8) ls).set_br true
      have hO11 : Only (fun k => k = N) W10 ((W10.setCell ⟨N, 6, none⟩ (.slice a8 n8 c8)).setCell ⟨N, 10, none⟩ (.bool true)) := ((Only.refl (fun k => k = N) W10).set (.inl rfl) _).set (.inl rfl) _
      have hI11 : GInv ((W10.setCell ⟨N, 6, none⟩ (.slice a8 n8 c8)).setCell ⟨N, 10, none⟩ (.bool true)) N vl (.slice a8 n8 c8) vd { C with hd := true, plan := ls, br := true } := ⟨hG11, hIy.sl.only0 hO11 (fun hl b hb e => hIy.nl hl (by rw [hb, e])), hsy.only hO11 (fun b hb e => HVN.out (by rw [hb, e])), hIy.sd.only hO11 (fun b hb e => hIy.nd (by rw [hb, e])), hIy.nl, HVN.out, hIy.nd⟩
      have hO11' := hOy.trans hO11
      have B11 := By.only hO11 (by omega)
      have kr := mrest_any hI11.box hI11.sp true (by simp [hl0])
      have hz11 := hO11.size
      have HI11 := Lib.hid hI11; have HO11 := Lib.hid hO11'; have KR := Lib.hid kr; have HB11 := Lib.hid B11
      clear hI11 hO11' kr hG11 hO11 hIy hOy hsy B11 By
      go_wp2_with fail
      refine KR.out.mono ?_
      rintro e w11 ⟨rfl, hx11⟩
      clear k6 k10 f6 f10 KR
      have hI12 := HI11.out.later hx11
      have hO12 := HO11.out.trans (Only.of_ext hx11)
      have hz12 := Nat.le_trans hz11 hx11.size
      have B12 := HB11.out.later hx11
      have e0 := B12.c0; have e1 := B12.c1; have e2 := B12.c2; have e3 := B12.c3; have e4 := B12.c4; have e5 := B12.c5; have e6 := B12.c6; have e7 := B12.c7; have e8 := B12.c8
      have kst := mstop_any cr hI12 ⟨Nat.le_of_lt HG.out.i, Nat.le_trans HG.out.n (by decide), fun hi => HG.out.r _ hi, fun _ => HG.out.p0, fun _ => HG.out.p1, fun _ => HG.out.p2, HG.out.ok⟩ hdl (fun b hb => Nat.lt_of_lt_of_le (HLV.out b hb).2 (Nat.le_trans hzy hz12))
      have KST := Lib.hid kst; clear kst hI12
      have HL0 := Lib.hid hl0; clear hl0
      go_wp2_with fail
      refine KST.out.mono ?_
      rintro e w12 ⟨rfl, vp12, vd12, hI12, hO12b, hd12, hp12⟩
      have HI12 := Lib.hid hI12
      clear e0 e1 e2 e3 e4 e5 e6 e7 e8 hI12 KST
      go_wp2
      go_end0
      rw [HF.out]
      exact ⟨rfl, vp12, vd12, HI12.out, SlI.cap_nil (w := w12) (by have := HI12.out.sp; rw [show (Mdl.stopM { C with hd := true, plan := ls, br := true } cr).plan = [] from HL0.out] at this; exact this), hO12.trans hO12b, fun b hb => (hd12 b hb).imp id (fun h => ⟨Nat.le_trans hO12.size h.1, h.2⟩), fun b hb => (hp12 b hb).elim (fun h => .inr ⟨(HLV.out b h).1, Nat.lt_of_lt_of_le (HLV.out b h).2 (Nat.le_trans hzy (Nat.le_trans hz12 hO12b.size))⟩) (fun h => .inr ⟨Nat.le_trans hO12.size h.1, h.2⟩)⟩
    · have hB : C.holdM = { C with hd := true, plan := ls, br := true } := by rw [HB.out, HNE.out, HSL.out, if_pos hnd, if_neg hl0]
      have HF := Lib.hid hB
      clear hB HB hnd
      refine wp_region_later (by kernel_rfl) (by kernel_rfl) ?_
      repeat (go_big_quiet_step ((go_at_call 16; exact Calls.later (KL.out _))))
      refine wpQuiet_nil ?_
      rintro _ ⟨y, rfl⟩
      have hIy := HI9.out.later y.ext
      have By := B9.later y.ext
      have hsy := HS9.out.later y.ext
      have hOy := HO9.out.trans (Only.of_ext y.ext)
      have hzy : W9.heap.size ≤ y.w.heap.size := y.ext.size
      clear c5 d0 d1 d2 d3 d4 d5 d6 d7 d8 B9 HO9 HI9 HS9
      generalize y.w = W10 at *
      clear y
      obtain ⟨ap, np, cp, bp, op, hvp, -⟩ := hIy.sp
      have k6 := hIy.box.c6; have k10 := hIy.box.c10; have f6 := hIy.box.fr 6; have f10 := hIy.box.fr 10
      simp only at k10
      rw [HBR.out] at k10
      rw [hvp] at k6
      clear hvp
      have hG11 := (hIy.box.set_vp (.slice a8 n8 c8) ls).set_br true
      have hO11 : Only (fun k => k = N) W10 ((W10.setCell ⟨N, 6, none⟩ (.slice a8 n8 c8)).setCell ⟨N, 10, none⟩ (.bool true)) := ((Only.refl (fun k => k = N) W10).set (.inl rfl) _).set (.inl rfl) _
      have hI11 : GInv ((W10.setCell ⟨N, 6, none⟩ (.slice a8 n8 c8)).setCell ⟨N, 10, none⟩ (.bool true)) N vl (.slice a8 n8 c8) vd { C with hd := true, plan := ls, br := true } := ⟨hG11, hIy.sl.only0 hO11 (fun hl b hb e => hIy.nl hl (by rw [hb, e])), hsy.only hO11 (fun b hb e => HVN.out (by rw [hb, e])), hIy.sd.only hO11 (fun b hb e => hIy.nd (by rw [hb, e])), hIy.nl, HVN.out, hIy.nd⟩
      have hO11' := hOy.trans hO11
      have B11 := By.only hO11 (by omega)
      have kr := mrest_any hI11.box hI11.sp false (by simp [hl0])
      have hz11 := hO11.size
      have HI11 := Lib.hid hI11; have HO11 := Lib.hid hO11'; have KR := Lib.hid kr; have HB11 := Lib.hid B11
      clear hI11 hO11' kr hG11 hO11 hIy hOy hsy B11 By
      go_wp2_with fail
      refine KR.out.mono ?_
      rintro e w11 ⟨rfl, hx11⟩
      clear k6 k10 f6 f10 KR
      have hI12 := HI11.out.later hx11
      have hO12 := HO11.out.trans (Only.of_ext hx11)
      have hz12 := Nat.le_trans hz11 hx11.size
      have HI12 := Lib.hid hI12
      clear hI12 hl0
      go_wp2
      go_end0
      rw [HF.out]
      exact ⟨rfl, _, vd, HI12.out, HC8.out, hO12, fun b hb => .inl hb, fun b hb => .inr ⟨(HLV.out b hb).1, Nat.lt_of_lt_of_le (HLV.out b hb).2 (Nat.le_trans hzy hz12)⟩⟩
  · have hnd' : decide (nd ≤ cr.len - C.part) = false := by simpa using hnd
    have hB : C.holdM = { C with hd := true } := by rw [HB.out, HNE.out, if_neg hnd]
    have HF := Lib.hid hB
    clear hB HB hnd
    refine wp_region_later (by kernel_rfl) (by kernel_rfl) ?_
    repeat (go_big_quiet_step ((go_at_call 16; exact Calls.later (KL.out _))))
    refine wpQuiet_nil ?_
    rintro _ ⟨y, rfl⟩
    have hIy := HI9.out.later y.ext
    have By := B9.later y.ext
    have hsy := HS9.out.later y.ext
    have hOy := HO9.out.trans (Only.of_ext y.ext)
    have hzy : W9.heap.size ≤ y.w.heap.size := y.ext.size
    clear c5 d0 d1 d2 d3 d4 d5 d6 d7 d8 B9 HO9 HI9 HS9
    generalize y.w = W10 at *
    clear y
    have HIY := Lib.hid hIy
    clear hIy By hsy
    go_wp2
    go_end0
    rw [HF.out]
    exact ⟨rfl, vp, vd, HIY.out, HCAP.out, hOy, fun b hb => .inl hb, fun b hb => .inl hb⟩

end Go.Proofs.Ytfmjmabaabmgcaa

namespace Go.Proofs.Ytfmjmabaabmgcaa
open Go.RowKit
set_option maxRecDepth 8000

theorem GInv.keep {w : World} {N : Nat} {vl vp vd : Value} {M : Mdl} (h : GInv w N vl vp vd M) (hcap : CapV vp) {v : Value} {e : Ending} {w' : World} (k : e = .returned v ∧ Ext w w') : MRetC w N vl vp vd M v e w' :=
  ⟨k.1, vp, vd, h.later k.2, hcap, Only.of_ext k.2, fun _ hb => .inl hb, fun _ hb => .inl hb⟩

theorem Sim.can {C : Ctl} {M : Mdl} (h : Sim C M) (ho : C.Ok) (hb : C.bk = false) (hi : C.idx < C.ms.length) (hd : M.dn.length ≤ 999999990) : M.Can := by
  have h0 := ho.p0 hi
  have h1 := ho.p1 hi
  exact ⟨h.bk.trans hb, by rw [h.idx, h.ms]; exact hi, by rw [h.ms]; exact ho.n, by rw [h.ms]; exact ho.rng, h.ok, hd, by rw [h.part]; exact h0, by rw [h.part, h.cur]; omega, by rw [h.cur]; omega⟩

theorem Sim.sb {C : Ctl} {M : Mdl} (h : Sim C M) (ho : C.Ok) : -9000000000000000 ≤ M.s ∧ M.s ≤ 9000000000000000 := by
  have := (vld_iff C.s C.a C.j).1 ho.vl
  rw [h.s]; omega

theorem mtick_any {w : World} {N : Nat} {vl vp vd : Value} {C : Ctl} {M : Mdl} (h : GInv w N vl vp vd M) (hcap : CapV vp) (hlp : ∀ b, vp.ownBlock = some b → b < w.heap.size) (hs : Sim C M) (ho : C.Ok) (hd : M.dn.length ≤ 999999990) :
    Calls Try.prog 22 #[.pointer (some ⟨N, 0, none⟩)] w (MRetC w N vl vp vd M.tickM (.bool M.tickB)) := by
  have still : M.tickB = false → M.tickM = M := fun e => by unfold Mdl.tickM; rw [if_neg (by rw [e]; decide)]
  cases hb : C.bk
  case true =>
    have hbM := h.box
    have e : M.tickB = false := by unfold Mdl.tickB; rw [hs.bk, hb]; rfl
    rw [still e, e]
    exact (mtick_broken h.box (hs.bk.trans hb)).mono fun _ _ k => h.keep hcap k
  case false =>
    by_cases hi : C.idx < C.ms.length
    case neg =>
      have hle := ho.le
      have e : M.tickB = false := by unfold Mdl.tickB; rw [hs.idx, hs.ms, decide_eq_false hi]; simp
      rw [still e, e]
      exact (mtick_done h.box h.sl (hs.bk.trans hb) (by rw [hs.idx, hs.ms]; omega)).mono fun _ _ k => h.keep hcap k
    case pos =>
      have hbk : M.bk = false := hs.bk.trans hb
      have hiM : M.idx < M.ms.length := by rw [hs.idx, hs.ms]; exact hi
      have hg := hs.can ho hb hi hd
      by_cases hp : M.plan = []
      · cases hh : M.hd
        · have e : M.tickB = true := by unfold Mdl.tickB; rw [hbk, hh, decide_eq_true hiM]; simp
          have hst : M.steps = C.steps := by unfold Mdl.steps Ctl.steps; rw [hs.cur, hs.part, hs.s, hs.a, hs.j]
          obtain ⟨q1, q2, q3, q4⟩ := ho.steps_props hi
          have hse := ho.stepsE0 hi
          rw [← hs.cur, ← hs.part, ← hs.s, ← hs.a, ← hs.j] at hse
          rw [← hst] at q1 q2 q4
          rw [← hs.cur, ← hs.part] at q2
          rcases hx : M.steps with _ | ⟨x, r⟩
          · rw [hx] at q4; simp at q4
          · have hT : M.tickM = Mdl.advM { M with plan := x :: r, bef := 0, lst := 0, br := false } x r := by
              unfold Mdl.tickM; rw [if_pos e, if_pos hp, hx]; rfl
            rw [hx] at q1 q2
            have x0 := q1 x (by simp)
            have hr0 := sum_nonneg' (l := r) (fun y hy => q1 y (by simp [hy]))
            rw [List.sum_cons] at q2
            rw [hT, e]
            exact mtick_start h hlp hg hh hp hx hse x0 (by omega) (hs.sb ho).1 (hs.sb ho).2
        · have e : M.tickB = false := by unfold Mdl.tickB; rw [hh, decide_eq_true hp]; simp
          rw [still e, e]
          exact (mtick_held h.box h.sl h.sp hbk hiM hp hh).mono fun _ _ k => h.keep hcap k
      · have e : M.tickB = true := by unfold Mdl.tickB; rw [hbk, decide_eq_true hiM, decide_eq_false hp]; simp
        have hn : C.plan ≠ [] := fun e => hp (by rw [hs.plan, e]; simp)
        have q1 := drop_pos ho.pos C.pos
        have q2 := ho.sum hn
        rw [← hs.plan] at q1 q2
        rw [← hs.part, ← hs.cur] at q2
        rcases hx : M.plan with _ | ⟨x, r⟩
        · exact absurd hx hp
        · have hT : M.tickM = M.advM x r := by unfold Mdl.tickM; rw [if_pos e, if_neg hp]; unfold Mdl.advN; rw [hx]; rfl
          rw [hx] at q1 q2
          have x0 := q1 x (by simp)
          have hr0 := sum_nonneg' (l := r) (fun y hy => q1 y (by simp [hy]))
          rw [List.sum_cons] at q2
          rw [hT, e]
          cases hh : M.hd
          · exact mtick_run_false h hcap hlp hg hh x0 (by omega) hx
          · exact mtick_run_true h hcap hlp hg hh x0 (by omega) hx

theorem mhold_any {w : World} {N : Nat} {vl vp vd : Value} {C : Ctl} {M : Mdl} (h : GInv w N vl vp vd M) (hcap : CapV vp) (hlp : ∀ b, vp.ownBlock = some b → b < w.heap.size) (hs : Sim C M) (ho : C.Ok) (hd : M.dn.length ≤ 999999990) :
    Calls Try.prog 60 #[.pointer (some ⟨N, 0, none⟩)] w (MRetC w N vl vp vd M.holdM (.tuple #[])) := by
  cases hb : C.bk
  case true =>
    have e : M.holdM = M := by unfold Mdl.holdM; rw [if_pos (hs.bk.trans hb)]
    rw [e]
    exact (mhold_bk h.box (hs.bk.trans hb)).mono fun _ _ k => h.keep hcap k
  case false =>
    have hbk : M.bk = false := hs.bk.trans hb
    by_cases hc : M.plan = [] ∨ M.br = true
    · exact mhold_rest h hcap hbk hc
    · have hp : M.plan ≠ [] := fun e => hc (.inl e)
      have hr : M.br = false := by cases e : M.br; rfl; exact absurd (.inr e) hc
      have hn : C.plan ≠ [] := fun e => hp (by rw [hs.plan, e]; simp)
      have hpl : C.pos ≠ C.plan.length := fun e => hn (ho.plan_nil e)
      have hi := (ho.run hn).1
      have hbr : C.br = false := by rw [← hs.br hn]; exact hr
      obtain ⟨m1, m2⟩ := hs.mem hn hbr
      have hmv := ho.mvg hpl hbr
      rw [← m1, ← m2, ← hs.cur, ← hs.s, ← hs.a, ← hs.j] at hmv
      exact mhold_run h hcap hlp (hs.can ho hb hi hd) hr hp (hs.sb ho).1 (hs.sb ho).2 hmv

theorem mstopped_any {w : World} {N : Nat} {vl vp vd : Value} {C : Ctl} {M : Mdl} (h : GInv w N vl vp vd M) (hcap : CapV vp) (hlp : ∀ b, vp.ownBlock = some b → b < w.heap.size) (hs : Sim C M) (ho : C.Ok) (hd : M.dn.length ≤ 999999990) :
    Calls Try.prog 61 #[.pointer (some ⟨N, 0, none⟩)] w (MRetC w N vl vp vd M.brkM (.tuple #[])) := by
  cases hb : C.bk
  case true =>
    have e : M.brkM = M := by unfold Mdl.brkM; rw [if_pos (hs.bk.trans hb)]
    rw [e]
    exact (mstopped_bk h.box (hs.bk.trans hb)).mono fun _ _ k => h.keep hcap k
  case false =>
    have hbk : M.bk = false := hs.bk.trans hb
    by_cases hp : M.plan = []
    · exact mstopped_rest h hbk hp
    · have hn : C.plan ≠ [] := fun e => hp (by rw [hs.plan, e]; simp)
      have hi := (ho.run hn).1
      exact mstopped_run h hbk hp (by rw [hs.idx, hs.ms]; exact hi) (hs.posOk ho) (by omega) hlp

/-- The controller and the model in memory, in step. -/
def Duo (B : Nat) (w : World) (N : Nat) (vm : Value) (G : Nat) (vl : Value) (C : Ctl) (M : Mdl) : Prop :=
  ∃ vp vq vg vd, Pair B w N vm vp vq C G vl vg vd M ∧ CapV vg ∧ Sim C M ∧ C.Rst

/-- The pieces are few, the way is short. -/
structure Few (l : List Mot) (k : Nat) (C : Ctl) : Prop where
  ms : C.ms = l
  ps : C.ps.length ≤ k
theorem Few.tick {l : List Mot} {k : Nat} {C : Ctl} (h : Few l k C) : Few l (k + 1) C.tickC := ⟨(tickC_ms C).1.trans h.ms, by have := tickC_ps C; have := h.ps; omega⟩
theorem Few.hold {l : List Mot} {k : Nat} {C : Ctl} (h : Few l k C) : Few l (k + 1) C.holdC := ⟨(holdC_ms C).1.trans h.ms, by have := holdC_ps C; have := h.ps; omega⟩
theorem Few.brk {l : List Mot} {k : Nat} {C : Ctl} (h : Few l k C) : Few l (k + 1) C.brkC := ⟨by rw [← h.ms]; unfold Ctl.brkC; split <;> rfl, by have := brkC_ps C; have := h.ps; omega⟩
theorem Few.resume {l : List Mot} {k : Nat} {C : Ctl} (h : Few l k C) : Few l (k + 1) { C with hd := false } := ⟨h.ms, Nat.le_succ_of_le h.ps⟩
theorem Few.mono {l : List Mot} {k k' : Nat} {C : Ctl} (h : Few l k C) (hk : k ≤ k') : Few l k' C := ⟨h.ms, Nat.le_trans h.ps hk⟩

theorem Sim.tick_ms {C : Ctl} {M : Mdl} (h : Sim C M) (ho : C.Ok) : M.tickM.ms = M.ms := (h.tick ho).ms.trans ((tickC_ms C).1.trans h.ms.symm)
theorem Sim.hold_ms {C : Ctl} {M : Mdl} (h : Sim C M) (ho : C.Ok) : M.holdM.ms = M.ms := (h.hold ho).ms.trans ((holdC_ms C).1.trans h.ms.symm)
theorem Sim.brk_ms {C : Ctl} {M : Mdl} (h : Sim C M) (ho : C.Ok) (hR : C.Rst) : M.brkM.ms = M.ms := (h.brk ho hR).ms.trans (by rw [h.ms]; unfold Ctl.brkC; split <;> rfl)

end Go.Proofs.Ytfmjmabaabmgcaa
