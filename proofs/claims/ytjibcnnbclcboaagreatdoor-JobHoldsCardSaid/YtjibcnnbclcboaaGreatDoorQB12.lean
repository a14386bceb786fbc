/-
  Walks: Hold of the controller.
  Hold, Resume and Break on a right state.
  Plain laws: right motions are accepted; what is left of the way.
  What a law is told of its arguments: numbers, structs of three numbers, short arrays of numbers.
-/
import Derived.Test.YtjibcnnbclcboaaGreatDoorQB11
import Derived.Test.YtjibcnnbclcboaaGreatDoorQB05
namespace Go.Proofs.YtjibcnnbclcboaaGreatDoor
open Go.RowKit
set_option maxRecDepth 8000
set_option maxRecDepth 8000

set_option maxHeartbeats 1000000 in
theorem hold_bk {w : World} {N : Nat} {vm vp vq : Value} {C : Ctl} (h : CBox w N vm vp vq C) (hbk : C.bk = true) :
    Calls Tryz.prog 35 #[.pointer (some ⟨N, 0, none⟩)] w fun e w' => e = .returned (.tuple #[]) ∧ Ext w w' := by
  have c10 := h.c10
  rw [hbk] at c10
  clear h hbk
  go_enter Tryz.func35, Tryz.ntmps35
  go_wp2
  refine bodyPost_ret (v := .tuple #[]) (by simp [results, Tryz.results35, go_sem]) rfl ⟨rfl, Ext.refl _⟩

set_option maxHeartbeats 1000000 in
theorem hold_rest {B : Nat} {w : World} {N : Nat} {vm vp vq : Value} {C : Ctl} (h : CInv B w N vm vp vq C) (hlp : ∀ b, vp.ownBlock = some b → b < w.heap.size) (hbk : C.bk = false) (hc : C.pos = C.plan.length ∨ C.br = true) :
    Calls Tryz.prog 35 #[.pointer (some ⟨N, 0, none⟩)] w (CPost B w N vm vp vq { C with hd := true } (.tuple #[])) := by
  have c9 := h.box.c9; have f9 := h.box.fr 9; have c10 := h.box.c10
  rw [hbk] at c10
  have hO : Only (fun k => k = N) w (w.setCell ⟨N, 9, none⟩ (.bool true)) := (Only.refl (fun k => k = N) w).set (.inl rfl) _
  have hI : CInv B (w.setCell ⟨N, 9, none⟩ (.bool true)) N vm vp vq { C with hd := true } := ⟨h.box.set_hd true, h.sm.only hO (fun b hb e => h.nm (by rw [hb, e])), h.sp.only hO (fun b hb e => h.np (by rw [hb, e])), h.sq.only hO (fun b hb e => h.nq (by rw [hb, e])), h.nm, h.np, h.nq, h.mq, h.pq, h.base⟩
  have HI := Lib.hid hI; have HO := Lib.hid hO
  have HC := Lib.hid hc; have HLP := Lib.hid hlp
  clear hI hO h hbk hlp hc
  by_cases hp : C.pos = C.plan.length
  · have hres := resting_is true HI.out.box HI.out.sp (by simp [hp])
    have HR := Lib.hid hres; clear hres hp
    go_enter Tryz.func35, Tryz.ntmps35
    go_wp2_with fail
    refine HR.out.mono ?_
    rintro e w2 ⟨rfl, hx2⟩
    go_wp2
    refine bodyPost_ret (v := .tuple #[]) (by simp [results, Tryz.results35, go_sem]) rfl ⟨rfl, vp, vq, HI.out.later hx2, (HO.out.trans (Only.of_ext hx2)).mono (fun k _ e => .inl e), fun b hb => .inl hb, fun b hb => ⟨?_, .inl hb⟩⟩
    have h1 := HLP.out b hb; have h2 := HO.out.size; have h3 := hx2.size; omega
  · have hb : C.br = true := HC.out.resolve_left hp
    have hres := resting_is false HI.out.box HI.out.sp (by simp [hp])
    have HR := Lib.hid hres; clear hres hp
    have HBR := Lib.hid hb; clear hb
    go_enter Tryz.func35, Tryz.ntmps35
    go_wp2_with fail
    refine HR.out.mono ?_
    rintro e w2 ⟨rfl, hx2⟩
    have c8 := (HI.out.later hx2).box.c8
    simp only at c8
    rw [HBR.out] at c8
    go_wp2
    refine bodyPost_ret (v := .tuple #[]) (by simp [results, Tryz.results35, go_sem]) rfl ⟨rfl, vp, vq, HI.out.later hx2, (HO.out.trans (Only.of_ext hx2)).mono (fun k _ e => .inl e), fun b hb => .inl hb, fun b hb => ⟨?_, .inl hb⟩⟩
    have h1 := HLP.out b hb; have h2 := HO.out.size; have h3 := hx2.size; omega

set_option maxHeartbeats 8000000 in
theorem hold_one {B : Nat} {w : World} {N : Nat} {vm vp vq : Value} {C : Ctl} (h : CInv B w N vm vp vq C) (hlp : ∀ b, vp.ownBlock = some b → b < w.heap.size) (hbk : C.bk = false) (hbr : C.br = false) (hi : C.idx < C.ms.length) (hn : C.ms.length ≤ 1000000000000) (hr : ∀ i, i < C.ms.length → (C.ms.getD i Mot.zero).rng) (hrt : C.cur.rate ≤ 9223372036854775807)
    (hp1 : C.pos = 1) (hk : C.pos < C.plan.length) (hpl : C.plan.length ≤ 1000000000000) (p0 : 0 ≤ C.part) (p1 : C.part < C.cur.len) (hmv : mvg (C.cur.spd C.s) C.a C.j C.dBefore C.dLast = true) (hps : C.ps.length ≤ 999999999) :
    Calls Tryz.prog 35 #[.pointer (some ⟨N, 0, none⟩)] w (CPost B w N vm vp vq C.holdC (.tuple #[])) := by
  have hF : C.holdC = if C.needed ≤ C.cur.len - C.part then (if C.stopL = [] then Ctl.stopd { C with hd := true, plan := [], pos := 0, br := true } else { C with hd := true, plan := C.stopL, pos := 0, br := true }) else { C with hd := true } := by
    unfold Ctl.holdC
    rw [if_neg (by simp [hbk]), if_neg (by simp [hbr]; omega)]
  have HF := Lib.hid hF; clear hF
  have c9 := h.box.c9; have f9 := h.box.fr 9; have c10 := h.box.c10
  rw [hbk] at c10
  have hO : Only (fun k => k = N) w (w.setCell ⟨N, 9, none⟩ (.bool true)) := (Only.refl (fun k => k = N) w).set (.inl rfl) _
  have hI : CInv B (w.setCell ⟨N, 9, none⟩ (.bool true)) N vm vp vq { C with hd := true } := ⟨h.box.set_hd true, h.sm.only hO (fun b hb e => h.nm (by rw [hb, e])), h.sp.only hO (fun b hb e => h.np (by rw [hb, e])), h.sq.only hO (fun b hb e => h.nq (by rw [hb, e])), h.nm, h.np, h.nq, h.mq, h.pq, h.base⟩
  have HI := Lib.hid hI
  have hO1 : Only (Foot N vq) w (w.setCell ⟨N, 9, none⟩ (.bool true)) := hO.mono (fun k _ e => .inl e)
  have HLP := Lib.hid hlp; have HBR := Lib.hid hbr; have HR := Lib.hid hr; have HRT := Lib.hid hrt
  have hl2 := (Mot.len_bounds (hr C.idx hi)).2
  have hl3 : C.cur.len ≤ 40000000 := hl2
  have hres := resting_is false HI.out.box HI.out.sp (by simp; omega)
  have HRS := Lib.hid hres
  have HH := Lib.hid h
  clear hres hI hO h hbk hlp hbr hr hrt hl2
  have kn := fun w => needed_yes (C.cur.spd C.s) C.a C.j C.dBefore C.dLast w hmv
  have ks := fun w => stop_yes (C.cur.spd C.s) C.a C.j C.dBefore C.dLast w hmv
  have hst := (mvg_iff _ _ _ _ _).1 hmv
  have hsp : (∀ x ∈ C.stopL, 0 < x) ∧ C.stopL.sum = C.needed := ⟨fun x hx => (stops_pos _ _ _ _ _ hst.1 hst.2.2.2 x hx).1, stops_sum _ _ _ _ _ hst.1 hst.2.2.2⟩
  have en : dsum (C.cur.spd C.s) C.a C.j C.dLast (C.dLast - C.dBefore) = C.needed := rfl
  have es : stops (C.cur.spd C.s) C.a C.j C.dLast (C.dLast - C.dBefore) = C.stopL := rfl
  rw [en] at kn
  rw [es] at ks
  have hnd : 0 ≤ C.needed ∧ (C.stopL.length : Int) ≤ C.needed := ⟨by rw [← hsp.2]; exact sum_nonneg' hsp.1, by rw [← hsp.2]; exact sum_len hsp.1⟩
  clear en es hst hmv hsp
  have hlim := fun w => limit_any C.cur C.s C.a C.j w HRT.out
  have HLM := Lib.hid hlim; clear hlim
  have e1 : C.dLast = C.plan.getD 0 0 := by unfold Ctl.dLast; rw [hp1]
  have e2 : C.dBefore = 0 := by unfold Ctl.dBefore; rw [if_neg (by omega)]
  rw [e1, e2] at kn ks
  clear e1 e2
  have HKN := Lib.hid kn; have HKS := Lib.hid ks
  clear kn ks
  obtain ⟨nd, hnd1⟩ : ∃ nd, nd = C.needed := ⟨_, rfl⟩
  obtain ⟨sl, hsl1⟩ : ∃ sl, sl = C.stopL := ⟨_, rfl⟩
  rw [← hnd1] at HKN HF hnd
  rw [← hsl1] at HKS HF hnd
  clear hnd1 hsl1
  have hleft : ∀ w' vp' vq' (D : Ctl), D.ms = C.ms → D.idx = C.idx → D.part = C.part → CBox w' N vm vp' vq' D → SlM w' vm C.ms → Calls Tryz.prog 49 #[.pointer (some ⟨N, 0, none⟩)] w' fun e w'' => e = .returned (.int .i64 (C.cur.len - C.part)) ∧ Ext w' w'' := fun w' vp' vq' D e1 e2 e3 hb hm => by
    have ec : D.cur = C.cur := by unfold Ctl.cur; rw [e1, e2]
    have := left_any hb (by rw [e1]; exact hm) (by rw [e1, e2]; exact hi) (by rw [ec]; exact HR.out C.idx hi) (by rw [e3]; exact p0) (by rw [e3, ec]; omega)
    rw [ec, e3] at this
    exact this
  have HLF := Lib.hid hleft; clear hleft
  obtain ⟨cr, hcr⟩ : ∃ cr, cr = C.cur := ⟨_, rfl⟩
  rw [← hcr] at HLM HLF HF HKN HKS p1 hl3
  have HCR := Lib.hid hcr; clear hcr
  go_enter Tryz.func35, Tryz.ntmps35
  go_wp2_with fail
  generalize w.setCell ⟨N, 9, none⟩ (.bool true) = W1 at *
  clear c9 f9 c10
  refine HRS.out.mono ?_
  rintro e w2 ⟨rfl, hx2⟩
  clear HRS
  have hI2 := HI.out.later hx2
  have hO2 := hO1.trans (Only.of_ext hx2)
  clear HI hO1 hx2
  have c8 := hI2.box.c8
  simp only at c8
  rw [HBR.out] at c8
  go_wp2_with fail
  clear c8
  obtain ⟨ad, n, cap, b, off, hv, hnl, h3, h4⟩ := hI2.sp
  simp only at hnl h4
  have c6 := Later.cell hI2.box.c6; have c7 := Later.cell hI2.box.c7
  rw [hv] at c6
  simp only at c7
  rw [hp1] at c7
  obtain ⟨hb1, hb2⟩ := h4 0 (by omega)
  have hl0 : 0 < n := by omega
  obtain rfl : ad = some ⟨b, off, none⟩ := h3.resolve_left (by omega)
  have d := Later.cell hb2
  simp only [Nat.add_zero] at d
  simp at c7
  have HP1 := Lib.hid hp1
  clear h3 h4 hb2 hnl hp1
  generalize C.plan.getD 0 0 = q at *
  refine wp_region_later (by kernel_rfl) (by kernel_rfl) ?_
  repeat (go_big_quiet_step (fail))
  refine wpQuiet_nil ?_
  rintro _ ⟨y, rfl⟩
  have hI3 := hI2.later y.ext
  have hO3 := hO2.trans (Only.of_ext y.ext)
  have hy := y.ext
  clear c6 c7 d hI2 hO2
  generalize y.w = W3 at *
  clear y
  have c7 := hI3.box.c7
  simp only at c7
  rw [HP1.out] at c7
  simp at c7
  go_wp2_with fail
  clear c7
  obtain ⟨ad2, n2, cap2, b2, off2, hv2, hn2, h3, -, h4⟩ := hI3.sm
  simp only at hn2 h4
  obtain ⟨hb4, hb5⟩ := h4 C.idx (by omega)
  obtain rfl : ad2 = some ⟨b2, off2, none⟩ := h3.resolve_left (by omega)
  have hi2 : C.idx < n2 := by omega
  have hcur : C.ms.getD C.idx Mot.zero = cr := HCR.out.symm
  rw [hcur] at hb5
  clear hcur h3 h4 hn2
  have c0 := Later.cell hI3.box.c0; have c1 := Later.cell hI3.box.c1; have c2 := Later.cell hI3.box.c2; have c3 := Later.cell hI3.box.c3; have c4 := Later.cell hI3.box.c4
  rw [hv2] at c0
  simp only at c1 c2 c3 c4
  have d0 := Later.cell hb5.c0; have d1 := Later.cell hb5.c1; have d2 := Later.cell hb5.c2; have d3 := Later.cell hb5.c3; have d4 := Later.cell hb5.c4; have d5 := Later.cell hb5.c5; have d6 := Later.cell hb5.c6; have d7 := Later.cell hb5.c7; have d8 := Later.cell hb5.c8
  have HI3 := Lib.hid hI3
  clear hb5 hI3
  refine wp_region_tree (fun w' => ∃ y : Later W3, w' = y.w) 16 (.two [0, 1, 2, 3, 4, 5, 6, 7, 8, 9, 10, 11, 12, 13] 14 15 (.one [] 15 (.leaf [])) (.one [] 14 (.leaf []))) (by kernel_rfl) (by kernel_rfl) (by kernel_rfl) ⟨⟨_, (Ext.refl W3).drew⟩, rfl⟩ ?_
  simp only [List.take_succ_cons, List.take_zero]
  refine tree_two fun K1 K2 hK1 hK2 => ?_
  simp only [List.map_cons, List.map_nil, pickOp, List.getElem?_cons_zero, List.getElem?_cons_succ, Option.getD_some]
  repeat (go_big_quiet_step (fail))
  refine wpQuiet_nil ⟨?_, ?_⟩
  · clear hK2 K2
    go_wp2_with ((go_at_call 50; with_reducible refine (HLM.out _).mono ?_); rintro e w5 ⟨rfl, hx5⟩)
    have hx5' := (Ext.refl W3).drew.trans hx5
    clear hx5
    refine onlyK_normal (hK1 _ _ ⟨⟨_, hx5'⟩, rfl⟩ ?_); clear hK1 K1
    refine tree_one0 fun K hK => ?_
    simp only [pickOp, List.getElem?_cons_zero, List.getElem?_cons_succ, Option.getD_some]
    go_wp2_with fail
    refine onlyK_normal (hK _ _ ⟨⟨_, hx5'.alloc _⟩, rfl⟩ ?_); clear hK K
    refine tree_leaf0 ?_
    simp only [List.drop_succ_cons, List.drop_zero]
    clear c0 c1 c2 c3 c4 d0 d1 d2 d3 d4 d5 d6 d7 d8
    go_wp2_with fail
    obtain ⟨W6, hW6, L6, hE6⟩ := B3.mk' w5 (.int .i64 (cr.spd C.s)) (.int .i64 C.a) (.int .i64 C.j) 32
    rw [hW6]; clear hW6
    have hE6' := hx5'.trans hE6
    have hI6 := HI3.out.later hE6'
    have hO6 := hO3.trans (Only.of_ext hE6')
    generalize w5.heap.size = M at *
    clear HI3 hO3 hE6 hE6' hx5' hb4
    have l0 := L6.c0; have l1 := L6.c1; have l2 := L6.c2
    go_wp2_with fail
    refine (HKN.out _).mono ?_
    rintro e w7 ⟨rfl, hx7⟩
    have L7 := L6.later hx7
    have hI7 := hI6.later hx7
    have hO7 := hO6.trans (Only.of_ext hx7)
    clear l0 l1 l2 L6 hI6 hO6 hx7
    go_wp2_with fail
    refine (HLF.out _ _ _ { C with hd := true } rfl rfl rfl hI7.box hI7.sm).mono ?_
    rintro e w8 ⟨rfl, hx8⟩
    have L8 := L7.later hx8
    have hI8 := hI7.later hx8
    have hO8 := hO7.trans (Only.of_ext hx8)
    clear L7 hI7 hO7 hx8
    by_cases hneed : nd ≤ cr.len - C.part
    · rw [if_pos hneed] at HF
      have hng : ¬ cr.len - C.part < nd := by omega
      have l0 := L8.c0; have l1 := L8.c1; have l2 := L8.c2
      go_wp2_with fail
      refine (HKS.out _).mono ?_
      rintro e w9 ⟨v, rfl, hown, hx9⟩
      have hI9 := hI8.later hx9
      have hO9 := hO8.trans (Only.of_ext hx9)
      have hbase : ∀ b, v.ownBlock = some b → w.heap.size ≤ b := fun b hb => Nat.le_trans hO8.size (hown.base hb)
      have hlv : ∀ b, v.ownBlock = some b → b < w9.heap.size := fun b hb => ownsRow_lt hown hb
      have hs9 := hown.sl
      clear l0 l1 l2 L8 hI8 hO8 hx9 hown
      have c6 := hI9.box.c6; have c7 := hI9.box.c7; have c8 := hI9.box.c8; have f6 := hI9.box.fr 6; have f7 := hI9.box.fr 7; have f8 := hI9.box.fr 8
      have HS9 := Lib.hid hs9
      obtain ⟨av, nv, cv, bv, ov, hvv, hnv, -, -⟩ := hs9
      have HNV := Lib.hid hnv; clear hnv
      subst hvv
      have hNw := HH.out.box.lt
      have hWX : CBox (((w9.setCell ⟨N, 6, none⟩ (.slice av nv cv)).setCell ⟨N, 7, none⟩ (.int .i64 0)).setCell ⟨N, 8, none⟩ (.bool true)) N vm (.slice av nv cv) vq { C with hd := true, plan := sl, pos := 0, br := true } := by simpa using ((hI9.box.set_vp (.slice av nv cv) sl).set_pos 0).set_br true
      have hOX : Only (Foot N vq) w (((w9.setCell ⟨N, 6, none⟩ (.slice av nv cv)).setCell ⟨N, 7, none⟩ (.int .i64 0)).setCell ⟨N, 8, none⟩ (.bool true)) := ((hO9.set (.inl (.inl rfl)) _).set (.inl (.inl rfl)) _).set (.inl (.inl rfl)) _
      have hOX' : Only (fun k => k = N) w9 (((w9.setCell ⟨N, 6, none⟩ (.slice av nv cv)).setCell ⟨N, 7, none⟩ (.int .i64 0)).setCell ⟨N, 8, none⟩ (.bool true)) := (((Only.refl (fun k => k = N) w9).set (.inl rfl) _).set (.inl rfl) _).set (.inl rfl) _
      have NP : (Value.slice av nv cv).ownBlock ≠ some N := fun e => by have := hbase N e; omega
      have PQ : (Value.slice av nv cv).ownBlock = none ∨ (Value.slice av nv cv).ownBlock ≠ vq.ownBlock := by
        cases hav : (Value.slice av nv cv).ownBlock with
        | none => exact .inl rfl
        | some b' => right; intro e; have h1 := hbase b' hav; have h2 := HH.out.sq.lt e.symm; omega
      have hIX : CInv B (((w9.setCell ⟨N, 6, none⟩ (.slice av nv cv)).setCell ⟨N, 7, none⟩ (.int .i64 0)).setCell ⟨N, 8, none⟩ (.bool true)) N vm (.slice av nv cv) vq { C with hd := true, plan := sl, pos := 0, br := true } := ⟨hWX, hI9.sm.only hOX' (fun b hb e => HH.out.nm (by rw [hb, e])), HS9.out.only hOX' (fun b hb e => NP (by rw [hb, e])), hI9.sq.only hOX' (fun b hb e => HH.out.nq (by rw [hb, e])), HH.out.nm, NP, HH.out.nq, HH.out.mq, PQ, HH.out.base⟩
      have HIX := Lib.hid hIX; have HOX := Lib.hid hOX
      have HBX := Lib.hid hbase
      have hlvX : ∀ b, (Value.slice av nv cv).ownBlock = some b → b < (((w9.setCell ⟨N, 6, none⟩ (.slice av nv cv)).setCell ⟨N, 7, none⟩ (.int .i64 0)).setCell ⟨N, 8, none⟩ (.bool true)).heap.size := fun b hb => by simpa using hlv b hb
      have HLX := Lib.hid hlvX
      clear hWX hOX hOX' hIX NP PQ hbase hlv hlvX HS9 hI9 hO9
      by_cases hnil : sl = []
      · rw [if_pos hnil] at HF
        obtain rfl : nv = 0 := by have := HNV.out; rw [hnil] at this; simpa using this
        go_wp2_with fail
        generalize ((w9.setCell ⟨N, 6, none⟩ (.slice av 0 cv)).setCell ⟨N, 7, none⟩ (.int .i64 0)).setCell ⟨N, 8, none⟩ (.bool true) = WX at *
        rw [hnil] at HIX
        clear c6 c7 c8 f6 f7 f8
        have ecx : Ctl.cur { C with hd := true, plan := [], pos := 0, br := true } = cr := HCR.out.symm
        have kst := stop_any HIX.out hi ⟨Nat.le_of_lt hi, hn, fun _ => HR.out _ hi, fun _ => p0, fun _ => by rw [ecx]; simp only; omega, fun _ => by rw [ecx]; omega⟩ HR.out hps
        clear ecx
        refine kst.mono ?_
        rintro e w10 ⟨rfl, vp', vq', hI10, hO10, hloc10, hlp10⟩
        clear kst
        have hO11 := HOX.out.trans hO10
        have hloc11 : ∀ b, vq'.ownBlock = some b → vq.ownBlock = some b ∨ w.heap.size ≤ b := fun b hb => (hloc10 b hb).imp id (fun h => Nat.le_trans HOX.out.size h)
        have hlp11 : ∀ b', vp'.ownBlock = some b' → b' < w10.heap.size ∧ (vp.ownBlock = some b' ∨ w.heap.size ≤ b') := fun b' hb => ⟨(hlp10 b' hb).1, .inr (((hlp10 b' hb).2).elim (fun h => HBX.out _ h) (fun h => Nat.le_trans HOX.out.size h))⟩
        have FIN : Hid (CInv B w10 N vm vp' vq' C.holdC) := Lib.hid (by rw [HF.out]; exact hI10)
        clear hI10 hO10 hloc10 hlp10
        go_wp2
        go_end0
        exact ⟨rfl, vp', vq', FIN.out, hO11, hloc11, hlp11⟩
      · rw [if_neg hnil] at HF
        have hnv0 : ¬ (nv : Int) = 0 := by
          have := HNV.out
          have h2 := List.length_pos_iff.2 hnil
          omega
        have FIN : Hid (CInv B _ N vm (.slice av nv cv) vq C.holdC) := Lib.hid (by rw [HF.out]; exact HIX.out)
        clear HIX
        go_wp2
        go_end0
        exact ⟨rfl, _, vq, FIN.out, HOX.out, fun b hb => .inl hb, fun b hb => ⟨HLX.out b hb, .inr (HBX.out b hb)⟩⟩
    · rw [if_neg hneed] at HF
      have hng : cr.len - C.part < nd := by omega
      have FIN : Hid (CInv B w8 N vm vp vq C.holdC) := Lib.hid (by rw [HF.out]; exact hI8)
      have hlp8 : ∀ b, vp.ownBlock = some b → b < w8.heap.size := fun b hb => Nat.lt_of_lt_of_le (HLP.out b hb) hO8.size
      have HL8 := Lib.hid hlp8
      clear hI8 hlp8
      go_wp2
      refine bodyPost_ret (v := .tuple #[]) (by simp [results, Tryz.results35, go_sem]) rfl ⟨rfl, vp, vq, FIN.out, hO8, fun b hb => .inl hb, fun b hb => ⟨HL8.out b hb, .inl hb⟩⟩
  · clear hK1 K1
    go_wp2_with fail
    obtain ⟨W5, hW5, L5, hE5⟩ := B3.mk' W3 (.int .i64 0) (.int .i64 0) (.int .i64 0) 32
    rw [hW5]; clear hW5
    refine onlyK_normal (hK2 _ _ ⟨⟨_, hE5.drew⟩, rfl⟩ ?_); clear hK2 K2
    refine tree_one0 fun K hK => ?_
    simp only [pickOp, List.getElem?_cons_zero, List.getElem?_cons_succ, Option.getD_some]
    go_wp2_with ((go_at_call 50; with_reducible refine (HLM.out _).mono ?_); rintro e w5 ⟨rfl, hx5⟩)
    have hx5' := (Ext.refl W5).drew.trans hx5
    refine onlyK_normal (hK _ _ ⟨⟨_, hE5.trans hx5'⟩, rfl⟩ ?_); clear hK K
    refine tree_leaf0 ?_
    simp only [List.drop_succ_cons, List.drop_zero]
    clear c0 c1 c2 c3 c4 d0 d1 d2 d3 d4 d5 d6 d7 d8
    have L6' := L5.later hx5'
    have z0 := L6'.c0; have z1 := L6'.c1; have z2 := L6'.c2; have y0 := L6'.f0; have y1 := L6'.f1; have y2 := L6'.f2
    go_wp2_with fail
    obtain ⟨W6, hW6⟩ : ∃ W6 : World, ((w5.setCell ⟨W3.heap.size, 0, none⟩ (.int .i64 (cr.spd C.s))).setCell ⟨W3.heap.size, 1, none⟩ (.int .i64 C.a)).setCell ⟨W3.heap.size, 2, none⟩ (.int .i64 C.j) = W6 := ⟨_, rfl⟩
    have hE6' : Ext W3 W6 := by rw [← hW6]; exact Ext.of_only ((Only.of_ext (hE5.trans hx5')).set3 (.inr (Nat.le_refl _)) _ _ _)
    have L6 : B3 W6 W3.heap.size (.int .i64 (cr.spd C.s)) (.int .i64 C.a) (.int .i64 C.j) := by
      rw [← hW6]
      exact ⟨by simp [go_sem, z0], by simp [go_sem, z1], by simp [go_sem, z2], by simpa using y0, by simpa using y1, by simpa using y2, by simpa using L6'.lt⟩
    rw [hW6]; clear hW6 z0 z1 z2 y0 y1 y2 L6' L5
    have hI6 := HI3.out.later hE6'
    have hO6 := hO3.trans (Only.of_ext hE6')
    generalize W3.heap.size = M at *
    clear HI3 hO3 hE6' hx5' hx5 hE5 hb4
    have l0 := L6.c0; have l1 := L6.c1; have l2 := L6.c2
    go_wp2_with fail
    refine (HKN.out _).mono ?_
    rintro e w7 ⟨rfl, hx7⟩
    have L7 := L6.later hx7
    have hI7 := hI6.later hx7
    have hO7 := hO6.trans (Only.of_ext hx7)
    clear l0 l1 l2 L6 hI6 hO6 hx7
    go_wp2_with fail
    refine (HLF.out _ _ _ { C with hd := true } rfl rfl rfl hI7.box hI7.sm).mono ?_
    rintro e w8 ⟨rfl, hx8⟩
    have L8 := L7.later hx8
    have hI8 := hI7.later hx8
    have hO8 := hO7.trans (Only.of_ext hx8)
    clear L7 hI7 hO7 hx8
    by_cases hneed : nd ≤ cr.len - C.part
    · rw [if_pos hneed] at HF
      have hng : ¬ cr.len - C.part < nd := by omega
      have l0 := L8.c0; have l1 := L8.c1; have l2 := L8.c2
      go_wp2_with fail
      refine (HKS.out _).mono ?_
      rintro e w9 ⟨v, rfl, hown, hx9⟩
      have hI9 := hI8.later hx9
      have hO9 := hO8.trans (Only.of_ext hx9)
      have hbase : ∀ b, v.ownBlock = some b → w.heap.size ≤ b := fun b hb => Nat.le_trans hO8.size (hown.base hb)
      have hlv : ∀ b, v.ownBlock = some b → b < w9.heap.size := fun b hb => ownsRow_lt hown hb
      have hs9 := hown.sl
      clear l0 l1 l2 L8 hI8 hO8 hx9 hown
      have c6 := hI9.box.c6; have c7 := hI9.box.c7; have c8 := hI9.box.c8; have f6 := hI9.box.fr 6; have f7 := hI9.box.fr 7; have f8 := hI9.box.fr 8
      have HS9 := Lib.hid hs9
      obtain ⟨av, nv, cv, bv, ov, hvv, hnv, -, -⟩ := hs9
      have HNV := Lib.hid hnv; clear hnv
      subst hvv
      have hNw := HH.out.box.lt
      have hWX : CBox (((w9.setCell ⟨N, 6, none⟩ (.slice av nv cv)).setCell ⟨N, 7, none⟩ (.int .i64 0)).setCell ⟨N, 8, none⟩ (.bool true)) N vm (.slice av nv cv) vq { C with hd := true, plan := sl, pos := 0, br := true } := by simpa using ((hI9.box.set_vp (.slice av nv cv) sl).set_pos 0).set_br true
      have hOX : Only (Foot N vq) w (((w9.setCell ⟨N, 6, none⟩ (.slice av nv cv)).setCell ⟨N, 7, none⟩ (.int .i64 0)).setCell ⟨N, 8, none⟩ (.bool true)) := ((hO9.set (.inl (.inl rfl)) _).set (.inl (.inl rfl)) _).set (.inl (.inl rfl)) _
      have hOX' : Only (fun k => k = N) w9 (((w9.setCell ⟨N, 6, none⟩ (.slice av nv cv)).setCell ⟨N, 7, none⟩ (.int .i64 0)).setCell ⟨N, 8, none⟩ (.bool true)) := (((Only.refl (fun k => k = N) w9).set (.inl rfl) _).set (.inl rfl) _).set (.inl rfl) _
      have NP : (Value.slice av nv cv).ownBlock ≠ some N := fun e => by have := hbase N e; omega
      have PQ : (Value.slice av nv cv).ownBlock = none ∨ (Value.slice av nv cv).ownBlock ≠ vq.ownBlock := by
        cases hav : (Value.slice av nv cv).ownBlock with
        | none => exact .inl rfl
        | some b' => right; intro e; have h1 := hbase b' hav; have h2 := HH.out.sq.lt e.symm; omega
      have hIX : CInv B (((w9.setCell ⟨N, 6, none⟩ (.slice av nv cv)).setCell ⟨N, 7, none⟩ (.int .i64 0)).setCell ⟨N, 8, none⟩ (.bool true)) N vm (.slice av nv cv) vq { C with hd := true, plan := sl, pos := 0, br := true } := ⟨hWX, hI9.sm.only hOX' (fun b hb e => HH.out.nm (by rw [hb, e])), HS9.out.only hOX' (fun b hb e => NP (by rw [hb, e])), hI9.sq.only hOX' (fun b hb e => HH.out.nq (by rw [hb, e])), HH.out.nm, NP, HH.out.nq, HH.out.mq, PQ, HH.out.base⟩
      have HIX := Lib.hid hIX; have HOX := Lib.hid hOX
      have HBX := Lib.hid hbase
      have hlvX : ∀ b, (Value.slice av nv cv).ownBlock = some b → b < (((w9.setCell ⟨N, 6, none⟩ (.slice av nv cv)).setCell ⟨N, 7, none⟩ (.int .i64 0)).setCell ⟨N, 8, none⟩ (.bool true)).heap.size := fun b hb => by simpa using hlv b hb
      have HLX := Lib.hid hlvX
      clear hWX hOX hOX' hIX NP PQ hbase hlv hlvX HS9 hI9 hO9
      by_cases hnil : sl = []
      · rw [if_pos hnil] at HF
        obtain rfl : nv = 0 := by have := HNV.out; rw [hnil] at this; simpa using this
        go_wp2_with fail
        generalize ((w9.setCell ⟨N, 6, none⟩ (.slice av 0 cv)).setCell ⟨N, 7, none⟩ (.int .i64 0)).setCell ⟨N, 8, none⟩ (.bool true) = WX at *
        rw [hnil] at HIX
        clear c6 c7 c8 f6 f7 f8
        have ecx : Ctl.cur { C with hd := true, plan := [], pos := 0, br := true } = cr := HCR.out.symm
        have kst := stop_any HIX.out hi ⟨Nat.le_of_lt hi, hn, fun _ => HR.out _ hi, fun _ => p0, fun _ => by rw [ecx]; simp only; omega, fun _ => by rw [ecx]; omega⟩ HR.out hps
        clear ecx
        refine kst.mono ?_
        rintro e w10 ⟨rfl, vp', vq', hI10, hO10, hloc10, hlp10⟩
        clear kst
        have hO11 := HOX.out.trans hO10
        have hloc11 : ∀ b, vq'.ownBlock = some b → vq.ownBlock = some b ∨ w.heap.size ≤ b := fun b hb => (hloc10 b hb).imp id (fun h => Nat.le_trans HOX.out.size h)
        have hlp11 : ∀ b', vp'.ownBlock = some b' → b' < w10.heap.size ∧ (vp.ownBlock = some b' ∨ w.heap.size ≤ b') := fun b' hb => ⟨(hlp10 b' hb).1, .inr (((hlp10 b' hb).2).elim (fun h => HBX.out _ h) (fun h => Nat.le_trans HOX.out.size h))⟩
        have FIN : Hid (CInv B w10 N vm vp' vq' C.holdC) := Lib.hid (by rw [HF.out]; exact hI10)
        clear hI10 hO10 hloc10 hlp10
        go_wp2
        go_end0
        exact ⟨rfl, vp', vq', FIN.out, hO11, hloc11, hlp11⟩
      · rw [if_neg hnil] at HF
        have hnv0 : ¬ (nv : Int) = 0 := by
          have := HNV.out
          have h2 := List.length_pos_iff.2 hnil
          omega
        have FIN : Hid (CInv B _ N vm (.slice av nv cv) vq C.holdC) := Lib.hid (by rw [HF.out]; exact HIX.out)
        clear HIX
        go_wp2
        go_end0
        exact ⟨rfl, _, vq, FIN.out, HOX.out, fun b hb => .inl hb, fun b hb => ⟨HLX.out b hb, .inr (HBX.out b hb)⟩⟩
    · rw [if_neg hneed] at HF
      have hng : cr.len - C.part < nd := by omega
      have FIN : Hid (CInv B w8 N vm vp vq C.holdC) := Lib.hid (by rw [HF.out]; exact hI8)
      have hlp8 : ∀ b, vp.ownBlock = some b → b < w8.heap.size := fun b hb => Nat.lt_of_lt_of_le (HLP.out b hb) hO8.size
      have HL8 := Lib.hid hlp8
      clear hI8 hlp8
      go_wp2
      refine bodyPost_ret (v := .tuple #[]) (by simp [results, Tryz.results35, go_sem]) rfl ⟨rfl, vp, vq, FIN.out, hO8, fun b hb => .inl hb, fun b hb => ⟨HL8.out b hb, .inl hb⟩⟩


set_option maxHeartbeats 8000000 in
theorem hold_more {B : Nat} {w : World} {N : Nat} {vm vp vq : Value} {C : Ctl} (h : CInv B w N vm vp vq C) (hlp : ∀ b, vp.ownBlock = some b → b < w.heap.size) (hbk : C.bk = false) (hbr : C.br = false) (hi : C.idx < C.ms.length) (hn : C.ms.length ≤ 1000000000000) (hr : ∀ i, i < C.ms.length → (C.ms.getD i Mot.zero).rng) (hrt : C.cur.rate ≤ 9223372036854775807)
    {m : Nat} (hp1 : C.pos = m + 2) (hk : C.pos < C.plan.length) (hpl : C.plan.length ≤ 1000000000000) (p0 : 0 ≤ C.part) (p1 : C.part < C.cur.len) (hmv : mvg (C.cur.spd C.s) C.a C.j C.dBefore C.dLast = true) (hps : C.ps.length ≤ 999999999) :
    Calls Tryz.prog 35 #[.pointer (some ⟨N, 0, none⟩)] w (CPost B w N vm vp vq C.holdC (.tuple #[])) := by
  have hF : C.holdC = if C.needed ≤ C.cur.len - C.part then (if C.stopL = [] then Ctl.stopd { C with hd := true, plan := [], pos := 0, br := true } else { C with hd := true, plan := C.stopL, pos := 0, br := true }) else { C with hd := true } := by
    unfold Ctl.holdC
    rw [if_neg (by simp [hbk]), if_neg (by simp [hbr]; omega)]
  have HF := Lib.hid hF; clear hF
  have c9 := h.box.c9; have f9 := h.box.fr 9; have c10 := h.box.c10
  rw [hbk] at c10
  have hO : Only (fun k => k = N) w (w.setCell ⟨N, 9, none⟩ (.bool true)) := (Only.refl (fun k => k = N) w).set (.inl rfl) _
  have hI : CInv B (w.setCell ⟨N, 9, none⟩ (.bool true)) N vm vp vq { C with hd := true } := ⟨h.box.set_hd true, h.sm.only hO (fun b hb e => h.nm (by rw [hb, e])), h.sp.only hO (fun b hb e => h.np (by rw [hb, e])), h.sq.only hO (fun b hb e => h.nq (by rw [hb, e])), h.nm, h.np, h.nq, h.mq, h.pq, h.base⟩
  have HI := Lib.hid hI
  have hO1 : Only (Foot N vq) w (w.setCell ⟨N, 9, none⟩ (.bool true)) := hO.mono (fun k _ e => .inl e)
  have HLP := Lib.hid hlp; have HBR := Lib.hid hbr; have HR := Lib.hid hr; have HRT := Lib.hid hrt
  have hl2 := (Mot.len_bounds (hr C.idx hi)).2
  have hl3 : C.cur.len ≤ 40000000 := hl2
  have hres := resting_is false HI.out.box HI.out.sp (by simp; omega)
  have HRS := Lib.hid hres
  have HH := Lib.hid h
  clear hres hI hO h hbk hlp hbr hr hrt hl2
  have kn := fun w => needed_yes (C.cur.spd C.s) C.a C.j C.dBefore C.dLast w hmv
  have ks := fun w => stop_yes (C.cur.spd C.s) C.a C.j C.dBefore C.dLast w hmv
  have hst := (mvg_iff _ _ _ _ _).1 hmv
  have hsp : (∀ x ∈ C.stopL, 0 < x) ∧ C.stopL.sum = C.needed := ⟨fun x hx => (stops_pos _ _ _ _ _ hst.1 hst.2.2.2 x hx).1, stops_sum _ _ _ _ _ hst.1 hst.2.2.2⟩
  have en : dsum (C.cur.spd C.s) C.a C.j C.dLast (C.dLast - C.dBefore) = C.needed := rfl
  have es : stops (C.cur.spd C.s) C.a C.j C.dLast (C.dLast - C.dBefore) = C.stopL := rfl
  rw [en] at kn
  rw [es] at ks
  have hnd : 0 ≤ C.needed ∧ (C.stopL.length : Int) ≤ C.needed := ⟨by rw [← hsp.2]; exact sum_nonneg' hsp.1, by rw [← hsp.2]; exact sum_len hsp.1⟩
  clear en es hst hmv hsp
  have hlim := fun w => limit_any C.cur C.s C.a C.j w HRT.out
  have HLM := Lib.hid hlim; clear hlim
  have e1 : C.dLast = C.plan.getD (m + 1) 0 := by unfold Ctl.dLast; rw [hp1]; rfl
  have e2 : C.dBefore = C.plan.getD m 0 := by unfold Ctl.dBefore; rw [if_pos (by omega), hp1]; rfl
  rw [e1, e2] at kn ks
  clear e1 e2
  have HKN := Lib.hid kn; have HKS := Lib.hid ks
  clear kn ks
  obtain ⟨nd, hnd1⟩ : ∃ nd, nd = C.needed := ⟨_, rfl⟩
  obtain ⟨sl, hsl1⟩ : ∃ sl, sl = C.stopL := ⟨_, rfl⟩
  rw [← hnd1] at HKN HF hnd
  rw [← hsl1] at HKS HF hnd
  clear hnd1 hsl1
  have hleft : ∀ w' vp' vq' (D : Ctl), D.ms = C.ms → D.idx = C.idx → D.part = C.part → CBox w' N vm vp' vq' D → SlM w' vm C.ms → Calls Tryz.prog 49 #[.pointer (some ⟨N, 0, none⟩)] w' fun e w'' => e = .returned (.int .i64 (C.cur.len - C.part)) ∧ Ext w' w'' := fun w' vp' vq' D e1 e2 e3 hb hm => by
    have ec : D.cur = C.cur := by unfold Ctl.cur; rw [e1, e2]
    have := left_any hb (by rw [e1]; exact hm) (by rw [e1, e2]; exact hi) (by rw [ec]; exact HR.out C.idx hi) (by rw [e3]; exact p0) (by rw [e3, ec]; omega)
    rw [ec, e3] at this
    exact this
  have HLF := Lib.hid hleft; clear hleft
  obtain ⟨cr, hcr⟩ : ∃ cr, cr = C.cur := ⟨_, rfl⟩
  rw [← hcr] at HLM HLF HF HKN HKS p1 hl3
  have HCR := Lib.hid hcr; clear hcr
  go_enter Tryz.func35, Tryz.ntmps35
  go_wp2_with fail
  generalize w.setCell ⟨N, 9, none⟩ (.bool true) = W1 at *
  clear c9 f9 c10
  refine HRS.out.mono ?_
  rintro e w2 ⟨rfl, hx2⟩
  clear HRS
  have hI2 := HI.out.later hx2
  have hO2 := hO1.trans (Only.of_ext hx2)
  clear HI hO1 hx2
  have c8 := hI2.box.c8
  simp only at c8
  rw [HBR.out] at c8
  go_wp2_with fail
  clear c8
  obtain ⟨ad, n, cap, b, off, hv, hnl, h3, h4⟩ := hI2.sp
  simp only at hnl h4
  have c6 := Later.cell hI2.box.c6; have c7 := Later.cell hI2.box.c7
  rw [hv] at c6
  simp only at c7
  rw [hp1] at c7
  obtain ⟨hb1, hb2⟩ := h4 (m + 1) (by omega)
  obtain ⟨-, hb3⟩ := h4 m (by omega)
  have hl0 : m + 1 < n := by omega
  obtain rfl : ad = some ⟨b, off, none⟩ := h3.resolve_left (by omega)
  have d := Later.cell hb2
  have hm2 : m + 2 ≤ 1000000000000 := by omega
  have i1 : (((m + 2 : Nat) : Int) - 1) = ((m + 1 : Nat) : Int) := by omega
  have i2 : (((m + 2 : Nat) : Int) - 2) = (m : Int) := by omega
  have HP1 := Lib.hid hp1
  clear h3 h4 hb2 hnl hp1
  generalize C.plan.getD (m + 1) 0 = q at *
  have HB3 := Lib.hid hb3; clear hb3
  refine wp_region_later (by kernel_rfl) (by kernel_rfl) ?_
  repeat (go_big_quiet_step (fail))
  refine wpQuiet_nil ?_
  rintro _ ⟨y, rfl⟩
  have hI3 := hI2.later y.ext
  have hO3 := hO2.trans (Only.of_ext y.ext)
  have hy := y.ext
  clear c6 c7 d hI2 hO2
  generalize y.w = W3 at *
  clear y
  have c7 := hI3.box.c7
  simp only at c7
  rw [HP1.out] at c7
  have hgt : ((m + 2 : Nat) : Int) > 1 := by omega
  go_wp2_with fail
  clear c7
  have c6 := Later.cell hI3.box.c6; have c7 := Later.cell hI3.box.c7
  simp only at c7
  rw [HP1.out] at c7
  rw [hv] at c6
  have d := Later.cell (w := W3) (p := ⟨b, off + m, none⟩) (by rw [hy.cell hb1]; exact HB3.out)
  have hl1 : m < n := by omega
  generalize C.plan.getD m 0 = p at *
  refine wp_region_later (by kernel_rfl) (by kernel_rfl) ?_
  repeat (go_big_quiet_step (fail))
  refine wpQuiet_nil ?_
  rintro _ ⟨y, rfl⟩
  have hI4 := hI3.later y.ext
  have hO4 := hO3.trans (Only.of_ext y.ext)
  clear c6 c7 d hI3 hO3 hy
  generalize y.w = W4 at *
  clear y
  have hI3 := hI4; have hO3 := hO4
  clear hI4 hO4 HB3 hgt
  go_wp2_with fail
  obtain ⟨ad2, n2, cap2, b2, off2, hv2, hn2, h3, -, h4⟩ := hI3.sm
  simp only at hn2 h4
  obtain ⟨hb4, hb5⟩ := h4 C.idx (by omega)
  obtain rfl : ad2 = some ⟨b2, off2, none⟩ := h3.resolve_left (by omega)
  have hi2 : C.idx < n2 := by omega
  have hcur : C.ms.getD C.idx Mot.zero = cr := HCR.out.symm
  rw [hcur] at hb5
  clear hcur h3 h4 hn2
  have c0 := Later.cell hI3.box.c0; have c1 := Later.cell hI3.box.c1; have c2 := Later.cell hI3.box.c2; have c3 := Later.cell hI3.box.c3; have c4 := Later.cell hI3.box.c4
  rw [hv2] at c0
  simp only at c1 c2 c3 c4
  have d0 := Later.cell hb5.c0; have d1 := Later.cell hb5.c1; have d2 := Later.cell hb5.c2; have d3 := Later.cell hb5.c3; have d4 := Later.cell hb5.c4; have d5 := Later.cell hb5.c5; have d6 := Later.cell hb5.c6; have d7 := Later.cell hb5.c7; have d8 := Later.cell hb5.c8
  have HI3 := Lib.hid hI3
  clear hb5 hI3
  refine wp_region_tree (fun w' => ∃ y : Later W4, w' = y.w) 16 (.two [0, 1, 2, 3, 4, 5, 6, 7, 8, 9, 10, 11, 12, 13] 14 15 (.one [] 15 (.leaf [])) (.one [] 14 (.leaf []))) (by kernel_rfl) (by kernel_rfl) (by kernel_rfl) ⟨⟨_, (Ext.refl W4).drew⟩, rfl⟩ ?_
  simp only [List.take_succ_cons, List.take_zero]
  refine tree_two fun K1 K2 hK1 hK2 => ?_
  simp only [List.map_cons, List.map_nil, pickOp, List.getElem?_cons_zero, List.getElem?_cons_succ, Option.getD_some]
  repeat (go_big_quiet_step (fail))
  refine wpQuiet_nil ⟨?_, ?_⟩
  · clear hK2 K2
    go_wp2_with ((go_at_call 50; with_reducible refine (HLM.out _).mono ?_); rintro e w5 ⟨rfl, hx5⟩)
    have hx5' := (Ext.refl W4).drew.trans hx5
    clear hx5
    refine onlyK_normal (hK1 _ _ ⟨⟨_, hx5'⟩, rfl⟩ ?_); clear hK1 K1
    refine tree_one0 fun K hK => ?_
    simp only [pickOp, List.getElem?_cons_zero, List.getElem?_cons_succ, Option.getD_some]
    go_wp2_with fail
    refine onlyK_normal (hK _ _ ⟨⟨_, hx5'.alloc _⟩, rfl⟩ ?_); clear hK K
    refine tree_leaf0 ?_
    simp only [List.drop_succ_cons, List.drop_zero]
    clear c0 c1 c2 c3 c4 d0 d1 d2 d3 d4 d5 d6 d7 d8
    go_wp2_with fail
    obtain ⟨W6, hW6, L6, hE6⟩ := B3.mk' w5 (.int .i64 (cr.spd C.s)) (.int .i64 C.a) (.int .i64 C.j) 32
    rw [hW6]; clear hW6
    have hE6' := hx5'.trans hE6
    have hI6 := HI3.out.later hE6'
    have hO6 := hO3.trans (Only.of_ext hE6')
    generalize w5.heap.size = M at *
    clear HI3 hO3 hE6 hE6' hx5' hb4
    have l0 := L6.c0; have l1 := L6.c1; have l2 := L6.c2
    go_wp2_with fail
    refine (HKN.out _).mono ?_
    rintro e w7 ⟨rfl, hx7⟩
    have L7 := L6.later hx7
    have hI7 := hI6.later hx7
    have hO7 := hO6.trans (Only.of_ext hx7)
    clear l0 l1 l2 L6 hI6 hO6 hx7
    go_wp2_with fail
    refine (HLF.out _ _ _ { C with hd := true } rfl rfl rfl hI7.box hI7.sm).mono ?_
    rintro e w8 ⟨rfl, hx8⟩
    have L8 := L7.later hx8
    have hI8 := hI7.later hx8
    have hO8 := hO7.trans (Only.of_ext hx8)
    clear L7 hI7 hO7 hx8
    by_cases hneed : nd ≤ cr.len - C.part
    · rw [if_pos hneed] at HF
      have hng : ¬ cr.len - C.part < nd := by omega
      have l0 := L8.c0; have l1 := L8.c1; have l2 := L8.c2
      go_wp2_with fail
      refine (HKS.out _).mono ?_
      rintro e w9 ⟨v, rfl, hown, hx9⟩
      have hI9 := hI8.later hx9
      have hO9 := hO8.trans (Only.of_ext hx9)
      have hbase : ∀ b, v.ownBlock = some b → w.heap.size ≤ b := fun b hb => Nat.le_trans hO8.size (hown.base hb)
      have hlv : ∀ b, v.ownBlock = some b → b < w9.heap.size := fun b hb => ownsRow_lt hown hb
      have hs9 := hown.sl
      clear l0 l1 l2 L8 hI8 hO8 hx9 hown
      have c6 := hI9.box.c6; have c7 := hI9.box.c7; have c8 := hI9.box.c8; have f6 := hI9.box.fr 6; have f7 := hI9.box.fr 7; have f8 := hI9.box.fr 8
      have HS9 := Lib.hid hs9
      obtain ⟨av, nv, cv, bv, ov, hvv, hnv, -, -⟩ := hs9
      have HNV := Lib.hid hnv; clear hnv
      subst hvv
      have hNw := HH.out.box.lt
      have hWX : CBox (((w9.setCell ⟨N, 6, none⟩ (.slice av nv cv)).setCell ⟨N, 7, none⟩ (.int .i64 0)).setCell ⟨N, 8, none⟩ (.bool true)) N vm (.slice av nv cv) vq { C with hd := true, plan := sl, pos := 0, br := true } := by simpa using ((hI9.box.set_vp (.slice av nv cv) sl).set_pos 0).set_br true
      have hOX : Only (Foot N vq) w (((w9.setCell ⟨N, 6, none⟩ (.slice av nv cv)).setCell ⟨N, 7, none⟩ (.int .i64 0)).setCell ⟨N, 8, none⟩ (.bool true)) := ((hO9.set (.inl (.inl rfl)) _).set (.inl (.inl rfl)) _).set (.inl (.inl rfl)) _
      have hOX' : Only (fun k => k = N) w9 (((w9.setCell ⟨N, 6, none⟩ (.slice av nv cv)).setCell ⟨N, 7, none⟩ (.int .i64 0)).setCell ⟨N, 8, none⟩ (.bool true)) := (((Only.refl (fun k => k = N) w9).set (.inl rfl) _).set (.inl rfl) _).set (.inl rfl) _
      have NP : (Value.slice av nv cv).ownBlock ≠ some N := fun e => by have := hbase N e; omega
      have PQ : (Value.slice av nv cv).ownBlock = none ∨ (Value.slice av nv cv).ownBlock ≠ vq.ownBlock := by
        cases hav : (Value.slice av nv cv).ownBlock with
        | none => exact .inl rfl
        | some b' => right; intro e; have h1 := hbase b' hav; have h2 := HH.out.sq.lt e.symm; omega
      have hIX : CInv B (((w9.setCell ⟨N, 6, none⟩ (.slice av nv cv)).setCell ⟨N, 7, none⟩ (.int .i64 0)).setCell ⟨N, 8, none⟩ (.bool true)) N vm (.slice av nv cv) vq { C with hd := true, plan := sl, pos := 0, br := true } := ⟨hWX, hI9.sm.only hOX' (fun b hb e => HH.out.nm (by rw [hb, e])), HS9.out.only hOX' (fun b hb e => NP (by rw [hb, e])), hI9.sq.only hOX' (fun b hb e => HH.out.nq (by rw [hb, e])), HH.out.nm, NP, HH.out.nq, HH.out.mq, PQ, HH.out.base⟩
      have HIX := Lib.hid hIX; have HOX := Lib.hid hOX
      have HBX := Lib.hid hbase
      have hlvX : ∀ b, (Value.slice av nv cv).ownBlock = some b → b < (((w9.setCell ⟨N, 6, none⟩ (.slice av nv cv)).setCell ⟨N, 7, none⟩ (.int .i64 0)).setCell ⟨N, 8, none⟩ (.bool true)).heap.size := fun b hb => by simpa using hlv b hb
      have HLX := Lib.hid hlvX
      clear hWX hOX hOX' hIX NP PQ hbase hlv hlvX HS9 hI9 hO9
      by_cases hnil : sl = []
      · rw [if_pos hnil] at HF
        obtain rfl : nv = 0 := by have := HNV.out; rw [hnil] at this; simpa using this
        go_wp2_with fail
        generalize ((w9.setCell ⟨N, 6, none⟩ (.slice av 0 cv)).setCell ⟨N, 7, none⟩ (.int .i64 0)).setCell ⟨N, 8, none⟩ (.bool true) = WX at *
        rw [hnil] at HIX
        clear c6 c7 c8 f6 f7 f8
        have ecx : Ctl.cur { C with hd := true, plan := [], pos := 0, br := true } = cr := HCR.out.symm
        have kst := stop_any HIX.out hi ⟨Nat.le_of_lt hi, hn, fun _ => HR.out _ hi, fun _ => p0, fun _ => by rw [ecx]; simp only; omega, fun _ => by rw [ecx]; omega⟩ HR.out hps
        clear ecx
        refine kst.mono ?_
        rintro e w10 ⟨rfl, vp', vq', hI10, hO10, hloc10, hlp10⟩
        clear kst
        have hO11 := HOX.out.trans hO10
        have hloc11 : ∀ b, vq'.ownBlock = some b → vq.ownBlock = some b ∨ w.heap.size ≤ b := fun b hb => (hloc10 b hb).imp id (fun h => Nat.le_trans HOX.out.size h)
        have hlp11 : ∀ b', vp'.ownBlock = some b' → b' < w10.heap.size ∧ (vp.ownBlock = some b' ∨ w.heap.size ≤ b') := fun b' hb => ⟨(hlp10 b' hb).1, .inr (((hlp10 b' hb).2).elim (fun h => HBX.out _ h) (fun h => Nat.le_trans HOX.out.size h))⟩
        have FIN : Hid (CInv B w10 N vm vp' vq' C.holdC) := Lib.hid (by rw [HF.out]; exact hI10)
        clear hI10 hO10 hloc10 hlp10
        go_wp2
        go_end0
        exact ⟨rfl, vp', vq', FIN.out, hO11, hloc11, hlp11⟩
      · rw [if_neg hnil] at HF
        have hnv0 : ¬ (nv : Int) = 0 := by
          have := HNV.out
          have h2 := List.length_pos_iff.2 hnil
          omega
        have FIN : Hid (CInv B _ N vm (.slice av nv cv) vq C.holdC) := Lib.hid (by rw [HF.out]; exact HIX.out)
        clear HIX
        go_wp2
        go_end0
        exact ⟨rfl, _, vq, FIN.out, HOX.out, fun b hb => .inl hb, fun b hb => ⟨HLX.out b hb, .inr (HBX.out b hb)⟩⟩
    · rw [if_neg hneed] at HF
      have hng : cr.len - C.part < nd := by omega
      have FIN : Hid (CInv B w8 N vm vp vq C.holdC) := Lib.hid (by rw [HF.out]; exact hI8)
      have hlp8 : ∀ b, vp.ownBlock = some b → b < w8.heap.size := fun b hb => Nat.lt_of_lt_of_le (HLP.out b hb) hO8.size
      have HL8 := Lib.hid hlp8
      clear hI8 hlp8
      go_wp2
      refine bodyPost_ret (v := .tuple #[]) (by simp [results, Tryz.results35, go_sem]) rfl ⟨rfl, vp, vq, FIN.out, hO8, fun b hb => .inl hb, fun b hb => ⟨HL8.out b hb, .inl hb⟩⟩
  · clear hK1 K1
    go_wp2_with fail
    obtain ⟨W5, hW5, L5, hE5⟩ := B3.mk' W4 (.int .i64 0) (.int .i64 0) (.int .i64 0) 32
    rw [hW5]; clear hW5
    refine onlyK_normal (hK2 _ _ ⟨⟨_, hE5.drew⟩, rfl⟩ ?_); clear hK2 K2
    refine tree_one0 fun K hK => ?_
    simp only [pickOp, List.getElem?_cons_zero, List.getElem?_cons_succ, Option.getD_some]
    go_wp2_with ((go_at_call 50; with_reducible refine (HLM.out _).mono ?_); rintro e w5 ⟨rfl, hx5⟩)
    have hx5' := (Ext.refl W5).drew.trans hx5
    refine onlyK_normal (hK _ _ ⟨⟨_, hE5.trans hx5'⟩, rfl⟩ ?_); clear hK K
    refine tree_leaf0 ?_
    simp only [List.drop_succ_cons, List.drop_zero]
    clear c0 c1 c2 c3 c4 d0 d1 d2 d3 d4 d5 d6 d7 d8
    have L6' := L5.later hx5'
    have z0 := L6'.c0; have z1 := L6'.c1; have z2 := L6'.c2; have y0 := L6'.f0; have y1 := L6'.f1; have y2 := L6'.f2
    go_wp2_with fail
    obtain ⟨W6, hW6⟩ : ∃ W6 : World, ((w5.setCell ⟨W4.heap.size, 0, none⟩ (.int .i64 (cr.spd C.s))).setCell ⟨W4.heap.size, 1, none⟩ (.int .i64 C.a)).setCell ⟨W4.heap.size, 2, none⟩ (.int .i64 C.j) = W6 := ⟨_, rfl⟩
    have hE6' : Ext W4 W6 := by rw [← hW6]; exact Ext.of_only ((Only.of_ext (hE5.trans hx5')).set3 (.inr (Nat.le_refl _)) _ _ _)
    have L6 : B3 W6 W4.heap.size (.int .i64 (cr.spd C.s)) (.int .i64 C.a) (.int .i64 C.j) := by
      rw [← hW6]
      exact ⟨by simp [go_sem, z0], by simp [go_sem, z1], by simp [go_sem, z2], by simpa using y0, by simpa using y1, by simpa using y2, by simpa using L6'.lt⟩
    rw [hW6]; clear hW6 z0 z1 z2 y0 y1 y2 L6' L5
    have hI6 := HI3.out.later hE6'
    have hO6 := hO3.trans (Only.of_ext hE6')
    generalize W4.heap.size = M at *
    clear HI3 hO3 hE6' hx5' hx5 hE5 hb4
    have l0 := L6.c0; have l1 := L6.c1; have l2 := L6.c2
    go_wp2_with fail
    refine (HKN.out _).mono ?_
    rintro e w7 ⟨rfl, hx7⟩
    have L7 := L6.later hx7
    have hI7 := hI6.later hx7
    have hO7 := hO6.trans (Only.of_ext hx7)
    clear l0 l1 l2 L6 hI6 hO6 hx7
    go_wp2_with fail
    refine (HLF.out _ _ _ { C with hd := true } rfl rfl rfl hI7.box hI7.sm).mono ?_
    rintro e w8 ⟨rfl, hx8⟩
    have L8 := L7.later hx8
    have hI8 := hI7.later hx8
    have hO8 := hO7.trans (Only.of_ext hx8)
    clear L7 hI7 hO7 hx8
    by_cases hneed : nd ≤ cr.len - C.part
    · rw [if_pos hneed] at HF
      have hng : ¬ cr.len - C.part < nd := by omega
      have l0 := L8.c0; have l1 := L8.c1; have l2 := L8.c2
      go_wp2_with fail
      refine (HKS.out _).mono ?_
      rintro e w9 ⟨v, rfl, hown, hx9⟩
      have hI9 := hI8.later hx9
      have hO9 := hO8.trans (Only.of_ext hx9)
      have hbase : ∀ b, v.ownBlock = some b → w.heap.size ≤ b := fun b hb => Nat.le_trans hO8.size (hown.base hb)
      have hlv : ∀ b, v.ownBlock = some b → b < w9.heap.size := fun b hb => ownsRow_lt hown hb
      have hs9 := hown.sl
      clear l0 l1 l2 L8 hI8 hO8 hx9 hown
      have c6 := hI9.box.c6; have c7 := hI9.box.c7; have c8 := hI9.box.c8; have f6 := hI9.box.fr 6; have f7 := hI9.box.fr 7; have f8 := hI9.box.fr 8
      have HS9 := Lib.hid hs9
      obtain ⟨av, nv, cv, bv, ov, hvv, hnv, -, -⟩ := hs9
      have HNV := Lib.hid hnv; clear hnv
      subst hvv
      have hNw := HH.out.box.lt
      have hWX : CBox (((w9.setCell ⟨N, 6, none⟩ (.slice av nv cv)).setCell ⟨N, 7, none⟩ (.int .i64 0)).setCell ⟨N, 8, none⟩ (.bool true)) N vm (.slice av nv cv) vq { C with hd := true, plan := sl, pos := 0, br := true } := by simpa using ((hI9.box.set_vp (.slice av nv cv) sl).set_pos 0).set_br true
      have hOX : Only (Foot N vq) w (((w9.setCell ⟨N, 6, none⟩ (.slice av nv cv)).setCell ⟨N, 7, none⟩ (.int .i64 0)).setCell ⟨N, 8, none⟩ (.bool true)) := ((hO9.set (.inl (.inl rfl)) _).set (.inl (.inl rfl)) _).set (.inl (.inl rfl)) _
      have hOX' : Only (fun k => k = N) w9 (((w9.setCell ⟨N, 6, none⟩ (.slice av nv cv)).setCell ⟨N, 7, none⟩ (.int .i64 0)).setCell ⟨N, 8, none⟩ (.bool true)) := (((Only.refl (fun k => k = N) w9).set (.inl rfl) _).set (.inl rfl) _).set (.inl rfl) _
      have NP : (Value.slice av nv cv).ownBlock ≠ some N := fun e => by have := hbase N e; omega
      have PQ : (Value.slice av nv cv).ownBlock = none ∨ (Value.slice av nv cv).ownBlock ≠ vq.ownBlock := by
        cases hav : (Value.slice av nv cv).ownBlock with
        | none => exact .inl rfl
        | some b' => right; intro e; have h1 := hbase b' hav; have h2 := HH.out.sq.lt e.symm; omega
      have hIX : CInv B (((w9.setCell ⟨N, 6, none⟩ (.slice av nv cv)).setCell ⟨N, 7, none⟩ (.int .i64 0)).setCell ⟨N, 8, none⟩ (.bool true)) N vm (.slice av nv cv) vq { C with hd := true, plan := sl, pos := 0, br := true } := ⟨hWX, hI9.sm.only hOX' (fun b hb e => HH.out.nm (by rw [hb, e])), HS9.out.only hOX' (fun b hb e => NP (by rw [hb, e])), hI9.sq.only hOX' (fun b hb e => HH.out.nq (by rw [hb, e])), HH.out.nm, NP, HH.out.nq, HH.out.mq, PQ, HH.out.base⟩
      have HIX := Lib.hid hIX; have HOX := Lib.hid hOX
      have HBX := Lib.hid hbase
      have hlvX : ∀ b, (Value.slice av nv cv).ownBlock = some b → b < (((w9.setCell ⟨N, 6, none⟩ (.slice av nv cv)).setCell ⟨N, 7, none⟩ (.int .i64 0)).setCell ⟨N, 8, none⟩ (.bool true)).heap.size := fun b hb => by simpa using hlv b hb
      have HLX := Lib.hid hlvX
      clear hWX hOX hOX' hIX NP PQ hbase hlv hlvX HS9 hI9 hO9
      by_cases hnil : sl = []
      · rw [if_pos hnil] at HF
        obtain rfl : nv = 0 := by have := HNV.out; rw [hnil] at this; simpa using this
        go_wp2_with fail
        generalize ((w9.setCell ⟨N, 6, none⟩ (.slice av 0 cv)).setCell ⟨N, 7, none⟩ (.int .i64 0)).setCell ⟨N, 8, none⟩ (.bool true) = WX at *
        rw [hnil] at HIX
        clear c6 c7 c8 f6 f7 f8
        have ecx : Ctl.cur { C with hd := true, plan := [], pos := 0, br := true } = cr := HCR.out.symm
        have kst := stop_any HIX.out hi ⟨Nat.le_of_lt hi, hn, fun _ => HR.out _ hi, fun _ => p0, fun _ => by rw [ecx]; simp only; omega, fun _ => by rw [ecx]; omega⟩ HR.out hps
        clear ecx
        refine kst.mono ?_
        rintro e w10 ⟨rfl, vp', vq', hI10, hO10, hloc10, hlp10⟩
        clear kst
        have hO11 := HOX.out.trans hO10
        have hloc11 : ∀ b, vq'.ownBlock = some b → vq.ownBlock = some b ∨ w.heap.size ≤ b := fun b hb => (hloc10 b hb).imp id (fun h => Nat.le_trans HOX.out.size h)
        have hlp11 : ∀ b', vp'.ownBlock = some b' → b' < w10.heap.size ∧ (vp.ownBlock = some b' ∨ w.heap.size ≤ b') := fun b' hb => ⟨(hlp10 b' hb).1, .inr (((hlp10 b' hb).2).elim (fun h => HBX.out _ h) (fun h => Nat.le_trans HOX.out.size h))⟩
        have FIN : Hid (CInv B w10 N vm vp' vq' C.holdC) := Lib.hid (by rw [HF.out]; exact hI10)
        clear hI10 hO10 hloc10 hlp10
        go_wp2
        go_end0
        exact ⟨rfl, vp', vq', FIN.out, hO11, hloc11, hlp11⟩
      · rw [if_neg hnil] at HF
        have hnv0 : ¬ (nv : Int) = 0 := by
          have := HNV.out
          have h2 := List.length_pos_iff.2 hnil
          omega
        have FIN : Hid (CInv B _ N vm (.slice av nv cv) vq C.holdC) := Lib.hid (by rw [HF.out]; exact HIX.out)
        clear HIX
        go_wp2
        go_end0
        exact ⟨rfl, _, vq, FIN.out, HOX.out, fun b hb => .inl hb, fun b hb => ⟨HLX.out b hb, .inr (HBX.out b hb)⟩⟩
    · rw [if_neg hneed] at HF
      have hng : cr.len - C.part < nd := by omega
      have FIN : Hid (CInv B w8 N vm vp vq C.holdC) := Lib.hid (by rw [HF.out]; exact hI8)
      have hlp8 : ∀ b, vp.ownBlock = some b → b < w8.heap.size := fun b hb => Nat.lt_of_lt_of_le (HLP.out b hb) hO8.size
      have HL8 := Lib.hid hlp8
      clear hI8 hlp8
      go_wp2
      refine bodyPost_ret (v := .tuple #[]) (by simp [results, Tryz.results35, go_sem]) rfl ⟨rfl, vp, vq, FIN.out, hO8, fun b hb => .inl hb, fun b hb => ⟨HL8.out b hb, .inl hb⟩⟩


end Go.Proofs.YtjibcnnbclcboaaGreatDoor

namespace Go.Proofs.YtjibcnnbclcboaaGreatDoor
open Go.RowKit
set_option maxRecDepth 8000

theorem hold_any {B : Nat} {w : World} {N : Nat} {vm vp vq : Value} {C : Ctl} (h : CAt B w N vm vp vq C) (hps : C.ps.length ≤ 999999999) :
    Calls Tryz.prog 35 #[.pointer (some ⟨N, 0, none⟩)] w (CRet B w N vm vp vq C.holdC (.tuple #[])) := by
  have hok := h.ok
  have hT := hok.hold
  by_cases hbk : C.bk = true
  · have e : C.holdC = C := by unfold Ctl.holdC; rw [if_pos hbk]
    rw [e]
    exact (hold_bk h.inv.box hbk).mono fun _ _ k => h.same k
  · have hbk' : C.bk = false := by simpa using hbk
    by_cases hc : C.pos = C.plan.length ∨ C.br = true
    · have e : C.holdC = { C with hd := true } := by unfold Ctl.holdC; rw [if_neg hbk, if_pos hc]
      rw [e] at hT
      rw [e]
      exact (hold_rest h.inv h.lp hbk' hc).mono (CPost.ret h hT)
    · have hp : C.pos ≠ C.plan.length := fun e => hc (.inl e)
      have hb : C.br = false := by simpa using fun e => hc (.inr e)
      have hn : C.plan ≠ [] := fun e => hp (by rw [hok.rest e, e]; rfl)
      obtain ⟨r1, r2⟩ := hok.run hn
      have f3 := (hok.full hn hb).2.2
      have hm := hok.mvg hp hb
      have hnn : C.ms.length ≤ 1000000000000 := Nat.le_trans hok.n (by decide)
      have hll : C.plan.length ≤ 1000000000000 := Nat.le_trans hok.ln (by decide)
      by_cases h1 : C.pos = 1
      · exact (hold_one h.inv h.lp hbk' hb r1 hnn hok.rng (hok.rate C.idx r1).2 h1 r2 hll (hok.p0 r1) (hok.p1 r1) hm hps).mono (CPost.ret h hT)
      · exact (hold_more (m := C.pos - 2) h.inv h.lp hbk' hb r1 hnn hok.rng (hok.rate C.idx r1).2 (by omega) r2 hll (hok.p0 r1) (hok.p1 r1) hm hps).mono (CPost.ret h hT)

theorem break_any {B : Nat} {w : World} {N : Nat} {vm vp vq : Value} {C : Ctl} (h : CAt B w N vm vp vq C) (hps : C.ps.length ≤ 999999999) :
    Calls Tryz.prog 37 #[.pointer (some ⟨N, 0, none⟩)] w (CRet B w N vm vp vq C.brkC (.tuple #[])) := by
  have hT := h.ok.brk
  by_cases hbk : C.bk = true
  · have e : C.brkC = C := by unfold Ctl.brkC; rw [if_pos hbk]
    rw [e]
    exact (break_bk h.inv.box hbk).mono fun _ _ k => h.same k
  · exact (break_run h.inv (by simpa using hbk) h.ok.posOk h.lm hps).mono (CPost.ret h hT)

theorem resume_at {B : Nat} {w : World} {N : Nat} {vm vp vq : Value} {C : Ctl} (h : CAt B w N vm vp vq C) :
    Calls Tryz.prog 28 #[.pointer (some ⟨N, 0, none⟩)] w (CRet B w N vm vp vq { C with hd := false } (.tuple #[])) :=
  (resume_any h.inv h.lp).mono (CPost.ret h h.ok.resume)

end Go.Proofs.YtjibcnnbclcboaaGreatDoor

namespace Go.Proofs.YtjibcnnbclcboaaGreatDoor
open Go.RowKit

theorem lsum_mono {l : List Mot} (hr : ∀ i, i < l.length → (l.getD i Mot.zero).rng) : ∀ {j : Nat} (i : Nat), i ≤ j → j ≤ l.length → lsum l i ≤ lsum l j
  | 0, i, h, _ => by have : i = 0 := by omega
                     subst this; exact Int.le_refl _
  | j + 1, i, h, hj => by
    rcases Nat.lt_or_ge i (j + 1) with h1 | h1
    · have h2 := lsum_mono hr i (show i ≤ j by omega) (by omega)
      have h3 := (Mot.len_bounds (hr j (by omega))).1
      show lsum l i ≤ lsum l j + _
      omega
    · have : i = j + 1 := by omega
      subst this; exact Int.le_refl _
theorem lsum_nonneg {l : List Mot} (hr : ∀ i, i < l.length → (l.getD i Mot.zero).rng) {i : Nat} (h : i ≤ l.length) : 0 ≤ lsum l i := lsum_mono hr 0 (by omega) h
theorem lsum_flat {l : List Mot} : ∀ {j : Nat} (i : Nat), i ≤ j → (∀ k, i ≤ k → k < j → (l.getD k Mot.zero).len = 0) → lsum l j = lsum l i
  | 0, i, h, _ => by have : i = 0 := by omega
                     subst this; rfl
  | j + 1, i, h, hz => by
    rcases Nat.lt_or_ge i (j + 1) with h1 | h1
    · have h2 := lsum_flat i (show i ≤ j by omega) (fun k a b => hz k a (by omega))
      have h3 := hz j (by omega) (by omega)
      show lsum l j + _ = _
      omega
    · have : i = j + 1 := by omega
      subst this; rfl
theorem len_lsum {l : List Mot} (hr : ∀ i, i < l.length → (l.getD i Mot.zero).rng) {i : Nat} (h : i < l.length) : (l.getD i Mot.zero).len ≤ lsum l l.length := by
  have h1 := lsum_mono hr (i + 1) (show i + 1 ≤ l.length by omega) (Nat.le_refl _)
  have h2 := lsum_nonneg hr (show i ≤ l.length by omega)
  have h3 : lsum l (i + 1) = lsum l i + (l.getD i Mot.zero).len := rfl
  omega

theorem stepsE_small {n s a j : Int} (hv : vld s a j = true) (h0 : 0 ≤ n) (h1 : n ≤ 2000) : stepsE n s a j = 0 := by
  have t3 : tickE n s a j = 0 := by unfold tickE; rw [if_neg (by simp [hv]; omega), if_neg (by omega)]
  have e1 := tickN_eq t3
  obtain ⟨⟨s1, s2⟩, ⟨a1, a2⟩, ⟨j1, j2⟩⟩ := (vld_iff s a j).1 hv
  obtain ⟨u1, u2, u3, u4⟩ := smp_bounds' s a j s1 a1 j1
  have : (n + smp s a j - 1) / smp s a j ≤ n + smp s a j - 1 := Int.ediv_le_self _ (by omega)
  unfold stepsE
  rw [if_pos t3, if_neg (by omega)]

theorem stpTo_of {l : List Mot} {s a j : Int} : ∀ (n : Nat), (∀ k, k < n → stepsE (l.getD k Mot.zero).len ((l.getD k Mot.zero).spd s) a j = 0) → stpTo l s a j n = 0
  | 0, _ => rfl
  | n + 1, h => by
    have h1 := stpTo_of (l := l) (s := s) (a := a) (j := j) n (fun k hk => h k (by omega))
    show (if _ then _ else _) = _
    rw [if_pos h1]
    exact h n (by omega)

/-- Right motions: what is known of them. -/
structure Rt (l : List Mot) (s a j : Int) : Prop where
  v : vld s a j = true
  c : conn l = 0
  n : l.length ≤ 8
  sum : lsum l l.length ≤ 2000
  rng : ∀ i, i < l.length → (l.getD i Mot.zero).rng
  chk : chk l s a j = 0

theorem rt_of {l : List Mot} {s a j : Int} (h : rightB l s a j = true) : Rt l s a j := by
  unfold rightB shrt at h
  simp only [Bool.and_eq_true, decide_eq_true_eq] at h
  obtain ⟨⟨h1, h2⟩, h3, h4⟩ := h
  have hr := fun i hi => rngTo_at (conn_zero h2).2.1 i hi
  refine ⟨h1, h2, h3, h4, hr, ?_⟩
  unfold chk
  rw [if_neg (by simp [h1]), if_pos h2]
  refine stpTo_of _ fun k hk => ?_
  have := len_lsum hr hk
  exact stepsE_small (spd_vld h1) (Mot.len_bounds (hr k hk)).1 (by omega)

/-- What is left of the way. -/
def Ctl.rem (C : Ctl) : Int := lsum C.ms C.ms.length - lsum C.ms C.idx - (if C.idx < C.ms.length then C.part else 0)

theorem Ctl.Ok.rem0 {C : Ctl} (h : C.Ok) : 0 ≤ C.rem := by
  unfold Ctl.rem
  split
  · rename_i hi
    have h1 := lsum_mono h.rng (C.idx + 1) (show C.idx + 1 ≤ C.ms.length by omega) (Nat.le_refl _)
    have h3 : lsum C.ms (C.idx + 1) = lsum C.ms C.idx + C.cur.len := rfl
    have := h.p1 hi
    omega
  · have h1 := lsum_mono h.rng C.idx h.le (Nat.le_refl _)
    omega

theorem stopd_rem {C : Ctl} (hi : C.idx < C.ms.length) : C.stopd.rem = C.rem := by
  have e0 : C.stopd.ms = C.ms := rfl
  by_cases h0 : C.cur.len - C.part = 0
  · have e1 : C.stopd.idx = skp C.ms (C.idx + 1) := by unfold Ctl.stopd; simp only; rw [if_pos h0]
    have e2 : C.stopd.part = 0 := by unfold Ctl.stopd; simp only; rw [if_pos h0]
    have hs := skp_le (ms := C.ms) (i := C.idx + 1) (by omega)
    have hf := lsum_flat (l := C.ms) (C.idx + 1) hs.1 (fun k a b => skp_between a b)
    have h3 : lsum C.ms (C.idx + 1) = lsum C.ms C.idx + C.cur.len := rfl
    unfold Ctl.rem
    rw [e0, e1, e2, if_pos hi, hf, h3]
    split <;> omega
  · have e1 : C.stopd.idx = C.idx := by unfold Ctl.stopd; simp only; rw [if_neg h0]
    have e2 : C.stopd.part = C.part := by unfold Ctl.stopd; simp only; rw [if_neg h0]
    unfold Ctl.rem
    rw [e0, e1, e2]

theorem advd_rem {C : Ctl} (h : C.Pre) : C.advd.rem = C.rem - C.plan.getD C.pos 0 := by
  have hs := sum_drop h.run
  have hd0 := sum_nonneg' (drop_pos h.pos (C.pos + 1))
  have h1 := h.sum
  have hi := h.lt
  have e : Ctl.rem { C with part := C.part + C.plan.getD C.pos 0, pos := C.pos + 1 } = C.rem - C.plan.getD C.pos 0 := by
    unfold Ctl.rem
    simp only
    rw [if_pos hi, if_pos hi]
    omega
  unfold Ctl.advd
  split
  · rw [stopd_rem (C := { C with part := C.part + C.plan.getD C.pos 0, pos := C.pos + 1 }) hi, e]
  · exact e

theorem Ctl.Ok.tick_rem {C : Ctl} (h : C.Ok) (ht : C.tickB = true) : C.tickC.rem ≤ C.rem - 1 := by
  have hi : C.idx < C.ms.length := by
    have ht' := ht
    unfold Ctl.tickB at ht'
    simp only [Bool.and_eq_true, decide_eq_true_eq] at ht'
    exact ht'.1.2
  unfold Ctl.tickC
  rw [if_pos ht]
  split
  · have hp := h.pre_start hi
    have h1 := advd_rem hp
    have h2 := getD_pos hp.pos hp.run
    have e : Ctl.rem { C with plan := C.steps, pos := 0, br := false } = C.rem := rfl
    rw [h1, e]
    omega
  · rename_i hp
    have hp := h.pre_run hp
    have h1 := advd_rem hp
    have h2 := getD_pos hp.pos hp.run
    omega

theorem tickC_rem' {C : Ctl} (h : C.Ok) : C.tickC.rem ≤ C.rem := by
  cases ht : C.tickB
  · have e2 : C.tickC = C := by unfold Ctl.tickC; rw [ht]; rfl
    rw [e2]; exact Int.le_refl _
  · have := h.tick_rem ht; omega

theorem holdC_rem {C : Ctl} (h : C.Ok) : C.holdC.rem = C.rem := by
  unfold Ctl.holdC
  split
  · rfl
  · split
    · rfl
    · rename_i hc
      have hp : C.pos ≠ C.plan.length := fun e => hc (.inl e)
      have hn : C.plan ≠ [] := fun e => hp (by rw [h.rest e, e]; rfl)
      obtain ⟨r1, r2⟩ := h.run hn
      split
      · split
        · exact stopd_rem (C := { C with hd := true, plan := [], pos := 0, br := true }) r1
        · rfl
      · rfl

theorem new_rem {l : List Mot} {s a j : Int} : (Ctl.new l s a j).rem = lsum l l.length := by
  have hs := skp_le (ms := l) (i := 0) (by omega)
  have hf := lsum_flat (l := l) 0 hs.1 (fun k a b => skp_between a b)
  unfold Ctl.rem
  show lsum l l.length - lsum l (skp l 0) - (if skp l 0 < l.length then 0 else 0) = _
  rw [hf]
  have : lsum l 0 = 0 := rfl
  split <;> omega

theorem stopd_ms (C : Ctl) : C.stopd.ms = C.ms ∧ C.stopd.bk = C.bk ∧ C.stopd.hd = C.hd := ⟨rfl, rfl, rfl⟩
theorem advd_ms (C : Ctl) : C.advd.ms = C.ms ∧ C.advd.bk = C.bk ∧ C.advd.hd = C.hd := by
  unfold Ctl.advd
  split <;> exact ⟨rfl, rfl, rfl⟩
theorem tickC_ms (C : Ctl) : C.tickC.ms = C.ms ∧ C.tickC.bk = C.bk ∧ C.tickC.hd = C.hd := by
  unfold Ctl.tickC
  split
  · split <;> exact advd_ms _
  · exact ⟨rfl, rfl, rfl⟩
theorem holdC_ms (C : Ctl) : C.holdC.ms = C.ms ∧ C.holdC.bk = C.bk := by
  unfold Ctl.holdC
  split
  · exact ⟨rfl, rfl⟩
  · split
    · exact ⟨rfl, rfl⟩
    · split
      · split <;> exact ⟨rfl, rfl⟩
      · exact ⟨rfl, rfl⟩
theorem holdC_hd {C : Ctl} (h : C.bk = false) : C.holdC.hd = true := by
  unfold Ctl.holdC
  rw [if_neg (by simp [h])]
  split
  · rfl
  · split
    · split <;> rfl
    · rfl

/-- Where a controller stands behind some operations. -/
structure Good (l : List Mot) (k : Nat) (C : Ctl) : Prop where
  ms : C.ms = l
  bk : C.bk = false
  ps : C.ps.length ≤ k
  rem : C.rem ≤ 2000

theorem Good.new {l : List Mot} {s a j : Int} (h : Rt l s a j) : Good l 0 (Ctl.new l s a j) := ⟨rfl, rfl, Nat.le_refl _, by rw [new_rem]; exact h.sum⟩
theorem Good.tick {l : List Mot} {k : Nat} {C : Ctl} (h : Good l k C) (ho : C.Ok) : Good l (k + 1) C.tickC :=
  ⟨by rw [(tickC_ms C).1]; exact h.ms, by rw [(tickC_ms C).2.1]; exact h.bk, Nat.le_trans (tickC_ps C) (by have := h.ps; omega), Int.le_trans (tickC_rem' ho) h.rem⟩
theorem Good.hold {l : List Mot} {k : Nat} {C : Ctl} (h : Good l k C) (ho : C.Ok) : Good l (k + 1) C.holdC :=
  ⟨by rw [(holdC_ms C).1]; exact h.ms, by rw [(holdC_ms C).2]; exact h.bk, Nat.le_trans (holdC_ps C) (by have := h.ps; omega), by rw [holdC_rem ho]; exact h.rem⟩
theorem Good.resume {l : List Mot} {k : Nat} {C : Ctl} (h : Good l k C) : Good l (k + 1) { C with hd := false } :=
  ⟨h.ms, h.bk, Nat.le_succ_of_le h.ps, h.rem⟩

/-- Where nothing moves, it is at rest. -/
theorem Ctl.Ok.at_rest {C : Ctl} (h : C.Ok) (hb : C.bk = false) (ht : C.tickB = false) : C.pos = C.plan.length := by
  by_cases hi : C.idx < C.ms.length
  · unfold Ctl.tickB at ht
    simp only [hb, hi, Bool.not_false, decide_true, Bool.true_and, Bool.not_eq_false', Bool.and_eq_true, decide_eq_true_eq] at ht
    exact ht.1
  · by_cases hp : C.plan = []
    · rw [h.rest hp, hp]; rfl
    · exact absurd (h.run hp).1 hi
theorem tickC_still {C : Ctl} (ht : C.tickB = false) : C.tickC = C := by unfold Ctl.tickC; rw [ht]; rfl
theorem holdC_still {C : Ctl} (hb : C.bk = false) (hp : C.pos = C.plan.length) (hh : C.hd = true) : C.holdC = C := by
  unfold Ctl.holdC
  rw [if_neg (by simp [hb]), if_pos (.inl hp)]
  cases C
  simp only at hh
  subst hh
  rfl

end Go.Proofs.YtjibcnnbclcboaaGreatDoor

namespace Go.Proofs.YtjibcnnbclcboaaGreatDoor
open Go.ChangeShapes Go.WideShapes Go.ChangeAt Go.RowKit Go.Joins
set_option maxRecDepth 8000

section
variable {H : Type} {enc : TypeId × Value → H} {W : World} {base : Nat} {v : Value} {d : DataW H} {p : List MemPlace} {t : TypeId}

theorem int_of (hv : Value.okWide Tryz.prog W .any base 2 v) (h : DataW.Trod enc Tryz.prog W 0 (fun _ => true) true 2 v d p) : ∃ x : Int, v = .int .i64 x ∧ (Lit.int .i64 x).wf = true := by
  obtain ⟨x, h1, _, _, h4⟩ := open_int Tryz.underlying2 hv h; exact ⟨x, h1, h4⟩

theorem agg3_of {f0 f1 f2 : Field} (hone : Deep.oneCellFields Tryz.prog #[f0, f1, f2] = true) (hC : Tryz.prog.cellsOf t = 3) (hs : Tryz.prog.underlying t = some (.struct #[f0, f1, f2])) (t0 : f0.type = 2) (t1 : f1.type = 2) (t2 : f2.type = 2)
    (hv : Value.okWide Tryz.prog W .any base t v) (h : DataW.Trod enc Tryz.prog W 0 (fun _ => true) true t v d p) : ∃ x y z : Int, v = .agg #[.int .i64 x, .int .i64 y, .int .i64 z] := by
  obtain ⟨c0, c1, c2, y0, y1, y2, m, h, _, _, hy0, hy1, hy2⟩ := open_agg3 hs hone hC hv h
  rw [t0] at hy0; rw [t1] at hy1; rw [t2] at hy2
  obtain ⟨x, f0, _⟩ := DataW.trod_int Tryz.underlying2 hy0
  obtain ⟨y, f1, _⟩ := DataW.trod_int Tryz.underlying2 hy1
  obtain ⟨z, f2, _⟩ := DataW.trod_int Tryz.underlying2 hy2
  simp at f0 f1 f2
  exact ⟨x, y, z, by rw [h, f0, f1, f2]⟩

theorem okWide_arr {n : Nat} {e : TypeId} (ht : Tryz.prog.underlying t = some (.array n e)) (h : Value.okWide Tryz.prog W .any base t v) : ∃ cs, v = .agg cs ∧ cs.size = Tryz.prog.cellsOf t := by
  simp only [Value.okWide, ht] at h
  obtain ⟨cs, h1, h2, _⟩ := h
  exact ⟨cs, h1, h2⟩

theorem arr2_of (ht : Tryz.prog.underlying t = some (.array 2 2)) (hC : Tryz.prog.cellsOf t = 2)
    (hv : Value.okWide Tryz.prog W .any base t v) (h : DataW.Trod enc Tryz.prog W 0 (fun _ => true) true t v d p) : ∃ x y : Int, v = .agg #[.int .i64 x, .int .i64 y] := by
  obtain ⟨cs, rfl, hsz⟩ := okWide_arr ht hv
  obtain ⟨fuel, hf⟩ := h
  obtain ⟨xs, m, _, _, hlen, hxs, hall⟩ := DataW.trod_array ht hf
  have h1 : Tryz.prog.cellsOf 2 = 1 := by kernel_rfl
  simp only [Value.cells, h1, Nat.mul_one] at hall hlen
  rw [hC] at hsz
  obtain ⟨l⟩ := cs
  match l, hsz with
  | [c0, c1], _ =>
    have g0 := hall 0 (by omega)
    have g1 := hall 1 (by omega)
    simp [hxs] at g0 g1
    obtain ⟨x, f0, _⟩ := DataW.trod_int Tryz.underlying2 g0
    obtain ⟨y, f1, _⟩ := DataW.trod_int Tryz.underlying2 g1
    simp at f0 f1
    exact ⟨x, y, by rw [f0, f1]⟩

theorem arr3_of (ht : Tryz.prog.underlying t = some (.array 3 2)) (hC : Tryz.prog.cellsOf t = 3)
    (hv : Value.okWide Tryz.prog W .any base t v) (h : DataW.Trod enc Tryz.prog W 0 (fun _ => true) true t v d p) : ∃ x y z : Int, v = .agg #[.int .i64 x, .int .i64 y, .int .i64 z] := by
  obtain ⟨cs, rfl, hsz⟩ := okWide_arr ht hv
  obtain ⟨fuel, hf⟩ := h
  obtain ⟨xs, m, _, _, hlen, hxs, hall⟩ := DataW.trod_array ht hf
  have h1 : Tryz.prog.cellsOf 2 = 1 := by kernel_rfl
  simp only [Value.cells, h1, Nat.mul_one] at hall hlen
  rw [hC] at hsz
  obtain ⟨l⟩ := cs
  match l, hsz with
  | [c0, c1, c2], _ =>
    have g0 := hall 0 (by omega)
    have g1 := hall 1 (by omega)
    have g2 := hall 2 (by omega)
    simp [hxs] at g0 g1 g2
    obtain ⟨x, f0, _⟩ := DataW.trod_int Tryz.underlying2 g0
    obtain ⟨y, f1, _⟩ := DataW.trod_int Tryz.underlying2 g1
    obtain ⟨z, f2, _⟩ := DataW.trod_int Tryz.underlying2 g2
    simp at f0 f1 f2
    exact ⟨x, y, z, by rw [f0, f1, f2]⟩
end

end Go.Proofs.YtjibcnnbclcboaaGreatDoor
