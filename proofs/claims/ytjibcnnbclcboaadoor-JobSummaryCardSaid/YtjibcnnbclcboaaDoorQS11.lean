/-
  Walks: Hold of the controller.
  Hold, Resume and Break on a right state.
  Plain laws: right motions are accepted; what is left of the way.
  Resume, told exactly; a broken controller.
  Plain laws: the pieces lead through the ends of all motions.
  Small facts for a seat without the law's model of layer 50.
  Restart: the plain answer; begin and Rate of the reference, walked.
  Restart: what it answers; a slice from an index on.
  Plain model of a disturbed job: the rule of the chapter over the model of the controller.
  Plain laws of a disturbed job: its pieces are connected and lead from the beginning of the motions to their end.
-/
import Derived.Test.YtjibcnnbclcboaaDoorQS10
namespace Go.Proofs.YtjibcnnbclcboaaDoor
open Go.RowKit
set_option maxRecDepth 8000
set_option maxRecDepth 8000

set_option maxHeartbeats 1000000 in
theorem hold_bk {w : World} {N : Nat} {vm vp vq : Value} {C : Ctl} (h : CBox w N vm vp vq C) (hbk : C.bk = true) :
    Calls Tryd.prog 35 #[.pointer (some ⟨N, 0, none⟩)] w fun e w' => e = .returned (.tuple #[]) ∧ Ext w w' := by
  have c10 := h.c10
  rw [hbk] at c10
  clear h hbk
  go_enter Tryd.func35, Tryd.ntmps35
  go_wp2
  refine bodyPost_ret (v := .tuple #[]) (by simp [results, Tryd.results35, go_sem]) rfl ⟨rfl, Ext.refl _⟩

set_option maxHeartbeats 1000000 in
theorem hold_rest {B : Nat} {w : World} {N : Nat} {vm vp vq : Value} {C : Ctl} (h : CInv B w N vm vp vq C) (hlp : ∀ b, vp.ownBlock = some b → b < w.heap.size) (hbk : C.bk = false) (hc : C.pos = C.plan.length ∨ C.br = true) :
    Calls Tryd.prog 35 #[.pointer (some ⟨N, 0, none⟩)] w (CPost B w N vm vp vq { C with hd := true } (.tuple #[])) := by
  have c9 := h.box.c9; have f9 := h.box.fr 9; have c10 := h.box.c10
  rw [hbk] at c10
  have hO : Only (fun k => k = N) w (w.setCell ⟨N, 9, none⟩ (.bool true)) := (Only.refl (fun k => k = N) w).set (.inl rfl) _
  have hI : CInv B (w.setCell ⟨N, 9, none⟩ (.bool true)) N vm vp vq { C with hd := true } := ⟨h.box.set_hd true, h.sm.only hO (fun b hb e => h.nm (by rw [hb, e])), h.sp.only hO (fun b hb e => h.np (by rw [hb, e])), h.sq.only hO (fun b hb e => h.nq (by rw [hb, e])), h.nm, h.np, h.nq, h.mq, h.pq, h.base⟩
  have HI := Lib.hid hI; have HO := Lib.hid hO
  have HC := Lib.hid hc; have HLP := Lib.hid hlp
  clear hI hO h hbk hlp hc
  by_cases hp : C.pos = C.plan.length
  · have hres := resting_is true HI.out.box HI.out.sp (by simp [hp])
    have HR := Lib.hid hres; clear hres hp
    go_enter Tryd.func35, Tryd.ntmps35
    go_wp2_with fail
    refine HR.out.mono ?_
    rintro e w2 ⟨rfl, hx2⟩
    go_wp2
    refine bodyPost_ret (v := .tuple #[]) (by simp [results, Tryd.results35, go_sem]) rfl ⟨rfl, vp, vq, HI.out.later hx2, (HO.out.trans (Only.of_ext hx2)).mono (fun k _ e => .inl e), fun b hb => .inl hb, fun b hb => ⟨?_, .inl hb⟩⟩
    have h1 := HLP.out b hb; have h2 := HO.out.size; have h3 := hx2.size; omega
  · have hb : C.br = true := HC.out.resolve_left hp
    have hres := resting_is false HI.out.box HI.out.sp (by simp [hp])
    have HR := Lib.hid hres; clear hres hp
    have HBR := Lib.hid hb; clear hb
    go_enter Tryd.func35, Tryd.ntmps35
    go_wp2_with fail
    refine HR.out.mono ?_
    rintro e w2 ⟨rfl, hx2⟩
    have c8 := (HI.out.later hx2).box.c8
    simp only at c8
    rw [HBR.out] at c8
    go_wp2
    refine bodyPost_ret (v := .tuple #[]) (by simp [results, Tryd.results35, go_sem]) rfl ⟨rfl, vp, vq, HI.out.later hx2, (HO.out.trans (Only.of_ext hx2)).mono (fun k _ e => .inl e), fun b hb => .inl hb, fun b hb => ⟨?_, .inl hb⟩⟩
    have h1 := HLP.out b hb; have h2 := HO.out.size; have h3 := hx2.size; omega

set_option maxHeartbeats 8000000 in
theorem hold_one {B : Nat} {w : World} {N : Nat} {vm vp vq : Value} {C : Ctl} (h : CInv B w N vm vp vq C) (hlp : ∀ b, vp.ownBlock = some b → b < w.heap.size) (hbk : C.bk = false) (hbr : C.br = false) (hi : C.idx < C.ms.length) (hn : C.ms.length ≤ 1000000000000) (hr : ∀ i, i < C.ms.length → (C.ms.getD i Mot.zero).rng) (hrt : C.cur.rate ≤ 9223372036854775807)
    (hp1 : C.pos = 1) (hk : C.pos < C.plan.length) (hpl : C.plan.length ≤ 1000000000000) (p0 : 0 ≤ C.part) (p1 : C.part < C.cur.len) (hmv : mvg (C.cur.spd C.s) C.a C.j C.dBefore C.dLast = true) (hps : C.ps.length ≤ 999999999) :
    Calls Tryd.prog 35 #[.pointer (some ⟨N, 0, none⟩)] w (CPost B w N vm vp vq C.holdC (.tuple #[])) := by
  have hF : C.holdC = if C.needed ≤ C.cur.len - C.part then (if C.stopL = [] then Ctl.stopd { C with hd := true, plan := [], pos := 0, br := true } else { C with hd := true, plan := C.stopL, pos := 0, br := true }) else { C with hd := true } := by
    unfold Ctl.holdC
    rw [if_neg (by simp [hbk]), if_neg (by simp [hbr]; omega)]
  have HF := Lib.hid hF; clear hF
  have c9 := h.box.c9; have f9 := h.box.fr 9; have c10 := h.box.c10
  rw [hbk] at c10
  have hO : Only (fun k => k = N) w (w.setCell ⟨N, 9, none⟩ (.bool true)) := (Only.refl (fun k => k = N) w).set (.inl rfl) _
  have hI : CInv B (w.setCell ⟨N, 9, none⟩ (.bool true)) N vm vp vq { C with hd := true } := ⟨h.box.set_hd true, h.sm.only hO (fun b hb e => h.nm (by rw [hb, e])), h.sp.only hO (fun b hb e => h.np (by rw [hb, e])), h.sq.only hO (fun b hb e => h.nq (by rw [hb, e])), h.nm, h.np, h.nq, h.mq, h.pq, h.base⟩
  have HI := Lib.hid hI
  have hO1 : Only (Foot N vq) w (w.setCell ⟨N, 9, none⟩ (.bool true)) := hO.mono (fun k _ e => .inl e)
  have HLP := Lib.hid hlp; have HBR := Lib.hid hbr; have HR := Lib.hid hr; have HRT := Lib.hid hrt
  have hl2 := (Mot.len_bounds (hr C.idx hi)).2
  have hl3 : C.cur.len ≤ 40000000 := hl2
  have hres := resting_is false HI.out.box HI.out.sp (by simp; omega)
  have HRS := Lib.hid hres
  have HH := Lib.hid h
  clear hres hI hO h hbk hlp hbr hr hrt hl2
  have kn := fun w => needed_yes (C.cur.spd C.s) C.a C.j C.dBefore C.dLast w hmv
  have ks := fun w => stop_yes (C.cur.spd C.s) C.a C.j C.dBefore C.dLast w hmv
  have hst := (mvg_iff _ _ _ _ _).1 hmv
  have hsp : (∀ x ∈ C.stopL, 0 < x) ∧ C.stopL.sum = C.needed := ⟨fun x hx => (stops_pos _ _ _ _ _ hst.1 hst.2.2.2 x hx).1, stops_sum _ _ _ _ _ hst.1 hst.2.2.2⟩
  have en : dsum (C.cur.spd C.s) C.a C.j C.dLast (C.dLast - C.dBefore) = C.needed := rfl
  have es : stops (C.cur.spd C.s) C.a C.j C.dLast (C.dLast - C.dBefore) = C.stopL := rfl
  rw [en] at kn
  rw [es] at ks
  have hnd : 0 ≤ C.needed ∧ (C.stopL.length : Int) ≤ C.needed := ⟨by rw [← hsp.2]; exact sum_nonneg' hsp.1, by rw [← hsp.2]; exact sum_len hsp.1⟩
  clear en es hst hmv hsp
  have hlim := fun w => limit_any C.cur C.s C.a C.j w HRT.out
  have HLM := Lib.hid hlim; clear hlim
  have e1 : C.dLast = C.plan.getD 0 0 := by unfold Ctl.dLast; rw [hp1]
  have e2 : C.dBefore = 0 := by unfold Ctl.dBefore; rw [if_neg (by omega)]
  rw [e1, e2] at kn ks
  clear e1 e2
  have HKN := Lib.hid kn; have HKS := Lib.hid ks
  clear kn ks
  obtain ⟨nd, hnd1⟩ : ∃ nd, nd = C.needed := ⟨_, rfl⟩
  obtain ⟨sl, hsl1⟩ : ∃ sl, sl = C.stopL := ⟨_, rfl⟩
  rw [← hnd1] at HKN HF hnd
  rw [← hsl1] at HKS HF hnd
  clear hnd1 hsl1
  have hleft : ∀ w' vp' vq' (D : Ctl), D.ms = C.ms → D.idx = C.idx → D.part = C.part → CBox w' N vm vp' vq' D → SlM w' vm C.ms → Calls Tryd.prog 38 #[.pointer (some ⟨N, 0, none⟩)] w' fun e w'' => e = .returned (.int .i64 (C.cur.len - C.part)) ∧ Ext w' w'' := fun w' vp' vq' D e1 e2 e3 hb hm => by
    have ec : D.cur = C.cur := by unfold Ctl.cur; rw [e1, e2]
    have := left_any hb (by rw [e1]; exact hm) (by rw [e1, e2]; exact hi) (by rw [ec]; exact HR.out C.idx hi) (by rw [e3]; exact p0) (by rw [e3, ec]; omega)
    rw [ec, e3] at this
    exact this
  have HLF := Lib.hid hleft; clear hleft
  obtain ⟨cr, hcr⟩ : ∃ cr, cr = C.cur := ⟨_, rfl⟩
  rw [← hcr] at HLM HLF HF HKN HKS p1 hl3
  have HCR := Lib.hid hcr; clear hcr
  go_enter Tryd.func35, Tryd.ntmps35
  go_wp2_with fail
  generalize w.setCell ⟨N, 9, none⟩ (.bool true) = W1 at *
  clear c9 f9 c10
  refine HRS.out.mono ?_
  rintro e w2 ⟨rfl, hx2⟩
  clear HRS
  have hI2 := HI.out.later hx2
  have hO2 := hO1.trans (Only.of_ext hx2)
  clear HI hO1 hx2
  have c8 := hI2.box.c8
  simp only at c8
  rw [HBR.out] at c8
  go_wp2_with fail
  clear c8
  obtain ⟨ad, n, cap, b, off, hv, hnl, h3, h4⟩ := hI2.sp
  simp only at hnl h4
  have c6 := Later.cell hI2.box.c6; have c7 := Later.cell hI2.box.c7
  rw [hv] at c6
  simp only at c7
  rw [hp1] at c7
  obtain ⟨hb1, hb2⟩ := h4 0 (by omega)
  have hl0 : 0 < n := by omega
  obtain rfl : ad = some ⟨b, off, none⟩ := h3.resolve_left (by omega)
  have d := Later.cell hb2
  simp only [Nat.add_zero] at d
  simp at c7
  have HP1 := Lib.hid hp1
  clear h3 h4 hb2 hnl hp1
  generalize C.plan.getD 0 0 = q at *
  refine wp_region_later (by kernel_rfl) (by kernel_rfl) ?_
  repeat (go_big_quiet_step (fail))
  refine wpQuiet_nil ?_
  rintro _ ⟨y, rfl⟩
  have hI3 := hI2.later y.ext
  have hO3 := hO2.trans (Only.of_ext y.ext)
  have hy := y.ext
  clear c6 c7 d hI2 hO2
  generalize y.w = W3 at *
  clear y
  have c7 := hI3.box.c7
  simp only at c7
  rw [HP1.out] at c7
  simp at c7
  go_wp2_with fail
  clear c7
  obtain ⟨ad2, n2, cap2, b2, off2, hv2, hn2, h3, -, h4⟩ := hI3.sm
  simp only at hn2 h4
  obtain ⟨hb4, hb5⟩ := h4 C.idx (by omega)
  obtain rfl : ad2 = some ⟨b2, off2, none⟩ := h3.resolve_left (by omega)
  have hi2 : C.idx < n2 := by omega
  have hcur : C.ms.getD C.idx Mot.zero = cr := HCR.out.symm
  rw [hcur] at hb5
  clear hcur h3 h4 hn2
  have c0 := Later.cell hI3.box.c0; have c1 := Later.cell hI3.box.c1; have c2 := Later.cell hI3.box.c2; have c3 := Later.cell hI3.box.c3; have c4 := Later.cell hI3.box.c4
  rw [hv2] at c0
  simp only at c1 c2 c3 c4
  have d0 := Later.cell hb5.c0; have d1 := Later.cell hb5.c1; have d2 := Later.cell hb5.c2; have d3 := Later.cell hb5.c3; have d4 := Later.cell hb5.c4; have d5 := Later.cell hb5.c5; have d6 := Later.cell hb5.c6; have d7 := Later.cell hb5.c7; have d8 := Later.cell hb5.c8
  have HI3 := Lib.hid hI3
  clear hb5 hI3
  refine wp_region_tree (fun w' => ∃ y : Later W3, w' = y.w) 16 (.two [0, 1, 2, 3, 4, 5, 6, 7, 8, 9, 10, 11, 12, 13] 14 15 (.one [] 15 (.leaf [])) (.one [] 14 (.leaf []))) (by kernel_rfl) (by kernel_rfl) (by kernel_rfl) ⟨⟨_, (Ext.refl W3).drew⟩, rfl⟩ ?_
  simp only [List.take_succ_cons, List.take_zero]
  refine tree_two fun K1 K2 hK1 hK2 => ?_
  simp only [List.map_cons, List.map_nil, pickOp, List.getElem?_cons_zero, List.getElem?_cons_succ, Option.getD_some]
  repeat (go_big_quiet_step (fail))
  refine wpQuiet_nil ⟨?_, ?_⟩
  · clear hK2 K2
    go_wp2_with ((go_at_call 39; with_reducible refine (HLM.out _).mono ?_); rintro e w5 ⟨rfl, hx5⟩)
    have hx5' := (Ext.refl W3).drew.trans hx5
    clear hx5
    refine onlyK_normal (hK1 _ _ ⟨⟨_, hx5'⟩, rfl⟩ ?_); clear hK1 K1
    refine tree_one0 fun K hK => ?_
    simp only [pickOp, List.getElem?_cons_zero, List.getElem?_cons_succ, Option.getD_some]
    go_wp2_with fail
    refine onlyK_normal (hK _ _ ⟨⟨_, hx5'.alloc _⟩, rfl⟩ ?_); clear hK K
    refine tree_leaf0 ?_
    simp only [List.drop_succ_cons, List.drop_zero]
    clear c0 c1 c2 c3 c4 d0 d1 d2 d3 d4 d5 d6 d7 d8
    go_wp2_with fail
    obtain ⟨W6, hW6, L6, hE6⟩ := B3.mk' w5 (.int .i64 (cr.spd C.s)) (.int .i64 C.a) (.int .i64 C.j) 54
    rw [hW6]; clear hW6
    have hE6' := hx5'.trans hE6
    have hI6 := HI3.out.later hE6'
    have hO6 := hO3.trans (Only.of_ext hE6')
    generalize w5.heap.size = M at *
    clear HI3 hO3 hE6 hE6' hx5' hb4
    have l0 := L6.c0; have l1 := L6.c1; have l2 := L6.c2
    go_wp2_with fail
    refine (HKN.out _).mono ?_
    rintro e w7 ⟨rfl, hx7⟩
    have L7 := L6.later hx7
    have hI7 := hI6.later hx7
    have hO7 := hO6.trans (Only.of_ext hx7)
    clear l0 l1 l2 L6 hI6 hO6 hx7
    go_wp2_with fail
    refine (HLF.out _ _ _ { C with hd := true } rfl rfl rfl hI7.box hI7.sm).mono ?_
    rintro e w8 ⟨rfl, hx8⟩
    have L8 := L7.later hx8
    have hI8 := hI7.later hx8
    have hO8 := hO7.trans (Only.of_ext hx8)
    clear L7 hI7 hO7 hx8
    by_cases hneed : nd ≤ cr.len - C.part
    · rw [if_pos hneed] at HF
      have hng : ¬ cr.len - C.part < nd := by omega
      have l0 := L8.c0; have l1 := L8.c1; have l2 := L8.c2
      go_wp2_with fail
      refine (HKS.out _).mono ?_
      rintro e w9 ⟨v, rfl, hown, hx9⟩
      have hI9 := hI8.later hx9
      have hO9 := hO8.trans (Only.of_ext hx9)
      have hbase : ∀ b, v.ownBlock = some b → w.heap.size ≤ b := fun b hb => Nat.le_trans hO8.size (hown.base hb)
      have hlv : ∀ b, v.ownBlock = some b → b < w9.heap.size := fun b hb => ownsRow_lt hown hb
      have hs9 := hown.sl
      clear l0 l1 l2 L8 hI8 hO8 hx9 hown
      have c6 := hI9.box.c6; have c7 := hI9.box.c7; have c8 := hI9.box.c8; have f6 := hI9.box.fr 6; have f7 := hI9.box.fr 7; have f8 := hI9.box.fr 8
      have HS9 := Lib.hid hs9
      obtain ⟨av, nv, cv, bv, ov, hvv, hnv, -, -⟩ := hs9
      have HNV := Lib.hid hnv; clear hnv
      subst hvv
      have hNw := HH.out.box.lt
      have hWX : CBox (((w9.setCell ⟨N, 6, none⟩ (.slice av nv cv)).setCell ⟨N, 7, none⟩ (.int .i64 0)).setCell ⟨N, 8, none⟩ (.bool true)) N vm (.slice av nv cv) vq { C with hd := true, plan := sl, pos := 0, br := true } := by simpa using ((hI9.box.set_vp (.slice av nv cv) sl).set_pos 0).set_br true
      have hOX : Only (Foot N vq) w (((w9.setCell ⟨N, 6, none⟩ (.slice av nv cv)).setCell ⟨N, 7, none⟩ (.int .i64 0)).setCell ⟨N, 8, none⟩ (.bool true)) := ((hO9.set (.inl (.inl rfl)) _).set (.inl (.inl rfl)) _).set (.inl (.inl rfl)) _
      have hOX' : Only (fun k => k = N) w9 (((w9.setCell ⟨N, 6, none⟩ (.slice av nv cv)).setCell ⟨N, 7, none⟩ (.int .i64 0)).setCell ⟨N, 8, none⟩ (.bool true)) := (((Only.refl (fun k => k = N) w9).set (.inl rfl) _).set (.inl rfl) _).set (.inl rfl) _
      have NP : (Value.slice av nv cv).ownBlock ≠ some N := fun e => by have := hbase N e; omega
      have PQ : (Value.slice av nv cv).ownBlock = none ∨ (Value.slice av nv cv).ownBlock ≠ vq.ownBlock := by
        cases hav : (Value.slice av nv cv).ownBlock with
        | none => exact .inl rfl
        | some b' => right; intro e; have h1 := hbase b' hav; have h2 := HH.out.sq.lt e.symm; omega
      have hIX : CInv B (((w9.setCell ⟨N, 6, none⟩ (.slice av nv cv)).setCell ⟨N, 7, none⟩ (.int .i64 0)).setCell ⟨N, 8, none⟩ (.bool true)) N vm (.slice av nv cv) vq { C with hd := true, plan := sl, pos := 0, br := true } := ⟨hWX, hI9.sm.only hOX' (fun b hb e => HH.out.nm (by rw [hb, e])), HS9.out.only hOX' (fun b hb e => NP (by rw [hb, e])), hI9.sq.only hOX' (fun b hb e => HH.out.nq (by rw [hb, e])), HH.out.nm, NP, HH.out.nq, HH.out.mq, PQ, HH.out.base⟩
      have HIX := Lib.hid hIX; have HOX := Lib.hid hOX
      have HBX := Lib.hid hbase
      have hlvX : ∀ b, (Value.slice av nv cv).ownBlock = some b → b < (((w9.setCell ⟨N, 6, none⟩ (.slice av nv cv)).setCell ⟨N, 7, none⟩ (.int .i64 0)).setCell ⟨N, 8, none⟩ (.bool true)).heap.size := fun b hb => by simpa using hlv b hb
      have HLX := Lib.hid hlvX
      clear hWX hOX hOX' hIX NP PQ hbase hlv hlvX HS9 hI9 hO9
      by_cases hnil : sl = []
      · rw [if_pos hnil] at HF
        obtain rfl : nv = 0 := by have := HNV.out; rw [hnil] at this; simpa using this
        go_wp2_with fail
        generalize ((w9.setCell ⟨N, 6, none⟩ (.slice av 0 cv)).setCell ⟨N, 7, none⟩ (.int .i64 0)).setCell ⟨N, 8, none⟩ (.bool true) = WX at *
        rw [hnil] at HIX
        clear c6 c7 c8 f6 f7 f8
        have ecx : Ctl.cur { C with hd := true, plan := [], pos := 0, br := true } = cr := HCR.out.symm
        have kst := stop_any HIX.out hi ⟨Nat.le_of_lt hi, hn, fun _ => HR.out _ hi, fun _ => p0, fun _ => by rw [ecx]; simp only; omega, fun _ => by rw [ecx]; omega⟩ HR.out hps
        clear ecx
        refine kst.mono ?_
        rintro e w10 ⟨rfl, vp', vq', hI10, hO10, hloc10, hlp10⟩
        clear kst
        have hO11 := HOX.out.trans hO10
        have hloc11 : ∀ b, vq'.ownBlock = some b → vq.ownBlock = some b ∨ w.heap.size ≤ b := fun b hb => (hloc10 b hb).imp id (fun h => Nat.le_trans HOX.out.size h)
        have hlp11 : ∀ b', vp'.ownBlock = some b' → b' < w10.heap.size ∧ (vp.ownBlock = some b' ∨ w.heap.size ≤ b') := fun b' hb => ⟨(hlp10 b' hb).1, .inr (((hlp10 b' hb).2).elim (fun h => HBX.out _ h) (fun h => Nat.le_trans HOX.out.size h))⟩
        have FIN : Hid (CInv B w10 N vm vp' vq' C.holdC) := Lib.hid (by rw [HF.out]; exact hI10)
        clear hI10 hO10 hloc10 hlp10
        go_wp2
        go_end0
        exact ⟨rfl, vp', vq', FIN.out, hO11, hloc11, hlp11⟩
      · rw [if_neg hnil] at HF
        have hnv0 : ¬ (nv : Int) = 0 := by
          have := HNV.out
          have h2 := List.length_pos_iff.2 hnil
          omega
        have FIN : Hid (CInv B _ N vm (.slice av nv cv) vq C.holdC) := Lib.hid (by rw [HF.out]; exact HIX.out)
        clear HIX
        go_wp2
        go_end0
        exact ⟨rfl, _, vq, FIN.out, HOX.out, fun b hb => .inl hb, fun b hb => ⟨HLX.out b hb, .inr (HBX.out b hb)⟩⟩
    · rw [if_neg hneed] at HF
      have hng : cr.len - C.part < nd := by omega
      have FIN : Hid (CInv B w8 N vm vp vq C.holdC) := Lib.hid (by rw [HF.out]; exact hI8)
      have hlp8 : ∀ b, vp.ownBlock = some b → b < w8.heap.size := fun b hb => Nat.lt_of_lt_of_le (HLP.out b hb) hO8.size
      have HL8 := Lib.hid hlp8
      clear hI8 hlp8
      go_wp2
      refine bodyPost_ret (v := .tuple #[]) (by simp [results, Tryd.results35, go_sem]) rfl ⟨rfl, vp, vq, FIN.out, hO8, fun b hb => .inl hb, fun b hb => ⟨HL8.out b hb, .inl hb⟩⟩
  · clear hK1 K1
    go_wp2_with fail
    obtain ⟨W5, hW5, L5, hE5⟩ := B3.mk' W3 (.int .i64 0) (.int .i64 0) (.int .i64 0) 54
    rw [hW5]; clear hW5
    refine onlyK_normal (hK2 _ _ ⟨⟨_, hE5.drew⟩, rfl⟩ ?_); clear hK2 K2
    refine tree_one0 fun K hK => ?_
    simp only [pickOp, List.getElem?_cons_zero, List.getElem?_cons_succ, Option.getD_some]
    go_wp2_with ((go_at_call 39; with_reducible refine (HLM.out _).mono ?_); rintro e w5 ⟨rfl, hx5⟩)
    have hx5' := (Ext.refl W5).drew.trans hx5
    refine onlyK_normal (hK _ _ ⟨⟨_, hE5.trans hx5'⟩, rfl⟩ ?_); clear hK K
    refine tree_leaf0 ?_
    simp only [List.drop_succ_cons, List.drop_zero]
    clear c0 c1 c2 c3 c4 d0 d1 d2 d3 d4 d5 d6 d7 d8
    have L6' := L5.later hx5'
    have z0 := L6'.c0; have z1 := L6'.c1; have z2 := L6'.c2; have y0 := L6'.f0; have y1 := L6'.f1; have y2 := L6'.f2
    go_wp2_with fail
    obtain ⟨W6, hW6⟩ : ∃ W6 : World, ((w5.setCell ⟨W3.heap.size, 0, none⟩ (.int .i64 (cr.spd C.s))).setCell ⟨W3.heap.size, 1, none⟩ (.int .i64 C.a)).setCell ⟨W3.heap.size, 2, none⟩ (.int .i64 C.j) = W6 := ⟨_, rfl⟩
    have hE6' : Ext W3 W6 := by rw [← hW6]; exact Ext.of_only ((Only.of_ext (hE5.trans hx5')).set3 (.inr (Nat.le_refl _)) _ _ _)
    have L6 : B3 W6 W3.heap.size (.int .i64 (cr.spd C.s)) (.int .i64 C.a) (.int .i64 C.j) := by
      rw [← hW6]
      exact ⟨by simp [go_sem, z0], by simp [go_sem, z1], by simp [go_sem, z2], by simpa using y0, by simpa using y1, by simpa using y2, by simpa using L6'.lt⟩
    rw [hW6]; clear hW6 z0 z1 z2 y0 y1 y2 L6' L5
    have hI6 := HI3.out.later hE6'
    have hO6 := hO3.trans (Only.of_ext hE6')
    generalize W3.heap.size = M at *
    clear HI3 hO3 hE6' hx5' hx5 hE5 hb4
    have l0 := L6.c0; have l1 := L6.c1; have l2 := L6.c2
    go_wp2_with fail
    refine (HKN.out _).mono ?_
    rintro e w7 ⟨rfl, hx7⟩
    have L7 := L6.later hx7
    have hI7 := hI6.later hx7
    have hO7 := hO6.trans (Only.of_ext hx7)
    clear l0 l1 l2 L6 hI6 hO6 hx7
    go_wp2_with fail
    refine (HLF.out _ _ _ { C with hd := true } rfl rfl rfl hI7.box hI7.sm).mono ?_
    rintro e w8 ⟨rfl, hx8⟩
    have L8 := L7.later hx8
    have hI8 := hI7.later hx8
    have hO8 := hO7.trans (Only.of_ext hx8)
    clear L7 hI7 hO7 hx8
    by_cases hneed : nd ≤ cr.len - C.part
    · rw [if_pos hneed] at HF
      have hng : ¬ cr.len - C.part < nd := by omega
      have l0 := L8.c0; have l1 := L8.c1; have l2 := L8.c2
      go_wp2_with fail
      refine (HKS.out _).mono ?_
      rintro e w9 ⟨v, rfl, hown, hx9⟩
      have hI9 := hI8.later hx9
      have hO9 := hO8.trans (Only.of_ext hx9)
      have hbase : ∀ b, v.ownBlock = some b → w.heap.size ≤ b := fun b hb => Nat.le_trans hO8.size (hown.base hb)
      have hlv : ∀ b, v.ownBlock = some b → b < w9.heap.size := fun b hb => ownsRow_lt hown hb
      have hs9 := hown.sl
      clear l0 l1 l2 L8 hI8 hO8 hx9 hown
      have c6 := hI9.box.c6; have c7 := hI9.box.c7; have c8 := hI9.box.c8; have f6 := hI9.box.fr 6; have f7 := hI9.box.fr 7; have f8 := hI9.box.fr 8
      have HS9 := Lib.hid hs9
      obtain ⟨av, nv, cv, bv, ov, hvv, hnv, -, -⟩ := hs9
      have HNV := Lib.hid hnv; clear hnv
      subst hvv
      have hNw := HH.out.box.lt
      have hWX : CBox (((w9.setCell ⟨N, 6, none⟩ (.slice av nv cv)).setCell ⟨N, 7, none⟩ (.int .i64 0)).setCell ⟨N, 8, none⟩ (.bool true)) N vm (.slice av nv cv) vq { C with hd := true, plan := sl, pos := 0, br := true } := by simpa using ((hI9.box.set_vp (.slice av nv cv) sl).set_pos 0).set_br true
      have hOX : Only (Foot N vq) w (((w9.setCell ⟨N, 6, none⟩ (.slice av nv cv)).setCell ⟨N, 7, none⟩ (.int .i64 0)).setCell ⟨N, 8, none⟩ (.bool true)) := ((hO9.set (.inl (.inl rfl)) _).set (.inl (.inl rfl)) _).set (.inl (.inl rfl)) _
      have hOX' : Only (fun k => k = N) w9 (((w9.setCell ⟨N, 6, none⟩ (.slice av nv cv)).setCell ⟨N, 7, none⟩ (.int .i64 0)).setCell ⟨N, 8, none⟩ (.bool true)) := (((Only.refl (fun k => k = N) w9).set (.inl rfl) _).set (.inl rfl) _).set (.inl rfl) _
      have NP : (Value.slice av nv cv).ownBlock ≠ some N := fun e => by have := hbase N e; omega
      have PQ : (Value.slice av nv cv).ownBlock = none ∨ (Value.slice av nv cv).ownBlock ≠ vq.ownBlock := by
        cases hav : (Value.slice av nv cv).ownBlock with
        | none => exact .inl rfl
        | some b' => right; intro e; have h1 := hbase b' hav; have h2 := HH.out.sq.lt e.symm; omega
      have hIX : CInv B (((w9.setCell ⟨N, 6, none⟩ (.slice av nv cv)).setCell ⟨N, 7, none⟩ (.int .i64 0)).setCell ⟨N, 8, none⟩ (.bool true)) N vm (.slice av nv cv) vq { C with hd := true, plan := sl, pos := 0, br := true } := ⟨hWX, hI9.sm.only hOX' (fun b hb e => HH.out.nm (by rw [hb, e])), HS9.out.only hOX' (fun b hb e => NP (by rw [hb, e])), hI9.sq.only hOX' (fun b hb e => HH.out.nq (by rw [hb, e])), HH.out.nm, NP, HH.out.nq, HH.out.mq, PQ, HH.out.base⟩
      have HIX := Lib.hid hIX; have HOX := Lib.hid hOX
      have HBX := Lib.hid hbase
      have hlvX : ∀ b, (Value.slice av nv cv).ownBlock = some b → b < (((w9.setCell ⟨N, 6, none⟩ (.slice av nv cv)).setCell ⟨N, 7, none⟩ (.int .i64 0)).setCell ⟨N, 8, none⟩ (.bool true)).heap.size := fun b hb => by simpa using hlv b hb
      have HLX := Lib.hid hlvX
      clear hWX hOX hOX' hIX NP PQ hbase hlv hlvX HS9 hI9 hO9
      by_cases hnil : sl = []
      · rw [if_pos hnil] at HF
        obtain rfl : nv = 0 := by have := HNV.out; rw [hnil] at this; simpa using this
        go_wp2_with fail
        generalize ((w9.setCell ⟨N, 6, none⟩ (.slice av 0 cv)).setCell ⟨N, 7, none⟩ (.int .i64 0)).setCell ⟨N, 8, none⟩ (.bool true) = WX at *
        rw [hnil] at HIX
        clear c6 c7 c8 f6 f7 f8
        have ecx : Ctl.cur { C with hd := true, plan := [], pos := 0, br := true } = cr := HCR.out.symm
        have kst := stop_any HIX.out hi ⟨Nat.le_of_lt hi, hn, fun _ => HR.out _ hi, fun _ => p0, fun _ => by rw [ecx]; simp only; omega, fun _ => by rw [ecx]; omega⟩ HR.out hps
        clear ecx
        refine kst.mono ?_
        rintro e w10 ⟨rfl, vp', vq', hI10, hO10, hloc10, hlp10⟩
        clear kst
        have hO11 := HOX.out.trans hO10
        have hloc11 : ∀ b, vq'.ownBlock = some b → vq.ownBlock = some b ∨ w.heap.size ≤ b := fun b hb => (hloc10 b hb).imp id (fun h => Nat.le_trans HOX.out.size h)
        have hlp11 : ∀ b', vp'.ownBlock = some b' → b' < w10.heap.size ∧ (vp.ownBlock = some b' ∨ w.heap.size ≤ b') := fun b' hb => ⟨(hlp10 b' hb).1, .inr (((hlp10 b' hb).2).elim (fun h => HBX.out _ h) (fun h => Nat.le_trans HOX.out.size h))⟩
        have FIN : Hid (CInv B w10 N vm vp' vq' C.holdC) := Lib.hid (by rw [HF.out]; exact hI10)
        clear hI10 hO10 hloc10 hlp10
        go_wp2
        go_end0
        exact ⟨rfl, vp', vq', FIN.out, hO11, hloc11, hlp11⟩
      · rw [if_neg hnil] at HF
        have hnv0 : ¬ (nv : Int) = 0 := by
          have := HNV.out
          have h2 := List.length_pos_iff.2 hnil
          omega
        have FIN : Hid (CInv B _ N vm (.slice av nv cv) vq C.holdC) := Lib.hid (by rw [HF.out]; exact HIX.out)
        clear HIX
        go_wp2
        go_end0
        exact ⟨rfl, _, vq, FIN.out, HOX.out, fun b hb => .inl hb, fun b hb => ⟨HLX.out b hb, .inr (HBX.out b hb)⟩⟩
    · rw [if_neg hneed] at HF
      have hng : cr.len - C.part < nd := by omega
      have FIN : Hid (CInv B w8 N vm vp vq C.holdC) := Lib.hid (by rw [HF.out]; exact hI8)
      have hlp8 : ∀ b, vp.ownBlock = some b → b < w8.heap.size := fun b hb => Nat.lt_of_lt_of_le (HLP.out b hb) hO8.size
      have HL8 := Lib.hid hlp8
      clear hI8 hlp8
      go_wp2
      refine bodyPost_ret (v := .tuple #[]) (by simp [results, Tryd.results35, go_sem]) rfl ⟨rfl, vp, vq, FIN.out, hO8, fun b hb => .inl hb, fun b hb => ⟨HL8.out b hb, .inl hb⟩⟩


set_option maxHeartbeats 8000000 in
theorem hold_more {B : Nat} {w : World} {N : Nat} {vm vp vq : Value} {C : Ctl} (h : CInv B w N vm vp vq C) (hlp : ∀ b, vp.ownBlock = some b → b < w.heap.size) (hbk : C.bk = false) (hbr : C.br = false) (hi : C.idx < C.ms.length) (hn : C.ms.length ≤ 1000000000000) (hr : ∀ i, i < C.ms.length → (C.ms.getD i Mot.zero).rng) (hrt : C.cur.rate ≤ 9223372036854775807)
    {m : Nat} (hp1 : C.pos = m + 2) (hk : C.pos < C.plan.length) (hpl : C.plan.length ≤ 1000000000000) (p0 : 0 ≤ C.part) (p1 : C.part < C.cur.len) (hmv : mvg (C.cur.spd C.s) C.a C.j C.dBefore C.dLast = true) (hps : C.ps.length ≤ 999999999) :
    Calls Tryd.prog 35 #[.pointer (some ⟨N, 0, none⟩)] w (CPost B w N vm vp vq C.holdC (.tuple #[])) := by
  have hF : C.holdC = if C.needed ≤ C.cur.len - C.part then (if C.stopL = [] then Ctl.stopd { C with hd := true, plan := [], pos := 0, br := true } else { C with hd := true, plan := C.stopL, pos := 0, br := true }) else { C with hd := true } := by
    unfold Ctl.holdC
    rw [if_neg (by simp [hbk]), if_neg (by simp [hbr]; omega)]
  have HF := Lib.hid hF; clear hF
  have c9 := h.box.c9; have f9 := h.box.fr 9; have c10 := h.box.c10
  rw [hbk] at c10
  have hO : Only (fun k => k = N) w (w.setCell ⟨N, 9, none⟩ (.bool true)) := (Only.refl (fun k => k = N) w).set (.inl rfl) _
  have hI : CInv B (w.setCell ⟨N, 9, none⟩ (.bool true)) N vm vp vq { C with hd := true } := ⟨h.box.set_hd true, h.sm.only hO (fun b hb e => h.nm (by rw [hb, e])), h.sp.only hO (fun b hb e => h.np (by rw [hb, e])), h.sq.only hO (fun b hb e => h.nq (by rw [hb, e])), h.nm, h.np, h.nq, h.mq, h.pq, h.base⟩
  have HI := Lib.hid hI
  have hO1 : Only (Foot N vq) w (w.setCell ⟨N, 9, none⟩ (.bool true)) := hO.mono (fun k _ e => .inl e)
  have HLP := Lib.hid hlp; have HBR := Lib.hid hbr; have HR := Lib.hid hr; have HRT := Lib.hid hrt
  have hl2 := (Mot.len_bounds (hr C.idx hi)).2
  have hl3 : C.cur.len ≤ 40000000 := hl2
  have hres := resting_is false HI.out.box HI.out.sp (by simp; omega)
  have HRS := Lib.hid hres
  have HH := Lib.hid h
  clear hres hI hO h hbk hlp hbr hr hrt hl2
  have kn := fun w => needed_yes (C.cur.spd C.s) C.a C.j C.dBefore C.dLast w hmv
  have ks := fun w => stop_yes (C.cur.spd C.s) C.a C.j C.dBefore C.dLast w hmv
  have hst := (mvg_iff _ _ _ _ _).1 hmv
  have hsp : (∀ x ∈ C.stopL, 0 < x) ∧ C.stopL.sum = C.needed := ⟨fun x hx => (stops_pos _ _ _ _ _ hst.1 hst.2.2.2 x hx).1, stops_sum _ _ _ _ _ hst.1 hst.2.2.2⟩
  have en : dsum (C.cur.spd C.s) C.a C.j C.dLast (C.dLast - C.dBefore) = C.needed := rfl
  have es : stops (C.cur.spd C.s) C.a C.j C.dLast (C.dLast - C.dBefore) = C.stopL := rfl
  rw [en] at kn
  rw [es] at ks
  have hnd : 0 ≤ C.needed ∧ (C.stopL.length : Int) ≤ C.needed := ⟨by rw [← hsp.2]; exact sum_nonneg' hsp.1, by rw [← hsp.2]; exact sum_len hsp.1⟩
  clear en es hst hmv hsp
  have hlim := fun w => limit_any C.cur C.s C.a C.j w HRT.out
  have HLM := Lib.hid hlim; clear hlim
  have e1 : C.dLast = C.plan.getD (m + 1) 0 := by unfold Ctl.dLast; rw [hp1]; rfl
  have e2 : C.dBefore = C.plan.getD m 0 := by unfold Ctl.dBefore; rw [if_pos (by omega), hp1]; rfl
  rw [e1, e2] at kn ks
  clear e1 e2
  have HKN := Lib.hid kn; have HKS := Lib.hid ks
  clear kn ks
  obtain ⟨nd, hnd1⟩ : ∃ nd, nd = C.needed := ⟨_, rfl⟩
  obtain ⟨sl, hsl1⟩ : ∃ sl, sl = C.stopL := ⟨_, rfl⟩
  rw [← hnd1] at HKN HF hnd
  rw [← hsl1] at HKS HF hnd
  clear hnd1 hsl1
  have hleft : ∀ w' vp' vq' (D : Ctl), D.ms = C.ms → D.idx = C.idx → D.part = C.part → CBox w' N vm vp' vq' D → SlM w' vm C.ms → Calls Tryd.prog 38 #[.pointer (some ⟨N, 0, none⟩)] w' fun e w'' => e = .returned (.int .i64 (C.cur.len - C.part)) ∧ Ext w' w'' := fun w' vp' vq' D e1 e2 e3 hb hm => by
    have ec : D.cur = C.cur := by unfold Ctl.cur; rw [e1, e2]
    have := left_any hb (by rw [e1]; exact hm) (by rw [e1, e2]; exact hi) (by rw [ec]; exact HR.out C.idx hi) (by rw [e3]; exact p0) (by rw [e3, ec]; omega)
    rw [ec, e3] at this
    exact this
  have HLF := Lib.hid hleft; clear hleft
  obtain ⟨cr, hcr⟩ : ∃ cr, cr = C.cur := ⟨_, rfl⟩
  rw [← hcr] at HLM HLF HF HKN HKS p1 hl3
  have HCR := Lib.hid hcr; clear hcr
  go_enter Tryd.func35, Tryd.ntmps35
  go_wp2_with fail
  generalize w.setCell ⟨N, 9, none⟩ (.bool true) = W1 at *
  clear c9 f9 c10
  refine HRS.out.mono ?_
  rintro e w2 ⟨rfl, hx2⟩
  clear HRS
  have hI2 := HI.out.later hx2
  have hO2 := hO1.trans (Only.of_ext hx2)
  clear HI hO1 hx2
  have c8 := hI2.box.c8
  simp only at c8
  rw [HBR.out] at c8
  go_wp2_with fail
  clear c8
  obtain ⟨ad, n, cap, b, off, hv, hnl, h3, h4⟩ := hI2.sp
  simp only at hnl h4
  have c6 := Later.cell hI2.box.c6; have c7 := Later.cell hI2.box.c7
  rw [hv] at c6
  simp only at c7
  rw [hp1] at c7
  obtain ⟨hb1, hb2⟩ := h4 (m + 1) (by omega)
  obtain ⟨-, hb3⟩ := h4 m (by omega)
  have hl0 : m + 1 < n := by omega
  obtain rfl : ad = some ⟨b, off, none⟩ := h3.resolve_left (by omega)
  have d := Later.cell hb2
  have hm2 : m + 2 ≤ 1000000000000 := by omega
  have i1 : (((m + 2 : Nat) : Int) - 1) = ((m + 1 : Nat) : Int) := by omega
  have i2 : (((m + 2 : Nat) : Int) - 2) = (m : Int) := by omega
  have HP1 := Lib.hid hp1
  clear h3 h4 hb2 hnl hp1
  generalize C.plan.getD (m + 1) 0 = q at *
  have HB3 := Lib.hid hb3; clear hb3
  refine wp_region_later (by kernel_rfl) (by kernel_rfl) ?_
  repeat (go_big_quiet_step (fail))
  refine wpQuiet_nil ?_
  rintro _ ⟨y, rfl⟩
  have hI3 := hI2.later y.ext
  have hO3 := hO2.trans (Only.of_ext y.ext)
  have hy := y.ext
  clear c6 c7 d hI2 hO2
  generalize y.w = W3 at *
  clear y
  have c7 := hI3.box.c7
  simp only at c7
  rw [HP1.out] at c7
  have hgt : ((m + 2 : Nat) : Int) > 1 := by omega
  go_wp2_with fail
  clear c7
  have c6 := Later.cell hI3.box.c6; have c7 := Later.cell hI3.box.c7
  simp only at c7
  rw [HP1.out] at c7
  rw [hv] at c6
  have d := Later.cell (w := W3) (p := ⟨b, off + m, none⟩) (by rw [hy.cell hb1]; exact HB3.out)
  have hl1 : m < n := by omega
  generalize C.plan.getD m 0 = p at *
  refine wp_region_later (by kernel_rfl) (by kernel_rfl) ?_
  repeat (go_big_quiet_step (fail))
  refine wpQuiet_nil ?_
  rintro _ ⟨y, rfl⟩
  have hI4 := hI3.later y.ext
  have hO4 := hO3.trans (Only.of_ext y.ext)
  clear c6 c7 d hI3 hO3 hy
  generalize y.w = W4 at *
  clear y
  have hI3 := hI4; have hO3 := hO4
  clear hI4 hO4 HB3 hgt
  go_wp2_with fail
  obtain ⟨ad2, n2, cap2, b2, off2, hv2, hn2, h3, -, h4⟩ := hI3.sm
  simp only at hn2 h4
  obtain ⟨hb4, hb5⟩ := h4 C.idx (by omega)
  obtain rfl : ad2 = some ⟨b2, off2, none⟩ := h3.resolve_left (by omega)
  have hi2 : C.idx < n2 := by omega
  have hcur : C.ms.getD C.idx Mot.zero = cr := HCR.out.symm
  rw [hcur] at hb5
  clear hcur h3 h4 hn2
  have c0 := Later.cell hI3.box.c0; have c1 := Later.cell hI3.box.c1; have c2 := Later.cell hI3.box.c2; have c3 := Later.cell hI3.box.c3; have c4 := Later.cell hI3.box.c4
  rw [hv2] at c0
  simp only at c1 c2 c3 c4
  have d0 := Later.cell hb5.c0; have d1 := Later.cell hb5.c1; have d2 := Later.cell hb5.c2; have d3 := Later.cell hb5.c3; have d4 := Later.cell hb5.c4; have d5 := Later.cell hb5.c5; have d6 := Later.cell hb5.c6; have d7 := Later.cell hb5.c7; have d8 := Later.cell hb5.c8
  have HI3 := Lib.hid hI3
  clear hb5 hI3
  refine wp_region_tree (fun w' => ∃ y : Later W4, w' = y.w) 16 (.two [0, 1, 2, 3, 4, 5, 6, 7, 8, 9, 10, 11, 12, 13] 14 15 (.one [] 15 (.leaf [])) (.one [] 14 (.leaf []))) (by kernel_rfl) (by kernel_rfl) (by kernel_rfl) ⟨⟨_, (Ext.refl W4).drew⟩, rfl⟩ ?_
  simp only [List.take_succ_cons, List.take_zero]
  refine tree_two fun K1 K2 hK1 hK2 => ?_
  simp only [List.map_cons, List.map_nil, pickOp, List.getElem?_cons_zero, List.getElem?_cons_succ, Option.getD_some]
  repeat (go_big_quiet_step (fail))
  refine wpQuiet_nil ⟨?_, ?_⟩
  · clear hK2 K2
    go_wp2_with ((go_at_call 39; with_reducible refine (HLM.out _).mono ?_); rintro e w5 ⟨rfl, hx5⟩)
    have hx5' := (Ext.refl W4).drew.trans hx5
    clear hx5
    refine onlyK_normal (hK1 _ _ ⟨⟨_, hx5'⟩, rfl⟩ ?_); clear hK1 K1
    refine tree_one0 fun K hK => ?_
    simp only [pickOp, List.getElem?_cons_zero, List.getElem?_cons_succ, Option.getD_some]
    go_wp2_with fail
    refine onlyK_normal (hK _ _ ⟨⟨_, hx5'.alloc _⟩, rfl⟩ ?_); clear hK K
    refine tree_leaf0 ?_
    simp only [List.drop_succ_cons, List.drop_zero]
    clear c0 c1 c2 c3 c4 d0 d1 d2 d3 d4 d5 d6 d7 d8
    go_wp2_with fail
    obtain ⟨W6, hW6, L6, hE6⟩ := B3.mk' w5 (.int .i64 (cr.spd C.s)) (.int .i64 C.a) (.int .i64 C.j) 54
    rw [hW6]; clear hW6
    have hE6' := hx5'.trans hE6
    have hI6 := HI3.out.later hE6'
    have hO6 := hO3.trans (Only.of_ext hE6')
    generalize w5.heap.size = M at *
    clear HI3 hO3 hE6 hE6' hx5' hb4
    have l0 := L6.c0; have l1 := L6.c1; have l2 := L6.c2
    go_wp2_with fail
    refine (HKN.out _).mono ?_
    rintro e w7 ⟨rfl, hx7⟩
    have L7 := L6.later hx7
    have hI7 := hI6.later hx7
    have hO7 := hO6.trans (Only.of_ext hx7)
    clear l0 l1 l2 L6 hI6 hO6 hx7
    go_wp2_with fail
    refine (HLF.out _ _ _ { C with hd := true } rfl rfl rfl hI7.box hI7.sm).mono ?_
    rintro e w8 ⟨rfl, hx8⟩
    have L8 := L7.later hx8
    have hI8 := hI7.later hx8
    have hO8 := hO7.trans (Only.of_ext hx8)
    clear L7 hI7 hO7 hx8
    by_cases hneed : nd ≤ cr.len - C.part
    · rw [if_pos hneed] at HF
      have hng : ¬ cr.len - C.part < nd := by omega
      have l0 := L8.c0; have l1 := L8.c1; have l2 := L8.c2
      go_wp2_with fail
      refine (HKS.out _).mono ?_
      rintro e w9 ⟨v, rfl, hown, hx9⟩
      have hI9 := hI8.later hx9
      have hO9 := hO8.trans (Only.of_ext hx9)
      have hbase : ∀ b, v.ownBlock = some b → w.heap.size ≤ b := fun b hb => Nat.le_trans hO8.size (hown.base hb)
      have hlv : ∀ b, v.ownBlock = some b → b < w9.heap.size := fun b hb => ownsRow_lt hown hb
      have hs9 := hown.sl
      clear l0 l1 l2 L8 hI8 hO8 hx9 hown
      have c6 := hI9.box.c6; have c7 := hI9.box.c7; have c8 := hI9.box.c8; have f6 := hI9.box.fr 6; have f7 := hI9.box.fr 7; have f8 := hI9.box.fr 8
      have HS9 := Lib.hid hs9
      obtain ⟨av, nv, cv, bv, ov, hvv, hnv, -, -⟩ := hs9
      have HNV := Lib.hid hnv; clear hnv
      subst hvv
      have hNw := HH.out.box.lt
      have hWX : CBox (((w9.setCell ⟨N, 6, none⟩ (.slice av nv cv)).setCell ⟨N, 7, none⟩ (.int .i64 0)).setCell ⟨N, 8, none⟩ (.bool true)) N vm (.slice av nv cv) vq { C with hd := true, plan := sl, pos := 0, br := true } := by simpa using ((hI9.box.set_vp (.slice av nv cv) sl).set_pos 0).set_br true
      have hOX : Only (Foot N vq) w (((w9.setCell ⟨N, 6, none⟩ (.slice av nv cv)).setCell ⟨N, 7, none⟩ (.int .i64 0)).setCell ⟨N, 8, none⟩ (.bool true)) := ((hO9.set (.inl (.inl rfl)) _).set (.inl (.inl rfl)) _).set (.inl (.inl rfl)) _
      have hOX' : Only (fun k => k = N) w9 (((w9.setCell ⟨N, 6, none⟩ (.slice av nv cv)).setCell ⟨N, 7, none⟩ (.int .i64 0)).setCell ⟨N, 8, none⟩ (.bool true)) := (((Only.refl (fun k => k = N) w9).set (.inl rfl) _).set (.inl rfl) _).set (.inl rfl) _
      have NP : (Value.slice av nv cv).ownBlock ≠ some N := fun e => by have := hbase N e; omega
      have PQ : (Value.slice av nv cv).ownBlock = none ∨ (Value.slice av nv cv).ownBlock ≠ vq.ownBlock := by
        cases hav : (Value.slice av nv cv).ownBlock with
        | none => exact .inl rfl
        | some b' => right; intro e; have h1 := hbase b' hav; have h2 := HH.out.sq.lt e.symm; omega
      have hIX : CInv B (((w9.setCell ⟨N, 6, none⟩ (.slice av nv cv)).setCell ⟨N, 7, none⟩ (.int .i64 0)).setCell ⟨N, 8, none⟩ (.bool true)) N vm (.slice av nv cv) vq { C with hd := true, plan := sl, pos := 0, br := true } := ⟨hWX, hI9.sm.only hOX' (fun b hb e => HH.out.nm (by rw [hb, e])), HS9.out.only hOX' (fun b hb e => NP (by rw [hb, e])), hI9.sq.only hOX' (fun b hb e => HH.out.nq (by rw [hb, e])), HH.out.nm, NP, HH.out.nq, HH.out.mq, PQ, HH.out.base⟩
      have HIX := Lib.hid hIX; have HOX := Lib.hid hOX
      have HBX := Lib.hid hbase
      have hlvX : ∀ b, (Value.slice av nv cv).ownBlock = some b → b < (((w9.setCell ⟨N, 6, none⟩ (.slice av nv cv)).setCell ⟨N, 7, none⟩ (.int .i64 0)).setCell ⟨N, 8, none⟩ (.bool true)).heap.size := fun b hb => by simpa using hlv b hb
      have HLX := Lib.hid hlvX
      clear hWX hOX hOX' hIX NP PQ hbase hlv hlvX HS9 hI9 hO9
      by_cases hnil : sl = []
      · rw [if_pos hnil] at HF
        obtain rfl : nv = 0 := by have := HNV.out; rw [hnil] at this; simpa using this
        go_wp2_with fail
        generalize ((w9.setCell ⟨N, 6, none⟩ (.slice av 0 cv)).setCell ⟨N, 7, none⟩ (.int .i64 0)).setCell ⟨N, 8, none⟩ (.bool true) = WX at *
        rw [hnil] at HIX
        clear c6 c7 c8 f6 f7 f8
        have ecx : Ctl.cur { C with hd := true, plan := [], pos := 0, br := true } = cr := HCR.out.symm
        have kst := stop_any HIX.out hi ⟨Nat.le_of_lt hi, hn, fun _ => HR.out _ hi, fun _ => p0, fun _ => by rw [ecx]; simp only; omega, fun _ => by rw [ecx]; omega⟩ HR.out hps
        clear ecx
        refine kst.mono ?_
        rintro e w10 ⟨rfl, vp', vq', hI10, hO10, hloc10, hlp10⟩
        clear kst
        have hO11 := HOX.out.trans hO10
        have hloc11 : ∀ b, vq'.ownBlock = some b → vq.ownBlock = some b ∨ w.heap.size ≤ b := fun b hb => (hloc10 b hb).imp id (fun h => Nat.le_trans HOX.out.size h)
        have hlp11 : ∀ b', vp'.ownBlock = some b' → b' < w10.heap.size ∧ (vp.ownBlock = some b' ∨ w.heap.size ≤ b') := fun b' hb => ⟨(hlp10 b' hb).1, .inr (((hlp10 b' hb).2).elim (fun h => HBX.out _ h) (fun h => Nat.le_trans HOX.out.size h))⟩
        have FIN : Hid (CInv B w10 N vm vp' vq' C.holdC) := Lib.hid (by rw [HF.out]; exact hI10)
        clear hI10 hO10 hloc10 hlp10
        go_wp2
        go_end0
        exact ⟨rfl, vp', vq', FIN.out, hO11, hloc11, hlp11⟩
      · rw [if_neg hnil] at HF
        have hnv0 : ¬ (nv : Int) = 0 := by
          have := HNV.out
          have h2 := List.length_pos_iff.2 hnil
          omega
        have FIN : Hid (CInv B _ N vm (.slice av nv cv) vq C.holdC) := Lib.hid (by rw [HF.out]; exact HIX.out)
        clear HIX
        go_wp2
        go_end0
        exact ⟨rfl, _, vq, FIN.out, HOX.out, fun b hb => .inl hb, fun b hb => ⟨HLX.out b hb, .inr (HBX.out b hb)⟩⟩
    · rw [if_neg hneed] at HF
      have hng : cr.len - C.part < nd := by omega
      have FIN : Hid (CInv B w8 N vm vp vq C.holdC) := Lib.hid (by rw [HF.out]; exact hI8)
      have hlp8 : ∀ b, vp.ownBlock = some b → b < w8.heap.size := fun b hb => Nat.lt_of_lt_of_le (HLP.out b hb) hO8.size
      have HL8 := Lib.hid hlp8
      clear hI8 hlp8
      go_wp2
      refine bodyPost_ret (v := .tuple #[]) (by simp [results, Tryd.results35, go_sem]) rfl ⟨rfl, vp, vq, FIN.out, hO8, fun b hb => .inl hb, fun b hb => ⟨HL8.out b hb, .inl hb⟩⟩
  · clear hK1 K1
    go_wp2_with fail
    obtain ⟨W5, hW5, L5, hE5⟩ := B3.mk' W4 (.int .i64 0) (.int .i64 0) (.int .i64 0) 54
    rw [hW5]; clear hW5
    refine onlyK_normal (hK2 _ _ ⟨⟨_, hE5.drew⟩, rfl⟩ ?_); clear hK2 K2
    refine tree_one0 fun K hK => ?_
    simp only [pickOp, List.getElem?_cons_zero, List.getElem?_cons_succ, Option.getD_some]
    go_wp2_with ((go_at_call 39; with_reducible refine (HLM.out _).mono ?_); rintro e w5 ⟨rfl, hx5⟩)
    have hx5' := (Ext.refl W5).drew.trans hx5
    refine onlyK_normal (hK _ _ ⟨⟨_, hE5.trans hx5'⟩, rfl⟩ ?_); clear hK K
    refine tree_leaf0 ?_
    simp only [List.drop_succ_cons, List.drop_zero]
    clear c0 c1 c2 c3 c4 d0 d1 d2 d3 d4 d5 d6 d7 d8
    have L6' := L5.later hx5'
    have z0 := L6'.c0; have z1 := L6'.c1; have z2 := L6'.c2; have y0 := L6'.f0; have y1 := L6'.f1; have y2 := L6'.f2
    go_wp2_with fail
    obtain ⟨W6, hW6⟩ : ∃ W6 : World, ((w5.setCell ⟨W4.heap.size, 0, none⟩ (.int .i64 (cr.spd C.s))).setCell ⟨W4.heap.size, 1, none⟩ (.int .i64 C.a)).setCell ⟨W4.heap.size, 2, none⟩ (.int .i64 C.j) = W6 := ⟨_, rfl⟩
    have hE6' : Ext W4 W6 := by rw [← hW6]; exact Ext.of_only ((Only.of_ext (hE5.trans hx5')).set3 (.inr (Nat.le_refl _)) _ _ _)
    have L6 : B3 W6 W4.heap.size (.int .i64 (cr.spd C.s)) (.int .i64 C.a) (.int .i64 C.j) := by
      rw [← hW6]
      exact ⟨by simp [go_sem, z0], by simp [go_sem, z1], by simp [go_sem, z2], by simpa using y0, by simpa using y1, by simpa using y2, by simpa using L6'.lt⟩
    rw [hW6]; clear hW6 z0 z1 z2 y0 y1 y2 L6' L5
    have hI6 := HI3.out.later hE6'
    have hO6 := hO3.trans (Only.of_ext hE6')
    generalize W4.heap.size = M at *
    clear HI3 hO3 hE6' hx5' hx5 hE5 hb4
    have l0 := L6.c0; have l1 := L6.c1; have l2 := L6.c2
    go_wp2_with fail
    refine (HKN.out _).mono ?_
    rintro e w7 ⟨rfl, hx7⟩
    have L7 := L6.later hx7
    have hI7 := hI6.later hx7
    have hO7 := hO6.trans (Only.of_ext hx7)
    clear l0 l1 l2 L6 hI6 hO6 hx7
    go_wp2_with fail
    refine (HLF.out _ _ _ { C with hd := true } rfl rfl rfl hI7.box hI7.sm).mono ?_
    rintro e w8 ⟨rfl, hx8⟩
    have L8 := L7.later hx8
    have hI8 := hI7.later hx8
    have hO8 := hO7.trans (Only.of_ext hx8)
    clear L7 hI7 hO7 hx8
    by_cases hneed : nd ≤ cr.len - C.part
    · rw [if_pos hneed] at HF
      have hng : ¬ cr.len - C.part < nd := by omega
      have l0 := L8.c0; have l1 := L8.c1; have l2 := L8.c2
      go_wp2_with fail
      refine (HKS.out _).mono ?_
      rintro e w9 ⟨v, rfl, hown, hx9⟩
      have hI9 := hI8.later hx9
      have hO9 := hO8.trans (Only.of_ext hx9)
      have hbase : ∀ b, v.ownBlock = some b → w.heap.size ≤ b := fun b hb => Nat.le_trans hO8.size (hown.base hb)
      have hlv : ∀ b, v.ownBlock = some b → b < w9.heap.size := fun b hb => ownsRow_lt hown hb
      have hs9 := hown.sl
      clear l0 l1 l2 L8 hI8 hO8 hx9 hown
      have c6 := hI9.box.c6; have c7 := hI9.box.c7; have c8 := hI9.box.c8; have f6 := hI9.box.fr 6; have f7 := hI9.box.fr 7; have f8 := hI9.box.fr 8
      have HS9 := Lib.hid hs9
      obtain ⟨av, nv, cv, bv, ov, hvv, hnv, -, -⟩ := hs9
      have HNV := Lib.hid hnv; clear hnv
      subst hvv
      have hNw := HH.out.box.lt
      have hWX : CBox (((w9.setCell ⟨N, 6, none⟩ (.slice av nv cv)).setCell ⟨N, 7, none⟩ (.int .i64 0)).setCell ⟨N, 8, none⟩ (.bool true)) N vm (.slice av nv cv) vq { C with hd := true, plan := sl, pos := 0, br := true } := by simpa using ((hI9.box.set_vp (.slice av nv cv) sl).set_pos 0).set_br true
      have hOX : Only (Foot N vq) w (((w9.setCell ⟨N, 6, none⟩ (.slice av nv cv)).setCell ⟨N, 7, none⟩ (.int .i64 0)).setCell ⟨N, 8, none⟩ (.bool true)) := ((hO9.set (.inl (.inl rfl)) _).set (.inl (.inl rfl)) _).set (.inl (.inl rfl)) _
      have hOX' : Only (fun k => k = N) w9 (((w9.setCell ⟨N, 6, none⟩ (.slice av nv cv)).setCell ⟨N, 7, none⟩ (.int .i64 0)).setCell ⟨N, 8, none⟩ (.bool true)) := (((Only.refl (fun k => k = N) w9).set (.inl rfl) _).set (.inl rfl) _).set (.inl rfl) _
      have NP : (Value.slice av nv cv).ownBlock ≠ some N := fun e => by have := hbase N e; omega
      have PQ : (Value.slice av nv cv).ownBlock = none ∨ (Value.slice av nv cv).ownBlock ≠ vq.ownBlock := by
        cases hav : (Value.slice av nv cv).ownBlock with
        | none => exact .inl rfl
        | some b' => right; intro e; have h1 := hbase b' hav; have h2 := HH.out.sq.lt e.symm; omega
      have hIX : CInv B (((w9.setCell ⟨N, 6, none⟩ (.slice av nv cv)).setCell ⟨N, 7, none⟩ (.int .i64 0)).setCell ⟨N, 8, none⟩ (.bool true)) N vm (.slice av nv cv) vq { C with hd := true, plan := sl, pos := 0, br := true } := ⟨hWX, hI9.sm.only hOX' (fun b hb e => HH.out.nm (by rw [hb, e])), HS9.out.only hOX' (fun b hb e => NP (by rw [hb, e])), hI9.sq.only hOX' (fun b hb e => HH.out.nq (by rw [hb, e])), HH.out.nm, NP, HH.out.nq, HH.out.mq, PQ, HH.out.base⟩
      have HIX := Lib.hid hIX; have HOX := Lib.hid hOX
      have HBX := Lib.hid hbase
      have hlvX : ∀ b, (Value.slice av nv cv).ownBlock = some b → b < (((w9.setCell ⟨N, 6, none⟩ (.slice av nv cv)).setCell ⟨N, 7, none⟩ (.int .i64 0)).setCell ⟨N, 8, none⟩ (.bool true)).heap.size := fun b hb => by simpa using hlv b hb
      have HLX := Lib.hid hlvX
      clear hWX hOX hOX' hIX NP PQ hbase hlv hlvX HS9 hI9 hO9
      by_cases hnil : sl = []
      · rw [if_pos hnil] at HF
        obtain rfl : nv = 0 := by have := HNV.out; rw [hnil] at this; simpa using this
        go_wp2_with fail
        generalize ((w9.setCell ⟨N, 6, none⟩ (.slice av 0 cv)).setCell ⟨N, 7, none⟩ (.int .i64 0)).setCell ⟨N, 8, none⟩ (.bool true) = WX at *
        rw [hnil] at HIX
        clear c6 c7 c8 f6 f7 f8
        have ecx : Ctl.cur { C with hd := true, plan := [], pos := 0, br := true } = cr := HCR.out.symm
        have kst := stop_any HIX.out hi ⟨Nat.le_of_lt hi, hn, fun _ => HR.out _ hi, fun _ => p0, fun _ => by rw [ecx]; simp only; omega, fun _ => by rw [ecx]; omega⟩ HR.out hps
        clear ecx
        refine kst.mono ?_
        rintro e w10 ⟨rfl, vp', vq', hI10, hO10, hloc10, hlp10⟩
        clear kst
        have hO11 := HOX.out.trans hO10
        have hloc11 : ∀ b, vq'.ownBlock = some b → vq.ownBlock = some b ∨ w.heap.size ≤ b := fun b hb => (hloc10 b hb).imp id (fun h => Nat.le_trans HOX.out.size h)
        have hlp11 : ∀ b', vp'.ownBlock = some b' → b' < w10.heap.size ∧ (vp.ownBlock = some b' ∨ w.heap.size ≤ b') := fun b' hb => ⟨(hlp10 b' hb).1, .inr (((hlp10 b' hb).2).elim (fun h => HBX.out _ h) (fun h => Nat.le_trans HOX.out.size h))⟩
        have FIN : Hid (CInv B w10 N vm vp' vq' C.holdC) := Lib.hid (by rw [HF.out]; exact hI10)
        clear hI10 hO10 hloc10 hlp10
        go_wp2
        go_end0
        exact ⟨rfl, vp', vq', FIN.out, hO11, hloc11, hlp11⟩
      · rw [if_neg hnil] at HF
        have hnv0 : ¬ (nv : Int) = 0 := by
          have := HNV.out
          have h2 := List.length_pos_iff.2 hnil
          omega
        have FIN : Hid (CInv B _ N vm (.slice av nv cv) vq C.holdC) := Lib.hid (by rw [HF.out]; exact HIX.out)
        clear HIX
        go_wp2
        go_end0
        exact ⟨rfl, _, vq, FIN.out, HOX.out, fun b hb => .inl hb, fun b hb => ⟨HLX.out b hb, .inr (HBX.out b hb)⟩⟩
    · rw [if_neg hneed] at HF
      have hng : cr.len - C.part < nd := by omega
      have FIN : Hid (CInv B w8 N vm vp vq C.holdC) := Lib.hid (by rw [HF.out]; exact hI8)
      have hlp8 : ∀ b, vp.ownBlock = some b → b < w8.heap.size := fun b hb => Nat.lt_of_lt_of_le (HLP.out b hb) hO8.size
      have HL8 := Lib.hid hlp8
      clear hI8 hlp8
      go_wp2
      refine bodyPost_ret (v := .tuple #[]) (by simp [results, Tryd.results35, go_sem]) rfl ⟨rfl, vp, vq, FIN.out, hO8, fun b hb => .inl hb, fun b hb => ⟨HL8.out b hb, .inl hb⟩⟩


end Go.Proofs.YtjibcnnbclcboaaDoor

namespace Go.Proofs.YtjibcnnbclcboaaDoor
open Go.RowKit
set_option maxRecDepth 8000

theorem hold_any {B : Nat} {w : World} {N : Nat} {vm vp vq : Value} {C : Ctl} (h : CAt B w N vm vp vq C) (hps : C.ps.length ≤ 999999999) :
    Calls Tryd.prog 35 #[.pointer (some ⟨N, 0, none⟩)] w (CRet B w N vm vp vq C.holdC (.tuple #[])) := by
  have hok := h.ok
  have hT := hok.hold
  by_cases hbk : C.bk = true
  · have e : C.holdC = C := by unfold Ctl.holdC; rw [if_pos hbk]
    rw [e]
    exact (hold_bk h.inv.box hbk).mono fun _ _ k => h.same k
  · have hbk' : C.bk = false := by simpa using hbk
    by_cases hc : C.pos = C.plan.length ∨ C.br = true
    · have e : C.holdC = { C with hd := true } := by unfold Ctl.holdC; rw [if_neg hbk, if_pos hc]
      rw [e] at hT
      rw [e]
      exact (hold_rest h.inv h.lp hbk' hc).mono (CPost.ret h hT)
    · have hp : C.pos ≠ C.plan.length := fun e => hc (.inl e)
      have hb : C.br = false := by simpa using fun e => hc (.inr e)
      have hn : C.plan ≠ [] := fun e => hp (by rw [hok.rest e, e]; rfl)
      obtain ⟨r1, r2⟩ := hok.run hn
      have f3 := (hok.full hn hb).2.2
      have hm := hok.mvg hp hb
      have hnn : C.ms.length ≤ 1000000000000 := Nat.le_trans hok.n (by decide)
      have hll : C.plan.length ≤ 1000000000000 := Nat.le_trans hok.ln (by decide)
      by_cases h1 : C.pos = 1
      · exact (hold_one h.inv h.lp hbk' hb r1 hnn hok.rng (hok.rate C.idx r1).2 h1 r2 hll (hok.p0 r1) (hok.p1 r1) hm hps).mono (CPost.ret h hT)
      · exact (hold_more (m := C.pos - 2) h.inv h.lp hbk' hb r1 hnn hok.rng (hok.rate C.idx r1).2 (by omega) r2 hll (hok.p0 r1) (hok.p1 r1) hm hps).mono (CPost.ret h hT)

theorem break_any {B : Nat} {w : World} {N : Nat} {vm vp vq : Value} {C : Ctl} (h : CAt B w N vm vp vq C) (hps : C.ps.length ≤ 999999999) :
    Calls Tryd.prog 53 #[.pointer (some ⟨N, 0, none⟩)] w (CRet B w N vm vp vq C.brkC (.tuple #[])) := by
  have hT := h.ok.brk
  by_cases hbk : C.bk = true
  · have e : C.brkC = C := by unfold Ctl.brkC; rw [if_pos hbk]
    rw [e]
    exact (break_bk h.inv.box hbk).mono fun _ _ k => h.same k
  · exact (break_run h.inv (by simpa using hbk) h.ok.posOk h.lm hps).mono (CPost.ret h hT)

theorem resume_at {B : Nat} {w : World} {N : Nat} {vm vp vq : Value} {C : Ctl} (h : CAt B w N vm vp vq C) :
    Calls Tryd.prog 21 #[.pointer (some ⟨N, 0, none⟩)] w (CRet B w N vm vp vq { C with hd := false } (.tuple #[])) :=
  (resume_any h.inv h.lp).mono (CPost.ret h h.ok.resume)

end Go.Proofs.YtjibcnnbclcboaaDoor

namespace Go.Proofs.YtjibcnnbclcboaaDoor
open Go.RowKit

theorem lsum_mono {l : List Mot} (hr : ∀ i, i < l.length → (l.getD i Mot.zero).rng) : ∀ {j : Nat} (i : Nat), i ≤ j → j ≤ l.length → lsum l i ≤ lsum l j
  | 0, i, h, _ => by have : i = 0 := by omega
                     subst this; exact Int.le_refl _
  | j + 1, i, h, hj => by
    rcases Nat.lt_or_ge i (j + 1) with h1 | h1
    · have h2 := lsum_mono hr i (show i ≤ j by omega) (by omega)
      have h3 := (Mot.len_bounds (hr j (by omega))).1
      show lsum l i ≤ lsum l j + _
      omega
    · have : i = j + 1 := by omega
      subst this; exact Int.le_refl _
theorem lsum_nonneg {l : List Mot} (hr : ∀ i, i < l.length → (l.getD i Mot.zero).rng) {i : Nat} (h : i ≤ l.length) : 0 ≤ lsum l i := lsum_mono hr 0 (by omega) h
theorem lsum_flat {l : List Mot} : ∀ {j : Nat} (i : Nat), i ≤ j → (∀ k, i ≤ k → k < j → (l.getD k Mot.zero).len = 0) → lsum l j = lsum l i
  | 0, i, h, _ => by have : i = 0 := by omega
                     subst this; rfl
  | j + 1, i, h, hz => by
    rcases Nat.lt_or_ge i (j + 1) with h1 | h1
    · have h2 := lsum_flat i (show i ≤ j by omega) (fun k a b => hz k a (by omega))
      have h3 := hz j (by omega) (by omega)
      show lsum l j + _ = _
      omega
    · have : i = j + 1 := by omega
      subst this; rfl
theorem len_lsum {l : List Mot} (hr : ∀ i, i < l.length → (l.getD i Mot.zero).rng) {i : Nat} (h : i < l.length) : (l.getD i Mot.zero).len ≤ lsum l l.length := by
  have h1 := lsum_mono hr (i + 1) (show i + 1 ≤ l.length by omega) (Nat.le_refl _)
  have h2 := lsum_nonneg hr (show i ≤ l.length by omega)
  have h3 : lsum l (i + 1) = lsum l i + (l.getD i Mot.zero).len := rfl
  omega

theorem stepsE_small {n s a j : Int} (hv : vld s a j = true) (h0 : 0 ≤ n) (h1 : n ≤ 2000) : stepsE n s a j = 0 := by
  have t3 : tickE n s a j = 0 := by unfold tickE; rw [if_neg (by simp [hv]; omega), if_neg (by omega)]
  have e1 := tickN_eq t3
  obtain ⟨⟨s1, s2⟩, ⟨a1, a2⟩, ⟨j1, j2⟩⟩ := (vld_iff s a j).1 hv
  obtain ⟨u1, u2, u3, u4⟩ := smp_bounds' s a j s1 a1 j1
  have : (n + smp s a j - 1) / smp s a j ≤ n + smp s a j - 1 := Int.ediv_le_self _ (by omega)
  unfold stepsE
  rw [if_pos t3, if_neg (by omega)]

theorem stpTo_of {l : List Mot} {s a j : Int} : ∀ (n : Nat), (∀ k, k < n → stepsE (l.getD k Mot.zero).len ((l.getD k Mot.zero).spd s) a j = 0) → stpTo l s a j n = 0
  | 0, _ => rfl
  | n + 1, h => by
    have h1 := stpTo_of (l := l) (s := s) (a := a) (j := j) n (fun k hk => h k (by omega))
    show (if _ then _ else _) = _
    rw [if_pos h1]
    exact h n (by omega)

/-- Right motions: what is known of them. -/
structure Rt (l : List Mot) (s a j : Int) : Prop where
  v : vld s a j = true
  c : conn l = 0
  n : l.length ≤ 8
  sum : lsum l l.length ≤ 2000
  rng : ∀ i, i < l.length → (l.getD i Mot.zero).rng
  chk : chk l s a j = 0

theorem rt_of {l : List Mot} {s a j : Int} (h : rightB l s a j = true) : Rt l s a j := by
  unfold rightB shrt at h
  simp only [Bool.and_eq_true, decide_eq_true_eq] at h
  obtain ⟨⟨h1, h2⟩, h3, h4⟩ := h
  have hr := fun i hi => rngTo_at (conn_zero h2).2.1 i hi
  refine ⟨h1, h2, h3, h4, hr, ?_⟩
  unfold chk
  rw [if_neg (by simp [h1]), if_pos h2]
  refine stpTo_of _ fun k hk => ?_
  have := len_lsum hr hk
  exact stepsE_small (spd_vld h1) (Mot.len_bounds (hr k hk)).1 (by omega)

/-- What is left of the way. -/
def Ctl.rem (C : Ctl) : Int := lsum C.ms C.ms.length - lsum C.ms C.idx - (if C.idx < C.ms.length then C.part else 0)

theorem Ctl.Ok.rem0 {C : Ctl} (h : C.Ok) : 0 ≤ C.rem := by
  unfold Ctl.rem
  split
  · rename_i hi
    have h1 := lsum_mono h.rng (C.idx + 1) (show C.idx + 1 ≤ C.ms.length by omega) (Nat.le_refl _)
    have h3 : lsum C.ms (C.idx + 1) = lsum C.ms C.idx + C.cur.len := rfl
    have := h.p1 hi
    omega
  · have h1 := lsum_mono h.rng C.idx h.le (Nat.le_refl _)
    omega

theorem stopd_rem {C : Ctl} (hi : C.idx < C.ms.length) : C.stopd.rem = C.rem := by
  have e0 : C.stopd.ms = C.ms := rfl
  by_cases h0 : C.cur.len - C.part = 0
  · have e1 : C.stopd.idx = skp C.ms (C.idx + 1) := by unfold Ctl.stopd; simp only; rw [if_pos h0]
    have e2 : C.stopd.part = 0 := by unfold Ctl.stopd; simp only; rw [if_pos h0]
    have hs := skp_le (ms := C.ms) (i := C.idx + 1) (by omega)
    have hf := lsum_flat (l := C.ms) (C.idx + 1) hs.1 (fun k a b => skp_between a b)
    have h3 : lsum C.ms (C.idx + 1) = lsum C.ms C.idx + C.cur.len := rfl
    unfold Ctl.rem
    rw [e0, e1, e2, if_pos hi, hf, h3]
    split <;> omega
  · have e1 : C.stopd.idx = C.idx := by unfold Ctl.stopd; simp only; rw [if_neg h0]
    have e2 : C.stopd.part = C.part := by unfold Ctl.stopd; simp only; rw [if_neg h0]
    unfold Ctl.rem
    rw [e0, e1, e2]

theorem advd_rem {C : Ctl} (h : C.Pre) : C.advd.rem = C.rem - C.plan.getD C.pos 0 := by
  have hs := sum_drop h.run
  have hd0 := sum_nonneg' (drop_pos h.pos (C.pos + 1))
  have h1 := h.sum
  have hi := h.lt
  have e : Ctl.rem { C with part := C.part + C.plan.getD C.pos 0, pos := C.pos + 1 } = C.rem - C.plan.getD C.pos 0 := by
    unfold Ctl.rem
    simp only
    rw [if_pos hi, if_pos hi]
    omega
  unfold Ctl.advd
  split
  · rw [stopd_rem (C := { C with part := C.part + C.plan.getD C.pos 0, pos := C.pos + 1 }) hi, e]
  · exact e

theorem Ctl.Ok.tick_rem {C : Ctl} (h : C.Ok) (ht : C.tickB = true) : C.tickC.rem ≤ C.rem - 1 := by
  have hi : C.idx < C.ms.length := by
    have ht' := ht
    unfold Ctl.tickB at ht'
    simp only [Bool.and_eq_true, decide_eq_true_eq] at ht'
    exact ht'.1.2
  unfold Ctl.tickC
  rw [if_pos ht]
  split
  · have hp := h.pre_start hi
    have h1 := advd_rem hp
    have h2 := getD_pos hp.pos hp.run
    have e : Ctl.rem { C with plan := C.steps, pos := 0, br := false } = C.rem := rfl
    rw [h1, e]
    omega
  · rename_i hp
    have hp := h.pre_run hp
    have h1 := advd_rem hp
    have h2 := getD_pos hp.pos hp.run
    omega

theorem tickC_rem' {C : Ctl} (h : C.Ok) : C.tickC.rem ≤ C.rem := by
  cases ht : C.tickB
  · have e2 : C.tickC = C := by unfold Ctl.tickC; rw [ht]; rfl
    rw [e2]; exact Int.le_refl _
  · have := h.tick_rem ht; omega

theorem holdC_rem {C : Ctl} (h : C.Ok) : C.holdC.rem = C.rem := by
  unfold Ctl.holdC
  split
  · rfl
  · split
    · rfl
    · rename_i hc
      have hp : C.pos ≠ C.plan.length := fun e => hc (.inl e)
      have hn : C.plan ≠ [] := fun e => hp (by rw [h.rest e, e]; rfl)
      obtain ⟨r1, r2⟩ := h.run hn
      split
      · split
        · exact stopd_rem (C := { C with hd := true, plan := [], pos := 0, br := true }) r1
        · rfl
      · rfl

theorem new_rem {l : List Mot} {s a j : Int} : (Ctl.new l s a j).rem = lsum l l.length := by
  have hs := skp_le (ms := l) (i := 0) (by omega)
  have hf := lsum_flat (l := l) 0 hs.1 (fun k a b => skp_between a b)
  unfold Ctl.rem
  show lsum l l.length - lsum l (skp l 0) - (if skp l 0 < l.length then 0 else 0) = _
  rw [hf]
  have : lsum l 0 = 0 := rfl
  split <;> omega

theorem stopd_ms (C : Ctl) : C.stopd.ms = C.ms ∧ C.stopd.bk = C.bk ∧ C.stopd.hd = C.hd := ⟨rfl, rfl, rfl⟩
theorem advd_ms (C : Ctl) : C.advd.ms = C.ms ∧ C.advd.bk = C.bk ∧ C.advd.hd = C.hd := by
  unfold Ctl.advd
  split <;> exact ⟨rfl, rfl, rfl⟩
theorem tickC_ms (C : Ctl) : C.tickC.ms = C.ms ∧ C.tickC.bk = C.bk ∧ C.tickC.hd = C.hd := by
  unfold Ctl.tickC
  split
  · split <;> exact advd_ms _
  · exact ⟨rfl, rfl, rfl⟩
theorem holdC_ms (C : Ctl) : C.holdC.ms = C.ms ∧ C.holdC.bk = C.bk := by
  unfold Ctl.holdC
  split
  · exact ⟨rfl, rfl⟩
  · split
    · exact ⟨rfl, rfl⟩
    · split
      · split <;> exact ⟨rfl, rfl⟩
      · exact ⟨rfl, rfl⟩
theorem holdC_hd {C : Ctl} (h : C.bk = false) : C.holdC.hd = true := by
  unfold Ctl.holdC
  rw [if_neg (by simp [h])]
  split
  · rfl
  · split
    · split <;> rfl
    · rfl

/-- Where a controller stands behind some operations. -/
structure Good (l : List Mot) (k : Nat) (C : Ctl) : Prop where
  ms : C.ms = l
  bk : C.bk = false
  ps : C.ps.length ≤ k
  rem : C.rem ≤ 2000

theorem Good.new {l : List Mot} {s a j : Int} (h : Rt l s a j) : Good l 0 (Ctl.new l s a j) := ⟨rfl, rfl, Nat.le_refl _, by rw [new_rem]; exact h.sum⟩
theorem Good.tick {l : List Mot} {k : Nat} {C : Ctl} (h : Good l k C) (ho : C.Ok) : Good l (k + 1) C.tickC :=
  ⟨by rw [(tickC_ms C).1]; exact h.ms, by rw [(tickC_ms C).2.1]; exact h.bk, Nat.le_trans (tickC_ps C) (by have := h.ps; omega), Int.le_trans (tickC_rem' ho) h.rem⟩
theorem Good.hold {l : List Mot} {k : Nat} {C : Ctl} (h : Good l k C) (ho : C.Ok) : Good l (k + 1) C.holdC :=
  ⟨by rw [(holdC_ms C).1]; exact h.ms, by rw [(holdC_ms C).2]; exact h.bk, Nat.le_trans (holdC_ps C) (by have := h.ps; omega), by rw [holdC_rem ho]; exact h.rem⟩
theorem Good.resume {l : List Mot} {k : Nat} {C : Ctl} (h : Good l k C) : Good l (k + 1) { C with hd := false } :=
  ⟨h.ms, h.bk, Nat.le_succ_of_le h.ps, h.rem⟩

/-- Where nothing moves, it is at rest. -/
theorem Ctl.Ok.at_rest {C : Ctl} (h : C.Ok) (hb : C.bk = false) (ht : C.tickB = false) : C.pos = C.plan.length := by
  by_cases hi : C.idx < C.ms.length
  · unfold Ctl.tickB at ht
    simp only [hb, hi, Bool.not_false, decide_true, Bool.true_and, Bool.not_eq_false', Bool.and_eq_true, decide_eq_true_eq] at ht
    exact ht.1
  · by_cases hp : C.plan = []
    · rw [h.rest hp, hp]; rfl
    · exact absurd (h.run hp).1 hi
theorem tickC_still {C : Ctl} (ht : C.tickB = false) : C.tickC = C := by unfold Ctl.tickC; rw [ht]; rfl
theorem holdC_still {C : Ctl} (hb : C.bk = false) (hp : C.pos = C.plan.length) (hh : C.hd = true) : C.holdC = C := by
  unfold Ctl.holdC
  rw [if_neg (by simp [hb]), if_pos (.inl hp)]
  cases C
  simp only at hh
  subst hh
  rfl

end Go.Proofs.YtjibcnnbclcboaaDoor

namespace Go.Proofs.YtjibcnnbclcboaaDoor
open Go.RowKit
set_option maxRecDepth 8000
set_option maxRecDepth 8000

set_option maxHeartbeats 1000000 in
theorem resume_exact {B : Nat} {w : World} {N : Nat} {vm vp vq : Value} {C : Ctl} (h : CInv B w N vm vp vq C) :
    Calls Tryd.prog 21 #[.pointer (some ⟨N, 0, none⟩)] w fun e w' => e = .returned (.tuple #[]) ∧ CInv B w' N vm vp vq { C with hd := false } ∧ Only (fun k => k = N) w w' := by
  have c9 := h.box.c9; have f9 := h.box.fr 9
  have hO : Only (fun k => k = N) w (w.setCell ⟨N, 9, none⟩ (.bool false)) := (Only.refl (fun k => k = N) w).set (.inl rfl) _
  have hI : CInv B (w.setCell ⟨N, 9, none⟩ (.bool false)) N vm vp vq { C with hd := false } := ⟨h.box.set_hd false, h.sm.only hO (fun b hb e => h.nm (by rw [hb, e])), h.sp.only hO (fun b hb e => h.np (by rw [hb, e])), h.sq.only hO (fun b hb e => h.nq (by rw [hb, e])), h.nm, h.np, h.nq, h.mq, h.pq, h.base⟩
  have HI := Lib.hid hI; have HO := Lib.hid hO
  clear hI hO h
  go_enter Tryd.func21, Tryd.ntmps21
  go_wp2
  go_end0
  exact ⟨rfl, HI.out, HO.out⟩

theorem resume_held {B : Nat} {w : World} {N : Nat} {vm vp vq : Value} {C : Ctl} (h : CAt B w N vm vp vq C) (hh : C.hd = false) :
    Calls Tryd.prog 21 #[.pointer (some ⟨N, 0, none⟩)] w fun e w' => e = .returned (.tuple #[]) ∧ CAt B w' N vm vp vq C ∧ Only (fun k => k = N) w w' := by
  refine (resume_exact h.inv).mono ?_
  rintro e w' ⟨he, hI, hO⟩
  have e2 : { C with hd := false } = C := by cases C; simp only at hh; subst hh; rfl
  rw [e2] at hI
  exact ⟨he, ⟨hI, fun b hb => Nat.lt_of_lt_of_le (h.lp b hb) hO.size, fun b hb => Nat.lt_of_lt_of_le (h.lm b hb) hO.size, h.ok⟩, hO⟩

theorem P3Box.only {D : Nat → Prop} {W W' : World} {N : Nat} {x y z : Int} (h : P3Box W N x y z) (k : Only D W W') (hd : ¬ D N) : P3Box W' N x y z := by
  obtain ⟨c0, c1, c2, f0, f1, f2⟩ := h.at
  exact P3Box.of (Nat.lt_of_lt_of_le h.lt k.size) (by rw [k.cell h.lt hd]; exact c0) (by rw [k.cell h.lt hd]; exact c1) (by rw [k.cell h.lt hd]; exact c2) (by rw [k.frozen h.lt hd]; exact f0) (by rw [k.frozen h.lt hd]; exact f1) (by rw [k.frozen h.lt hd]; exact f2)

theorem brkC_props {C : Ctl} (hb : C.bk = false) : C.brkC.bk = true ∧ C.brkC.hd = false ∧ C.brkC.pos = C.brkC.plan.length := by
  unfold Ctl.brkC
  rw [if_neg (by simp [hb])]
  exact ⟨rfl, rfl, rfl⟩
theorem doneL_len (C : Ctl) : C.doneL.length ≤ C.ps.length + 1 := by
  unfold Ctl.doneL
  split
  · simp
  · omega

end Go.Proofs.YtjibcnnbclcboaaDoor

namespace Go.Proofs.YtjibcnnbclcboaaDoor
open Go.RowKit

theorem half_zero (n : Int) (h : 1 ≤ n) : n / (2 * n) = 0 := Int.ediv_eq_zero_of_lt (by omega) (by omega)
theorem btw_zero (a b n : Int) (h : 1 ≤ n) : btw a b 0 n = a := by
  unfold btw; rw [Int.mul_zero, Int.zero_add, half_zero n h]; omega
theorem btw_full (a b n : Int) (h : 1 ≤ n) : btw a b n n = b := by
  unfold btw
  have : 2 * (b - a) * n + n = n + (b - a) * (2 * n) := by rw [Int.mul_comm 2 (b - a), Int.mul_assoc]; omega
  rw [this, Int.add_mul_ediv_right _ _ (by omega), half_zero n h]; omega
theorem btw_up (a b p q n : Int) (h : 1 ≤ n) (hb : 0 ≤ b - a) (hp : p ≤ q) : btw a b p n ≤ btw a b q n := by
  unfold btw
  have h1 : 2 * (b - a) * p ≤ 2 * (b - a) * q := Int.mul_le_mul_of_nonneg_left hp (by omega)
  have := Int.ediv_le_ediv (show 0 < 2 * n by omega) (show 2 * (b - a) * p + n ≤ 2 * (b - a) * q + n by omega)
  omega
theorem btw_down (a b p q n : Int) (h : 1 ≤ n) (hb : b - a ≤ 0) (hp : p ≤ q) : btw a b q n ≤ btw a b p n := by
  unfold btw
  have h1 : -(2 * (b - a)) * p ≤ -(2 * (b - a)) * q := Int.mul_le_mul_of_nonneg_left hp (by omega)
  rw [Int.neg_mul, Int.neg_mul] at h1
  have := Int.ediv_le_ediv (show 0 < 2 * n by omega) (show 2 * (b - a) * q + n ≤ 2 * (b - a) * p + n by omega)
  omega

/-- The position of a motion at a part of its length. -/
def Mot.pos (m : Mot) (p : Int) : Int × Int × Int := (btw m.fx m.tx p m.len, btw m.fy m.ty p m.len, btw m.fz m.tz p m.len)
def Mot.f3 (m : Mot) : Int × Int × Int := (m.fx, m.fy, m.fz)
def Mot.t3 (m : Mot) : Int × Int × Int := (m.tx, m.ty, m.tz)

theorem Mot.pos_zero {m : Mot} (h : 1 ≤ m.len) : m.pos 0 = m.f3 := by
  unfold Mot.pos Mot.f3; rw [btw_zero _ _ _ h, btw_zero _ _ _ h, btw_zero _ _ _ h]
theorem Mot.pos_full {m : Mot} (h : 1 ≤ m.len) : m.pos m.len = m.t3 := by
  unfold Mot.pos Mot.t3; rw [btw_full _ _ _ h, btw_full _ _ _ h, btw_full _ _ _ h]
theorem btw_reached {a b p q n : Int} (h : 1 ≤ n) (hp : p ≤ q) (hq : q ≤ n) (he : btw a b p n = b) : btw a b q n = b := by
  by_cases hb : 0 ≤ b - a
  · have h1 := btw_up a b p q n h hb hp
    have h2 := btw_up a b q n n h hb hq
    rw [btw_full a b n h] at h2
    omega
  · have h1 := btw_down a b p q n h (by omega) hp
    have h2 := btw_down a b q n n h (by omega) hq
    rw [btw_full a b n h] at h2
    omega
/-- Once at the end, it stays there. -/
theorem Mot.pos_reached {m : Mot} {p q : Int} (h : 1 ≤ m.len) (hp : p ≤ q) (hq : q ≤ m.len) (he : m.pos p = m.t3) : m.pos q = m.t3 := by
  unfold Mot.pos Mot.t3 at *
  simp only [Prod.mk.injEq] at *
  exact ⟨btw_reached h hp hq he.1, btw_reached h hp hq he.2.1, btw_reached h hp hq he.2.2⟩

theorem sq_zero {x : Int} (h : x * x ≤ 0) : x = 0 := by
  rcases Int.lt_trichotomy x 0 with h1 | h1 | h1
  · have := Int.mul_pos_of_neg_of_neg h1 h1; omega
  · exact h1
  · have := Int.mul_pos h1 h1; omega
theorem sq_nonneg' (x : Int) : 0 ≤ x * x := by
  rcases Int.lt_trichotomy x 0 with h1 | h1 | h1
  · exact Int.le_of_lt (Int.mul_pos_of_neg_of_neg h1 h1)
  · subst h1; decide
  · exact Int.le_of_lt (Int.mul_pos h1 h1)
/-- A motion without length ends where it begins. -/
theorem Mot.flat {m : Mot} (hr : m.rng) (h : m.len = 0) : m.f3 = m.t3 := by
  obtain ⟨n0, n1, _⟩ := Mot.len_is hr
  rw [h] at n1
  unfold Mot.sq at n1
  have a := sq_nonneg' (m.tx - m.fx)
  have b := sq_nonneg' (m.ty - m.fy)
  have c := sq_nonneg' (m.tz - m.fz)
  have x := sq_zero (show (m.tx - m.fx) * (m.tx - m.fx) ≤ 0 by omega)
  have y := sq_zero (show (m.ty - m.fy) * (m.ty - m.fy) ≤ 0 by omega)
  have z := sq_zero (show (m.tz - m.fz) * (m.tz - m.fz) ≤ 0 by omega)
  unfold Mot.f3 Mot.t3
  rw [show m.fx = m.tx by omega, show m.fy = m.ty by omega, show m.fz = m.tz by omega]

/-- A piece of a motion. -/
def pieceOf (m p : Mot) (a : Int × Int × Int) : Bool := decide (p.f3 = a) && decide (p.rate = m.rate) && decide (p.tool = m.tool) && decide (p.block = m.block)
/-- The pieces of a motion are taken off a list. -/
def chain (m : Mot) : Int × Int × Int → List Mot → Option (List Mot)
  | a, [] => if a = m.t3 then some [] else none
  | a, p :: d => if a = m.t3 then some (p :: d) else if pieceOf m p a = true then chain m p.t3 d else none
def thru : List Mot → List Mot → Option (List Mot)
  | [], d => some d
  | m :: ms, d => (chain m m.f3 d).bind (thru ms)

/-- The pieces lead on from a place to another one, and the motion's end comes last. -/
inductive Part (m : Mot) : Int × Int × Int → List Mot → Int × Int × Int → Prop
  | nil (a) : Part m a [] a
  | cons {a b p d} : a ≠ m.t3 → pieceOf m p a = true → Part m p.t3 d b → Part m a (p :: d) b

theorem Part.snoc {m : Mot} {a b : Int × Int × Int} {d : List Mot} (h : Part m a d b) {p : Mot} (hb : b ≠ m.t3) (hp : pieceOf m p b = true) : Part m a (d ++ [p]) p.t3 := by
  induction h with
  | nil a => exact .cons hb hp (.nil _)
  | cons h1 h2 _ ih => exact .cons h1 h2 (ih hb hp)
theorem Part.chain {m : Mot} {a : Int × Int × Int} {d : List Mot} {b : Int × Int × Int} (h : Part m a d b) (hb : b = m.t3) (r : List Mot) : Go.Proofs.YtjibcnnbclcboaaDoor.chain m a (d ++ r) = some r := by
  induction h with
  | nil a =>
    rw [List.nil_append]
    cases r with
    | nil => unfold Go.Proofs.YtjibcnnbclcboaaDoor.chain; rw [if_pos hb]
    | cons p d => unfold Go.Proofs.YtjibcnnbclcboaaDoor.chain; rw [if_pos hb]
  | cons h1 h2 _ ih =>
    rw [List.cons_append]
    unfold Go.Proofs.YtjibcnnbclcboaaDoor.chain
    rw [if_neg h1, if_pos h2]
    exact ih hb

/-- The pieces lead through the motions. -/
def Thru (ms d : List Mot) : Prop := ∀ r, thru ms (d ++ r) = some r
theorem Thru.nil : Thru [] [] := fun _ => rfl
theorem thru_append : ∀ (a b d : List Mot), thru (a ++ b) d = (thru a d).bind (thru b)
  | [], b, d => rfl
  | m :: a, b, d => by
    show (chain m m.f3 d).bind (thru (a ++ b)) = ((chain m m.f3 d).bind (thru a)).bind (thru b)
    cases chain m m.f3 d with
    | none => rfl
    | some d' => exact thru_append a b d'
theorem Thru.snoc {ms d e : List Mot} {m : Mot} (h : Thru ms d) (hc : Part m m.f3 e m.t3) : Thru (ms ++ [m]) (d ++ e) := fun r => by
  rw [thru_append, List.append_assoc, h]
  show (chain m m.f3 (e ++ r)).bind (thru []) = some r
  rw [hc.chain rfl]
  rfl
theorem Thru.flat {ms d : List Mot} {m : Mot} (h : Thru ms d) (hc : m.f3 = m.t3) : Thru (ms ++ [m]) d := by
  have := h.snoc (m := m) (e := []) (by rw [← hc]; exact .nil _)
  rwa [List.append_nil] at this

theorem take_succ_getD {l : List Mot} {i : Nat} (h : i < l.length) : l.take (i + 1) = l.take i ++ [l.getD i Mot.zero] := by
  rw [List.take_succ_eq_append_getElem h]
  simp [h]

/-- Motions without length are passed over. -/
theorem Thru.skip {l d : List Mot} (hr : ∀ i, i < l.length → (l.getD i Mot.zero).rng) : ∀ (j i : Nat), i ≤ j → j ≤ l.length → (∀ k, i ≤ k → k < j → (l.getD k Mot.zero).len = 0) → Thru (l.take i) d → Thru (l.take j) d
  | 0, i, h, _, _, ht => by have : i = 0 := by omega
                            subst this; exact ht
  | j + 1, i, h, hj, hz, ht => by
    rcases Nat.lt_or_ge i (j + 1) with h1 | h1
    · have h2 := Thru.skip hr j i (by omega) (by omega) (fun k a b => hz k a (by omega)) ht
      rw [take_succ_getD (by omega)]
      exact h2.flat (Mot.flat (hr j (by omega)) (hz j (by omega) (by omega)))
    · have : i = j + 1 := by omega
      subst this; exact ht

/-- The motions are connected. -/
def Conn (l : List Mot) : Prop := ∀ i, i + 1 < l.length → (l.getD i Mot.zero).t3 = (l.getD (i + 1) Mot.zero).f3
theorem conn_of {l : List Mot} (h : conn l = 0) : Conn l := fun i hi => by
  have := goodTo_at (conn_zero h).1 (i + 1) hi
  unfold goodAt at this
  simp only [Bool.and_eq_true, Bool.or_eq_true, Bool.not_eq_true', decide_eq_false_iff_not, Nat.add_sub_cancel] at this
  rcases this.2 with h1 | h1
  · omega
  · unfold eqP at h1
    simp only [decide_eq_true_eq] at h1
    unfold Mot.t3 Mot.f3
    rw [h1.1, h1.2.1, h1.2.2]
/-- Behind motions without length one stands where they began. -/
theorem conn_skip {l : List Mot} (hc : Conn l) (hr : ∀ i, i < l.length → (l.getD i Mot.zero).rng) {p : Int × Int × Int} : ∀ (j i : Nat), i ≤ j → j < l.length → (∀ k, i ≤ k → k < j → (l.getD k Mot.zero).len = 0) → p = (l.getD i Mot.zero).f3 → p = (l.getD j Mot.zero).f3
  | 0, i, h, _, _, ht => by have : i = 0 := by omega
                            subst this; exact ht
  | j + 1, i, h, hj, hz, ht => by
    rcases Nat.lt_or_ge i (j + 1) with h1 | h1
    · have h2 := conn_skip hc hr j i (by omega) (by omega) (fun k a b => hz k a (by omega)) ht
      rw [h2, Mot.flat (hr j (by omega)) (hz j (by omega) (by omega))]
      exact hc j hj
    · have : i = j + 1 := by omega
      subst this; exact ht

/-- Where the pieces stand. -/
structure Ctl.Led (C : Ctl) : Prop where
  cn : Conn C.ms
  led : ∃ pre cp, C.ps = pre ++ cp ∧ Thru (C.ms.take C.idx) pre ∧ (C.idx < C.ms.length → Part C.cur C.cur.f3 cp C.last3 ∧ ∃ q, 0 ≤ q ∧ q ≤ C.part ∧ C.last3 = C.cur.pos q) ∧ (¬ C.idx < C.ms.length → cp = [])

theorem at3_cur {C : Ctl} (h : C.idx < C.ms.length) : C.at3 = C.cur.pos C.part := by
  unfold Ctl.at3
  rw [if_neg (by omega), if_neg (by omega)]
  rfl

theorem stopd_led {C : Ctl} (hb : C.Base) (h : C.Led) (hi : C.idx < C.ms.length) (p0 : 0 ≤ C.part) (p1 : C.part ≤ C.cur.len) (p2 : 1 ≤ C.cur.len) : C.stopd.Led := by
  obtain ⟨cn, pre, cp, e, ht, hcur, _⟩ := h
  obtain ⟨hpart, q, q0, q1, hq⟩ := hcur hi
  have hat := at3_cur hi
  -- the pieces of the motion
  obtain ⟨cp', hps, hp'⟩ : ∃ cp', C.psAdd = pre ++ cp' ∧ Part C.cur C.cur.f3 cp' C.at3 := by
    unfold Ctl.psAdd
    by_cases he : eq3 C.last3 C.at3 = true
    · rw [if_pos he]
      exact ⟨cp, e, by rw [← eq3_iff.1 he]; exact hpart⟩
    · rw [if_neg he, e]
      refine ⟨cp ++ [C.cur.way C.last3 C.at3], List.append_assoc _ _ _, ?_⟩
      have hne : C.last3 ≠ C.cur.t3 := fun hx => he (eq3_iff.2 (by rw [hx, hat, Mot.pos_reached p2 q1 p1 (by rw [← hq]; exact hx)]))
      exact hpart.snoc hne (by simp [pieceOf, Mot.way, Mot.f3])
  have hst : C.stopd.last3 = C.at3 := rfl
  have hms : C.stopd.ms = C.ms := rfl
  have hpp : C.stopd.ps = C.psAdd := rfl
  by_cases h0 : C.cur.len - C.part = 0
  · have e1 : C.stopd.idx = skp C.ms (C.idx + 1) := by unfold Ctl.stopd; simp only; rw [if_pos h0]
    have e2 : C.stopd.part = 0 := by unfold Ctl.stopd; simp only; rw [if_pos h0]
    have hs := skp_le (ms := C.ms) (i := C.idx + 1) (by omega)
    have hfull : C.at3 = C.cur.t3 := by rw [hat, show C.part = C.cur.len by omega]; exact Mot.pos_full p2
    have hT1 : Thru (C.ms.take (C.idx + 1)) (pre ++ cp') := by
      rw [take_succ_getD hi]
      exact ht.snoc (by have := hp'; rw [hfull] at this; exact this)
    have hT2 := Thru.skip hb.rng _ _ hs.1 hs.2 (fun k a b => skp_between a b) hT1
    refine ⟨cn, pre ++ cp', [], ?_, ?_, ?_, fun _ => rfl⟩
    · rw [hpp, hps, List.append_nil]
    · rw [hms, e1]; exact hT2
    · intro hlt
      rw [hms, e1] at hlt
      have hl1 : 1 ≤ (C.ms.getD (skp C.ms (C.idx + 1)) Mot.zero).len := by
        have h1 := skp_pos hlt; have h2 := hb.len0 hlt; omega
      have hcu : C.stopd.cur = C.ms.getD (skp C.ms (C.idx + 1)) Mot.zero := by unfold Ctl.cur; rw [hms, e1]
      have hfrom : C.at3 = (C.ms.getD (skp C.ms (C.idx + 1)) Mot.zero).f3 := by
        refine conn_skip cn hb.rng _ (C.idx + 1) hs.1 hlt (fun k a b => skp_between a b) ?_
        rw [hfull]
        exact cn C.idx (by omega)
      rw [hst, hcu, e2]
      exact ⟨by rw [hfrom]; exact .nil _, 0, Int.le_refl _, Int.le_refl _, by rw [hfrom, Mot.pos_zero hl1]⟩
  · have e1 : C.stopd.idx = C.idx := by unfold Ctl.stopd; simp only; rw [if_neg h0]
    have e2 : C.stopd.part = C.part := by unfold Ctl.stopd; simp only; rw [if_neg h0]
    have hcu : C.stopd.cur = C.cur := by unfold Ctl.cur; rw [hms, e1]
    refine ⟨cn, pre, cp', ?_, ?_, ?_, ?_⟩
    · rw [hpp]; exact hps
    · rw [hms, e1]; exact ht
    · intro _
      rw [hst, hcu, e2]
      exact ⟨hp', C.part, p0, Int.le_refl _, hat⟩
    · intro hx; rw [hms, e1] at hx; exact absurd hi hx

theorem advd_led {C : Ctl} (hp : C.Pre) (h : C.Led) : C.advd.Led := by
  have hs := sum_drop hp.run
  have hg := getD_pos hp.pos hp.run
  have hd0 := sum_nonneg' (drop_pos hp.pos (C.pos + 1))
  have h1 := hp.sum
  have h2 := hp.p0
  have hl : Ctl.Led { C with part := C.part + C.plan.getD C.pos 0, pos := C.pos + 1 } := by
    obtain ⟨cn, pre, cp, e, ht, hcur, hx⟩ := h
    refine ⟨cn, pre, cp, e, ht, fun hi => ?_, hx⟩
    obtain ⟨hpart, q, q0, q1, hq⟩ := hcur hi
    exact ⟨hpart, q, q0, by show q ≤ C.part + C.plan.getD C.pos 0; omega, hq⟩
  unfold Ctl.advd
  split
  · refine stopd_led ⟨hp.vl, hp.n, hp.rng, hp.rate, hp.stp⟩ hl hp.lt ?_ ?_ ?_
    · show 0 ≤ C.part + C.plan.getD C.pos 0; omega
    · show C.part + C.plan.getD C.pos 0 ≤ C.cur.len; omega
    · show 1 ≤ C.cur.len; omega
  · exact hl

theorem tick_led {C : Ctl} (ho : C.Ok) (h : C.Led) : C.tickC.Led := by
  unfold Ctl.tickC
  split
  · rename_i ht
    have hi : C.idx < C.ms.length := by
      unfold Ctl.tickB at ht
      simp only [Bool.and_eq_true, decide_eq_true_eq] at ht
      exact ht.1.2
    split
    · exact advd_led (ho.pre_start hi) ⟨h.cn, h.led⟩
    · rename_i hp; exact advd_led (ho.pre_run hp) h
  · exact h

theorem hold_led {C : Ctl} (ho : C.Ok) (h : C.Led) : C.holdC.Led := by
  unfold Ctl.holdC
  split
  · exact h
  · split
    · exact ⟨h.cn, h.led⟩
    · rename_i hc
      have hp : C.pos ≠ C.plan.length := fun e => hc (.inl e)
      have hn : C.plan ≠ [] := fun e => hp (by rw [ho.rest e, e]; rfl)
      obtain ⟨r1, r2⟩ := ho.run hn
      have q0 := ho.p0 r1
      have q1 := ho.p1 r1
      split
      · split
        · refine stopd_led ⟨ho.vl, ho.n, ho.rng, ho.rate, ho.stp⟩ ⟨h.cn, h.led⟩ r1 q0 (Int.le_of_lt q1) ?_
          show 1 ≤ C.cur.len; omega
        · exact ⟨h.cn, h.led⟩
      · exact ⟨h.cn, h.led⟩

theorem new_led {l : List Mot} {s a j : Int} (hc : Conn l) (hr : ∀ i, i < l.length → (l.getD i Mot.zero).rng) : (Ctl.new l s a j).Led := by
  have hs := skp_le (ms := l) (i := 0) (by omega)
  refine ⟨hc, [], [], rfl, ?_, fun hlt => ?_, fun _ => rfl⟩
  · exact Thru.skip (l := l) hr (skp l 0) 0 hs.1 hs.2 (fun k a b => skp_between a b) (by rw [List.take_zero]; exact Thru.nil)
  · have hlt : skp l 0 < l.length := hlt
    have hl1 : 1 ≤ (l.getD (skp l 0) Mot.zero).len := by
      have h1 := skp_pos (ms := l) (i := 0) hlt; have h2 := Mot.len_bounds (hr _ hlt); omega
    have hfrom : (l.getD 0 Mot.zero).f3 = (l.getD (skp l 0) Mot.zero).f3 := conn_skip hc hr _ 0 hs.1 hlt (fun k a b => skp_between a b) rfl
    show Part (l.getD (skp l 0) Mot.zero) (l.getD (skp l 0) Mot.zero).f3 [] (l.getD 0 Mot.zero).f3 ∧ ∃ q, 0 ≤ q ∧ q ≤ (0 : Int) ∧ (l.getD 0 Mot.zero).f3 = (l.getD (skp l 0) Mot.zero).pos q
    rw [hfrom]
    exact ⟨.nil _, 0, Int.le_refl _, Int.le_refl _, (Mot.pos_zero hl1).symm⟩

theorem led_done {C : Ctl} (h : C.Led) (hi : C.idx = C.ms.length) : thru C.ms C.doneL = some [] := by
  obtain ⟨cn, pre, cp, e, ht, _, hx⟩ := h
  have hcp := hx (by omega)
  have hd : C.doneL = C.ps := by
    unfold Ctl.doneL Ctl.pieceB
    rw [if_neg]
    rw [decide_eq_false (by omega), Bool.false_and]
    exact fun h => by cases h.1
  rw [hd, e, hcp, List.append_nil]
  have := ht []
  rw [List.append_nil, hi, List.take_length] at this
  exact this

end Go.Proofs.YtjibcnnbclcboaaDoor

namespace Go.Proofs.YtjibcnnbclcboaaDoor
open Go.RowKit
set_option maxRecDepth 8000

theorem nilI (w : World) : SlI w (.slice none 0 0) [] := ⟨none, 0, 0, 0, 0, rfl, rfl, .inl rfl, fun i hi => by omega⟩
theorem nilM (w : World) : SlM w (.slice none 0 0) [] := ⟨none, 0, 0, 0, 0, rfl, rfl, .inl rfl, fun _ => rfl, fun i hi => by omega⟩
theorem OwnM.empty (B : Nat) (w : World) (hB : B ≤ w.heap.size) : OwnM B (w.alloc (.cells #[] 49)) (.slice (some ⟨w.heap.size, 0, none⟩) 0 0) [] := World.ownsRow_lit (base := B) (e := 49) (size := 9) w #[] 0 hB (by decide) rfl
/-- A slice within its capacity. -/
def CapV (v : Value) : Prop := ∀ a n c, v = .slice a n c → n ≤ c

theorem CAt.only {B : Nat} {D : Nat → Prop} {w w' : World} {N : Nat} {vm vp vq : Value} {C : Ctl} (h : CAt B w N vm vp vq C) (k : Only D w w') (hN : ¬ D N) (hm : Off D vm) (hp : Off D vp) (hq : Off D vq) : CAt B w' N vm vp vq C :=
  ⟨⟨h.inv.box.only k hN, h.inv.sm.only k hm, h.inv.sp.only k hp, h.inv.sq.only k hq, h.inv.nm, h.inv.np, h.inv.nq, h.inv.mq, h.inv.pq, h.inv.base⟩, fun b hb => Nat.lt_of_lt_of_le (h.lp b hb) k.size, fun b hb => Nat.lt_of_lt_of_le (h.lm b hb) k.size, h.ok⟩
theorem CellsM.only {D : Nat → Prop} {w w' : World} {b o : Nat} {m : Mot} (h : CellsM w b o m) (k : Only D w w') (hb : b < w.heap.size) (hd : ¬ D b) : CellsM w' b o m where
  c0 := by rw [k.cell (p := ⟨b, _, none⟩) hb hd]; exact h.c0
  c1 := by rw [k.cell (p := ⟨b, _, none⟩) hb hd]; exact h.c1
  c2 := by rw [k.cell (p := ⟨b, _, none⟩) hb hd]; exact h.c2
  c3 := by rw [k.cell (p := ⟨b, _, none⟩) hb hd]; exact h.c3
  c4 := by rw [k.cell (p := ⟨b, _, none⟩) hb hd]; exact h.c4
  c5 := by rw [k.cell (p := ⟨b, _, none⟩) hb hd]; exact h.c5
  c6 := by rw [k.cell (p := ⟨b, _, none⟩) hb hd]; exact h.c6
  c7 := by rw [k.cell (p := ⟨b, _, none⟩) hb hd]; exact h.c7
  c8 := by rw [k.cell (p := ⟨b, _, none⟩) hb hd]; exact h.c8
theorem off_one {G : Nat} {v : Value} (h : v.ownBlock ≠ some G) : Off (fun k => k = G) v := fun b hb e => h (by rw [hb, e])

end Go.Proofs.YtjibcnnbclcboaaDoor

namespace Go.Proofs.YtjibcnnbclcboaaDoor
open Go.RowKit
set_option maxRecDepth 8000

def rBeg (l : List Mot) (i : Nat) (p : Int × Int × Int) : Int × Int × Int := if i < l.length then (l.getD i Mot.zero).f3 else if 0 < l.length then (l.getD (l.length - 1) Mot.zero).t3 else p
def rRate (l : List Mot) : Nat → Int
  | 0 => 0
  | k + 1 => if (l.getD k Mot.zero).rate = 0 then rRate l k else (l.getD k Mot.zero).rate

/-- How many motions Rate looks at. -/
def rCount (l : List Mot) (i : Nat) : Nat := if i < l.length then i + 1 else l.length

end Go.Proofs.YtjibcnnbclcboaaDoor

namespace Go.Proofs.YtjibcnnbclcboaaDoor
open Go.RowKit
set_option maxRecDepth 8000

/-- The places of the way back. -/
def rPt (p b : Int × Int × Int) (safe : Int) : Nat → Int × Int × Int
  | 0 => (p.1, p.2.1, safe)
  | 1 => (b.1, b.2.1, safe)
  | 2 => (b.1, b.2.1, if b.2.2 < 1000 then 1000 else b.2.2)
  | _ => b
def rFrom (p b : Int × Int × Int) (safe : Int) : Nat → Int × Int × Int
  | 0 => p
  | k + 1 => rPt p b safe k
def rMot (p b : Int × Int × Int) (safe rate : Int) (m : Mot) (k : Nat) : Mot :=
  ⟨(rFrom p b safe k).1, (rFrom p b safe k).2.1, (rFrom p b safe k).2.2, (rPt p b safe k).1, (rPt p b safe k).2.1, (rPt p b safe k).2.2, if k = 3 then rate else 0, m.tool, m.block⟩
def rLegs (p b : Int × Int × Int) (safe rate : Int) (m : Mot) : Nat → List Mot
  | 0 => []
  | k + 1 => rLegs p b safe rate m k ++ (if eq3 (rFrom p b safe k) (rPt p b safe k) = true then [] else [rMot p b safe rate m k])

theorem rLegs_len (p b : Int × Int × Int) (safe rate : Int) (m : Mot) : ∀ k, (rLegs p b safe rate m k).length ≤ k
  | 0 => by simp [rLegs]
  | k + 1 => by
    have := rLegs_len p b safe rate m k
    unfold rLegs
    rw [List.length_append]
    split <;> simp <;> omega

def rLike (l : List Mot) (i : Nat) : Mot := l.getD (rCount l i - 1) Mot.zero

def rstE (l : List Mot) (i : Nat) (p : Int × Int × Int) (safe : Int) : Int :=
  if safe < p.2.2 ∨ safe < (rBeg l i p).2.2 ∨ safe < 1000 then 1
  else if eq3 p (rBeg l i p) = true then 0
  else if (rBeg l i p).2.2 < 1000 ∧ rRate l (rCount l i) = 0 then 13 else 0
def rstL (l : List Mot) (i : Nat) (p : Int × Int × Int) (safe : Int) : List Mot :=
  if safe < p.2.2 ∨ safe < (rBeg l i p).2.2 ∨ safe < 1000 then []
  else if eq3 p (rBeg l i p) = true then l.drop i
  else if (rBeg l i p).2.2 < 1000 ∧ rRate l (rCount l i) = 0 then [] else rLegs p (rBeg l i p) safe (rRate l (rCount l i)) (rLike l i) 4 ++ l.drop i

/-- A slice that was made behind a world. -/
def FreV (w : World) (v : Value) : Prop := CapV v ∧ ∀ b, v.ownBlock = some b → w.heap.size ≤ b
/-- What Restart hands back. -/
def RstPost (w : World) (L : List Mot) (c : Int) (e : Ending) (w' : World) : Prop := ∃ v, e = .returned (.tuple #[v, .int .i64 c]) ∧ SlM w' v L ∧ FreV w v ∧ Ext w w'

theorem capNil : CapV (.slice none 0 0) := fun a n c e => by cases e; omega
theorem OwnM.cap {B : Nat} {w : World} {v : Value} {l : List Mot} (h : OwnM B w v l) : CapV v := by
  intro a n c hv
  obtain ⟨h1, h2⟩ := h
  rcases h2 with ⟨rfl, h3⟩ | ⟨g, cap, cur, rfl, h3, h4, h5, h6⟩
  · cases hv; omega
  · cases hv; exact h5

theorem freNil (w : World) : FreV w (.slice none 0 0) := ⟨capNil, fun _ hb => by cases hb⟩
theorem OwnM.fre {B : Nat} {w w' : World} {v : Value} {l : List Mot} (h : OwnM B w' v l) (hB : w.heap.size ≤ B) : FreV w v := ⟨h.cap, fun _ hb => Nat.le_trans hB (h.base hb)⟩

theorem drop_getD (l : List Mot) (i k : Nat) : (l.drop i).getD k Mot.zero = l.getD (i + k) Mot.zero := by
  simp [List.getD, List.getElem?_drop]

/-- The slice from an index on. -/
theorem slice_from {w : World} {ad : Option Addr} {n cap : Nat} {l : List Mot} (h : SlM w (.slice ad n cap) l) (hc : n ≤ cap) (i : Nat) (hi : i ≤ n) :
    SlM w (Go.sliced ad i n cap 9) (l.drop i) := by
  obtain ⟨ad', n', cap', b, off, hv, hn, h3, h5, h4⟩ := h
  cases hv
  unfold Go.sliced
  by_cases hin : i < n
  · have e := h3.resolve_left (by omega)
    subst e
    rw [if_neg (by omega)]
    refine ⟨_, n - i, cap - i, b, off + i * 9, rfl, by rw [List.length_drop]; omega, .inr ?_, (fun h => by cases h), fun k hk => ?_⟩
    · show some ((⟨b, off, none⟩ : Addr).add (i * 9)) = _
      rw [Addr.add_none]
    · obtain ⟨p, q⟩ := h4 (i + k) (by omega)
      refine ⟨p, ?_⟩
      rw [drop_getD, show off + i * 9 + k * 9 = off + (i + k) * 9 by omega]
      exact q
  · have e : i = n := by omega
    subst e
    refine ⟨_, i - i, cap - i, 0, 0, rfl, by rw [List.length_drop]; omega, .inl (by omega), fun h => ?_, fun k hk => by omega⟩
    by_cases hci : cap = i
    · omega
    · rw [if_neg hci] at h
      cases ad with
      | none => have := h5 rfl; omega
      | some a => cases h

theorem Tryd.elem_mots : Tryd.prog.elem 30 = 49 := by kernel_rfl
theorem slice_run {ad : Option Addr} {n cap : Nat} (i : Nat) (hi : i ≤ n) (wx : World) :
    (Instr.slice 30 (.slice ad n cap) (some (.int .i64 (i : Int))) none none).run Tryd.prog wx = .ok (Go.sliced ad i n cap 9) wx := by
  obtain ⟨i0, hi0, hz0, hz1, hz2⟩ := info_parts Tryd.info_mot
  have := run_slice_l (P := Tryd.prog) (w := wx) 30 ad n cap (by rw [Tryd.elem_mots]; exact Tryd.underlying30) .i64 (i : Int) (by omega) (by omega)
  rw [this, Tryd.elem_mots]
  simp [sizeOf, typeInfo, hi0, hz1]

theorem slice_at {w : World} {ad : Option Addr} {n cap : Nat} {l : List Mot} (h : SlM w (.slice ad n cap) l) (hc : n ≤ cap) (i : Nat) (hi : i ≤ n) :
    ∃ a3 n3 c3, (∀ wx, (Instr.slice 30 (.slice ad n cap) (some (.int .i64 (i : Int))) none none).run Tryd.prog wx = .ok (.slice a3 n3 c3) wx) ∧ SlM w (.slice a3 n3 c3) (l.drop i) :=
  ⟨_, _, _, fun wx => slice_run i hi wx, slice_from h hc i hi⟩

end Go.Proofs.YtjibcnnbclcboaaDoor

namespace Go.Proofs.YtjibcnnbclcboaaDoor
open Go.RowKit

/-- What stands while a job is performed. -/
structure JobS where
  l : List Mot
  C : Ctl
  ps : List Mot
  held : Bool
  till : Int

/-- A breakage: the code of the error, and what stands behind it. -/
def JobS.broken (J : JobS) (s a j safe : Int) : Int × JobS :=
  if rstE J.l J.C.idx J.C.at3 safe = 0 then
    (if chk (rstL J.l J.C.idx J.C.at3 safe) s a j = 0 then (0, { l := rstL J.l J.C.idx J.C.at3 safe, C := Ctl.new (rstL J.l J.C.idx J.C.at3 safe) s a j, ps := J.ps ++ J.C.brkC.doneL, held := false, till := J.till })
     else (chk (rstL J.l J.C.idx J.C.at3 safe) s a j, J))
  else (rstE J.l J.C.idx J.C.at3 safe, J)

/-- A feed hold. -/
def JobS.hold (J : JobS) (n t : Int) : JobS :=
  { J with C := J.C.holdC, held := true, till := if J.held = true ∧ ¬ J.till < t + n then J.till else t + n }

/-- The events up to a tick. -/
def JobS.evs (s a j safe t : Int) : List (Int × Int) → JobS → Int × JobS × List (Int × Int)
  | [], J => (0, J, [])
  | e :: r, J =>
    if e.1 ≤ t then
      (if e.2 = 0 then (if (J.broken s a j safe).1 = 0 then JobS.evs s a j safe t r (J.broken s a j safe).2 else ((J.broken s a j safe).1, J, r))
       else JobS.evs s a j safe t r (J.hold e.2 t))
    else (0, J, e :: r)

def JobS.doneB (J : JobS) : Bool := decide (J.C.idx = J.l.length)
def JobS.out (J : JobS) : List Mot := J.ps ++ J.C.doneL
/-- A hold that ends. -/
def JobS.wake (J : JobS) (t : Int) : JobS := if J.held = true ∧ J.till ≤ t then { J with C := { J.C with hd := false }, held := false } else J
def JobS.tick (J : JobS) : JobS := { J with C := J.C.tickC }

/-- The ticks, as many as are left. -/
def JobS.run (s a j safe : Int) : Nat → Int → JobS → List (Int × Int) → Int × List Mot
  | 0, _, J, _ => if J.doneB = true then (0, J.out) else (3, [])
  | f + 1, t, J, es =>
    if J.doneB = true then (0, J.out)
    else if (JobS.evs s a j safe t es (J.wake t)).1 = 0 then
      (if (JobS.evs s a j safe t es (J.wake t)).2.1.doneB = true then (0, (JobS.evs s a j safe t es (J.wake t)).2.1.out)
       else JobS.run s a j safe f (t + 1) (JobS.evs s a j safe t es (J.wake t)).2.1.tick (JobS.evs s a j safe t es (J.wake t)).2.2)
    else ((JobS.evs s a j safe t es (J.wake t)).1, [])

def JobS.new (l : List Mot) (s a j : Int) : JobS := { l := l, C := Ctl.new l s a j, ps := [], held := false, till := 0 }

/-- What a job with disturbances answers. -/
def dist (l : List Mot) (s a j safe : Int) (es : List (Int × Int)) : Int × List Mot :=
  if chk l s a j = 0 then JobS.run s a j safe 100000 0 (JobS.new l s a j) es else (chk l s a j, [])

/-- All motions are made of numbers of 64 bits. -/
def WfL (l : List Mot) : Prop := ∀ i, i < l.length → (l.getD i Mot.zero).wf
theorem WfL.mem {l : List Mot} (h : WfL l) : ∀ m ∈ l, m.wf := fun m hm => by
  obtain ⟨i, hi, e⟩ := List.getElem_of_mem hm
  have := h i hi
  rw [show l.getD i Mot.zero = m by simp [hi, e]] at this
  exact this
theorem WfL.of {l : List Mot} (h : ∀ m ∈ l, m.wf) : WfL l := fun i hi => by
  rw [show l.getD i Mot.zero = l[i] by simp [hi]]
  exact h _ (List.getElem_mem hi)
theorem Mot.zero_wf : Mot.zero.wf := by constructor <;> decide
theorem WfL.any {l : List Mot} (h : WfL l) (i : Nat) : (l.getD i Mot.zero).wf := by
  rcases Nat.lt_or_ge i l.length with h' | h'
  · exact h i h'
  · rw [show l.getD i Mot.zero = Mot.zero by simp [h']]; exact Mot.zero_wf

/-- A number of 64 bits. -/
def in64 (x : Int) : Prop := -9223372036854775808 ≤ x ∧ x ≤ 9223372036854775807
def in64p (p : Int × Int × Int) : Prop := in64 p.1 ∧ in64 p.2.1 ∧ in64 p.2.2

theorem rBeg_in {l : List Mot} (h : WfL l) {i : Nat} {p : Int × Int × Int} (hp : in64p p) : in64p (rBeg l i p) := by
  unfold rBeg
  split
  · have := h.any i; exact ⟨this.a0, this.a1, this.a2⟩
  · split
    · have := h.any (l.length - 1); exact ⟨this.a3, this.a4, this.a5⟩
    · exact hp
theorem rRate_in {l : List Mot} (h : WfL l) : ∀ k, in64 (rRate l k)
  | 0 => ⟨by show (-9223372036854775808 : Int) ≤ 0; decide, by show (0 : Int) ≤ 9223372036854775807; decide⟩
  | k + 1 => by
    unfold rRate
    split
    · exact rRate_in h k
    · exact (h.any k).a6
theorem rPt_in {p b : Int × Int × Int} {safe : Int} (hp : in64p p) (hb : in64p b) (hs : in64 safe) (k : Nat) : in64p (rPt p b safe k) := by
  match k with
  | 0 => exact ⟨hp.1, hp.2.1, hs⟩
  | 1 => exact ⟨hb.1, hb.2.1, hs⟩
  | 2 =>
    refine ⟨hb.1, hb.2.1, ?_⟩
    show in64 (if b.2.2 < 1000 then 1000 else b.2.2)
    split
    · exact ⟨by decide, by decide⟩
    · exact hb.2.2
  | _ + 3 => exact hb
theorem rFrom_in {p b : Int × Int × Int} {safe : Int} (hp : in64p p) (hb : in64p b) (hs : in64 safe) (k : Nat) : in64p (rFrom p b safe k) := by
  match k with
  | 0 => exact hp
  | k + 1 => exact rPt_in hp hb hs k
theorem rMot_wf {p b : Int × Int × Int} {safe rate : Int} {m : Mot} (hp : in64p p) (hb : in64p b) (hs : in64 safe) (hr : in64 rate) (k : Nat) : (rMot p b safe rate m k).wf := by
  have h1 := rFrom_in hp hb hs k
  have h2 := rPt_in hp hb hs k
  refine ⟨h1.1, h1.2.1, h1.2.2, h2.1, h2.2.1, h2.2.2, ?_⟩
  show in64 (if k = 3 then rate else 0)
  split
  · exact hr
  · exact ⟨by decide, by decide⟩
theorem rLegs_wf {p b : Int × Int × Int} {safe rate : Int} {m : Mot} (hp : in64p p) (hb : in64p b) (hs : in64 safe) (hr : in64 rate) : ∀ k, ∀ x ∈ rLegs p b safe rate m k, x.wf
  | 0, x, hx => by simp [rLegs] at hx
  | k + 1, x, hx => by
    unfold rLegs at hx
    rcases List.mem_append.1 hx with h | h
    · exact rLegs_wf hp hb hs hr k x h
    · split at h
      · simp at h
      · simp at h; rw [h]; exact rMot_wf hp hb hs hr k
theorem rstL_wf {l : List Mot} (h : WfL l) {i : Nat} {p : Int × Int × Int} {safe : Int} (hp : in64p p) (hs : in64 safe) : WfL (rstL l i p safe) := by
  have hd : ∀ m ∈ l.drop i, m.wf := fun m hm => h.mem m (List.mem_of_mem_drop hm)
  refine WfL.of fun m hm => ?_
  unfold rstL at hm
  split at hm
  · simp at hm
  · split at hm
    · exact hd m hm
    · split at hm
      · simp at hm
      · rcases List.mem_append.1 hm with h1 | h1
        · exact rLegs_wf hp (rBeg_in h hp) hs (rRate_in h _) 4 m h1
        · exact hd m h1

theorem rstL_length (l : List Mot) (i : Nat) (p : Int × Int × Int) (safe : Int) : (rstL l i p safe).length ≤ l.length + 4 := by
  have h1 : (l.drop i).length ≤ l.length := by rw [List.length_drop]; omega
  have h2 := rLegs_len p (rBeg l i p) safe (rRate l (rCount l i)) (rLike l i) 4
  unfold rstL
  split
  · simp
  · split
    · omega
    · split
      · simp
      · rw [List.length_append]; omega

/-- A place between the ends is in range. -/
theorem btw_in {a b p n : Int} (h : 1 ≤ n) (h0 : 0 ≤ p) (h1 : p ≤ n) (ha : inG a) (hb : inG b) : inG (btw a b p n) := by
  unfold inG at *
  by_cases hab : 0 ≤ b - a
  · have e1 := btw_up a b 0 p n h hab h0
    have e2 := btw_up a b p n n h hab h1
    rw [btw_zero a b n h] at e1
    rw [btw_full a b n h] at e2
    omega
  · have e1 := btw_down a b 0 p n h (by omega) h0
    have e2 := btw_down a b p n n h (by omega) h1
    rw [btw_zero a b n h] at e1
    rw [btw_full a b n h] at e2
    omega
theorem inG_64 {x : Int} (h : inG x) : in64 x := by unfold inG at h; unfold in64; omega
theorem Ctl.Ok.at3_in {C : Ctl} (h : C.Ok) : in64p C.at3 := by
  have k := h.posOk
  unfold Ctl.at3
  split
  · exact ⟨⟨by decide, by decide⟩, ⟨by decide, by decide⟩, ⟨by decide, by decide⟩⟩
  · rename_i h0
    split
    · have := h.rng (C.idx - 1) (by omega)
      exact ⟨inG_64 this.2.1, inG_64 this.2.2.1, inG_64 this.2.2.2⟩
    · have hi : C.idx < C.ms.length := by have := k.le; omega
      have hr := k.rng hi
      have h1 := k.p0 hi; have h2 := k.p1 hi; have h3 := k.p2 hi
      exact ⟨inG_64 (btw_in h3 h1 h2 hr.1.1 hr.2.1), inG_64 (btw_in h3 h1 h2 hr.1.2.1 hr.2.2.1), inG_64 (btw_in h3 h1 h2 hr.1.2.2 hr.2.2.2)⟩

/-- What holds while a job is performed. k: how many pieces there may be; q: how many motions. -/
structure JobS.Ok (J : JobS) (k q : Nat) : Prop where
  ok : J.C.Ok
  ms : J.C.ms = J.l
  wf : WfL J.l
  ln : J.l.length ≤ q
  ps : J.ps.length + J.C.ps.length ≤ k

theorem JobS.Ok.mono {J : JobS} {k q k' q' : Nat} (h : J.Ok k q) (hk : k ≤ k') (hq : q ≤ q') : J.Ok k' q' := ⟨h.ok, h.ms, h.wf, Nat.le_trans h.ln hq, Nat.le_trans h.ps hk⟩
theorem JobS.Ok.hold {J : JobS} {k q : Nat} (h : J.Ok k q) (n t : Int) : (J.hold n t).Ok (k + 2) q := by
  refine ⟨h.ok.hold, (holdC_ms J.C).1.trans h.ms, h.wf, h.ln, ?_⟩
  have := holdC_ps J.C
  have := h.ps
  show J.ps.length + J.C.holdC.ps.length ≤ k + 2
  omega
theorem JobS.Ok.tick {J : JobS} {k q : Nat} (h : J.Ok k q) : J.tick.Ok (k + 2) q := by
  refine ⟨h.ok.tick, (tickC_ms J.C).1.trans h.ms, h.wf, h.ln, ?_⟩
  have := tickC_ps J.C
  have := h.ps
  show J.ps.length + J.C.tickC.ps.length ≤ k + 2
  omega
theorem JobS.Ok.wake {J : JobS} {k q : Nat} (h : J.Ok k q) (t : Int) : (J.wake t).Ok k q := by
  unfold JobS.wake
  split
  · exact ⟨h.ok.resume, h.ms, h.wf, h.ln, h.ps⟩
  · exact h
theorem new_ok_of {l : List Mot} {s a j : Int} (hc : chk l s a j = 0) (hw : WfL l) : (Ctl.new l s a j).Ok := new_Ok hc hw
theorem JobS.Ok.broken {J : JobS} {k q : Nat} {s a j safe : Int} (h : J.Ok k q) (hs : in64 safe) (h0 : (J.broken s a j safe).1 = 0) : (J.broken s a j safe).2.Ok (k + 2) (q + 4) := by
  unfold JobS.broken at h0 ⊢
  split
  · rename_i h1
    rw [if_pos h1] at h0
    split
    · rename_i h2
      have hw := rstL_wf h.wf (i := J.C.idx) (safe := safe) h.ok.at3_in hs
      refine ⟨new_ok_of h2 hw, rfl, hw, ?_, ?_⟩
      · have := rstL_length J.l J.C.idx J.C.at3 safe
        have := h.ln
        show (rstL J.l J.C.idx J.C.at3 safe).length ≤ q + 4
        omega
      · have e1 := doneL_len J.C.brkC
        have e2 := brkC_ps J.C
        have := h.ps
        show (J.ps ++ J.C.brkC.doneL).length + 0 ≤ k + 2
        rw [List.length_append]
        omega
    · rename_i h2
      rw [if_neg h2] at h0
      exact absurd h0 h2
  · rename_i h1
    rw [if_neg h1] at h0
    exact absurd h0 h1
theorem JobS.Ok.new {l : List Mot} {s a j : Int} (hc : chk l s a j = 0) (hw : WfL l) : (JobS.new l s a j).Ok 0 l.length := ⟨new_ok_of hc hw, rfl, hw, Nat.le_refl _, Nat.le_refl _⟩

end Go.Proofs.YtjibcnnbclcboaaDoor

namespace Go.Proofs.YtjibcnnbclcboaaDoor
open Go.RowKit

/-- Pieces that lead from a place to another one, none without length. -/
def Chain (p : Int × Int × Int) : List Mot → Int × Int × Int → Prop
  | [], q => p = q
  | m :: r, q => m.f3 = p ∧ m.f3 ≠ m.t3 ∧ Chain m.t3 r q

theorem Chain.append : ∀ {a : List Mot} {p q r : Int × Int × Int} {b : List Mot}, Chain p a q → Chain q b r → Chain p (a ++ b) r
  | [], p, q, r, b, h, k => by have : p = q := h; rw [this]; exact k
  | m :: a, p, q, r, b, h, k => ⟨h.1, h.2.1, Chain.append (a := a) h.2.2 k⟩
theorem Chain.one {m : Mot} (h : m.f3 ≠ m.t3) : Chain m.f3 [m] m.t3 := ⟨rfl, h, rfl⟩
theorem Chain.snoc {a : List Mot} {p q : Int × Int × Int} {m : Mot} (h : Chain p a q) (hm : m.f3 = q) (hn : m.f3 ≠ m.t3) : Chain p (a ++ [m]) m.t3 := h.append (by rw [← hm]; exact Chain.one hn)
theorem way_f3 (m : Mot) (a b : Int × Int × Int) : (m.way a b).f3 = a := rfl
theorem way_t3 (m : Mot) (a b : Int × Int × Int) : (m.way a b).t3 = b := rfl

theorem eq3_ne {a b : Int × Int × Int} (h : ¬ eq3 a b = true) : a ≠ b := fun e => h (eq3_iff.2 e)

theorem stopd_chain {C : Ctl} {p : Int × Int × Int} (h : Chain p C.ps C.last3) : Chain p C.stopd.ps C.stopd.last3 := by
  show Chain p C.psAdd C.at3
  unfold Ctl.psAdd
  split
  · rename_i e; rw [← eq3_iff.1 e]; exact h
  · rename_i e
    exact h.snoc (m := C.cur.way C.last3 C.at3) rfl (by rw [way_f3, way_t3]; exact eq3_ne e)
theorem advd_chain {C : Ctl} {p : Int × Int × Int} (h : Chain p C.ps C.last3) : Chain p C.advd.ps C.advd.last3 := by
  unfold Ctl.advd
  split
  · exact stopd_chain (C := { C with part := C.part + C.plan.getD C.pos 0, pos := C.pos + 1 }) h
  · exact h
theorem tick_chain {C : Ctl} {p : Int × Int × Int} (h : Chain p C.ps C.last3) : Chain p C.tickC.ps C.tickC.last3 := by
  unfold Ctl.tickC
  split
  · split
    · exact advd_chain (C := { C with plan := C.steps, pos := 0, br := false }) h
    · exact advd_chain h
  · exact h
theorem hold_chain {C : Ctl} {p : Int × Int × Int} (h : Chain p C.ps C.last3) : Chain p C.holdC.ps C.holdC.last3 := by
  unfold Ctl.holdC
  split
  · exact h
  · split
    · exact h
    · split
      · split
        · exact stopd_chain (C := { C with hd := true, plan := [], pos := 0, br := true }) h
        · exact h
      · exact h
theorem brk_chain {C : Ctl} {p : Int × Int × Int} (h : Chain p C.ps C.last3) (hb : C.bk = false) (hi : C.idx < C.ms.length) : Chain p C.brkC.doneL C.at3 := by
  have e : C.brkC.doneL = C.psAll := by
    have e2 : C.brkC = { C with ps := C.psAll, lx := C.at3.1, ly := C.at3.2.1, lz := C.at3.2.2, plan := [], pos := 0, br := false, hd := false, bk := true } := by unfold Ctl.brkC; rw [if_neg (show ¬ C.bk = true by rw [hb]; decide)]
    rw [e2]
    unfold Ctl.doneL
    rw [if_neg (fun h => h.2 rfl)]
  rw [e]
  unfold Ctl.psAll Ctl.pieceB Ctl.pieceM
  rw [decide_eq_true hi, if_pos hi]
  by_cases he : eq3 C.last3 C.at3 = true
  · rw [he]; rw [← eq3_iff.1 he]; simpa using h
  · have e2 : eq3 C.last3 C.at3 = false := by simpa using he
    rw [e2]
    simp only [Bool.not_false, Bool.and_true, if_true]
    exact h.snoc (m := C.cur.way C.last3 C.at3) rfl (by rw [way_f3, way_t3]; exact eq3_ne he)

/-- The end of the motions. -/
def endOf (l : List Mot) : Int × Int × Int := (l.getD (l.length - 1) Mot.zero).t3

/-- Behind motions without length one stands at the end. -/
theorem conn_end {l : List Mot} (hc : Conn l) (hr : ∀ i, i < l.length → (l.getD i Mot.zero).rng) {i : Nat} (hi : i < l.length) : (∀ k, i < k → k < l.length → (l.getD k Mot.zero).len = 0) → (l.getD i Mot.zero).t3 = endOf l := fun hz => by
  unfold endOf
  have key : ∀ j, i ≤ j → j < l.length → (l.getD i Mot.zero).t3 = (l.getD j Mot.zero).t3 := by
    intro j
    induction j with
    | zero => intro h _; have : i = 0 := by omega
              subst this; rfl
    | succ j ih =>
      intro h hj
      rcases Nat.lt_or_ge i (j + 1) with h1 | h1
      · rw [ih (by omega) (by omega), hc j hj]
        exact Mot.flat (hr _ hj) (hz _ h1 hj)
      · have : i = j + 1 := by omega
        subst this; rfl
  exact key _ (by omega) (by omega)

/-- At the end of all motions the last piece ends where they end. -/
structure Ctl.Fin (C : Ctl) : Prop where
  cn : Conn C.ms
  fin : C.idx = C.ms.length → 0 < C.ms.length → C.last3 = endOf C.ms

theorem stopd_fin {C : Ctl} (hb : C.Base) (cn : Conn C.ms) (hi : C.idx < C.ms.length) (p2 : 1 ≤ C.cur.len) : C.stopd.Fin := by
  refine ⟨cn, fun he _ => ?_⟩
  have hms : C.stopd.ms = C.ms := rfl
  have hst : C.stopd.last3 = C.at3 := rfl
  by_cases h0 : C.cur.len - C.part = 0
  · have e1 : C.stopd.idx = skp C.ms (C.idx + 1) := by unfold Ctl.stopd; simp only; rw [if_pos h0]
    have hfull : C.at3 = C.cur.t3 := by rw [at3_cur hi, show C.part = C.cur.len by omega]; exact Mot.pos_full p2
    rw [e1, hms] at he
    rw [hst, hfull, hms]
    exact conn_end cn hb.rng hi (fun k hk hl => skp_between (i := C.idx + 1) (by omega) (by rw [he]; exact hl))
  · have e1 : C.stopd.idx = C.idx := by unfold Ctl.stopd; simp only; rw [if_neg h0]
    rw [e1, hms] at he
    omega
theorem advd_fin {C : Ctl} (hp : C.Pre) (cn : Conn C.ms) : C.advd.Fin := by
  have hs := sum_drop hp.run
  have hg := getD_pos hp.pos hp.run
  have hd0 := sum_nonneg' (drop_pos hp.pos (C.pos + 1))
  have h1 := hp.sum
  have h2 := hp.p0
  unfold Ctl.advd
  split
  · refine stopd_fin ⟨hp.vl, hp.n, hp.rng, hp.rate, hp.stp⟩ cn hp.lt ?_
    show 1 ≤ C.cur.len; omega
  · refine ⟨cn, fun he _ => ?_⟩
    have := hp.lt
    have he : C.idx = C.ms.length := he
    omega
theorem tick_fin {C : Ctl} (ho : C.Ok) (h : C.Fin) : C.tickC.Fin := by
  unfold Ctl.tickC
  split
  · rename_i ht
    have hi : C.idx < C.ms.length := by
      unfold Ctl.tickB at ht
      simp only [Bool.and_eq_true, decide_eq_true_eq] at ht
      exact ht.1.2
    split
    · exact advd_fin (ho.pre_start hi) h.cn
    · rename_i hp; exact advd_fin (ho.pre_run hp) h.cn
  · exact h
theorem hold_keep {C : Ctl} (ho : C.Ok) (hi : C.idx < C.ms.length) : C.holdC.idx = C.idx := by
  unfold Ctl.holdC
  split
  · rfl
  · split
    · rfl
    · split
      · split
        · have q1 := ho.p1 hi
          show (if C.cur.len - C.part = 0 then skp C.ms (C.idx + 1) else C.idx) = C.idx
          rw [if_neg (by omega)]
        · rfl
      · rfl
theorem new_fin {l : List Mot} {s a j : Int} (hc : Conn l) (hr : ∀ i, i < l.length → (l.getD i Mot.zero).rng) : (Ctl.new l s a j).Fin := by
  refine ⟨hc, fun he hp => ?_⟩
  have he : skp l 0 = l.length := he
  have hp : 0 < l.length := hp
  have h0 : (l.getD 0 Mot.zero).len = 0 := skp_between (i := 0) (Nat.le_refl _) (by rw [he]; exact hp)
  show (l.getD 0 Mot.zero).f3 = endOf l
  rw [Mot.flat (hr 0 hp) h0]
  exact conn_end hc hr hp (fun k hk hl => skp_between (i := 0) (by omega) (by rw [he]; exact hl))

/-- The way back leads from the place to the beginning. -/
theorem rLegs_chain (p b : Int × Int × Int) (safe rate : Int) (m : Mot) : ∀ k, Chain p (rLegs p b safe rate m k) (rFrom p b safe k)
  | 0 => rfl
  | k + 1 => by
    have ih := rLegs_chain p b safe rate m k
    have e : rFrom p b safe (k + 1) = rPt p b safe k := rfl
    rw [e]
    unfold rLegs
    split
    · rename_i h
      rw [List.append_nil, ← eq3_iff.1 h]
      exact ih
    · rename_i h
      exact ih.snoc (m := rMot p b safe rate m k) rfl (eq3_ne h)
theorem getD_right (a b : List Mot) (i : Nat) (h : a.length ≤ i) : (a ++ b).getD i Mot.zero = b.getD (i - a.length) Mot.zero := by
  simp [List.getD, List.getElem?_append_right h]
theorem getD_append_last {a b : List Mot} (h : 0 < b.length) : endOf (a ++ b) = endOf b := by
  unfold endOf
  congr 1
  rw [List.length_append, getD_right _ _ _ (by omega)]
  congr 1
  omega
theorem endOf_drop {l : List Mot} {i : Nat} (h : i < l.length) : endOf (l.drop i) = endOf l := by
  unfold endOf
  rw [drop_getD, List.length_drop]
  congr 2
  omega

/-- Where the motions begin and end behind a breakage. -/
theorem rst_ends {l : List Mot} {i : Nat} {p : Int × Int × Int} {safe : Int} (hi : i < l.length) (h0 : rstE l i p safe = 0) :
    0 < (rstL l i p safe).length ∧ ((rstL l i p safe).getD 0 Mot.zero).f3 = p ∧ endOf (rstL l i p safe) = endOf l ∧ (∀ k, k < (l.drop i).length → ∃ k', k' < (rstL l i p safe).length ∧ (rstL l i p safe).getD k' Mot.zero = (l.drop i).getD k Mot.zero) := by
  have hl : 0 < (l.drop i).length := by rw [List.length_drop]; omega
  have hb : rBeg l i p = (l.getD i Mot.zero).f3 := by unfold rBeg; rw [if_pos hi]
  unfold rstE at h0
  unfold rstL
  split
  · rename_i h; rw [if_pos h] at h0; cases h0
  · rename_i h
    rw [if_neg h] at h0
    split
    · rename_i h1
      refine ⟨hl, ?_, endOf_drop hi, fun k hk => ⟨k, hk, rfl⟩⟩
      rw [drop_getD, Nat.add_zero, ← hb]
      exact (eq3_iff.1 h1).symm
    · rename_i h1
      rw [if_neg h1] at h0
      split
      · rename_i h2; rw [if_pos h2] at h0; cases h0
      · have hch := rLegs_chain p (rBeg l i p) safe (rRate l (rCount l i)) (rLike l i) 4
        have e4 : rFrom p (rBeg l i p) safe 4 = rBeg l i p := rfl
        rw [e4] at hch
        generalize rLegs p (rBeg l i p) safe (rRate l (rCount l i)) (rLike l i) 4 = L at *
        cases L with
        | nil => exact absurd (eq3_iff.2 hch) h1
        | cons x r =>
          refine ⟨by simp, hch.1, ?_, fun k hk => ⟨(x :: r).length + k, by rw [List.length_append]; omega, ?_⟩⟩
          · rw [getD_append_last hl, endOf_drop hi]
          · rw [getD_right _ _ _ (by omega)]
            congr 1
            omega

/-- What holds while a job is performed, and is not done. -/
structure JobS.Led (J : JobS) (p0 pe : Int × Int × Int) : Prop where
  bk : J.C.bk = false
  ms : J.C.ms = J.l
  ne : 0 < J.l.length
  en : endOf J.l = pe
  fin : J.C.Fin
  ch : ∃ q, Chain p0 J.ps q ∧ Chain q J.C.ps J.C.last3

theorem JobS.Led.wake {J : JobS} {p0 pe : Int × Int × Int} (h : J.Led p0 pe) (t : Int) : (J.wake t).Led p0 pe := by
  unfold JobS.wake
  split
  · exact ⟨h.bk, h.ms, h.ne, h.en, ⟨h.fin.cn, h.fin.fin⟩, h.ch⟩
  · exact h
theorem JobS.Led.tick {J : JobS} {p0 pe : Int × Int × Int} (h : J.Led p0 pe) (ho : J.C.Ok) : J.tick.Led p0 pe := by
  obtain ⟨q, h1, h2⟩ := h.ch
  exact ⟨(tickC_ms J.C).2.1.trans h.bk, (tickC_ms J.C).1.trans h.ms, h.ne, h.en, tick_fin ho h.fin, q, h1, tick_chain h2⟩
theorem JobS.Led.hold {J : JobS} {p0 pe : Int × Int × Int} (h : J.Led p0 pe) (ho : J.C.Ok) (hi : J.C.idx < J.C.ms.length) (n t : Int) : (J.hold n t).Led p0 pe := by
  obtain ⟨q, h1, h2⟩ := h.ch
  refine ⟨(holdC_ms J.C).2.trans h.bk, (holdC_ms J.C).1.trans h.ms, h.ne, h.en, ⟨?_, fun he => ?_⟩, q, h1, hold_chain h2⟩
  · show Conn J.C.holdC.ms
    rw [(holdC_ms J.C).1]; exact h.fin.cn
  · have he : J.C.holdC.idx = J.C.holdC.ms.length := he
    rw [hold_keep ho hi, (holdC_ms J.C).1] at he
    omega
theorem skp_lt {l : List Mot} {k : Nat} (hk : k < l.length) (h : (l.getD k Mot.zero).len ≠ 0) : skp l 0 < l.length := by
  have hs := skp_le (ms := l) (i := 0) (by omega)
  rcases Nat.lt_or_ge (skp l 0) l.length with h1 | h1
  · exact h1
  · exact absurd (skp_between (i := 0) (Nat.zero_le k) (by omega)) h

theorem JobS.Led.broken {J : JobS} {p0 pe : Int × Int × Int} {s a j safe : Int} (h : J.Led p0 pe) (ho : J.C.Ok) (hi : J.C.idx < J.C.ms.length) (h0 : (J.broken s a j safe).1 = 0) :
    (J.broken s a j safe).2.Led p0 pe ∧ (J.broken s a j safe).2.C.idx < (J.broken s a j safe).2.C.ms.length := by
  have hil : J.C.idx < J.l.length := by rw [← h.ms]; exact hi
  have hcl : 1 ≤ J.C.cur.len := by have := ho.p0 hi; have := ho.p1 hi; omega
  unfold JobS.broken at h0 ⊢
  by_cases h1 : rstE J.l J.C.idx J.C.at3 safe = 0
  · rw [if_pos h1] at h0 ⊢
    by_cases h2 : chk (rstL J.l J.C.idx J.C.at3 safe) s a j = 0
    · rw [if_pos h2]
      obtain ⟨r1, r2, r3, r4⟩ := rst_ends hil h1
      obtain ⟨c1, c2, c3⟩ := chk_zero h2
      have hcn := conn_of c2
      have hrg : ∀ i, i < (rstL J.l J.C.idx J.C.at3 safe).length → ((rstL J.l J.C.idx J.C.at3 safe).getD i Mot.zero).rng := fun i hi => rngTo_at (conn_zero c2).2.1 i hi
      obtain ⟨q, e1, e2⟩ := h.ch
      refine ⟨⟨rfl, rfl, r1, r3.trans h.en, new_fin hcn hrg, J.C.at3, e1.append (brk_chain e2 h.bk hi), ?_⟩, ?_⟩
      · show J.C.at3 = (_, _, _)
        exact r2.symm
      · obtain ⟨k', hk', e⟩ := r4 0 (by rw [List.length_drop]; omega)
        rw [drop_getD, Nat.add_zero] at e
        refine skp_lt hk' ?_
        rw [e]
        have hcu : J.C.cur = J.l.getD J.C.idx Mot.zero := by unfold Ctl.cur; rw [h.ms]
        rw [hcu] at hcl
        omega
    · rw [if_neg h2] at h0; exact absurd h0 h2
  · rw [if_neg h1] at h0; exact absurd h0 h1

theorem evs_led {s a j safe t : Int} (hs : in64 safe) {p0 pe : Int × Int × Int} : ∀ (es : List (Int × Int)) (J : JobS) (k q : Nat), J.Ok k q → J.Led p0 pe → J.C.idx < J.C.ms.length → (JobS.evs s a j safe t es J).1 = 0 →
    (JobS.evs s a j safe t es J).2.1.Led p0 pe ∧ (JobS.evs s a j safe t es J).2.1.C.Ok ∧ ∃ k' q', (JobS.evs s a j safe t es J).2.1.Ok k' q'
  | [], J, k, q, ho, h, hi, h0 => ⟨h, ho.ok, k, q, ho⟩
  | e :: r, J, k, q, ho, h, hi, h0 => by
    unfold JobS.evs at h0 ⊢
    by_cases h1 : e.1 ≤ t
    · rw [if_pos h1] at h0 ⊢
      by_cases h2 : e.2 = 0
      · rw [if_pos h2] at h0 ⊢
        by_cases h3 : (J.broken s a j safe).1 = 0
        · rw [if_pos h3] at h0 ⊢
          obtain ⟨b1, b2⟩ := h.broken ho.ok hi h3
          exact evs_led hs r _ _ _ (ho.broken hs h3) b1 b2 h0
        · rw [if_neg h3] at h0; exact absurd h0 h3
      · rw [if_neg h2] at h0 ⊢
        refine evs_led hs r _ _ _ (ho.hold e.2 t) (h.hold ho.ok hi e.2 t) ?_ h0
        show J.C.holdC.idx < J.C.holdC.ms.length
        rw [hold_keep ho.ok hi, (holdC_ms J.C).1]; exact hi
    · rw [if_neg h1]
      exact ⟨h, ho.ok, k, q, ho⟩

theorem done_out {J : JobS} {p0 pe : Int × Int × Int} (h : J.Led p0 pe) (hd : J.doneB = true) : Chain p0 J.out pe := by
  have he : J.C.idx = J.C.ms.length := by rw [h.ms]; exact of_decide_eq_true hd
  obtain ⟨q, h1, h2⟩ := h.ch
  have hdl : J.C.doneL = J.C.ps := by
    unfold Ctl.doneL Ctl.pieceB
    rw [decide_eq_false (by omega)]
    simp
  unfold JobS.out
  rw [hdl]
  have hf := h.fin.fin he (by rw [h.ms]; exact h.ne)
  rw [h.ms, h.en] at hf
  rw [← hf]
  exact h1.append h2

theorem run_led {s a j safe : Int} (hs : in64 safe) {p0 pe : Int × Int × Int} : ∀ (f : Nat) (t : Int) (J : JobS) (es : List (Int × Int)) (k q : Nat), J.Ok k q → J.Led p0 pe → (JobS.run s a j safe f t J es).1 = 0 → Chain p0 (JobS.run s a j safe f t J es).2 pe
  | 0, t, J, es, k, q, ho, h, h0 => by
    unfold JobS.run at h0 ⊢
    by_cases hd : J.doneB = true
    · rw [if_pos hd]; exact done_out h hd
    · rw [if_neg hd] at h0; cases h0
  | f + 1, t, J, es, k, q, ho, h, h0 => by
    unfold JobS.run at h0 ⊢
    by_cases hd : J.doneB = true
    · rw [if_pos hd]; exact done_out h hd
    · rw [if_neg hd] at h0 ⊢
      by_cases h1 : (JobS.evs s a j safe t es (J.wake t)).1 = 0
      · rw [if_pos h1] at h0 ⊢
        have hi : (J.wake t).C.idx < (J.wake t).C.ms.length := by
          have hw := h.wake t
          have hnd : J.C.idx ≠ J.l.length := fun e => hd (decide_eq_true e)
          have hle := ho.ok.le
          have e1 : (J.wake t).C.idx = J.C.idx := by unfold JobS.wake; split <;> rfl
          have e2 : (J.wake t).C.ms = J.C.ms := by unfold JobS.wake; split <;> rfl
          rw [e1, e2, h.ms]
          rw [h.ms] at hle
          omega
        obtain ⟨l1, l2, k', q', l3⟩ := evs_led hs es (J.wake t) k q (ho.wake t) (h.wake t) hi h1
        by_cases h2 : (JobS.evs s a j safe t es (J.wake t)).2.1.doneB = true
        · rw [if_pos h2]; exact done_out l1 h2
        · rw [if_neg h2] at h0 ⊢
          exact run_led hs f (t + 1) _ _ _ _ l3.tick (l1.tick l2) h0
      · rw [if_neg h1] at h0; exact absurd h0 h1

/-- The pieces of a job that goes well lead from the beginning of its motions to their end. -/
theorem dist_chain {l : List Mot} {s a j safe : Int} {es : List (Int × Int)} (hw : WfL l) (hs : in64 safe) (hn : 0 < l.length) (h0 : (dist l s a j safe es).1 = 0) : Chain (l.getD 0 Mot.zero).f3 (dist l s a j safe es).2 (endOf l) := by
  unfold dist at h0 ⊢
  by_cases hc : chk l s a j = 0
  · rw [if_pos hc] at h0 ⊢
    obtain ⟨c1, c2, c3⟩ := chk_zero hc
    exact run_led hs _ _ _ _ _ _ (JobS.Ok.new hc hw) ⟨rfl, rfl, hn, rfl, new_fin (conn_of c2) (fun i hi => rngTo_at (conn_zero c2).2.1 i hi), _, rfl, rfl⟩ h0
  · rw [if_neg hc] at h0; exact absurd h0 hc

end Go.Proofs.YtjibcnnbclcboaaDoor
