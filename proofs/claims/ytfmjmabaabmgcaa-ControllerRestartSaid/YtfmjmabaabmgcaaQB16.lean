/-
  Walks: pieces of the law's model.
  Walks: stopAt of the law's model.
  Plain laws: the controller and the law's model keep in step.
  The controller and the law's model side by side in memory.
  Walks: same of the law.
-/
import Derived.Test.YtfmjmabaabmgcaaQB15
import Derived.Test.YtfmjmabaabmgcaaQB14
namespace Go.Proofs.Ytfmjmabaabmgcaa
open Go.RowKit
set_option maxRecDepth 8000

/-- The worlds in which the model stands as it stood. -/
def GC (W : World) (N : Nat) (vl vp vd : Value) (C : Mdl) : Type := { w' : World // GBox w' N vl vp vd C ∧ Only (fun k => k = N) W w' }
def GC.w {W : World} {N : Nat} {vl vp vd : Value} {C : Mdl} (x : GC W N vl vp vd C) : World := x.1
theorem GC.box {W : World} {N : Nat} {vl vp vd : Value} {C : Mdl} (x : GC W N vl vp vd C) : GBox x.w N vl vp vd C := x.2.1
theorem GC.only {W : World} {N : Nat} {vl vp vd : Value} {C : Mdl} (x : GC W N vl vp vd C) : Only (fun k => k = N) W x.w := x.2.2
theorem GC.cell {W : World} {N : Nat} {vl vp vd : Value} {C : Mdl} {p : Addr} {v : Value} (h : W.cell? p = some v) (hd : p.block ≠ N) : ∀ x : GC W N vl vp vd C, x.w.cell? p = some v := fun x => by
  have hp : p.block < W.heap.size := by
    unfold World.cell? at h
    rcases Nat.lt_or_ge p.block W.heap.size with h' | h'
    · exact h'
    · rw [Array.getElem?_eq_none h'] at h; cases h
  rw [x.only.cell hp hd]; exact h

/-- The pieces up to the present position. -/
def Mdl.piecesL (C : Mdl) : List Mot := if C.plan = [] then C.dn else C.pcs C.cur

set_option maxHeartbeats 4000000 in
theorem mpieces_any {w : World} {N : Nat} {vl vp vd : Value} {C : Mdl} (h : GInv w N vl vp vd C) (k : C.posOk) (hd : C.dn.length ≤ 999999998) (hi : C.plan ≠ [] → C.idx < C.ms.length) :
    Calls Try.prog 62 #[.pointer (some ⟨N, 0, none⟩)] w (PiecePost w N vl vp vd C C.piecesL) := by
  have HH := Lib.hid h
  have HK := Lib.hid k; clear k
  have hN := h.box.lt
  have hP : C.piecesL = if C.plan = [] then C.dn else C.pcs C.cur := rfl
  by_cases hpl : C.plan = []
  · rw [if_pos hpl] at hP
    have HP := Lib.hid hP
    have kr := mrest_any h.box h.sp true (by simp [hpl])
    clear hP hi h
    obtain ⟨ad, nd0, cd, bd, od, hvd, -⟩ := HH.out.sd
    have HVD := Lib.hid hvd; clear hvd
    generalize C.piecesL = L at *
    have HPL := Lib.hid hpl; clear hpl
    go_enter Try.func62, Try.ntmps62
    go_wp2_with fail
    refine kr.mono ?_
    rintro e w2 ⟨rfl, hx2⟩
    clear kr
    have hI2 := HH.out.later hx2
    have c16 := hI2.box.c16
    rw [HVD.out] at c16
    have HI2 := Lib.hid hI2
    clear hI2
    go_wp2
    go_ret
    exact ⟨_, rfl, by rw [HP.out, ← HVD.out]; exact HI2.out.sd, HI2.out.box, Only.of_ext hx2, fun b hb => .inl (by rw [HVD.out]; exact hb)⟩
  · rw [if_neg hpl] at hP
    have HP := Lib.hid hP
    have kr := mrest_any h.box h.sp false (by simp [hpl])
    have hi := hi hpl
    clear hP hpl
    go_enter Try.func62, Try.ntmps62
    go_wp2_with fail
    refine kr.mono ?_
    rintro e w2 ⟨rfl, hx2⟩
    clear kr h
    have hI2 := HH.out.later hx2
    obtain ⟨ad, n, cap, b, off, hv, hn, h3, -, h4⟩ := hI2.sl
    obtain ⟨hb1, hb2⟩ := h4 C.idx (by omega)
    obtain rfl : ad = some ⟨b, off, none⟩ := h3.resolve_left (by omega)
    have hi2 : C.idx < n := by omega
    have hbN : b ≠ N := fun e => HH.out.nl (by omega) (by rw [hv, e]; rfl)
    clear h3 h4 hn
    have c0 : ∀ y : GC w2 N vl vp vd C, y.w.cell? ⟨N, 0, none⟩ = some (.slice (some ⟨b, off, none⟩) n cap) := fun y => by rw [← hv]; exact y.box.c0
    have c4 : ∀ y : GC w2 N vl vp vd C, y.w.cell? ⟨N, 4, none⟩ = some (.int .i64 ((C.idx : Nat) : Int)) := fun y => y.box.c4
    have hcur : C.ms.getD C.idx Mot.zero = C.cur := rfl
    rw [hcur] at hb2
    clear hcur
    generalize hcr : C.cur = cr at *
    have HCR := Lib.hid hcr; clear hcr
    have g0 := GC.cell (vl := vl) (vp := vp) (vd := vd) (C := C) hb2.c0 hbN; have g1 := GC.cell (vl := vl) (vp := vp) (vd := vd) (C := C) hb2.c1 hbN; have g2 := GC.cell (vl := vl) (vp := vp) (vd := vd) (C := C) hb2.c2 hbN; have g3 := GC.cell (vl := vl) (vp := vp) (vd := vd) (C := C) hb2.c3 hbN; have g4 := GC.cell (vl := vl) (vp := vp) (vd := vd) (C := C) hb2.c4 hbN; have g5 := GC.cell (vl := vl) (vp := vp) (vd := vd) (C := C) hb2.c5 hbN; have g6 := GC.cell (vl := vl) (vp := vp) (vd := vd) (C := C) hb2.c6 hbN; have g7 := GC.cell (vl := vl) (vp := vp) (vd := vd) (C := C) hb2.c7 hbN; have g8 := GC.cell (vl := vl) (vp := vp) (vd := vd) (C := C) hb2.c8 hbN
    haveI : Nonempty (GC w2 N vl vp vd C) := ⟨⟨w2, hI2.box, Only.refl _ _⟩⟩
    have HI2 := Lib.hid hI2
    have HV := Lib.hid hv
    clear hI2 hv hb2
    go_wp2_with fail
    refine wp_region_tree (fun w' => ∃ y : GC w2 N vl vp vd C, w' = y.w) 13 (.one [0, 1, 2, 3, 4, 5, 6, 7, 8, 9, 10] 11 (.leaf [12])) (by kernel_rfl) (by kernel_rfl) (by kernel_rfl) ⟨⟨w2.drew, HI2.out.box.later (Ext.refl w2).drew, (Only.refl _ w2).drew⟩, rfl⟩ ?_
    simp only [List.take_succ_cons, List.take_zero]
    refine tree_one fun K hK => ?_
    simp only [List.map_cons, List.map_nil, pickOp, List.getElem?_cons_zero, List.getElem?_cons_succ, Option.getD_some]
    repeat (go_big_quiet_step (fail))
    refine wpQuiet_nil ?_
    have k1 := mpiece_any cr (HI2.out.later (Ext.refl w2).drew) HK.out hd
    have K1 := Lib.hid k1; clear k1
    go_wp2_with ((go_at_call 67; with_reducible refine K1.out.mono ?_); rintro e w3 ⟨v3, rfl, hs3, hG3, hO3, hl3⟩)
    have hO3' : Only (fun k => k = N) w2 w3 := (Only.refl _ w2).drew.trans hO3
    refine onlyK_normal (hK _ _ ⟨⟨w3, hG3, hO3'⟩, rfl⟩ ?_); clear hK K
    refine tree_leaf ?_
    simp only [List.map_cons, List.map_nil, pickOp, List.getElem?_cons_zero, List.getElem?_cons_succ, Option.getD_some, List.drop_succ_cons, List.drop_zero]
    repeat (go_big_quiet_step (fail))
    refine wpQuiet_nil ?_
    clear c0 c4 g0 g1 g2 g3 g4 g5 g6 g7 g8
    have FSl := Lib.hid hs3; have FG := Lib.hid hG3
    have hO4 := (Only.of_ext (D := fun k => k = N) hx2).trans hO3'
    have hsz : w.heap.size ≤ w2.drew.heap.size := by have := hx2.size; simpa using this
    clear hs3 hG3
    go_wp2
    go_ret
    exact ⟨v3, rfl, by rw [HP.out]; exact FSl.out, FG.out, hO4, fun b hb => (hl3 b hb).imp id (fun h => ⟨Nat.le_trans hsz h.1, h.2⟩)⟩

end Go.Proofs.Ytfmjmabaabmgcaa

namespace Go.Proofs.Ytfmjmabaabmgcaa
open Go.RowKit
set_option maxRecDepth 8000

/-- A piece ends at the end of a motion. -/
def Mdl.stopAtM (C : Mdl) (m : Mot) : Mdl :=
  { C with dn := if eq3 C.beg3 (m.tx, m.ty, m.tz) = true then C.dn else C.dn ++ [m.way C.beg3 (m.tx, m.ty, m.tz)], bx := m.tx, byy := m.ty, bz := m.tz }

set_option maxHeartbeats 4000000 in
theorem mstopAt_any {w : World} {N : Nat} {vl vp vd : Value} {C : Mdl} (m : Mot) (h : GInv w N vl vp vd C) (hd : C.dn.length ≤ 999999998) :
    Calls Try.prog 52 #[.pointer (some ⟨N, 0, none⟩), Mv m] w (MRet w N vl vp vd (C.stopAtM m) (.tuple #[])) := by
  have HH := Lib.hid h
  have hN := h.box.lt
  clear h
  have hP : C.stopAtM m = { C with dn := if eq3 C.beg3 (m.tx, m.ty, m.tz) = true then C.dn else C.dn ++ [m.way C.beg3 (m.tx, m.ty, m.tz)], bx := m.tx, byy := m.ty, bz := m.tz } := rfl
  unfold Mdl.beg3 at hP
  have HEQ : eq3 (C.bx, C.byy, C.bz) (m.tx, m.ty, m.tz) = eqP C.bx C.byy C.bz m.tx m.ty m.tz := rfl
  rw [HEQ] at hP
  clear HEQ
  have hne := fun w => Try.neq_pos C.bx C.byy C.bz m.tx m.ty m.tz w
  generalize C.stopAtM m = R at *
  generalize eqP C.bx C.byy C.bz m.tx m.ty m.tz = bv at *
  have HP := Lib.hid hP
  clear hP
  obtain ⟨ad, nd0, cd, bd, od, hvd, -⟩ := HH.out.sd
  go_enter Try.func52, Try.ntmps52
  go_wp2_with fail
  obtain ⟨W3, hW3, B3', hE3⟩ := M9Box.mk' w m
  rw [hW3]; clear hW3
  have hG3 := HH.out.box.later hE3; have hsd3 := HH.out.sd.later hE3
  have hO3 : Only (fun k => k = N) w W3 := Only.of_ext hE3
  have HSL := Lib.hid (HH.out.sl.later hE3); have HSP := Lib.hid (HH.out.sp.later hE3)
  have hNW : N < W3.heap.size := hG3.lt
  have g0 := Later.cell hG3.c13; have g1 := Later.cell hG3.c14; have g2 := Later.cell hG3.c15; have g16 := Later.cell hG3.c16
  rw [hvd] at g16
  have m0 := Later.cell B3'.c0; have m1 := Later.cell B3'.c1; have m2 := Later.cell B3'.c2; have m3 := Later.cell B3'.c3; have m4 := Later.cell B3'.c4; have m5 := Later.cell B3'.c5; have m6 := Later.cell B3'.c6; have m7 := Later.cell B3'.c7; have m8 := Later.cell B3'.c8
  refine wp_region_later (by kernel_rfl) (by kernel_rfl) ?_
  repeat (go_big_quiet_step (fail))
  refine wpQuiet_nil ?_
  rintro _ ⟨x, rfl⟩
  cases bv
  · have HG3 := Lib.hid hG3; have HS3 := Lib.hid hsd3
    clear hG3 hsd3 hE3
    go_wp2_with fail
    refine wp_region_tree (fun w' => ∃ y : Later W3, w' = y.w) 22 (.two [0, 2, 3, 4, 5, 7, 8, 9, 10, 11, 12, 13, 14, 15, 16, 17, 18, 19] 1 20 (.two [] 6 20 (.one [] 20 (.one [] 21 (.leaf []))) (.one [] 6 (.one [] 21 (.leaf [])))) (.one [] 1 (.one [] 6 (.one [] 21 (.leaf []))))) (by kernel_rfl) (by kernel_rfl) (by kernel_rfl) ⟨⟨_, x.ext.drew⟩, rfl⟩ ?_
    simp only [List.take_succ_cons, List.take_zero]
    refine tree_two fun K1 K2 hK1 hK2 => ?_
    simp only [List.map_cons, List.map_nil, pickOp, List.getElem?_cons_zero, List.getElem?_cons_succ, Option.getD_some]
    repeat (go_big_quiet_step (fail))
    have hV : Ext W3 x.w.drew := x.ext.drew
    clear g0 g1 g2 g16 m0 m1 m2 m3 m4 m5 m6 m7 m8
    generalize x.w.drew = V at *
    clear x
    refine wpQuiet_nil ⟨?_, ?_⟩
    · clear hK2 K2
      go_wp2_with fail
      obtain ⟨V1, hV1⟩ : ∃ V1 : World, V.alloc (.cells #[] 38) = V1 := ⟨_, rfl⟩
      have eV1 : Ext V V1 := by rw [← hV1]; exact (Ext.refl V).alloc _
      have hbE : V.heap.size < V1.heap.size := by rw [← hV1]; simp
      have own : OwnM W3.heap.size V1 (.slice (some ⟨V.heap.size, 0, none⟩) 0 0) [] := by rw [← hV1]; exact OwnM.empty _ _ hV.size
      rw [hV1]; clear hV1
      have hV1 := hV.trans eV1
      generalize V.heap.size = bE at *
      refine onlyK_normal (hK1 _ _ ⟨⟨_, hV1⟩, rfl⟩ ?_); clear hK1 K1
      refine tree_two0 fun K1 K2 hK1 hK2 => ?_
      simp only [pickOp, List.getElem?_cons_zero, List.getElem?_cons_succ, Option.getD_some]
      refine ⟨?_, ?_⟩
      · clear hK2 K2
        have OW := Lib.hid own; clear own
        have DN := Lib.hid (HS3.out.later hV1)
        have LE : Hid (([] : List Mot).length + C.dn.length ≤ 1000000000) := Lib.hid (by simp; omega)
        have BA := Lib.hid hV1.size
        rw [hvd] at DN
        go_wp2_with ((at_builtin; refine appM_at rfl _ _ rfl W3.heap.size _ _ [] C.dn rfl rfl OW.out DN.out LE.out BA.out ?_; intro v23 V2 own gr lo))
        have eV2 : Ext W3 V2 := ext_grown hV1 gr (fun k hk => OW.out.base hk)
        have own : OwnM W3.heap.size V2 v23 C.dn := own
        clear gr lo OW DN LE BA
        have hV2 := eV2
        refine onlyK_normal (hK1 _ _ ⟨⟨_, hV2⟩, rfl⟩ ?_); clear hK1 K1
        refine tree_one0 fun K hK => ?_
        simp only [pickOp, List.getElem?_cons_zero, List.getElem?_cons_succ, Option.getD_some]
        go_wp2_with fail
        obtain ⟨V3, hV3, bV3, eV3⟩ := M9Box.mk' V2 (m.way (C.bx, C.byy, C.bz) (m.tx, m.ty, m.tz))
        simp only [Mot.way] at hV3
        have hbL : V2.heap.size < V3.heap.size := by rw [← hV3]; simp
        rw [hV3]; clear hV3
        have hV3 := hV2.trans eV3
        have lit := bV3.sl1
        have own := own.later eV3
        generalize V2.heap.size = bL at *
        refine onlyK_normal (hK _ _ ⟨⟨_, hV3⟩, rfl⟩ ?_); clear hK K
        refine tree_one0 fun K hK => ?_
        simp only [pickOp, List.getElem?_cons_zero, List.getElem?_cons_succ, Option.getD_some]
        have OW := Lib.hid own; clear own
        have LI := Lib.hid lit; clear lit
        have LE : Hid (C.dn.length + [m.way (C.bx, C.byy, C.bz) (m.tx, m.ty, m.tz)].length ≤ 1000000000) := Lib.hid (by simp; omega)
        have BA := Lib.hid hV3.size
        go_wp2_with ((at_builtin; refine appM_at rfl _ _ rfl W3.heap.size _ _ C.dn [m.way (C.bx, C.byy, C.bz) (m.tx, m.ty, m.tz)] rfl rfl OW.out LI.out LE.out BA.out ?_; intro v37 V4 own gr lo))
        have eV4 : Ext W3 V4 := ext_grown hV3 gr (fun k hk => OW.out.base hk)
        clear gr lo OW LI LE BA
        refine onlyK_normal (hK _ _ ⟨⟨_, eV4⟩, rfl⟩ ?_); clear hK K
        refine tree_leaf0 ?_
        simp only [List.drop_succ_cons, List.drop_zero]
        have hG8 := HG3.out.later eV4
        have B8 := B3'.later eV4
        have hO8 := hO3.trans (Only.of_ext (D := fun k => k = N) eV4)
        have hsl8 := HSL.out.later eV4; have hsp8 := HSP.out.later eV4
        have hn8 : v37.ownBlock ≠ some N := fun e => by have := own.base e; omega
        have hloc8 : ∀ b, v37.ownBlock = some b → w.heap.size ≤ b ∧ b < V4.heap.size := fun b hb => ⟨Nat.le_trans hO3.size (own.base hb), own.lt hb⟩
        have hsd8 := own.sl
        obtain ⟨a7, n7, c7, hv7⟩ := own.form
        subst hv7
        clear own
        have d13 := hG8.c13; have d14 := hG8.c14; have d15 := hG8.c15; have f13 := hG8.fr 13; have f14 := hG8.fr 14; have f15 := hG8.fr 15
        have b3 := B8.c3; have b4 := B8.c4; have b5 := B8.c5
        have hwN : ¬ N = w.heap.size := by omega
        have d16 := hG8.c16; have f16 := hG8.fr 16
        go_wp2
        obtain ⟨W9, hW9⟩ : ∃ W9 : World, (((V4.setCell ⟨N, 16, none⟩ (.slice a7 n7 c7)).setCell ⟨N, 13, none⟩ (.int .i64 m.tx)).setCell ⟨N, 14, none⟩ (.int .i64 m.ty)).setCell ⟨N, 15, none⟩ (.int .i64 m.tz) = W9 := ⟨_, rfl⟩
        have hG9 := (((hG8.set_vd (.slice a7 n7 c7) (C.dn ++ [m.way (C.bx, C.byy, C.bz) (m.tx, m.ty, m.tz)])).set_bx m.tx).set_byy m.ty).set_bz m.tz
        rw [hW9] at hG9
        have hO9 : Only (fun k => k = N) V4 W9 := by rw [← hW9]; exact ((((Only.refl (fun k => k = N) V4).set (.inl rfl) _).set (.inl rfl) _).set (.inl rfl) _).set (.inl rfl) _
        rw [hW9]; clear hW9
        have hI : GInv W9 N vl vp (.slice a7 n7 c7) { C with dn := C.dn ++ [m.way (C.bx, C.byy, C.bz) (m.tx, m.ty, m.tz)], bx := m.tx, byy := m.ty, bz := m.tz } := ⟨hG9, hsl8.only0 hO9 (fun hl b hb e => HH.out.nl hl (by rw [hb, e])), hsp8.only hO9 (fun b hb e => HH.out.np (by rw [hb, e])), hsd8.only hO9 (fun b hb e => hn8 (by rw [hb, e])), HH.out.nl, HH.out.np, hn8⟩
        go_end0
        exact ⟨rfl, vp, _, by rw [HP.out]; exact hI, hO8.trans hO9, fun b hb => .inr ⟨(hloc8 b hb).1, Nat.lt_of_lt_of_le (hloc8 b hb).2 hO9.size⟩, fun b hb => .inl hb⟩
      · clear hK1 K1
        go_wp2_with fail
        obtain ⟨V2, hV2, bV2, eV2⟩ := M9Box.mk' V1 (m.way (C.bx, C.byy, C.bz) (m.tx, m.ty, m.tz))
        simp only [Mot.way] at hV2
        have hbL : V1.heap.size < V2.heap.size := by rw [← hV2]; simp
        rw [hV2]; clear hV2
        have hV2 := hV1.trans eV2
        have lit := bV2.sl1
        have own := own.later eV2
        generalize V1.heap.size = bL at *
        refine onlyK_normal (hK2 _ _ ⟨⟨_, hV2⟩, rfl⟩ ?_); clear hK2 K2
        refine tree_one0 fun K hK => ?_
        simp only [pickOp, List.getElem?_cons_zero, List.getElem?_cons_succ, Option.getD_some]
        have OW := Lib.hid own; clear own
        have DN := Lib.hid (HS3.out.later hV2)
        have LE : Hid (([] : List Mot).length + C.dn.length ≤ 1000000000) := Lib.hid (by simp; omega)
        have BA := Lib.hid hV2.size
        rw [hvd] at DN
        go_wp2_with ((at_builtin; refine appM_at rfl _ _ rfl W3.heap.size _ _ [] C.dn rfl rfl OW.out DN.out LE.out BA.out ?_; intro v23 V3 own gr lo))
        have eV3 : Ext W3 V3 := ext_grown hV2 gr (fun k hk => OW.out.base hk)
        have own : OwnM W3.heap.size V3 v23 C.dn := own
        have gr2 : V2.grownBy V3 (some bE) := gr
        have lit := lit.grown gr2 (.inr (by intro e; simp [Value.ownBlock] at e; omega))
        clear gr lo OW DN LE BA
        have hV3 := eV3
        refine onlyK_normal (hK _ _ ⟨⟨_, hV3⟩, rfl⟩ ?_); clear hK K
        refine tree_one0 fun K hK => ?_
        simp only [pickOp, List.getElem?_cons_zero, List.getElem?_cons_succ, Option.getD_some]
        have OW := Lib.hid own; clear own
        have LI := Lib.hid lit; clear lit
        have LE : Hid (C.dn.length + [m.way (C.bx, C.byy, C.bz) (m.tx, m.ty, m.tz)].length ≤ 1000000000) := Lib.hid (by simp; omega)
        have BA := Lib.hid hV3.size
        go_wp2_with ((at_builtin; refine appM_at rfl _ _ rfl W3.heap.size _ _ C.dn [m.way (C.bx, C.byy, C.bz) (m.tx, m.ty, m.tz)] rfl rfl OW.out LI.out LE.out BA.out ?_; intro v37 V4 own gr lo))
        have eV4 : Ext W3 V4 := ext_grown hV3 gr (fun k hk => OW.out.base hk)
        clear gr lo OW LI LE BA
        refine onlyK_normal (hK _ _ ⟨⟨_, eV4⟩, rfl⟩ ?_); clear hK K
        refine tree_leaf0 ?_
        simp only [List.drop_succ_cons, List.drop_zero]
        have hG8 := HG3.out.later eV4
        have B8 := B3'.later eV4
        have hO8 := hO3.trans (Only.of_ext (D := fun k => k = N) eV4)
        have hsl8 := HSL.out.later eV4; have hsp8 := HSP.out.later eV4
        have hn8 : v37.ownBlock ≠ some N := fun e => by have := own.base e; omega
        have hloc8 : ∀ b, v37.ownBlock = some b → w.heap.size ≤ b ∧ b < V4.heap.size := fun b hb => ⟨Nat.le_trans hO3.size (own.base hb), own.lt hb⟩
        have hsd8 := own.sl
        obtain ⟨a7, n7, c7, hv7⟩ := own.form
        subst hv7
        clear own
        have d13 := hG8.c13; have d14 := hG8.c14; have d15 := hG8.c15; have f13 := hG8.fr 13; have f14 := hG8.fr 14; have f15 := hG8.fr 15
        have b3 := B8.c3; have b4 := B8.c4; have b5 := B8.c5
        have hwN : ¬ N = w.heap.size := by omega
        have d16 := hG8.c16; have f16 := hG8.fr 16
        go_wp2
        obtain ⟨W9, hW9⟩ : ∃ W9 : World, (((V4.setCell ⟨N, 16, none⟩ (.slice a7 n7 c7)).setCell ⟨N, 13, none⟩ (.int .i64 m.tx)).setCell ⟨N, 14, none⟩ (.int .i64 m.ty)).setCell ⟨N, 15, none⟩ (.int .i64 m.tz) = W9 := ⟨_, rfl⟩
        have hG9 := (((hG8.set_vd (.slice a7 n7 c7) (C.dn ++ [m.way (C.bx, C.byy, C.bz) (m.tx, m.ty, m.tz)])).set_bx m.tx).set_byy m.ty).set_bz m.tz
        rw [hW9] at hG9
        have hO9 : Only (fun k => k = N) V4 W9 := by rw [← hW9]; exact ((((Only.refl (fun k => k = N) V4).set (.inl rfl) _).set (.inl rfl) _).set (.inl rfl) _).set (.inl rfl) _
        rw [hW9]; clear hW9
        have hI : GInv W9 N vl vp (.slice a7 n7 c7) { C with dn := C.dn ++ [m.way (C.bx, C.byy, C.bz) (m.tx, m.ty, m.tz)], bx := m.tx, byy := m.ty, bz := m.tz } := ⟨hG9, hsl8.only0 hO9 (fun hl b hb e => HH.out.nl hl (by rw [hb, e])), hsp8.only hO9 (fun b hb e => HH.out.np (by rw [hb, e])), hsd8.only hO9 (fun b hb e => hn8 (by rw [hb, e])), HH.out.nl, HH.out.np, hn8⟩
        go_end0
        exact ⟨rfl, vp, _, by rw [HP.out]; exact hI, hO8.trans hO9, fun b hb => .inr ⟨(hloc8 b hb).1, Nat.lt_of_lt_of_le (hloc8 b hb).2 hO9.size⟩, fun b hb => .inl hb⟩
    · clear hK1 K1
      go_wp2_with fail
      obtain ⟨V1, hV1, bV1, eV1⟩ := M9Box.mk' V (m.way (C.bx, C.byy, C.bz) (m.tx, m.ty, m.tz))
      simp only [Mot.way] at hV1
      have hbL : V.heap.size < V1.heap.size := by rw [← hV1]; simp
      rw [hV1]; clear hV1
      have hV1 := hV.trans eV1
      have lit := bV1.sl1
      generalize V.heap.size = bL at *
      refine onlyK_normal (hK2 _ _ ⟨⟨_, hV1⟩, rfl⟩ ?_); clear hK2 K2
      refine tree_one0 fun K hK => ?_
      simp only [pickOp, List.getElem?_cons_zero, List.getElem?_cons_succ, Option.getD_some]
      go_wp2_with fail
      obtain ⟨V2, hV2⟩ : ∃ V2 : World, V1.alloc (.cells #[] 38) = V2 := ⟨_, rfl⟩
      have eV2 : Ext V1 V2 := by rw [← hV2]; exact (Ext.refl V1).alloc _
      have hbE : V1.heap.size < V2.heap.size := by rw [← hV2]; simp
      have own : OwnM W3.heap.size V2 (.slice (some ⟨V1.heap.size, 0, none⟩) 0 0) [] := by rw [← hV2]; exact OwnM.empty _ _ hV1.size
      rw [hV2]; clear hV2
      have hV2 := hV1.trans eV2
      have lit := lit.later eV2
      generalize V1.heap.size = bE at *
      refine onlyK_normal (hK _ _ ⟨⟨_, hV2⟩, rfl⟩ ?_); clear hK K
      refine tree_one0 fun K hK => ?_
      simp only [pickOp, List.getElem?_cons_zero, List.getElem?_cons_succ, Option.getD_some]
      have OW := Lib.hid own; clear own
      have DN := Lib.hid (HS3.out.later hV2)
      have LE : Hid (([] : List Mot).length + C.dn.length ≤ 1000000000) := Lib.hid (by simp; omega)
      have BA := Lib.hid hV2.size
      rw [hvd] at DN
      go_wp2_with ((at_builtin; refine appM_at rfl _ _ rfl W3.heap.size _ _ [] C.dn rfl rfl OW.out DN.out LE.out BA.out ?_; intro v23 V3 own gr lo))
      have eV3 : Ext W3 V3 := ext_grown hV2 gr (fun k hk => OW.out.base hk)
      have own : OwnM W3.heap.size V3 v23 C.dn := own
      have gr2 : V2.grownBy V3 (some bE) := gr
      have lit := lit.grown gr2 (.inr (by intro e; simp [Value.ownBlock] at e; omega))
      clear gr lo OW DN LE BA
      have hV3 := eV3
      refine onlyK_normal (hK _ _ ⟨⟨_, hV3⟩, rfl⟩ ?_); clear hK K
      refine tree_one0 fun K hK => ?_
      simp only [pickOp, List.getElem?_cons_zero, List.getElem?_cons_succ, Option.getD_some]
      have OW := Lib.hid own; clear own
      have LI := Lib.hid lit; clear lit
      have LE : Hid (C.dn.length + [m.way (C.bx, C.byy, C.bz) (m.tx, m.ty, m.tz)].length ≤ 1000000000) := Lib.hid (by simp; omega)
      have BA := Lib.hid hV3.size
      go_wp2_with ((at_builtin; refine appM_at rfl _ _ rfl W3.heap.size _ _ C.dn [m.way (C.bx, C.byy, C.bz) (m.tx, m.ty, m.tz)] rfl rfl OW.out LI.out LE.out BA.out ?_; intro v37 V4 own gr lo))
      have eV4 : Ext W3 V4 := ext_grown hV3 gr (fun k hk => OW.out.base hk)
      clear gr lo OW LI LE BA
      refine onlyK_normal (hK _ _ ⟨⟨_, eV4⟩, rfl⟩ ?_); clear hK K
      refine tree_leaf0 ?_
      simp only [List.drop_succ_cons, List.drop_zero]
      have hG8 := HG3.out.later eV4
      have B8 := B3'.later eV4
      have hO8 := hO3.trans (Only.of_ext (D := fun k => k = N) eV4)
      have hsl8 := HSL.out.later eV4; have hsp8 := HSP.out.later eV4
      have hn8 : v37.ownBlock ≠ some N := fun e => by have := own.base e; omega
      have hloc8 : ∀ b, v37.ownBlock = some b → w.heap.size ≤ b ∧ b < V4.heap.size := fun b hb => ⟨Nat.le_trans hO3.size (own.base hb), own.lt hb⟩
      have hsd8 := own.sl
      obtain ⟨a7, n7, c7, hv7⟩ := own.form
      subst hv7
      clear own
      have d13 := hG8.c13; have d14 := hG8.c14; have d15 := hG8.c15; have f13 := hG8.fr 13; have f14 := hG8.fr 14; have f15 := hG8.fr 15
      have b3 := B8.c3; have b4 := B8.c4; have b5 := B8.c5
      have hwN : ¬ N = w.heap.size := by omega
      have d16 := hG8.c16; have f16 := hG8.fr 16
      go_wp2
      obtain ⟨W9, hW9⟩ : ∃ W9 : World, (((V4.setCell ⟨N, 16, none⟩ (.slice a7 n7 c7)).setCell ⟨N, 13, none⟩ (.int .i64 m.tx)).setCell ⟨N, 14, none⟩ (.int .i64 m.ty)).setCell ⟨N, 15, none⟩ (.int .i64 m.tz) = W9 := ⟨_, rfl⟩
      have hG9 := (((hG8.set_vd (.slice a7 n7 c7) (C.dn ++ [m.way (C.bx, C.byy, C.bz) (m.tx, m.ty, m.tz)])).set_bx m.tx).set_byy m.ty).set_bz m.tz
      rw [hW9] at hG9
      have hO9 : Only (fun k => k = N) V4 W9 := by rw [← hW9]; exact ((((Only.refl (fun k => k = N) V4).set (.inl rfl) _).set (.inl rfl) _).set (.inl rfl) _).set (.inl rfl) _
      rw [hW9]; clear hW9
      have hI : GInv W9 N vl vp (.slice a7 n7 c7) { C with dn := C.dn ++ [m.way (C.bx, C.byy, C.bz) (m.tx, m.ty, m.tz)], bx := m.tx, byy := m.ty, bz := m.tz } := ⟨hG9, hsl8.only0 hO9 (fun hl b hb e => HH.out.nl hl (by rw [hb, e])), hsp8.only hO9 (fun b hb e => HH.out.np (by rw [hb, e])), hsd8.only hO9 (fun b hb e => hn8 (by rw [hb, e])), HH.out.nl, HH.out.np, hn8⟩
      go_end0
      exact ⟨rfl, vp, _, by rw [HP.out]; exact hI, hO8.trans hO9, fun b hb => .inr ⟨(hloc8 b hb).1, Nat.lt_of_lt_of_le (hloc8 b hb).2 hO9.size⟩, fun b hb => .inl hb⟩
  · have hx := x.ext
    have hG8 := hG3.later hx; have B8 := B3'.later hx
    have hO8 := hO3.trans (Only.of_ext (D := fun k => k = N) hx)
    have hsl8 := HSL.out.later hx; have hsp8 := HSP.out.later hx; have hsd8 := hsd3.later hx
    clear g0 g1 g2 g16 m0 m1 m2 m3 m4 m5 m6 m7 m8 hG3 hsd3 B3' hvd
    generalize x.w = W8 at *
    clear x
    have d13 := hG8.c13; have d14 := hG8.c14; have d15 := hG8.c15; have f13 := hG8.fr 13; have f14 := hG8.fr 14; have f15 := hG8.fr 15
    have b3 := B8.c3; have b4 := B8.c4; have b5 := B8.c5
    go_wp2
    obtain ⟨W9, hW9⟩ : ∃ W9 : World, ((W8.setCell ⟨N, 13, none⟩ (.int .i64 m.tx)).setCell ⟨N, 14, none⟩ (.int .i64 m.ty)).setCell ⟨N, 15, none⟩ (.int .i64 m.tz) = W9 := ⟨_, rfl⟩
    have hG9 := ((hG8.set_bx m.tx).set_byy m.ty).set_bz m.tz
    rw [hW9] at hG9
    have hO9 : Only (fun k => k = N) W8 W9 := by rw [← hW9]; exact (((Only.refl (fun k => k = N) W8).set (.inl rfl) _).set (.inl rfl) _).set (.inl rfl) _
    rw [hW9]; clear hW9
    have hI : GInv W9 N vl vp vd { C with bx := m.tx, byy := m.ty, bz := m.tz } := ⟨hG9, hsl8.only0 hO9 (fun hl b hb e => HH.out.nl hl (by rw [hb, e])), hsp8.only hO9 (fun b hb e => HH.out.np (by rw [hb, e])), hsd8.only hO9 (fun b hb e => HH.out.nd (by rw [hb, e])), HH.out.nl, HH.out.np, HH.out.nd⟩
    go_end0
    exact ⟨rfl, vp, vd, by rw [HP.out]; exact hI, hO8.trans hO9, fun b hb => .inl hb, fun b hb => .inl hb⟩

end Go.Proofs.Ytfmjmabaabmgcaa

namespace Go.Proofs.Ytfmjmabaabmgcaa
open Go.RowKit

/-- At rest the last piece ends at the present position. -/
structure Ctl.Rst (C : Ctl) : Prop where
  cn : Conn C.ms
  rst : C.bk = false → C.plan = [] → C.idx < C.ms.length → C.last3 = C.at3

theorem stopd_rst {C : Ctl} (hb : C.Base) (cn : Conn C.ms) (hi : C.idx < C.ms.length) (p2 : 1 ≤ C.cur.len) : C.stopd.Rst := by
  have hat := at3_cur hi
  have hst : C.stopd.last3 = C.at3 := rfl
  have hms : C.stopd.ms = C.ms := rfl
  refine ⟨cn, fun _ _ hlt => ?_⟩
  rw [at3_cur hlt, hst]
  by_cases h0 : C.cur.len - C.part = 0
  · have e1 : C.stopd.idx = skp C.ms (C.idx + 1) := by unfold Ctl.stopd; simp only; rw [if_pos h0]
    have e2 : C.stopd.part = 0 := by unfold Ctl.stopd; simp only; rw [if_pos h0]
    have hs := skp_le (ms := C.ms) (i := C.idx + 1) (by omega)
    have hfull : C.at3 = C.cur.t3 := by rw [hat, show C.part = C.cur.len by omega]; exact Mot.pos_full p2
    rw [hms, e1] at hlt
    have hl1 : 1 ≤ (C.ms.getD (skp C.ms (C.idx + 1)) Mot.zero).len := by
      have h1 := skp_pos hlt; have h2 := hb.len0 hlt; omega
    have hcu : C.stopd.cur = C.ms.getD (skp C.ms (C.idx + 1)) Mot.zero := by unfold Ctl.cur; rw [hms, e1]
    have hfrom : C.at3 = (C.ms.getD (skp C.ms (C.idx + 1)) Mot.zero).f3 := by
      refine conn_skip cn hb.rng _ (C.idx + 1) hs.1 hlt (fun k a b => skp_between a b) ?_
      rw [hfull]
      exact cn C.idx (by omega)
    rw [hcu, e2, Mot.pos_zero hl1, hfrom]
  · have e1 : C.stopd.idx = C.idx := by unfold Ctl.stopd; simp only; rw [if_neg h0]
    have e2 : C.stopd.part = C.part := by unfold Ctl.stopd; simp only; rw [if_neg h0]
    have hcu : C.stopd.cur = C.cur := by unfold Ctl.cur; rw [hms, e1]
    rw [hcu, e2, hat]

theorem advd_rst {C : Ctl} (hp : C.Pre) (cn : Conn C.ms) : C.advd.Rst := by
  have hs := sum_drop hp.run
  have hg := getD_pos hp.pos hp.run
  have hd0 := sum_nonneg' (drop_pos hp.pos (C.pos + 1))
  have h1 := hp.sum
  have h2 := hp.p0
  unfold Ctl.advd
  split
  · refine stopd_rst ⟨hp.vl, hp.n, hp.rng, hp.rate, hp.stp⟩ cn hp.lt ?_
    show 1 ≤ C.cur.len; omega
  · refine ⟨cn, fun _ e _ => ?_⟩
    have hr := hp.run
    simp only at e
    rw [e] at hr
    simp at hr

theorem tick_rst {C : Ctl} (ho : C.Ok) (h : C.Rst) : C.tickC.Rst := by
  unfold Ctl.tickC
  split
  · rename_i ht
    have hi : C.idx < C.ms.length := by
      unfold Ctl.tickB at ht
      simp only [Bool.and_eq_true, decide_eq_true_eq] at ht
      exact ht.1.2
    split
    · exact advd_rst (ho.pre_start hi) h.cn
    · rename_i hp; exact advd_rst (ho.pre_run hp) h.cn
  · exact h

theorem hold_rst {C : Ctl} (ho : C.Ok) (h : C.Rst) : C.holdC.Rst := by
  unfold Ctl.holdC
  split
  · exact h
  · split
    · exact ⟨h.cn, h.rst⟩
    · rename_i hc
      have hp : C.pos ≠ C.plan.length := fun e => hc (.inl e)
      have hn : C.plan ≠ [] := fun e => hp (by rw [ho.rest e, e]; rfl)
      obtain ⟨r1, r2⟩ := ho.run hn
      have q0 := ho.p0 r1
      have q1 := ho.p1 r1
      split
      · split
        · refine stopd_rst ⟨ho.vl, ho.n, ho.rng, ho.rate, ho.stp⟩ h.cn r1 ?_
          show 1 ≤ C.cur.len; omega
        · rename_i hs
          exact ⟨h.cn, fun _ e _ => absurd e hs⟩
      · exact ⟨h.cn, fun _ e _ => absurd e hn⟩

theorem brk_rst {C : Ctl} (h : C.Rst) : C.brkC.Rst := by
  unfold Ctl.brkC
  split
  · exact h
  · exact ⟨h.cn, fun e => by cases e⟩

theorem resume_rst {C : Ctl} (h : C.Rst) : Ctl.Rst { C with hd := false } := ⟨h.cn, h.rst⟩

theorem new_rst {l : List Mot} {s a j : Int} (hc : Conn l) (hr : ∀ i, i < l.length → (l.getD i Mot.zero).rng) : (Ctl.new l s a j).Rst := by
  have hs := skp_le (ms := l) (i := 0) (by omega)
  refine ⟨hc, fun _ _ hlt => ?_⟩
  rw [at3_cur hlt]
  have hlt : skp l 0 < l.length := hlt
  have hl1 : 1 ≤ (l.getD (skp l 0) Mot.zero).len := by
    have h1 := skp_pos (ms := l) (i := 0) hlt; have h2 := Mot.len_bounds (hr _ hlt); omega
  have hfrom : (l.getD 0 Mot.zero).f3 = (l.getD (skp l 0) Mot.zero).f3 := conn_skip hc hr _ 0 hs.1 hlt (fun k a b => skp_between a b) rfl
  show (l.getD 0 Mot.zero).f3 = (l.getD (skp l 0) Mot.zero).pos 0
  rw [hfrom, Mot.pos_zero hl1]

/-- One step of the model's plan. -/
def Mdl.advM (C : Mdl) (x : Int) (r : List Int) : Mdl :=
  if C.part + x = C.cur.len then { Mdl.stopAtM { C with bef := C.lst, lst := x, idx := C.idx + 1, part := 0, plan := [] } C.cur with idx := skp C.ms (C.idx + 1) }
  else if r = [] then Mdl.stopM { C with bef := C.lst, lst := x, part := C.part + x, plan := r } C.cur
  else { C with bef := C.lst, lst := x, part := C.part + x, plan := r }
def Mdl.advN (M : Mdl) : Mdl := M.advM (M.plan.getD 0 0) (M.plan.drop 1)
def Mdl.steps (M : Mdl) : List Int := stepsR (M.cur.len - M.part) (M.cur.spd M.s) M.a M.j
def Mdl.tickB (M : Mdl) : Bool := !M.bk && decide (M.idx < M.ms.length) && !(decide (M.plan = []) && M.hd)
def Mdl.tickM (M : Mdl) : Mdl := if M.tickB = true then (if M.plan = [] then Mdl.advN { M with plan := M.steps, bef := 0, lst := 0, br := false } else M.advN) else M
def Mdl.needed (M : Mdl) : Int := dsum (M.cur.spd M.s) M.a M.j M.lst (M.lst - M.bef)
def Mdl.stopL (M : Mdl) : List Int := stops (M.cur.spd M.s) M.a M.j M.lst (M.lst - M.bef)
def Mdl.holdM (M : Mdl) : Mdl :=
  if M.bk = true then M
  else if M.plan = [] ∨ M.br = true then { M with hd := true }
  else if M.needed ≤ M.cur.len - M.part then
    (if M.stopL = [] then Mdl.stopM { M with hd := true, plan := M.stopL, br := true } M.cur else { M with hd := true, plan := M.stopL, br := true })
  else { M with hd := true }
def Mdl.brkM (M : Mdl) : Mdl := if M.bk = true then M else { (if M.plan = [] then M else M.stopM M.cur) with bk := true, hd := false, plan := [] }

/-- The controller and the model are in step. -/
structure Sim (C : Ctl) (M : Mdl) : Prop where
  ms : M.ms = C.ms
  s : M.s = C.s
  a : M.a = C.a
  j : M.j = C.j
  idx : M.idx = C.idx
  part : M.part = C.part
  plan : M.plan = C.plan.drop C.pos
  hd : M.hd = C.hd
  bk : M.bk = C.bk
  ok : M.ok = true
  dn : M.dn = C.ps
  beg : C.bk = false → M.beg3 = C.last3
  br : C.plan ≠ [] → M.br = C.br
  mem : C.plan ≠ [] → C.br = false → M.bef = C.dBefore ∧ M.lst = C.dLast
  bkp : C.bk = true → C.plan = []

theorem Sim.cur {C : Ctl} {M : Mdl} (h : Sim C M) : M.cur = C.cur := by unfold Mdl.cur Ctl.cur; rw [h.ms, h.idx]
theorem at3_eq {C : Ctl} {M : Mdl} (h1 : M.ms = C.ms) (h2 : M.idx = C.idx) (h3 : M.part = C.part) : M.at3 = C.at3 := by
  unfold Mdl.at3 Ctl.at3 Mdl.cur Ctl.cur; rw [h1, h2, h3]
theorem Sim.at3 {C : Ctl} {M : Mdl} (h : Sim C M) : M.at3 = C.at3 := at3_eq h.ms h.idx h.part

theorem Sim.rest {C : Ctl} {M : Mdl} (h : Sim C M) (ho : C.Ok) : decide (M.plan = []) = decide (C.pos = C.plan.length) := by
  rw [h.plan]
  by_cases hn : C.plan = []
  · rw [hn, ho.rest hn]; rfl
  · have := (ho.run hn).2
    rw [decide_eq_false (by rw [List.drop_eq_nil_iff]; omega), decide_eq_false (by omega)]

theorem Sim.posOk {C : Ctl} {M : Mdl} (h : Sim C M) (ho : C.Ok) : M.posOk := by
  have k := ho.posOk
  have e := h.cur
  exact ⟨by rw [h.ms, h.idx]; exact k.le, by rw [h.ms]; exact k.n, by rw [h.ms, h.idx, e]; exact k.rng, by rw [h.ms, h.idx, h.part]; exact k.p0, by rw [h.ms, h.idx, h.part, e]; exact k.p1, by rw [h.ms, h.idx, e]; exact k.p2, h.ok⟩

theorem Sim.tickB {C : Ctl} {M : Mdl} (h : Sim C M) (ho : C.Ok) : M.tickB = C.tickB := by
  unfold Mdl.tickB Ctl.tickB; rw [h.rest ho, h.bk, h.hd, h.idx, h.ms]

/-- In step before a step of the plan. -/
structure SimP (C : Ctl) (M : Mdl) : Prop where
  ms : M.ms = C.ms
  s : M.s = C.s
  a : M.a = C.a
  j : M.j = C.j
  idx : M.idx = C.idx
  part : M.part = C.part
  plan : M.plan = C.plan.drop C.pos
  hd : M.hd = C.hd
  bk : M.bk = C.bk
  ok : M.ok = true
  dn : M.dn = C.ps
  beg : M.beg3 = C.last3
  br : M.br = C.br
  mem : C.br = false → M.lst = if C.pos = 0 then 0 else C.dLast
  nb : C.bk = false

theorem eq3_comm (a b : Int × Int × Int) : eq3 a b = eq3 b a := by
  rcases h : eq3 b a with _ | _
  · rcases h' : eq3 a b with _ | _
    · rfl
    · rw [eq3_iff.1 h', eq3_iff.2 rfl] at h; cases h
  · rw [eq3_iff.1 h]; exact eq3_iff.2 rfl

/-- A piece ends in both. -/
theorem pcs_eq {C : Ctl} {M : Mdl} (ha : M.at3 = C.at3) (hb : M.beg3 = C.last3) (hd : M.dn = C.ps) (m : Mot) : M.pcs m = if eq3 C.last3 C.at3 = true then C.ps else C.ps ++ [m.way C.last3 C.at3] := by
  unfold Mdl.pcs
  rw [ha, hb, hd, eq3_comm]

theorem adv_sim {C : Ctl} {M : Mdl} (h : C.Pre) (hs : SimP C M) : Sim C.advd M.advN := by
  have e1 := sum_drop h.run
  have e2 := getD_pos h.pos h.run
  have e3 := sum_len (drop_pos h.pos (C.pos + 1))
  have e4 := h.sum
  have e5 := h.p0
  have hrun := h.run
  have elen : (C.plan.drop (C.pos + 1)).length = C.plan.length - (C.pos + 1) := List.length_drop
  have hx : M.plan.getD 0 0 = C.plan.getD C.pos 0 := by rw [hs.plan]; simp [List.getD]
  have hr : M.plan.drop 1 = C.plan.drop (C.pos + 1) := by rw [hs.plan, List.drop_drop]
  have hcur : M.cur = C.cur := by unfold Mdl.cur Ctl.cur; rw [hs.ms, hs.idx]
  unfold Mdl.advN Mdl.advM Ctl.advd
  rw [hx, hr, hcur, hs.part]
  generalize hxx : C.plan.getD C.pos 0 = x at *
  by_cases hl : C.pos + 1 = C.plan.length
  · have hnil : C.plan.drop (C.pos + 1) = [] := List.drop_eq_nil_iff.2 (by omega)
    rw [if_pos hl, hnil]
    have hlast : ∀ (D : Ctl), D.idx < D.ms.length → D.part = D.cur.len → 1 ≤ D.cur.len → D.at3 = D.cur.t3 := fun D hi hp h1 => by rw [at3_cur hi, hp]; exact Mot.pos_full h1
    by_cases hf : C.part + x = C.cur.len
    · rw [if_pos hf]
      have hat : Ctl.at3 { C with part := C.part + x, pos := C.pos + 1 } = C.cur.t3 := hlast _ h.lt hf (by show 1 ≤ C.cur.len; omega)
      have h0 : C.cur.len - (C.part + x) = 0 := by omega
      refine ⟨hs.ms, hs.s, hs.a, hs.j, ?_, ?_, rfl, hs.hd, hs.bk, hs.ok, ?_, fun _ => ?_, fun e => absurd rfl e, fun e => absurd rfl e, fun _ => rfl⟩
      · show skp M.ms (M.idx + 1) = if C.cur.len - (C.part + x) = 0 then skp C.ms (C.idx + 1) else C.idx
        rw [if_pos h0, hs.ms, hs.idx]
      · show (0 : Int) = if C.cur.len - (C.part + x) = 0 then 0 else C.part + x
        rw [if_pos h0]
      · show (if eq3 M.beg3 C.cur.t3 = true then M.dn else M.dn ++ [C.cur.way M.beg3 C.cur.t3]) = Ctl.psAdd { C with part := C.part + x, pos := C.pos + 1 }
        unfold Ctl.psAdd
        rw [hat, hs.beg, hs.dn]
        rfl
      · show C.cur.t3 = Ctl.at3 { C with part := C.part + x, pos := C.pos + 1 }
        rw [hat]
    · rw [if_neg hf, if_pos rfl]
      have h0 : ¬ C.cur.len - (C.part + x) = 0 := by omega
      have ha : Mdl.at3 { M with bef := M.lst, lst := x, part := C.part + x, plan := [] } = Ctl.at3 { C with part := C.part + x, pos := C.pos + 1 } := at3_eq hs.ms hs.idx rfl
      refine ⟨hs.ms, hs.s, hs.a, hs.j, ?_, ?_, rfl, hs.hd, hs.bk, hs.ok, ?_, fun _ => ?_, fun e => absurd rfl e, fun e => absurd rfl e, fun _ => rfl⟩
      · show M.idx = if C.cur.len - (C.part + x) = 0 then skp C.ms (C.idx + 1) else C.idx
        rw [if_neg h0, hs.idx]
      · show C.part + x = if C.cur.len - (C.part + x) = 0 then 0 else C.part + x
        rw [if_neg h0]
      · exact pcs_eq (C := { C with part := C.part + x, pos := C.pos + 1 }) ha hs.beg hs.dn C.cur
      · exact ha
  · have hne : C.plan.drop (C.pos + 1) ≠ [] := fun e => by have := List.drop_eq_nil_iff.1 e; omega
    have hlen : 1 ≤ (C.plan.drop (C.pos + 1)).length := by omega
    rw [if_neg hl, if_neg (by omega), if_neg hne]
    refine ⟨hs.ms, hs.s, hs.a, hs.j, hs.idx, rfl, rfl, hs.hd, hs.bk, hs.ok, hs.dn, fun _ => hs.beg, fun _ => hs.br, fun _ hb => ⟨?_, ?_⟩, fun e => by have := hs.nb; simp only at e; rw [this] at e; cases e⟩
    · show M.lst = if 1 < C.pos + 1 then C.plan.getD (C.pos + 1 - 2) 0 else 0
      rw [hs.mem hb]
      unfold Ctl.dLast
      by_cases h0 : C.pos = 0
      · rw [if_pos h0, if_neg (by omega)]
      · rw [if_neg h0, if_pos (by omega), show C.pos + 1 - 2 = C.pos - 1 by omega]
    · show x = C.plan.getD (C.pos + 1 - 1) 0
      rw [Nat.add_sub_cancel]
      exact hxx.symm

theorem Sim.tick {C : Ctl} {M : Mdl} (h : Sim C M) (ho : C.Ok) : Sim C.tickC M.tickM := by
  unfold Mdl.tickM Ctl.tickC
  rw [h.tickB ho]
  have hr := h.rest ho
  by_cases ht : C.tickB = true
  · rw [if_pos ht, if_pos ht]
    have ht' := ht
    unfold Ctl.tickB at ht'
    simp only [Bool.and_eq_true, decide_eq_true_eq, Bool.not_eq_true'] at ht'
    obtain ⟨⟨hbk, hi⟩, _⟩ := ht'
    by_cases hp : C.pos = C.plan.length
    · have hm : M.plan = [] := by rw [decide_eq_true hp] at hr; exact of_decide_eq_true hr
      rw [if_pos hp, if_pos hm]
      refine adv_sim (ho.pre_start hi) ⟨h.ms, h.s, h.a, h.j, h.idx, h.part, ?_, h.hd, h.bk, h.ok, h.dn, h.beg hbk, rfl, fun _ => rfl, hbk⟩
      show M.steps = C.steps.drop 0
      unfold Mdl.steps Ctl.steps
      rw [List.drop_zero, h.cur, h.part, h.s, h.a, h.j]
    · have hm : ¬ M.plan = [] := by rw [decide_eq_false hp] at hr; exact of_decide_eq_false hr
      have hn : C.plan ≠ [] := fun e => hp (by rw [ho.rest e, e]; rfl)
      rw [if_neg hp, if_neg hm]
      refine adv_sim (ho.pre_run hp) ⟨h.ms, h.s, h.a, h.j, h.idx, h.part, h.plan, h.hd, h.bk, h.ok, h.dn, h.beg hbk, h.br hn, fun hb => ?_, hbk⟩
      have h1 := (ho.full hn hb).2.2
      rw [if_neg (by omega)]
      exact (h.mem hn hb).2
  · rw [if_neg ht, if_neg ht]; exact h

theorem Sim.hold {C : Ctl} {M : Mdl} (h : Sim C M) (ho : C.Ok) : Sim C.holdC M.holdM := by
  unfold Mdl.holdM Ctl.holdC
  have hr := h.rest ho
  have hbb := h.bk
  by_cases hbk : C.bk = true
  · rw [if_pos (hbb.trans hbk), if_pos hbk]; exact h
  rw [if_neg hbk, if_neg (show ¬ M.bk = true by rw [hbb]; exact hbk)]
  have hbk : C.bk = false := by simpa using hbk
  by_cases hp : C.pos = C.plan.length
  · have hm : M.plan = [] := by rw [decide_eq_true hp] at hr; exact of_decide_eq_true hr
    rw [if_pos (.inl hp), if_pos (.inl hm)]
    exact ⟨h.ms, h.s, h.a, h.j, h.idx, h.part, h.plan, rfl, h.bk, h.ok, h.dn, h.beg, h.br, h.mem, h.bkp⟩
  · have hm : ¬ M.plan = [] := by rw [decide_eq_false hp] at hr; exact of_decide_eq_false hr
    have hn : C.plan ≠ [] := fun e => hp (by rw [ho.rest e, e]; rfl)
    have hi := (ho.run hn).1
    by_cases hb : C.br = true
    · rw [if_pos (.inr hb), if_pos (.inr (by rw [h.br hn]; exact hb))]
      exact ⟨h.ms, h.s, h.a, h.j, h.idx, h.part, h.plan, rfl, h.bk, h.ok, h.dn, h.beg, h.br, h.mem, h.bkp⟩
    · rw [if_neg (not_or.2 ⟨hp, hb⟩), if_neg (not_or.2 ⟨hm, fun e => hb (by rw [← h.br hn]; exact e)⟩)]
      have hb : C.br = false := by simpa using hb
      obtain ⟨m1, m2⟩ := h.mem hn hb
      have en : M.needed = C.needed := by unfold Mdl.needed Ctl.needed; rw [h.cur, h.s, h.a, h.j, m1, m2]
      have el : M.stopL = C.stopL := by unfold Mdl.stopL Ctl.stopL; rw [h.cur, h.s, h.a, h.j, m1, m2]
      have hcc : M.needed ≤ M.cur.len - M.part ↔ C.needed ≤ C.cur.len - C.part := by rw [en, h.cur, h.part]
      by_cases hc : C.needed ≤ C.cur.len - C.part
      · rw [if_pos hc, if_pos (hcc.2 hc)]
        by_cases hl : C.stopL = []
        · rw [if_pos hl, if_pos (el.trans hl)]
          have q1 := ho.p1 hi
          have h0 : ¬ C.cur.len - C.part = 0 := by omega
          have ha : Mdl.at3 { M with hd := true, plan := M.stopL, br := true } = Ctl.at3 { C with hd := true, plan := [], pos := 0, br := true } := at3_eq h.ms h.idx h.part
          refine ⟨h.ms, h.s, h.a, h.j, ?_, ?_, el.trans hl, rfl, h.bk, h.ok, ?_, fun _ => ?_, fun e => absurd rfl e, fun e => absurd rfl e, fun _ => rfl⟩
          · show M.idx = if C.cur.len - C.part = 0 then skp C.ms (C.idx + 1) else C.idx
            rw [if_neg h0, h.idx]
          · show M.part = if C.cur.len - C.part = 0 then 0 else C.part
            rw [if_neg h0, h.part]
          · show Mdl.pcs { M with hd := true, plan := M.stopL, br := true } M.cur = _
            rw [h.cur]
            exact pcs_eq (C := { C with hd := true, plan := [], pos := 0, br := true }) ha (h.beg hbk) h.dn C.cur
          · exact ha
        · rw [if_neg hl, if_neg (show ¬ M.stopL = [] by rw [el]; exact hl)]
          exact ⟨h.ms, h.s, h.a, h.j, h.idx, h.part, el, rfl, h.bk, h.ok, h.dn, h.beg, fun _ => rfl, (fun _ e => by cases e), fun e => by rw [show C.bk = true from e] at hbk; cases hbk⟩
      · rw [if_neg hc, if_neg (fun e => hc (hcc.1 e))]
        exact ⟨h.ms, h.s, h.a, h.j, h.idx, h.part, h.plan, rfl, h.bk, h.ok, h.dn, h.beg, h.br, h.mem, h.bkp⟩

theorem Sim.resume {C : Ctl} {M : Mdl} (h : Sim C M) : Sim { C with hd := false } { M with hd := false } :=
  ⟨h.ms, h.s, h.a, h.j, h.idx, h.part, h.plan, rfl, h.bk, h.ok, h.dn, h.beg, h.br, h.mem, h.bkp⟩

theorem Sim.brk {C : Ctl} {M : Mdl} (h : Sim C M) (ho : C.Ok) (hR : C.Rst) : Sim C.brkC M.brkM := by
  unfold Mdl.brkM Ctl.brkC
  have hr := h.rest ho
  have hbb := h.bk
  by_cases hbk : C.bk = true
  · rw [if_pos (hbb.trans hbk), if_pos hbk]; exact h
  rw [if_neg hbk, if_neg (show ¬ M.bk = true by rw [hbb]; exact hbk)]
  have hbk : C.bk = false := by simpa using hbk
  by_cases hp : C.pos = C.plan.length
  · have hm : M.plan = [] := by rw [decide_eq_true hp] at hr; exact of_decide_eq_true hr
    rw [if_pos hm]
    refine ⟨h.ms, h.s, h.a, h.j, h.idx, h.part, rfl, rfl, rfl, h.ok, ?_, fun e => (by cases e), fun e => absurd rfl e, fun e => absurd rfl e, fun _ => rfl⟩
    show M.dn = C.psAll
    unfold Ctl.psAll Ctl.pieceB
    rw [h.dn]
    by_cases hi : C.idx < C.ms.length
    · rw [hR.rst hbk (ho.plan_nil hp) hi, eq3_iff.2 rfl]; simp
    · rw [decide_eq_false hi]; simp
  · have hm : ¬ M.plan = [] := by rw [decide_eq_false hp] at hr; exact of_decide_eq_false hr
    have hn : C.plan ≠ [] := fun e => hp (by rw [ho.rest e, e]; rfl)
    have hi := (ho.run hn).1
    rw [if_neg hm]
    refine ⟨h.ms, h.s, h.a, h.j, h.idx, h.part, rfl, rfl, rfl, h.ok, ?_, fun e => (by cases e), fun e => absurd rfl e, fun e => absurd rfl e, fun _ => rfl⟩
    show M.pcs M.cur = C.psAll
    rw [pcs_eq h.at3 (h.beg hbk) h.dn, h.cur]
    unfold Ctl.psAll Ctl.pieceB Ctl.pieceM
    rw [decide_eq_true hi, if_pos hi]
    cases eq3 C.last3 C.at3 <;> simp

theorem Sim.done {C : Ctl} {M : Mdl} (h : Sim C M) (ho : C.Ok) : M.piecesL = C.doneL := by
  unfold Mdl.piecesL Ctl.doneL
  have hr := h.rest ho
  by_cases hp : C.pos = C.plan.length
  · have hm : M.plan = [] := by rw [decide_eq_true hp] at hr; exact of_decide_eq_true hr
    rw [if_pos hm, if_neg (fun e => e.2 hp), h.dn]
  · have hm : ¬ M.plan = [] := by rw [decide_eq_false hp] at hr; exact of_decide_eq_false hr
    have hn : C.plan ≠ [] := fun e => hp (by rw [ho.rest e, e]; rfl)
    have hi := (ho.run hn).1
    have hbk : C.bk = false := by
      cases hb : C.bk
      · rfl
      · exact absurd (h.bkp hb) hn
    rw [if_neg hm, pcs_eq h.at3 (h.beg hbk) h.dn, h.cur]
    unfold Ctl.pieceB Ctl.pieceM
    rw [decide_eq_true hi, if_pos hi]
    cases eq3 C.last3 C.at3 <;> simp [hp]

theorem Sim.new (l : List Mot) (s a j : Int) : Sim (Ctl.new l s a j) (Mdl.new l s a j) :=
  ⟨rfl, rfl, rfl, rfl, rfl, rfl, rfl, rfl, rfl, rfl, rfl, fun _ => rfl, fun e => absurd rfl e, fun e => absurd rfl e, fun _ => rfl⟩

end Go.Proofs.Ytfmjmabaabmgcaa

namespace Go.Proofs.Ytfmjmabaabmgcaa
open Go.RowKit
set_option maxRecDepth 8000

theorem CAt.only {B : Nat} {D : Nat → Prop} {w w' : World} {N : Nat} {vm vp vq : Value} {C : Ctl} (h : CAt B w N vm vp vq C) (k : Only D w w') (hN : ¬ D N) (hm : Off D vm) (hp : Off D vp) (hq : Off D vq) : CAt B w' N vm vp vq C :=
  ⟨⟨h.inv.box.only k hN, h.inv.sm.only k hm, h.inv.sp.only k hp, h.inv.sq.only k hq, h.inv.nm, h.inv.np, h.inv.nq, h.inv.mq, h.inv.pq, h.inv.base⟩, fun b hb => Nat.lt_of_lt_of_le (h.lp b hb) k.size, fun b hb => Nat.lt_of_lt_of_le (h.lm b hb) k.size, h.ok⟩

theorem CellsM.only {D : Nat → Prop} {w w' : World} {b o : Nat} {m : Mot} (h : CellsM w b o m) (k : Only D w w') (hb : b < w.heap.size) (hd : ¬ D b) : CellsM w' b o m where
  c0 := by rw [k.cell (p := ⟨b, _, none⟩) hb hd]; exact h.c0
  c1 := by rw [k.cell (p := ⟨b, _, none⟩) hb hd]; exact h.c1
  c2 := by rw [k.cell (p := ⟨b, _, none⟩) hb hd]; exact h.c2
  c3 := by rw [k.cell (p := ⟨b, _, none⟩) hb hd]; exact h.c3
  c4 := by rw [k.cell (p := ⟨b, _, none⟩) hb hd]; exact h.c4
  c5 := by rw [k.cell (p := ⟨b, _, none⟩) hb hd]; exact h.c5
  c6 := by rw [k.cell (p := ⟨b, _, none⟩) hb hd]; exact h.c6
  c7 := by rw [k.cell (p := ⟨b, _, none⟩) hb hd]; exact h.c7
  c8 := by rw [k.cell (p := ⟨b, _, none⟩) hb hd]; exact h.c8

/-- Both stand in memory, apart from each other. -/
structure Pair (B : Nat) (w : World) (N : Nat) (vm vp vq : Value) (C : Ctl) (G : Nat) (vl vg vd : Value) (M : Mdl) : Prop where
  c : CAt B w N vm vp vq C
  g : GInv w G vl vg vd M
  gp : ∀ b, vg.ownBlock = some b → b < w.heap.size
  gd : ∀ b, vd.ownBlock = some b → b < w.heap.size
  gb : B ≤ G
  ne : G ≠ N
  om : vm.ownBlock ≠ some G
  op : vp.ownBlock ≠ some G
  oq : vq.ownBlock ≠ some G
  fl : 0 < M.ms.length → Off (Foot N vq) vl
  fg : Off (Foot N vq) vg
  fd : Off (Foot N vq) vd

section
variable {B : Nat} {w w' : World} {N : Nat} {vm vp vq vp' vq' : Value} {C C' : Ctl} {G : Nat} {vl vg vd vg' vd' : Value} {M M' : Mdl}

theorem off_one {v : Value} (h : v.ownBlock ≠ some G) : Off (fun k => k = G) v := fun b hb e => h (by rw [hb, e])

theorem Pair.later (h : Pair B w N vm vp vq C G vl vg vd M) (he : Ext w w') : Pair B w' N vm vp vq C G vl vg vd M :=
  ⟨h.c.later he, h.g.later he, fun b hb => Nat.lt_of_lt_of_le (h.gp b hb) he.size, fun b hb => Nat.lt_of_lt_of_le (h.gd b hb) he.size, h.gb, h.ne, h.om, h.op, h.oq, h.fl, h.fg, h.fd⟩

/-- The model has changed. -/
theorem Pair.gmove (h : Pair B w N vm vp vq C G vl vg vd M) (k : GInv w' G vl vg' vd' M') (hms : M'.ms = M.ms) (hO : Only (fun k => k = G) w w')
    (hd : ∀ b, vd'.ownBlock = some b → vd.ownBlock = some b ∨ (w.heap.size ≤ b ∧ b < w'.heap.size)) (hp : ∀ b, vg'.ownBlock = some b → vg.ownBlock = some b ∨ (w.heap.size ≤ b ∧ b < w'.heap.size)) : Pair B w' N vm vp vq C G vl vg' vd' M' := by
  have hN := h.c.inv.box.lt
  have hnew : ∀ b, w.heap.size ≤ b → ¬ Foot N vq b := fun b hb hf => by
    rcases hf with rfl | hf
    · omega
    · have := h.c.inv.lt hf; omega
  refine ⟨h.c.only hO (fun e => h.ne e.symm) (off_one h.om) (off_one h.op) (off_one h.oq), k, fun b hb => ?_, fun b hb => ?_, h.gb, h.ne, h.om, h.op, h.oq, by rw [hms]; exact h.fl, fun b hb => ?_, fun b hb => ?_⟩
  · rcases hp b hb with e | e
    · exact Nat.lt_of_lt_of_le (h.gp b e) hO.size
    · exact e.2
  · rcases hd b hb with e | e
    · exact Nat.lt_of_lt_of_le (h.gd b e) hO.size
    · exact e.2
  · rcases hp b hb with e | e
    · exact h.fg b e
    · exact hnew b e.1
  · rcases hd b hb with e | e
    · exact h.fd b e
    · exact hnew b e.1

/-- The controller has changed. -/
theorem Pair.cmove (h : Pair B w N vm vp vq C G vl vg vd M) (k : CAt B w' N vm vp' vq' C') (hO : Only (Foot N vq) w w')
    (hq : ∀ b, vq'.ownBlock = some b → vq.ownBlock = some b ∨ w.heap.size ≤ b) (hp : ∀ b, vp'.ownBlock = some b → vp.ownBlock = some b ∨ w.heap.size ≤ b) : Pair B w' N vm vp' vq' C' G vl vg vd M := by
  have hG := h.g.box.lt
  have hoff : ∀ {v : Value}, Off (Foot N vq) v → (∀ b, v.ownBlock = some b → b < w.heap.size) → Off (Foot N vq') v := fun ho hl b hb hf => by
    rcases hf with rfl | hf
    · exact ho b hb (.inl rfl)
    · rcases hq b hf with e | e
      · exact ho b hb (.inr e)
      · have := hl b hb; omega
  refine ⟨k, h.g.only hO ?_ h.fl h.fg h.fd, fun b hb => Nat.lt_of_lt_of_le (h.gp b hb) hO.size, fun b hb => Nat.lt_of_lt_of_le (h.gd b hb) hO.size, h.gb, h.ne, h.om, fun e => ?_, fun e => ?_, fun hl => hoff (h.fl hl) (fun b hb => h.g.sl.lt hl hb), hoff h.fg h.gp, hoff h.fd h.gd⟩
  · rintro (e | e)
    · exact h.ne e
    · exact h.oq e
  · rcases hp G e with e | e
    · exact h.op e
    · omega
  · rcases hq G e with e | e
    · exact h.oq e
    · omega

theorem Pair.extG {w0 : World} (h : Pair w0.heap.size w N vm vp vq C G vl vg vd M) (he : Ext w0 w) (hO : Only (fun k => k = G) w w') : Ext w0 w' :=
  he.only hO (fun i hi e => by have := h.gb; omega)
theorem Pair.extC {w0 : World} (h : Pair w0.heap.size w N vm vp vq C G vl vg vd M) (he : Ext w0 w) (hO : Only (Foot N vq) w w') : Ext w0 w' := h.c.ext he hO

/-- Both at the beginning. -/
theorem Pair.start {w0 : World} (hA : CAt w0.heap.size w N vm (.slice none 0 0) (.slice none 0 0) C) (hI : GInv w' G vl (.slice none 0 0) (.slice none 0 0) M) (hE : Ext w w') (hE0 : Ext w0 w) (hG : w.heap.size ≤ G)
    (hvl : 0 < M.ms.length → ∀ b, vl.ownBlock = some b → b < w0.heap.size) : Pair w0.heap.size w' N vm (.slice none 0 0) (.slice none 0 0) C G vl (.slice none 0 0) (.slice none 0 0) M := by
  have hN := hA.inv.box.lt
  have h0 := hE0.size
  refine ⟨hA.later hE, hI, (fun b hb => by cases hb), (fun b hb => by cases hb), by omega, by omega, fun e => ?_, (fun e => by cases e), (fun e => by cases e), fun hl b hb hf => ?_, (fun b hb => by cases hb), (fun b hb => by cases hb)⟩
  · have := hA.lm G e; omega
  · have h1 := hvl hl b hb
    have h2 := hA.inv.base
    rcases hf with rfl | hf
    · omega
    · cases hf

end
end Go.Proofs.Ytfmjmabaabmgcaa

namespace Go.Proofs.Ytfmjmabaabmgcaa
open Go.RowKit
set_option maxRecDepth 8000

set_option maxHeartbeats 4000000 in
theorem same_any {B : Nat} {w : World} {N : Nat} {vm vp vq : Value} {C : Ctl} {G : Nat} {vl vg vd : Value} {M : Mdl} (h : Pair B w N vm vp vq C G vl vg vd M) (hs : Sim C M) :
    Calls Try.prog 17 #[.pointer (some ⟨N, 0, none⟩), .pointer (some ⟨G, 0, none⟩)] w fun e w' => e = .returned (.bool true) ∧ Pair B w' N vm vp vq C G vl vg vd M ∧ Only (fun k => k = G) w w' := by
  have HP := Lib.hid h
  have kho := holding_any h.c.inv.box h.c.inv.sp
  have hpk := hs.posOk h.c.ok
  have hat := hs.at3
  have hrr := hs.rest h.c.ok
  have kp : ∀ w', CAt B w' N vm vp vq C → Calls Try.prog 30 #[.pointer (some ⟨N, 0, none⟩)] w' fun e w'' => e = .returned (P3 C.at3) ∧ Ext w' w'' := fun w' h => cpos_any h.inv.box h.inv.sm h.ok.posOk
  have kq : ∀ w', GBox w' G vl vg vd M → SlM w' vl M.ms → Calls Try.prog 42 #[.pointer (some ⟨G, 0, none⟩)] w' fun e w'' => e = .returned (P3 M.at3) ∧ GBox w'' G vl vg vd M ∧ Only (fun k => k = G) w' w'' := fun w' hg hs => mpos_any hg hs hpk
  have kr : ∀ w', GBox w' G vl vg vd M → SlI w' vg M.plan → Calls Try.prog 43 #[.pointer (some ⟨G, 0, none⟩)] w' fun e w'' => e = .returned (.bool (decide (C.pos = C.plan.length))) ∧ Ext w' w'' := fun w' hg hp => mrest_any hg hp _ hrr.symm
  rw [hat] at kq
  have KP := Lib.hid kp; have KQ := Lib.hid kq; have KR := Lib.hid kr
  clear kp kq kr hpk hat hrr
  have ehd := hs.hd; have eok := hs.ok; have eix := hs.idx
  have HS := Lib.hid hs
  clear hs h
  generalize C.at3 = q at *
  obtain ⟨qx, qy, qz⟩ := q
  simp only [P3] at KP KQ
  generalize decide (C.pos = C.plan.length) = rb at *
  generalize hhb : C.hd = hb at *
  have HHB := Lib.hid hhb; clear hhb
  have heq := fun w => Try.eql_pos qx qy qz qx qy qz w
  have hself : eqP qx qy qz qx qy qz = true := by simp [eqP]
  rw [hself] at heq
  clear hself
  go_enter Try.func17, Try.ntmps17
  go_wp2_with fail
  refine kho.mono ?_
  rintro e w1 ⟨rfl, hx1⟩
  clear kho
  have hP1 := HP.out.later hx1
  have g12 : ∀ y : GC w1 G vl vg vd M, y.w.cell? ⟨G, 12, none⟩ = some (.bool true) := fun y => by rw [← eok]; exact y.box.c12
  have g4 : ∀ y : GC w1 G vl vg vd M, y.w.cell? ⟨G, 4, none⟩ = some (.int .i64 ((C.idx : Nat) : Int)) := fun y => by rw [← eix]; exact y.box.c4
  have g9 : ∀ y : GC w1 G vl vg vd M, y.w.cell? ⟨G, 9, none⟩ = some (.bool hb) := fun y => by rw [← ehd]; exact y.box.c9
  haveI : Nonempty (GC w1 G vl vg vd M) := ⟨⟨w1, hP1.g.box, Only.refl _ _⟩⟩
  have HP1 := Lib.hid hP1
  clear hP1 ehd eok eix
  go_wp2_with fail
  refine wp_region_tree (fun w' => ∃ y : GC w1 G vl vg vd M, w' = y.w) 34 (.one [0, 1, 2, 3, 4, 5, 7] 6 (.one [] 8 (.one [9, 10, 11, 12, 14, 15, 16, 17] 13 (.one [18, 19, 20, 21, 22, 23, 24, 25, 26, 27, 28, 29, 30] 31 (.leaf [32, 33]))))) (by kernel_rfl) (by kernel_rfl) (by kernel_rfl) ⟨⟨w1.drew, HP1.out.g.box.later (Ext.refl w1).drew, (Only.refl _ w1).drew⟩, rfl⟩ ?_
  simp only [List.take_succ_cons, List.take_zero]
  refine tree_one fun K hK => ?_
  simp only [List.map_cons, List.map_nil, pickOp, List.getElem?_cons_zero, List.getElem?_cons_succ, Option.getD_some]
  repeat (go_big_quiet_step (fail))
  refine wpQuiet_nil ?_
  go_wp2_with ((go_at_call 30; with_reducible refine (KP.out _ (HP1.out.c.later (Ext.refl w1).drew)).mono ?_); rintro e w2 ⟨rfl, hx2⟩)
  have hx2' : Ext w1 w2 := (Ext.refl w1).drew.trans hx2
  have hP2 := HP1.out.later hx2'
  have HP2 := Lib.hid hP2
  clear hP2
  have hO2 : Only (fun k => k = G) w1 w2 := Only.of_ext hx2'
  refine onlyK_normal (hK _ _ ⟨⟨w2, HP2.out.g.box, hO2⟩, rfl⟩ ?_); clear hK K hx2
  refine tree_one0 fun K hK => ?_
  simp only [pickOp, List.getElem?_cons_zero, List.getElem?_cons_succ, Option.getD_some]
  go_wp2_with ((go_at_call 42; with_reducible refine (KQ.out _ HP2.out.g.box HP2.out.g.sl).mono ?_); rintro e w3 ⟨rfl, hG3, hO3⟩)
  have hP3 : Pair B w3 N vm vp vq C G vl vg vd M := HP2.out.gmove ⟨hG3, HP2.out.g.sl.only0 hO3 (fun hl => off_one (HP2.out.g.nl hl)), HP2.out.g.sp.only hO3 (off_one HP2.out.g.np), HP2.out.g.sd.only hO3 (off_one HP2.out.g.nd), HP2.out.g.nl, HP2.out.g.np, HP2.out.g.nd⟩ rfl hO3 (fun b hb => .inl hb) (fun b hb => .inl hb)
  have hO3' := hO2.trans hO3
  have HP3 := Lib.hid hP3
  clear hP3 HP2 hO2 hx2'
  refine onlyK_normal (hK _ _ ⟨⟨w3, hG3, hO3'⟩, rfl⟩ ?_); clear hK K
  clear hG3 hO3
  refine tree_one fun K hK => ?_
  simp only [List.map_cons, List.map_nil, pickOp, List.getElem?_cons_zero, List.getElem?_cons_succ, Option.getD_some]
  repeat (go_big_quiet_step (fail))
  refine wpQuiet_nil ?_
  have ki := index_any HP3.out.c.inv.box
  have KI := Lib.hid ki; clear ki
  go_wp2_with ((go_at_call 23; with_reducible refine KI.out.mono ?_); rintro e w4 ⟨rfl, hx4⟩)
  subst hx4
  refine onlyK_normal (hK _ _ ⟨⟨w3, HP3.out.g.box, hO3'⟩, rfl⟩ ?_); clear hK K
  refine tree_one fun K hK => ?_
  simp only [List.map_cons, List.map_nil, pickOp, List.getElem?_cons_zero, List.getElem?_cons_succ, Option.getD_some]
  repeat (go_big_quiet_step (fail))
  refine wpQuiet_nil ?_
  have kr := KR.out _ HP3.out.g.box HP3.out.g.sp
  have KR3 := Lib.hid kr; clear kr
  go_wp2_with ((go_at_call 43; with_reducible refine KR3.out.mono ?_); rintro e w5 ⟨rfl, hx5⟩)
  have hP5 := HP3.out.later hx5
  have hO5 := hO3'.trans (Only.of_ext hx5)
  refine onlyK_normal (hK _ _ ⟨⟨w5, hP5.g.box, hO5⟩, rfl⟩ ?_); clear hK K
  refine tree_leaf ?_
  simp only [List.map_cons, List.map_nil, pickOp, List.getElem?_cons_zero, List.getElem?_cons_succ, Option.getD_some, List.drop_succ_cons, List.drop_zero]
  repeat (go_big_quiet_step (fail))
  refine wpQuiet_nil ?_
  have HP5 := Lib.hid hP5
  clear hP5 g12 g4 g9
  go_wp2
  go_ret
  exact ⟨rfl, HP5.out, (Only.of_ext hx1).trans hO5⟩

end Go.Proofs.Ytfmjmabaabmgcaa
