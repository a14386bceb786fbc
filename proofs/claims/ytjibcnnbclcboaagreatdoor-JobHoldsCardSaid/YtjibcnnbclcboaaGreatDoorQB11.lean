/-
  Walks: the example of layer 50.
  Walks: Connected of the reference, small.
  Walks: small, Short, right.
  Walks: Break of the controller.
  Plain laws of Hold and Break.
-/
import Derived.Test.YtjibcnnbclcboaaGreatDoorQB10
namespace Go.Proofs.YtjibcnnbclcboaaGreatDoor
open Go.RowKit
set_option maxRecDepth 8000

end Go.Proofs.YtjibcnnbclcboaaGreatDoor

namespace Go.Proofs.YtjibcnnbclcboaaGreatDoor
open Go.RowKit
set_option maxRecDepth 8000

theorem conn_bad {l : List Mot} {k : Nat} (hk : k < l.length) (h : goodAt l k = false) : conn l = 1 := by
  have := goodTo_false h l.length hk
  simp [conn, this]
theorem conn_far {l : List Mot} {k : Nat} (hk : k < l.length) (hg : goodTo l l.length = true) (h : rngAt l k = false) : conn l = 11 := by
  have := rngTo_false h l.length hk
  simp [conn, this, hg]
theorem eqP_symm (a b c d e f : Int) : eqP a b c d e f = eqP d e f a b c := by
  unfold eqP
  rw [decide_eq_decide]
  omega

end Go.Proofs.YtjibcnnbclcboaaGreatDoor

namespace Go.Proofs.YtjibcnnbclcboaaGreatDoor
open Go.RowKit
set_option maxRecDepth 8000
set_option maxRecDepth 8000

/-- A world with three cells more, which hold these values. -/
structure B3 (W : World) (N : Nat) (x y z : Value) : Prop where
  c0 : W.cell? ⟨N, 0, none⟩ = some x
  c1 : W.cell? ⟨N, 1, none⟩ = some y
  c2 : W.cell? ⟨N, 2, none⟩ = some z
  f0 : W.frozen? ⟨N, 0, none⟩ = false
  f1 : W.frozen? ⟨N, 1, none⟩ = false
  f2 : W.frozen? ⟨N, 2, none⟩ = false
  lt : N < W.heap.size
theorem B3.mk' (w : World) (x y z : Value) (t : TypeId) : ∃ W : World, w.alloc (.cells #[x, y, z] t) = W ∧ B3 W w.heap.size x y z ∧ Ext w W := by
  refine ⟨_, rfl, ?_, (Ext.refl w).alloc _⟩
  constructor <;> simp [go_sem]
theorem B3.only {D : Nat → Prop} {W W' : World} {N : Nat} {x y z : Value} (h : B3 W N x y z) (k : Only D W W') (hd : ¬ D N) : B3 W' N x y z :=
  ⟨by rw [k.cell h.lt hd]; exact h.c0, by rw [k.cell h.lt hd]; exact h.c1, by rw [k.cell h.lt hd]; exact h.c2, by rw [k.frozen h.lt hd]; exact h.f0, by rw [k.frozen h.lt hd]; exact h.f1, by rw [k.frozen h.lt hd]; exact h.f2, Nat.lt_of_lt_of_le h.lt k.size⟩
theorem B3.later {W W' : World} {N : Nat} {x y z : Value} (h : B3 W N x y z) (k : Ext W W') : B3 W' N x y z := h.only (D := fun _ => False) (Only.of_ext k) (fun h => h)

/-- The sum of the first lengths. -/
def lsum (l : List Mot) : Nat → Int
  | 0 => 0
  | k + 1 => lsum l k + (l.getD k Mot.zero).len
/-- Motions are few, and short. -/
def shrt (l : List Mot) : Bool := decide (l.length ≤ 8) && decide (lsum l l.length ≤ 2000)

/-- Motions are valid, short and not slow. -/
def rightB (l : List Mot) (s a j : Int) : Bool := vld s a j && decide (conn l = 0) && shrt l

end Go.Proofs.YtjibcnnbclcboaaGreatDoor

namespace Go.Proofs.YtjibcnnbclcboaaGreatDoor
open Go.RowKit
set_option maxRecDepth 8000
set_option maxRecDepth 8000

/-- The pieces, with the one up to the present position, if there is one. -/
def Ctl.psAll (C : Ctl) : List Mot := if C.pieceB = true then C.ps ++ [C.pieceM] else C.ps
/-- What Break does. -/
def Ctl.brkC (C : Ctl) : Ctl :=
  if C.bk = true then C else { C with ps := C.psAll, lx := C.at3.1, ly := C.at3.2.1, lz := C.at3.2.2, plan := [], pos := 0, br := false, hd := false, bk := true }

set_option maxHeartbeats 1000000 in
theorem break_bk {w : World} {N : Nat} {vm vp vq : Value} {C : Ctl} (h : CBox w N vm vp vq C) (hbk : C.bk = true) :
    Calls Tryz.prog 37 #[.pointer (some ⟨N, 0, none⟩)] w fun e w' => e = .returned (.tuple #[]) ∧ Ext w w' := by
  have c10 := h.c10
  rw [hbk] at c10
  clear h hbk
  go_enter Tryz.func37, Tryz.ntmps37
  go_wp2
  refine bodyPost_ret (v := .tuple #[]) (by simp [results, Tryz.results37, go_sem]) rfl ⟨rfl, Ext.refl _⟩

set_option maxHeartbeats 4000000 in
theorem break_run {B : Nat} {w : World} {N : Nat} {vm vp vq : Value} {C : Ctl} (h : CInv B w N vm vp vq C) (hbk : C.bk = false) (k : C.posOk) (hv0 : ∀ b, vm.ownBlock = some b → b < w.heap.size) (hq : C.ps.length ≤ 999999999) :
    Calls Tryz.prog 37 #[.pointer (some ⟨N, 0, none⟩)] w (CPost B w N vm vp vq C.brkC (.tuple #[])) := by
  have hst : C.brkC = { C with ps := C.psAll, lx := C.at3.1, ly := C.at3.2.1, lz := C.at3.2.2, plan := [], pos := 0, br := false, hd := false, bk := true } := by unfold Ctl.brkC; rw [hbk]; rfl
  rw [hst]
  clear hst
  have HH := Lib.hid h
  have HK := Lib.hid k; clear k
  have HV0 := Lib.hid hv0; clear hv0
  have hN := h.box.lt
  have c10 := h.box.c10
  rw [hbk] at c10
  clear h hbk
  have HP1 := Lib.hid (piece_any HH.out.box HH.out.sm HK.out)
  have hps : C.psAll = if C.pieceB = true then C.ps ++ [C.pieceM] else C.ps := rfl
  have HPS := Lib.hid hps
  clear hps
  generalize C.psAll = ps6 at *
  generalize C.pieceB = bv at *
  generalize C.pieceM = pm at *
  have hat : ∀ (w' : World) (vq' : Value) (l : List Mot), CBox w' N vm vp vq' { C with ps := l } → SlM w' vm C.ms → Calls Tryz.prog 36 #[.pointer (some ⟨N, 0, none⟩)] w' fun e w'' => e = .returned (P3 C.at3) ∧ Ext w' w'' := fun w' vq' l hb hm => cpos_any (C := { C with ps := l }) hb hm ⟨HK.out.le, HK.out.n, HK.out.rng, HK.out.p0, HK.out.p1, HK.out.p2⟩
  have HAT := Lib.hid hat
  clear hat
  generalize C.at3 = q at *
  obtain ⟨qx, qy, qz⟩ := q
  simp only [P3] at HAT
  simp only
  go_enter Tryz.func37, Tryz.ntmps37
  go_wp2_with fail
  refine HP1.out.mono ?_
  rintro e w2 ⟨rfl, hx2⟩
  clear HP1 c10
  have hB2 := HH.out.box.later hx2; have hm2 := HH.out.sm.later hx2; have hq2 := HH.out.sq.later hx2
  have hO2 : Only (Foot N vq) w w2 := Only.of_ext hx2
  clear hx2
  cases bv
  · go_wp2_with fail
    obtain ⟨W3, hW3, B3, hE3⟩ := M9Box.mk' w2 pm
    rw [hW3]; clear hW3
    have hB6 := hB2.later hE3; have hm6 := hm2.later hE3; have hq6 := hq2.later hE3
    have hO6 := hO2.trans (Only.of_ext hE3)
    clear hB2 hm2 hq2 hO2 hE3 B3
    have nq6 := HH.out.nq
    have mq6 := HH.out.mq
    have hloc6 : ∀ b, vq.ownBlock = some b → vq.ownBlock = some b ∨ w.heap.size ≤ b := fun b hb => .inl hb
    have HPS6 : Hid (ps6 = C.ps) := Lib.hid (by rw [HPS.out]; rfl)
    clear HPS
    obtain ⟨l6, hl6⟩ : ∃ l6, l6 = C.ps := ⟨_, rfl⟩
    have hB6 : CBox W3 N vm vp vq { C with ps := l6 } := by rw [hl6]; exact hB6
    rw [← hl6] at HPS6 hq6
    clear hl6
    obtain ⟨vq6, hvq6⟩ : ∃ vq6, vq6 = vq := ⟨_, rfl⟩
    rw [← hvq6] at hB6 hq6 nq6 mq6
    have hloc6 : ∀ b, vq6.ownBlock = some b → vq.ownBlock = some b ∨ w.heap.size ≤ b := by rw [hvq6]; exact hloc6
    clear hvq6
    refine (HAT.out _ _ _ hB6 hm6).mono ?_
    rintro e w7 ⟨rfl, hx7⟩
    have hB7 := hB6.later hx7; have hm7 := hm6.later hx7; have hq7 := hq6.later hx7
    have hO7 := hO6.trans (Only.of_ext hx7)
    clear hB6 hm6 hq6 hO6 hx7
    have c12 := hB7.c12; have c13 := hB7.c13; have c14 := hB7.c14; have f12 := hB7.fr 12; have f13 := hB7.fr 13; have f14 := hB7.fr 14
    have c6 := hB7.c6; have c7 := hB7.c7; have c8 := hB7.c8; have f6 := hB7.fr 6; have f7 := hB7.fr 7; have f8 := hB7.fr 8
    have c9 := hB7.c9; have c10 := hB7.c10; have f9 := hB7.fr 9; have f10 := hB7.fr 10
    go_wp2
    obtain ⟨W8, hW8⟩ : ∃ W8 : World, (((((((w7.setCell ⟨N, 12, none⟩ (.int .i64 qx)).setCell ⟨N, 13, none⟩ (.int .i64 qy)).setCell ⟨N, 14, none⟩ (.int .i64 qz)).setCell ⟨N, 6, none⟩ (.slice none 0 0)).setCell ⟨N, 7, none⟩ (.int .i64 0)).setCell ⟨N, 8, none⟩ (.bool false)).setCell ⟨N, 9, none⟩ (.bool false)).setCell ⟨N, 10, none⟩ (.bool true) = W8 := ⟨_, rfl⟩
    have hB8 : CBox W8 N vm (.slice none 0 0) vq6 { C with ps := l6, lx := qx, ly := qy, lz := qz, plan := [], pos := 0, br := false, hd := false, bk := true } := by
      rw [← hW8]
      simpa using (((((((hB7.set_lx qx).set_ly qy).set_lz qz).set_vp (.slice none 0 0) []).set_pos 0).set_br false).set_hd false).set_bk true
    have hO8 : Only (Foot N vq) w W8 := by rw [← hW8]; exact (((((((hO7.set (.inl (.inl rfl)) _).set (.inl (.inl rfl)) _).set (.inl (.inl rfl)) _).set (.inl (.inl rfl)) _).set (.inl (.inl rfl)) _).set (.inl (.inl rfl)) _).set (.inl (.inl rfl)) _).set (.inl (.inl rfl)) _
    have hO8' : Only (fun k => k = N) w7 W8 := by rw [← hW8]; exact ((((((((Only.refl (fun k => k = N) w7).set (.inl rfl) _).set (.inl rfl) _).set (.inl rfl) _).set (.inl rfl) _).set (.inl rfl) _).set (.inl rfl) _).set (.inl rfl) _).set (.inl rfl) _
    rw [hW8]; clear hW8
    have hm8 := hm7.only hO8' (fun b hb e => HH.out.nm (by rw [hb, e]))
    have hq8 := hq7.only hO8' (fun b hb e => nq6 (by rw [hb, e]))
    have fin : CInv B W8 N vm (.slice none 0 0) vq6 { C with ps := ps6, lx := qx, ly := qy, lz := qz, plan := [], pos := 0, br := false, hd := false, bk := true } := by
      rw [HPS6.out]
      exact ⟨hB8, hm8, ⟨none, 0, 0, 0, 0, rfl, rfl, .inl rfl, fun i hi => by omega⟩, hq8, HH.out.nm, (by intro h; cases h), nq6, mq6, .inl rfl, HH.out.base⟩
    go_end0
    exact ⟨rfl, _, vq6, fin, hO8, hloc6, fun b hb => by cases hb⟩
  · go_wp2_with fail
    obtain ⟨W3, hW3, B3, hE3⟩ := M9Box.mk' w2 pm
    rw [hW3]; clear hW3
    have hB3 := hB2.later hE3; have hm3 := hm2.later hE3; have hq3 := hq2.later hE3
    have hO3 := hO2.trans (Only.of_ext hE3)
    have hd1 : ¬ vq.ownBlock = some N := HH.out.nq
    have hd2 : ¬ vq.ownBlock = some w2.heap.size := fun e => by have := hq2.lt e; omega
    have e0 := Chg.cell (D := fun k => vq.ownBlock = some k) B3.c0 hd2; have e1 := Chg.cell (D := fun k => vq.ownBlock = some k) B3.c1 hd2; have e2 := Chg.cell (D := fun k => vq.ownBlock = some k) B3.c2 hd2; have e3 := Chg.cell (D := fun k => vq.ownBlock = some k) B3.c3 hd2; have e4 := Chg.cell (D := fun k => vq.ownBlock = some k) B3.c4 hd2; have e5 := Chg.cell (D := fun k => vq.ownBlock = some k) B3.c5 hd2; have e6 := Chg.cell (D := fun k => vq.ownBlock = some k) B3.c6 hd2; have e7 := Chg.cell (D := fun k => vq.ownBlock = some k) B3.c7 hd2; have e8 := Chg.cell (D := fun k => vq.ownBlock = some k) B3.c8 hd2
    have e11 := Chg.cell (D := fun k => vq.ownBlock = some k) hB3.c11 hd1
    have H1 := Lib.hid hd1; have H2 := Lib.hid hd2
    clear hd1 hd2
    refine wp_region_tree (fun w' => ∃ y : Chg (fun k => vq.ownBlock = some k) W3, w' = y.w) 8 (.one [0, 1, 2, 3, 4, 5] 6 (.one [] 7 (.leaf []))) (by kernel_rfl) (by kernel_rfl) (by kernel_rfl) ⟨⟨_, (Only.refl _ W3).drew⟩, rfl⟩ ?_
    simp only [List.take_succ_cons, List.take_zero]
    refine tree_one fun K hK => ?_
    simp only [List.map_cons, List.map_nil, pickOp, List.getElem?_cons_zero, List.getElem?_cons_succ, Option.getD_some]
    repeat (go_big_quiet_step (fail))
    refine wpQuiet_nil ?_
    clear e0 e1 e2 e3 e4 e5 e6 e7 e8 e11
    go_wp2_with fail
    obtain ⟨W4, hW4, B4, hE4⟩ := M9Box.mk' W3 pm
    rw [hW4]; clear hW4
    refine onlyK_normal (hK _ _ ⟨⟨_, (Only.of_ext hE4).drew⟩, rfl⟩ ?_); clear hK K
    refine tree_one0 fun K hK => ?_
    simp only [pickOp, List.getElem?_cons_zero, List.getElem?_cons_succ, Option.getD_some]
    have hs4 := B4.sl1.later (Ext.refl W4).drew
    have hq4 := hq3.later hE4.drew
    have hl4 : C.ps.length + [pm].length ≤ 1000000000 := by simp; omega
    have hb4 : B ≤ W4.drew.heap.size := by have := HH.out.base; have := hO3.size; have := hE4.size; simp; omega
    have HS4 := Lib.hid hs4; have HQ4 := Lib.hid hq4; have HL4 := Lib.hid hl4; have HB4 := Lib.hid hb4
    clear hs4 hq4 hl4 hb4
    go_wp2_with ((at_builtin; refine appM_at rfl _ _ rfl B _ _ C.ps [pm] rfl rfl HQ4.out HS4.out HL4.out HB4.out ?_; intro v5 w5 own5 hg5 hloc5))
    have hg5 : W4.drew.grownBy w5 vq.ownBlock := hg5
    have hloc5 : v5.ownBlock = vq.ownBlock ∨ v5.ownBlock = some W4.drew.heap.size := hloc5
    have hO5 := (Only.of_ext (D := fun k => vq.ownBlock = some k) hE4).drew.trans (Only.of_grown hg5)
    refine onlyK_normal (hK _ _ ⟨⟨_, hO5⟩, rfl⟩ ?_); clear hK K
    have hB5 := hB3.only hO5 H1.out
    have hm5 := hm3.only hO5 (fun b hb e => HH.out.offm b hb (.inr e))
    have hO5' := hO3.trans (hO5.mono (D' := Foot N vq) (fun k _ e => .inr e))
    have hsz : w.heap.size ≤ W4.drew.heap.size := by have := hO3.size; have := hE4.size; simp; omega
    have nq6 : v5.ownBlock ≠ some N := by
      rcases hloc5 with h | h
      · rw [h]; exact H1.out
      · rw [h]; intro e; injection e with e; omega
    have mq6 : vm.ownBlock = none ∨ vm.ownBlock ≠ v5.ownBlock := by
      rcases hloc5 with h | h
      · rw [h]; exact HH.out.mq
      · right; rw [h]; intro e
        have := HV0.out _ e
        omega
    have hloc6 : ∀ b, v5.ownBlock = some b → vq.ownBlock = some b ∨ w.heap.size ≤ b := fun b hb => by
      rcases hloc5 with h | h
      · left; rw [← h]; exact hb
      · right; rw [h] at hb; injection hb with hb; omega
    obtain ⟨a5, n5, k5, hv5⟩ := own5.form
    subst hv5
    clear hloc5 hg5 hO5 hO3 HB4 HL4 HQ4 HS4 H1 H2 B4 hE4 B3 hE3 hB3 hm3 hq3 hB2 hm2 hq2 hO2
    refine tree_leaf0 ?_
    simp only [List.drop_succ_cons, List.drop_zero]
    have c11 := hB5.c11; have f11 := hB5.fr 11
    go_wp2_with fail
    have hB6 : CBox (w5.setCell ⟨N, 11, none⟩ (.slice a5 n5 k5)) N vm vp (.slice a5 n5 k5) { C with ps := C.ps ++ [pm] } := hB5.set_vq (.slice a5 n5 k5) _
    have hO6 : Only (Foot N vq) w (w5.setCell ⟨N, 11, none⟩ (.slice a5 n5 k5)) := hO5'.set (.inl (.inl rfl)) _
    have hO6' : Only (fun k => k = N) w5 (w5.setCell ⟨N, 11, none⟩ (.slice a5 n5 k5)) := (Only.refl (fun k => k = N) w5).set (.inl rfl) _
    have hm6 := hm5.only hO6' (fun b hb e => HH.out.nm (by rw [hb, e]))
    have hq6 := own5.only hO6' (fun b hb e => nq6 (by rw [hb, e]))
    clear hO6' hm5 hB5 hO5' own5 c11 f11
    have HPS6 : Hid (ps6 = C.ps ++ [pm]) := Lib.hid (by rw [HPS.out]; rfl)
    clear HPS
    generalize w5.setCell ⟨N, 11, none⟩ (.slice a5 n5 k5) = W6 at *
    generalize C.ps ++ [pm] = l6 at *
    obtain ⟨vq6, hvq6⟩ : ∃ vq6 : Value, vq6 = .slice a5 n5 k5 := ⟨_, rfl⟩
    rw [← hvq6] at hB6 hq6 nq6 mq6 hloc6
    clear hvq6
    refine (HAT.out _ _ _ hB6 hm6).mono ?_
    rintro e w7 ⟨rfl, hx7⟩
    have hB7 := hB6.later hx7; have hm7 := hm6.later hx7; have hq7 := hq6.later hx7
    have hO7 := hO6.trans (Only.of_ext hx7)
    clear hB6 hm6 hq6 hO6 hx7
    have c12 := hB7.c12; have c13 := hB7.c13; have c14 := hB7.c14; have f12 := hB7.fr 12; have f13 := hB7.fr 13; have f14 := hB7.fr 14
    have c6 := hB7.c6; have c7 := hB7.c7; have c8 := hB7.c8; have f6 := hB7.fr 6; have f7 := hB7.fr 7; have f8 := hB7.fr 8
    have c9 := hB7.c9; have c10 := hB7.c10; have f9 := hB7.fr 9; have f10 := hB7.fr 10
    go_wp2
    obtain ⟨W8, hW8⟩ : ∃ W8 : World, (((((((w7.setCell ⟨N, 12, none⟩ (.int .i64 qx)).setCell ⟨N, 13, none⟩ (.int .i64 qy)).setCell ⟨N, 14, none⟩ (.int .i64 qz)).setCell ⟨N, 6, none⟩ (.slice none 0 0)).setCell ⟨N, 7, none⟩ (.int .i64 0)).setCell ⟨N, 8, none⟩ (.bool false)).setCell ⟨N, 9, none⟩ (.bool false)).setCell ⟨N, 10, none⟩ (.bool true) = W8 := ⟨_, rfl⟩
    have hB8 : CBox W8 N vm (.slice none 0 0) vq6 { C with ps := l6, lx := qx, ly := qy, lz := qz, plan := [], pos := 0, br := false, hd := false, bk := true } := by
      rw [← hW8]
      simpa using (((((((hB7.set_lx qx).set_ly qy).set_lz qz).set_vp (.slice none 0 0) []).set_pos 0).set_br false).set_hd false).set_bk true
    have hO8 : Only (Foot N vq) w W8 := by rw [← hW8]; exact (((((((hO7.set (.inl (.inl rfl)) _).set (.inl (.inl rfl)) _).set (.inl (.inl rfl)) _).set (.inl (.inl rfl)) _).set (.inl (.inl rfl)) _).set (.inl (.inl rfl)) _).set (.inl (.inl rfl)) _).set (.inl (.inl rfl)) _
    have hO8' : Only (fun k => k = N) w7 W8 := by rw [← hW8]; exact ((((((((Only.refl (fun k => k = N) w7).set (.inl rfl) _).set (.inl rfl) _).set (.inl rfl) _).set (.inl rfl) _).set (.inl rfl) _).set (.inl rfl) _).set (.inl rfl) _).set (.inl rfl) _
    rw [hW8]; clear hW8
    have hm8 := hm7.only hO8' (fun b hb e => HH.out.nm (by rw [hb, e]))
    have hq8 := hq7.only hO8' (fun b hb e => nq6 (by rw [hb, e]))
    have fin : CInv B W8 N vm (.slice none 0 0) vq6 { C with ps := ps6, lx := qx, ly := qy, lz := qz, plan := [], pos := 0, br := false, hd := false, bk := true } := by
      rw [HPS6.out]
      exact ⟨hB8, hm8, ⟨none, 0, 0, 0, 0, rfl, rfl, .inl rfl, fun i hi => by omega⟩, hq8, HH.out.nm, (by intro h; cases h), nq6, mq6, .inl rfl, HH.out.base⟩
    go_end0
    exact ⟨rfl, _, vq6, fin, hO8, hloc6, fun b hb => by cases hb⟩

end Go.Proofs.YtjibcnnbclcboaaGreatDoor

namespace Go.Proofs.YtjibcnnbclcboaaGreatDoor
open Go.RowKit

/-- The last two distances of the plan. -/
def Ctl.dLast (C : Ctl) : Int := C.plan.getD (C.pos - 1) 0
def Ctl.dBefore (C : Ctl) : Int := if 1 < C.pos then C.plan.getD (C.pos - 2) 0 else 0
def Ctl.needed (C : Ctl) : Int := dsum (C.cur.spd C.s) C.a C.j C.dLast (C.dLast - C.dBefore)
def Ctl.stopL (C : Ctl) : List Int := stops (C.cur.spd C.s) C.a C.j C.dLast (C.dLast - C.dBefore)

/-- What Hold does. -/
def Ctl.holdC (C : Ctl) : Ctl :=
  if C.bk = true then C
  else if C.pos = C.plan.length ∨ C.br = true then { C with hd := true }
  else if C.needed ≤ C.cur.len - C.part then
    (if C.stopL = [] then Ctl.stopd { C with hd := true, plan := [], pos := 0, br := true } else { C with hd := true, plan := C.stopL, pos := 0, br := true })
  else { C with hd := true }

theorem smGo_at (s a j : Int) : ∀ (l : List Int) (k : Nat) (v b : Int), 0 ≤ v → v ≤ s → -a ≤ b → b ≤ a → smGo s a j v b (l ++ [0, 0]) = true → k < l.length →
    ∃ p, p = (if k = 0 then v else l.getD (k - 1) 0) ∧ 0 ≤ p ∧ p ≤ s ∧ 0 ≤ l.getD k 0 ∧ l.getD k 0 ≤ s ∧ -a ≤ l.getD k 0 - p ∧ l.getD k 0 - p ≤ a ∧ smGo s a j (l.getD k 0) (l.getD k 0 - p) (l.drop (k + 1) ++ [0, 0]) = true
  | [], k, v, b, _, _, _, _, _, hk => by simp at hk
  | x :: l, 0, v, b, h1, h2, h3, h4, h, hk => by
    simp only [List.cons_append, smGo, Bool.and_eq_true, inR_iff] at h
    obtain ⟨⟨⟨⟨x1, x2⟩, y1, y2⟩, _⟩, hr⟩ := h
    exact ⟨v, by simp, h1, h2, by simpa using x1, by simpa using x2, by simpa using y1, by simpa using y2, by simpa using hr⟩
  | x :: l, k + 1, v, b, h1, h2, h3, h4, h, hk => by
    simp only [List.cons_append, smGo, Bool.and_eq_true, inR_iff] at h
    obtain ⟨⟨⟨⟨x1, x2⟩, y1, y2⟩, _⟩, hr⟩ := h
    obtain ⟨p, hp, q⟩ := smGo_at s a j l k x (x - v) x1 x2 y1 y2 hr (by simpa using hk)
    refine ⟨p, ?_, by simpa using q⟩
    rw [hp]
    cases k with
    | zero => simp
    | succ k => simp

theorem Ctl.Ok.mvg {C : Ctl} (h : C.Ok) (hp : C.pos ≠ C.plan.length) (hb : C.br = false) : Go.Proofs.YtjibcnnbclcboaaGreatDoor.mvg (C.cur.spd C.s) C.a C.j C.dBefore C.dLast = true := by
  have hn : C.plan ≠ [] := fun e => hp (by rw [h.rest e, e]; rfl)
  obtain ⟨f1, f2, f3⟩ := h.full hn hb
  obtain ⟨r1, r2⟩ := h.run hn
  have hv := spd_vld (m := C.cur) h.vl
  obtain ⟨⟨s1, s2⟩, ⟨a1, a2⟩, ⟨j1, j2⟩⟩ := (vld_iff _ _ _).1 hv
  unfold smth at f2
  rw [hv, Bool.true_and] at f2
  obtain ⟨p, hp1, p0, p1, q0, q1, d1, d2, hs⟩ := smGo_at (C.cur.spd C.s) C.a C.j C.plan (C.pos - 1) 0 0 (by omega) (by omega) (by omega) (by omega) f2 (by omega)
  have e1 : C.dBefore = p := by
    rw [hp1]; unfold Ctl.dBefore
    by_cases h1 : 1 < C.pos
    · rw [if_pos h1, if_neg (by omega)]; rfl
    · rw [if_neg h1, if_pos (by omega)]
  have e2 : C.dLast = C.plan.getD (C.pos - 1) 0 := rfl
  rw [← e2] at q0 q1 d1 d2 hs
  rw [← e1] at p0 p1 d1 d2 hs
  rw [mvg_iff]
  exact ⟨hv, ⟨p0, p1⟩, ⟨q0, q1⟩, smooth_safe _ _ _ j1 _ _ _ q0 q1 d1 d2 hs⟩

theorem Ctl.Ok.stop_props {C : Ctl} (h : C.Ok) (hp : C.pos ≠ C.plan.length) (hb : C.br = false) : (∀ x ∈ C.stopL, 0 < x) ∧ C.stopL.sum = C.needed := by
  obtain ⟨hv, _, _, hs⟩ := (mvg_iff _ _ _ _ _).1 (h.mvg hp hb)
  exact ⟨fun x hx => (stops_pos _ _ _ _ _ hv hs x hx).1, stops_sum _ _ _ _ _ hv hs⟩

theorem Ctl.Ok.hold {C : Ctl} (h : C.Ok) : C.holdC.Ok := by
  unfold Ctl.holdC
  split
  · exact h
  · split
    · exact ⟨⟨h.vl, h.n, h.rng, h.rate, h.stp⟩, h.le, h.p0, h.p1, h.rest, h.run, h.pos, h.ln, h.sum, h.full⟩
    · rename_i hc
      have hp : C.pos ≠ C.plan.length := fun e => hc (.inl e)
      have hb : C.br = false := by simpa using fun e => hc (.inr e)
      have hn : C.plan ≠ [] := fun e => hp (by rw [h.rest e, e]; rfl)
      obtain ⟨r1, r2⟩ := h.run hn
      obtain ⟨t1, t2⟩ := h.stop_props hp hb
      have q0 := h.p0 r1
      have q1 := h.p1 r1
      have hl := (Mot.len_bounds (h.rng C.idx r1)).2
      have hl2 : C.cur.len ≤ 40000000 := hl
      split
      · rename_i hneed
        split
        · exact stopd_ok ⟨h.vl, h.n, h.rng, h.rate, h.stp⟩ r1 q0 (Int.le_of_lt q1)
        · rename_i hne
          have t3 := sum_len t1
          refine ⟨⟨h.vl, h.n, h.rng, h.rate, h.stp⟩, h.le, h.p0, h.p1, fun e => absurd e hne, fun _ => ⟨r1, ?_⟩, t1, ?_, fun _ => ?_, fun _ hb' => by cases hb'⟩
          · show 0 < C.stopL.length
            exact List.length_pos_iff.2 hne
          · show C.stopL.length ≤ 40000000; omega
          · show C.part + (C.stopL.drop 0).sum ≤ C.cur.len
            rw [List.drop_zero]; omega
      · exact ⟨⟨h.vl, h.n, h.rng, h.rate, h.stp⟩, h.le, h.p0, h.p1, h.rest, h.run, h.pos, h.ln, h.sum, h.full⟩

theorem Ctl.Ok.brk {C : Ctl} (h : C.Ok) : C.brkC.Ok := by
  unfold Ctl.brkC
  split
  · exact h
  · exact ⟨⟨h.vl, h.n, h.rng, h.rate, h.stp⟩, h.le, h.p0, h.p1, fun _ => rfl, fun e => absurd rfl e, (fun x hx => by cases hx), Nat.zero_le _, fun e => absurd rfl e, fun e => absurd rfl e⟩
theorem Ctl.Ok.resume {C : Ctl} (h : C.Ok) : Ctl.Ok { C with hd := false } :=
  ⟨⟨h.vl, h.n, h.rng, h.rate, h.stp⟩, h.le, h.p0, h.p1, h.rest, h.run, h.pos, h.ln, h.sum, h.full⟩

theorem holdC_ps (C : Ctl) : C.holdC.ps.length ≤ C.ps.length + 1 := by
  unfold Ctl.holdC
  split
  · omega
  · split
    · show C.ps.length ≤ _; omega
    · split
      · split
        · exact stopd_ps _
        · show C.ps.length ≤ _; omega
      · show C.ps.length ≤ _; omega
theorem brkC_ps (C : Ctl) : C.brkC.ps.length ≤ C.ps.length + 1 := by
  unfold Ctl.brkC
  split
  · omega
  · show C.psAll.length ≤ _
    unfold Ctl.psAll
    split
    · simp
    · omega

end Go.Proofs.YtjibcnnbclcboaaGreatDoor
