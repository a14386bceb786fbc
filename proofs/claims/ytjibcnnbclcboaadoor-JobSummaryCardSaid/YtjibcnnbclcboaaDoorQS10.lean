/-
  Walks: Tick of the controller.
  Walks: Tick where nothing moves, Holding, Resume, Done of the controller.
  Walks: New of the controller.
  Plain laws of the controller: its states stay right.
  New gives a right state; Tick on a right state.
  The example of layer 50, computed.
  Walks: the example of layer 50.
  Walks: Connected of the reference, small.
  Walks: small, Short, right.
  Walks: Break of the controller.
  Plain laws of Hold and Break.
-/
import Derived.Test.YtjibcnnbclcboaaDoorQS09
namespace Go.Proofs.YtjibcnnbclcboaaDoor
open Go.RowKit
set_option maxRecDepth 8000
set_option maxRecDepth 8000

/-- One step of the plan. -/
def Ctl.advd (C : Ctl) : Ctl :=
  if C.pos + 1 = C.plan.length then Ctl.stopd { C with part := C.part + C.plan.getD C.pos 0, pos := C.pos + 1 } else { C with part := C.part + C.plan.getD C.pos 0, pos := C.pos + 1 }

theorem resting_is {w : World} {N : Nat} {vm vp vq : Value} {C : Ctl} (b : Bool) (h : CBox w N vm vp vq C) (hp : SlI w vp C.plan) (hb : b = decide (C.pos = C.plan.length)) :
    Calls Tryd.prog 36 #[.pointer (some ⟨N, 0, none⟩)] w fun e w' => e = .returned (.bool b) ∧ Ext w w' := by
  have e : decide ((C.pos : Int) = (C.plan.length : Int)) = b := by
    rw [hb]
    by_cases h : C.pos = C.plan.length
    · simp [h]
    · have h' : ¬ (C.pos : Int) = (C.plan.length : Int) := by omega
      simp [h]
      omega
  have := resting_any h hp
  rw [e] at this
  exact this

set_option maxHeartbeats 4000000 in
theorem tick_run {B : Nat} {w : World} {N : Nat} {vm vp vq : Value} {C : Ctl} (h : CInv B w N vm vp vq C) (hbk : C.bk = false) (hi : C.idx < C.ms.length) (hn : C.ms.length ≤ 1000000000000) (hr : ∀ i, i < C.ms.length → (C.ms.getD i Mot.zero).rng)
    (hk : C.pos < C.plan.length) (hpl : C.plan.length ≤ 1000000000000) (p0 : 0 ≤ C.part) (x0 : 0 ≤ C.plan.getD C.pos 0) (p1 : C.part + C.plan.getD C.pos 0 ≤ C.cur.len) (p2 : 1 ≤ C.cur.len) (hps : C.ps.length ≤ 999999999) :
    Calls Tryd.prog 23 #[.pointer (some ⟨N, 0, none⟩)] w (CPost B w N vm vp vq C.advd (.bool true)) := by
  have HH := Lib.hid h
  have HR := Lib.hid hr
  have hl1 := Mot.len_bounds (hr C.idx hi)
  have hl2 : C.cur.len ≤ 40000000 := hl1.2
  clear hr hl1
  have NP := Lib.hid h.np; have PQ := Lib.hid h.pq
  have HPO : Hid (Ctl.posOk { C with part := C.part + C.plan.getD C.pos 0, pos := C.pos + 1 }) := Lib.hid ⟨Nat.le_of_lt hi, hn, fun _ => HR.out _ hi, fun _ => by simp only; omega, fun _ => p1, fun _ => p2⟩
  have c0 := Later.cell h.box.c0; have c4 := Later.cell h.box.c4; have c10 := Later.cell h.box.c10
  rw [hbk] at c10
  have HBK := Lib.hid hbk; clear hbk
  obtain ⟨a0, n0, cap0, b0, off0, hvm, hn0, -, -, -⟩ := h.sm
  rw [hvm] at c0
  rw [hn0] at c0
  clear hn0 hvm
  have hin : ¬ (C.idx : Int) = (C.ms.length : Int) := by omega
  have hd0 : ((C.idx : Int) == (C.ms.length : Int)) = false := by simpa using hin
  clear h
  go_enter Tryd.func23, Tryd.ntmps23
  go_wp2_with fail
  refine wp_region_later (by kernel_rfl) (by kernel_rfl) ?_
  repeat (go_big_quiet_step (fail))
  refine wpQuiet_nil ?_
  rintro _ ⟨y, rfl⟩
  have hI1 := HH.out.later y.ext
  have hO1 : Only (Foot N vq) w y.w := Only.of_ext y.ext
  clear c0 c4 c10
  generalize y.w = W1 at *
  clear y
  go_wp2_with fail
  refine (resting_is false hI1.box hI1.sp (by simp; omega)).mono ?_
  rintro e W ⟨rfl, hx2⟩
  have hI2 := hI1.later hx2
  have hO := hO1.trans (Only.of_ext hx2)
  clear hI1 hO1 hx2
  have hB := hI2.box; have hm := hI2.sm; have hs := hI2.sp; have hq := hI2.sq
  have HS := Lib.hid hs
  clear hI2
  go_wp2_with fail
  obtain ⟨C2, hC2⟩ : ∃ C2, C2 = C := ⟨_, rfl⟩
  obtain ⟨C4, hC4⟩ : ∃ C4, C4 = { C2 with part := C.part + C.plan.getD C.pos 0, pos := C.pos + 1 } := ⟨_, rfl⟩
  -- here: W, v, C2, l; hB : CBox W N vm v vq C2, hm, hs : SlI W v l, hq : OwnM, hO : Only (Foot N vq) w W
  have hbr := hB.later (Ext.refl W)
  obtain ⟨ad, n, cap, b, off, hv, hn, h3, h4⟩ := hs
  have hk0 : C.pos < n := by rw [hn]; exact hk
  obtain ⟨hb1, hb2⟩ := h4 C.pos hk0
  obtain rfl : ad = some ⟨b, off, none⟩ := h3.resolve_left (by omega)
  cases hv
  have HN := Lib.hid hn
  clear hn h3 h4
  have c5 := Later.cell hB.c5; have c6 := Later.cell hB.c6; have c7 := Later.cell hB.c7; have d := Later.cell hb2
  generalize hx : C.plan.getD C.pos 0 = x at *
  have HX := Lib.hid hx; clear hx
  try simp only at c5 c7
  refine wp_region_tail 15 (by kernel_rfl) (by kernel_rfl) (by kernel_rfl) ?_
  simp only [List.take_succ_cons, List.take_zero, List.drop_succ_cons, List.drop_zero]
  repeat (go_big_quiet_step (fail))
  refine wpQuiet_nil ?_
  rintro _ ⟨y, rfl⟩
  have hy := y.ext
  have hB3 := hB.later hy; have hm3 := hm.later hy; have hq3 := hq.later hy; have hs3 := HS.out.later hy
  have hO3 := hO.trans (Only.of_ext hy)
  clear c5 c6 c7 d hB hm hq hO hb2 hbr
  have hWs : W.heap.size ≤ y.w.heap.size := hy.size
  generalize y.w = W3 at *
  clear y hy
  have c5 := hB3.c5; have c7 := hB3.c7; have f5 := hB3.fr 5; have f7 := hB3.fr 7
  try simp only at c5 c7
  go_wp2_with fail
  obtain ⟨W4, hW4⟩ : ∃ W4 : World, (W3.setCell ⟨N, 5, none⟩ (.int .i64 (C.part + x))).setCell ⟨N, 7, none⟩ (.int .i64 ((C.pos : Int) + 1)) = W4 := ⟨_, rfl⟩
  have hB4 : CBox W4 N vm (.slice (some ⟨b, off, none⟩) n cap) vq C4 := by rw [← hW4, hC4, hC2]; simpa using (hB3.set_part (C.part + x)).set_pos (C.pos + 1)
  have hO4 : Only (Foot N vq) w W4 := by rw [← hW4]; exact (hO3.set (.inl (.inl rfl)) _).set (.inl (.inl rfl)) _
  have hO4' : Only (fun k => k = N) W3 W4 := by rw [← hW4]; exact ((Only.refl (fun k => k = N) W3).set (.inl rfl) _).set (.inl rfl) _
  rw [hW4]; clear hW4 c5 c7 f5 f7
  have hW4s : W.heap.size ≤ W4.heap.size := Nat.le_trans hWs hO4'.size
  have hm4 := hm3.only hO4' (fun b hb e => HH.out.nm (by rw [hb, e]))
  have hq4 := hq3.only hO4' (fun b hb e => HH.out.nq (by rw [hb, e]))
  have hs4 := hs3.only hO4' (fun b hb e => NP.out (by rw [hb, e]))
  have hI4 : CInv B W4 N vm (.slice (some ⟨b, off, none⟩) n cap) vq C4 := ⟨hB4, by rw [hC4, hC2]; exact hm4, by rw [hC4, hC2]; exact hs4, by rw [hC4, hC2]; exact hq4, HH.out.nm, NP.out, HH.out.nq, HH.out.mq, PQ.out, HH.out.base⟩
  clear hB3 hm3 hq3 hs3 hO3 hO4' hB4 hm4 hq4 hs4
  have hC5 : Ctl.advd C2 = if C.pos + 1 = C.plan.length then C4.stopd else C4 := by rw [hC4, hC2, ← HX.out]; rfl
  have HC5 := Lib.hid hC5; clear hC5
  by_cases hlast : C.pos + 1 = C.plan.length
  · have hres := resting_is true hI4.box hI4.sp (by rw [hC4, hC2]; simp [hlast])
    have HI4 := Lib.hid hI4; clear hI4
    have HC4 := Lib.hid hC4; clear hC4
    have HC2 := Lib.hid hC2; clear hC2
    have HL := Lib.hid hlast; clear hlast
    refine hres.mono ?_
    rintro e w5 ⟨rfl, hx5⟩
    clear hres
    have hI5 := HI4.out.later hx5
    have hO5 := hO4.trans (Only.of_ext hx5)
    clear HI4 hx5 hO4
    go_wp2_with fail
    have kst := stop_any hI5 (by rw [HC4.out, HC2.out]; exact hi) (by rw [HC4.out, HC2.out]; exact HPO.out) (by rw [HC4.out, HC2.out]; exact HR.out) (by rw [HC4.out, HC2.out]; exact hps)
    refine kst.mono ?_
    rintro e w6 ⟨rfl, vp', vq', hI6, hO6, hloc6, hlp6⟩
    clear kst
    have hO7 := hO5.trans hO6
    have hloc7 : ∀ b, vq'.ownBlock = some b → vq.ownBlock = some b ∨ w.heap.size ≤ b := fun b hb => (hloc6 b hb).imp id (fun h => Nat.le_trans hO5.size h)
    have FIN : Hid (CInv B w6 N vm vp' vq' (Ctl.advd C2)) := Lib.hid (by rw [HC5.out, if_pos HL.out]; exact hI6)
    have hlp7 : ∀ b', vp'.ownBlock = some b' → b' < w6.heap.size ∧ ((Value.slice (some ⟨b, off, none⟩) n cap).ownBlock = some b' ∨ w.heap.size ≤ b') := fun b' hb => ⟨(hlp6 b' hb).1, ((hlp6 b' hb).2).elim (fun h => .inl h) (fun h => .inr (Nat.le_trans hO5.size h))⟩
    clear hI6 hI5 hO6 hO5 hloc6 HC4
    rw [HC2.out] at FIN
    clear HC2 HC5
    go_wp2
    go_ret
    exact ⟨rfl, vp', vq', FIN.out, hO7, hloc7, hlp7⟩
  · have hres := resting_is false hI4.box hI4.sp (by rw [hC4, hC2]; simp; omega)
    have HI4 := Lib.hid hI4; clear hI4
    have HC4 := Lib.hid hC4; clear hC4
    have HC2 := Lib.hid hC2; clear hC2
    have HL := Lib.hid hlast; clear hlast
    refine hres.mono ?_
    rintro e w5 ⟨rfl, hx5⟩
    clear hres
    have hI5 := HI4.out.later hx5
    have hO5 := hO4.trans (Only.of_ext hx5)
    have hlp : b < w5.heap.size := Nat.lt_of_lt_of_le hb1 (Nat.le_trans hW4s hx5.size)
    clear HI4 hx5 hO4
    have FIN : Hid (CInv B w5 N vm (.slice (some ⟨b, off, none⟩) n cap) vq (Ctl.advd C2)) := Lib.hid (by rw [HC5.out, if_neg HL.out]; exact hI5)
    clear hI5 HC4
    rw [HC2.out] at FIN
    clear HC2 HC5
    go_wp2
    go_ret
    exact ⟨rfl, _, vq, FIN.out, hO5, fun b hb => .inl hb, fun b' hb => ⟨by injection hb with hb; subst hb; exact hlp, (fun h => .inl h) hb⟩⟩

theorem Own.base {B : Nat} {w : World} {v : Value} {l : List Int} (h : Own B w v l) {b : Nat} (hb : v.ownBlock = some b) : B ≤ b := by
  obtain ⟨h1, h2⟩ := h
  rcases h2 with ⟨rfl, h3⟩ | ⟨g, cap, cur, rfl, h3, h4⟩
  · cases hb
  · have : g = b := by simpa [Value.ownBlock] using hb
    subst this
    exact h3

set_option maxHeartbeats 4000000 in
theorem tick_start {B : Nat} {w : World} {N : Nat} {vm vp vq : Value} {C : Ctl} {l : List Int} (h : CInv B w N vm vp vq C) (hbk : C.bk = false) (hhd : C.hd = false) (hi : C.idx < C.ms.length) (hn : C.ms.length ≤ 1000000000000) (hr : ∀ i, i < C.ms.length → (C.ms.getD i Mot.zero).rng) (hrt : C.cur.rate ≤ 9223372036854775807)
    (hpos : C.pos = C.plan.length) (hE : stepsE (C.cur.len - C.part) (C.cur.spd C.s) C.a C.j = 0) (hL : stepsR (C.cur.len - C.part) (C.cur.spd C.s) C.a C.j = l) (hk : 0 < l.length) (hpl : l.length ≤ 1000000000000)
    (p0 : 0 ≤ C.part) (x0 : 0 ≤ l.getD 0 0) (p1 : C.part + l.getD 0 0 ≤ C.cur.len) (p2 : 1 ≤ C.cur.len) (hps : C.ps.length ≤ 999999999) :
    Calls Tryd.prog 23 #[.pointer (some ⟨N, 0, none⟩)] w (CPost B w N vm vp vq (Ctl.advd { C with plan := l, pos := 0, br := false }) (.bool true)) := by
  have HH := Lib.hid h
  have HR := Lib.hid hr
  have HRT := Lib.hid hrt; clear hrt
  have hl1 := Mot.len_bounds (hr C.idx hi)
  have hl2 : C.cur.len ≤ 40000000 := hl1.2
  clear hr hl1
  have HPO : Hid (Ctl.posOk { C with plan := l, br := false, part := C.part + l.getD 0 0, pos := 0 + 1 }) := Lib.hid ⟨Nat.le_of_lt hi, hn, fun _ => HR.out _ hi, fun _ => by simp only; omega, fun _ => p1, fun _ => p2⟩
  have HPS := Lib.hid hpos; clear hpos
  have kst := fun w => steps_any (C.cur.len - C.part) (C.cur.spd C.s) C.a C.j w
  rw [hE, hL] at kst
  have KST := Lib.hid kst
  clear kst hE hL
  have c0 := Later.cell h.box.c0; have c4 := Later.cell h.box.c4; have c10 := Later.cell h.box.c10
  rw [hbk] at c10
  have HBK := Lib.hid hbk; clear hbk
  obtain ⟨a0, n0, cap0, b0, off0, hvm, hn0, -, -, -⟩ := h.sm
  rw [hvm] at c0
  rw [hn0] at c0
  clear hn0 hvm
  have hin : ¬ (C.idx : Int) = (C.ms.length : Int) := by omega
  have hd0 : ((C.idx : Int) == (C.ms.length : Int)) = false := by simpa using hin
  clear h
  go_enter Tryd.func23, Tryd.ntmps23
  go_wp2_with fail
  refine wp_region_later (by kernel_rfl) (by kernel_rfl) ?_
  repeat (go_big_quiet_step (fail))
  refine wpQuiet_nil ?_
  rintro _ ⟨y, rfl⟩
  have hI1 := HH.out.later y.ext
  have hO1 : Only (Foot N vq) w y.w := Only.of_ext y.ext
  have hE1 := y.ext
  clear c0 c4 c10
  generalize y.w = W1 at *
  clear y
  go_wp2_with fail
  refine (resting_is true hI1.box hI1.sp (by simp [HPS.out])).mono ?_
  rintro e W2 ⟨rfl, hx2⟩
  have hI2 := hI1.later hx2
  have hO2 := hO1.trans (Only.of_ext hx2)
  have hE2 := hE1.trans hx2
  clear hI1 hO1 hx2 hE1
  have c9 := hI2.box.c9
  rw [hhd] at c9
  have HHD := Lib.hid hhd; clear hhd
  go_wp2_with fail
  clear c9
  have hm2 := hI2.sm
  obtain ⟨ad, n, cap, b, off, hvm, hn2, h3, -, h4⟩ := hm2
  obtain ⟨hb1, hb2⟩ := h4 C.idx (by omega)
  obtain rfl : ad = some ⟨b, off, none⟩ := h3.resolve_left (by omega)
  clear h3 h4
  have hi2 : C.idx < n := by omega
  have c0 := Later.cell hI2.box.c0; have c1 := Later.cell hI2.box.c1; have c2 := Later.cell hI2.box.c2; have c3 := Later.cell hI2.box.c3; have c4 := Later.cell hI2.box.c4
  rw [hvm] at c0
  clear hvm hn2
  have hleft : ∀ w', Ext W2 w' → Calls Tryd.prog 38 #[.pointer (some ⟨N, 0, none⟩)] w' fun e w'' => e = .returned (.int .i64 (C.cur.len - C.part)) ∧ Ext w' w'' := fun w' he => left_any (hI2.later he).box (hI2.later he).sm hi (HR.out C.idx hi) p0 (by omega)
  have HLF := Lib.hid hleft; clear hleft
  have hlim := fun w => limit_any C.cur C.s C.a C.j w HRT.out
  have HLM := Lib.hid hlim; clear hlim
  have hcur : C.ms.getD C.idx Mot.zero = C.cur := rfl
  rw [hcur] at hb2
  clear hcur
  have d0 := Later.cell hb2.c0; have d1 := Later.cell hb2.c1; have d2 := Later.cell hb2.c2; have d3 := Later.cell hb2.c3; have d4 := Later.cell hb2.c4; have d5 := Later.cell hb2.c5; have d6 := Later.cell hb2.c6; have d7 := Later.cell hb2.c7; have d8 := Later.cell hb2.c8
  have HI2 := Lib.hid hI2
  clear hI2 hb2
  have p3 : C.part + l.getD 0 0 ≤ 40000000 := by omega
  have P1 := Lib.hid p1; have P2 := Lib.hid p2
  clear p1 p2 hl2
  generalize hcr : C.cur = cr at *
  have HCR := Lib.hid hcr; clear hcr
  refine wp_region_tree (fun w' => ∃ y : Later W2, w' = y.w) 23 (.one [0, 2, 3, 4, 5, 6, 7, 8, 9, 10, 11, 12, 13, 14, 15] 1 (.one [] 16 (.one [] 17 (.leaf [18, 19, 20, 21, 22])))) (by kernel_rfl) (by kernel_rfl) (by kernel_rfl) ⟨⟨_, (Ext.refl W2).drew⟩, rfl⟩ ?_
  simp only [List.take_succ_cons, List.take_zero]
  refine tree_one fun K hK => ?_
  simp only [List.map_cons, List.map_nil, pickOp, List.getElem?_cons_zero, List.getElem?_cons_succ, Option.getD_some]
  repeat (go_big_quiet_step (fail))
  refine wpQuiet_nil ?_
  go_wp2_with ((go_at_call 38; with_reducible refine (HLF.out _ (Ext.refl W2).drew).mono ?_); rintro e w3 ⟨rfl, hx3⟩)
  have hx3' : Ext W2 w3 := (Ext.refl W2).drew.trans hx3
  clear hx3
  refine onlyK_normal (hK _ _ ⟨⟨_, hx3'⟩, rfl⟩ ?_); clear hK K
  refine tree_one0 fun K hK => ?_
  simp only [pickOp, List.getElem?_cons_zero, List.getElem?_cons_succ, Option.getD_some]
  go_wp2_with ((go_at_call 39; with_reducible refine (HLM.out _).mono ?_); rintro e w4 ⟨rfl, hx4⟩)
  have hx4' : Ext W2 w4 := hx3'.trans hx4
  clear hx4 hx3'
  refine onlyK_normal (hK _ _ ⟨⟨_, hx4'⟩, rfl⟩ ?_); clear hK K
  refine tree_one0 fun K hK => ?_
  simp only [pickOp, List.getElem?_cons_zero, List.getElem?_cons_succ, Option.getD_some]
  go_wp2_with ((go_at_call 37; with_reducible refine (KST.out _).mono ?_); rintro e w5 ⟨v, rfl, hown, hx5⟩)
  have hx5' : Ext W2 w5 := hx4'.trans hx5
  have hbase : ∀ b, v.ownBlock = some b → w.heap.size ≤ b := fun b hb => Nat.le_trans (Nat.le_trans hE2.size hx4'.size) (hown.base hb)
  have hlv : ∀ b, v.ownBlock = some b → b < w5.heap.size := fun b hb => ownsRow_lt hown hb
  have hs5 := hown.sl
  clear hx5 hown
  refine onlyK_normal (hK _ _ ⟨⟨_, hx5'⟩, rfl⟩ ?_); clear hK K
  refine tree_leaf ?_
  simp only [List.map_cons, List.map_nil, pickOp, List.getElem?_cons_zero, List.getElem?_cons_succ, Option.getD_some, List.drop_succ_cons, List.drop_zero]
  repeat (go_big_quiet_step (fail))
  refine wpQuiet_nil ?_
  have hI5 := HI2.out.later hx5'
  have hO5 := hO2.trans (Only.of_ext hx5')
  clear c0 c1 c2 c3 c4 d0 d1 d2 d3 d4 d5 d6 d7 d8 HI2 hO2 hx5' hx4' HLF HLM KST
  have c6 := hI5.box.c6; have c7 := hI5.box.c7; have c8 := hI5.box.c8; have f6 := hI5.box.fr 6; have f7 := hI5.box.fr 7; have f8 := hI5.box.fr 8
  have HS5 := Lib.hid hs5
  obtain ⟨av, nv, cv, bv, ov, hvv, hnv, -, -⟩ := hs5
  have hnv0 : ¬ (nv : Int) = 0 := by omega
  clear hnv
  subst hvv
  go_wp2_with fail
  obtain ⟨W, hW⟩ : ∃ W : World, ((w5.setCell ⟨N, 6, none⟩ (.slice av nv cv)).setCell ⟨N, 7, none⟩ (.int .i64 0)).setCell ⟨N, 8, none⟩ (.bool false) = W := ⟨_, rfl⟩
  have hB : CBox W N vm (.slice av nv cv) vq { C with plan := l, pos := 0, br := false } := by rw [← hW]; simpa using ((hI5.box.set_vp (.slice av nv cv) l).set_pos 0).set_br false
  have hO : Only (Foot N vq) w W := by rw [← hW]; exact ((hO5.set (.inl (.inl rfl)) _).set (.inl (.inl rfl)) _).set (.inl (.inl rfl)) _
  have hO' : Only (fun k => k = N) w5 W := by rw [← hW]; exact (((Only.refl (fun k => k = N) w5).set (.inl rfl) _).set (.inl rfl) _).set (.inl rfl) _
  rw [hW]; clear hW c6 c7 c8 f6 f7 f8
  have hNw := HH.out.box.lt
  have HBS := Lib.hid hbase
  have NP : Hid ((Value.slice av nv cv).ownBlock ≠ some N) := Lib.hid (fun e => by have := hbase N e; omega)
  have PQ : Hid ((Value.slice av nv cv).ownBlock = none ∨ (Value.slice av nv cv).ownBlock ≠ vq.ownBlock) := Lib.hid (by
    cases hav : (Value.slice av nv cv).ownBlock with
    | none => exact .inl rfl
    | some b' => right; intro e; have h1 := hbase b' hav; have h2 := HH.out.sq.lt e.symm; omega)
  have hm := hI5.sm.only hO' (fun b hb e => HH.out.nm (by rw [hb, e]))
  have hq := hI5.sq.only hO' (fun b hb e => HH.out.nq (by rw [hb, e]))
  have hs := HS5.out.only hO' (fun b hb e => NP.out (by rw [hb, e]))
  have HS := Lib.hid hs
  clear hI5 HS5 hO' hO5 hbase hlv hb1 hi2
  go_wp2_with fail
  obtain ⟨C2, hC2⟩ : ∃ C2 : Ctl, C2 = { C with plan := l, pos := 0, br := false } := ⟨_, rfl⟩
  obtain ⟨C4, hC4⟩ : ∃ C4, C4 = { C2 with part := C.part + l.getD 0 0, pos := 0 + 1 } := ⟨_, rfl⟩
  -- here: W, v, C2, l; hB : CBox W N vm v vq C2, hm, hs : SlI W v l, hq : OwnM, hO : Only (Foot N vq) w W
  have hbr := hB.later (Ext.refl W)
  obtain ⟨ad, n, cap, b, off, hv, hn, h3, h4⟩ := hs
  have hk0 : 0 < n := by rw [hn]; exact hk
  obtain ⟨hb1, hb2⟩ := h4 0 hk0
  obtain rfl : ad = some ⟨b, off, none⟩ := h3.resolve_left (by omega)
  cases hv
  have HN := Lib.hid hn
  clear hn h3 h4
  have c5 := Later.cell hB.c5; have c6 := Later.cell hB.c6; have c7 := Later.cell hB.c7; have d := Later.cell hb2
  generalize hx : l.getD 0 0 = x at *
  have HX := Lib.hid hx; clear hx
  simp at c5 c7 d
  refine wp_region_tail 15 (by kernel_rfl) (by kernel_rfl) (by kernel_rfl) ?_
  simp only [List.take_succ_cons, List.take_zero, List.drop_succ_cons, List.drop_zero]
  repeat (go_big_quiet_step (fail))
  refine wpQuiet_nil ?_
  rintro _ ⟨y, rfl⟩
  have hy := y.ext
  have hB3 := hB.later hy; have hm3 := hm.later hy; have hq3 := hq.later hy; have hs3 := HS.out.later hy
  have hO3 := hO.trans (Only.of_ext hy)
  clear c5 c6 c7 d hB hm hq hO hb2 hbr
  have hWs : W.heap.size ≤ y.w.heap.size := hy.size
  generalize y.w = W3 at *
  clear y hy
  have c5 := hB3.c5; have c7 := hB3.c7; have f5 := hB3.fr 5; have f7 := hB3.fr 7
  simp at c5 c7
  go_wp2_with fail
  obtain ⟨W4, hW4⟩ : ∃ W4 : World, (W3.setCell ⟨N, 5, none⟩ (.int .i64 (C.part + x))).setCell ⟨N, 7, none⟩ (.int .i64 (1)) = W4 := ⟨_, rfl⟩
  have hB4 : CBox W4 N vm (.slice (some ⟨b, off, none⟩) nv cv) vq C4 := by rw [← hW4, hC4, hC2]; simpa using (hB3.set_part (C.part + x)).set_pos (0 + 1)
  have hO4 : Only (Foot N vq) w W4 := by rw [← hW4]; exact (hO3.set (.inl (.inl rfl)) _).set (.inl (.inl rfl)) _
  have hO4' : Only (fun k => k = N) W3 W4 := by rw [← hW4]; exact ((Only.refl (fun k => k = N) W3).set (.inl rfl) _).set (.inl rfl) _
  rw [hW4]; clear hW4 c5 c7 f5 f7
  have hW4s : W.heap.size ≤ W4.heap.size := Nat.le_trans hWs hO4'.size
  have hm4 := hm3.only hO4' (fun b hb e => HH.out.nm (by rw [hb, e]))
  have hq4 := hq3.only hO4' (fun b hb e => HH.out.nq (by rw [hb, e]))
  have hs4 := hs3.only hO4' (fun b hb e => NP.out (by rw [hb, e]))
  have hI4 : CInv B W4 N vm (.slice (some ⟨b, off, none⟩) nv cv) vq C4 := ⟨hB4, by rw [hC4, hC2]; exact hm4, by rw [hC4, hC2]; exact hs4, by rw [hC4, hC2]; exact hq4, HH.out.nm, NP.out, HH.out.nq, HH.out.mq, PQ.out, HH.out.base⟩
  clear hB3 hm3 hq3 hs3 hO3 hO4' hB4 hm4 hq4 hs4
  have hC5 : Ctl.advd C2 = if 0 + 1 = l.length then C4.stopd else C4 := by rw [hC4, hC2, ← HX.out]; rfl
  have HC5 := Lib.hid hC5; clear hC5
  by_cases hlast : 0 + 1 = l.length
  · have hres := resting_is true hI4.box hI4.sp (by rw [hC4, hC2]; simp [hlast])
    have HI4 := Lib.hid hI4; clear hI4
    have HC4 := Lib.hid hC4; clear hC4
    have HC2 := Lib.hid hC2; clear hC2
    have HL := Lib.hid hlast; clear hlast
    refine hres.mono ?_
    rintro e w5 ⟨rfl, hx5⟩
    clear hres
    have hI5 := HI4.out.later hx5
    have hO5 := hO4.trans (Only.of_ext hx5)
    clear HI4 hx5 hO4
    go_wp2_with fail
    have kst := stop_any hI5 (by rw [HC4.out, HC2.out]; exact hi) (by rw [HC4.out, HC2.out]; exact HPO.out) (by rw [HC4.out, HC2.out]; exact HR.out) (by rw [HC4.out, HC2.out]; exact hps)
    refine kst.mono ?_
    rintro e w6 ⟨rfl, vp', vq', hI6, hO6, hloc6, hlp6⟩
    clear kst
    have hO7 := hO5.trans hO6
    have hloc7 : ∀ b, vq'.ownBlock = some b → vq.ownBlock = some b ∨ w.heap.size ≤ b := fun b hb => (hloc6 b hb).imp id (fun h => Nat.le_trans hO5.size h)
    have FIN : Hid (CInv B w6 N vm vp' vq' (Ctl.advd C2)) := Lib.hid (by rw [HC5.out, if_pos HL.out]; exact hI6)
    have hlp7 : ∀ b', vp'.ownBlock = some b' → b' < w6.heap.size ∧ (vp.ownBlock = some b' ∨ w.heap.size ≤ b') := fun b' hb => ⟨(hlp6 b' hb).1, ((hlp6 b' hb).2).elim (fun h => .inr (HBS.out _ h)) (fun h => .inr (Nat.le_trans hO5.size h))⟩
    clear hI6 hI5 hO6 hO5 hloc6 HC4
    rw [HC2.out] at FIN
    clear HC2 HC5
    go_wp2
    go_ret
    exact ⟨rfl, vp', vq', FIN.out, hO7, hloc7, hlp7⟩
  · have hres := resting_is false hI4.box hI4.sp (by rw [hC4, hC2]; simp; omega)
    have HI4 := Lib.hid hI4; clear hI4
    have HC4 := Lib.hid hC4; clear hC4
    have HC2 := Lib.hid hC2; clear hC2
    have HL := Lib.hid hlast; clear hlast
    refine hres.mono ?_
    rintro e w5 ⟨rfl, hx5⟩
    clear hres
    have hI5 := HI4.out.later hx5
    have hO5 := hO4.trans (Only.of_ext hx5)
    have hlp : b < w5.heap.size := Nat.lt_of_lt_of_le hb1 (Nat.le_trans hW4s hx5.size)
    clear HI4 hx5 hO4
    have FIN : Hid (CInv B w5 N vm (.slice (some ⟨b, off, none⟩) nv cv) vq (Ctl.advd C2)) := Lib.hid (by rw [HC5.out, if_neg HL.out]; exact hI5)
    clear hI5 HC4
    rw [HC2.out] at FIN
    clear HC2 HC5
    go_wp2
    go_ret
    exact ⟨rfl, _, vq, FIN.out, hO5, fun b hb => .inl hb, fun b' hb => ⟨by injection hb with hb; subst hb; exact hlp, (fun h => .inr (HBS.out _ h)) hb⟩⟩

end Go.Proofs.YtjibcnnbclcboaaDoor

namespace Go.Proofs.YtjibcnnbclcboaaDoor
open Go.RowKit
set_option maxRecDepth 8000
set_option maxRecDepth 8000

set_option maxHeartbeats 1000000 in
theorem tick_broken {w : World} {N : Nat} {vm vp vq : Value} {C : Ctl} (h : CBox w N vm vp vq C) (hbk : C.bk = true) :
    Calls Tryd.prog 23 #[.pointer (some ⟨N, 0, none⟩)] w fun e w' => e = .returned (.bool false) ∧ Ext w w' := by
  have c10 := Later.cell h.c10
  rw [hbk] at c10
  clear h hbk
  go_enter Tryd.func23, Tryd.ntmps23
  go_wp2_with fail
  refine wp_region_later (by kernel_rfl) (by kernel_rfl) ?_
  repeat (go_big_quiet_step (fail))
  refine wpQuiet_nil ?_
  rintro _ ⟨y, rfl⟩
  go_wp2
  go_ret
  exact ⟨rfl, y.ext⟩

set_option maxHeartbeats 1000000 in
theorem tick_done {w : World} {N : Nat} {vm vp vq : Value} {C : Ctl} (h : CBox w N vm vp vq C) (hm : SlM w vm C.ms) (hbk : C.bk = false) (hi : C.idx = C.ms.length) :
    Calls Tryd.prog 23 #[.pointer (some ⟨N, 0, none⟩)] w fun e w' => e = .returned (.bool false) ∧ Ext w w' := by
  have c10 := Later.cell h.c10; have c0 := Later.cell h.c0; have c4 := Later.cell h.c4
  rw [hbk] at c10
  obtain ⟨ad, n, cap, b, off, rfl, rfl, -, -, -⟩ := hm
  rw [hi] at c4
  clear h hbk hi
  go_enter Tryd.func23, Tryd.ntmps23
  go_wp2_with fail
  refine wp_region_later (by kernel_rfl) (by kernel_rfl) ?_
  repeat (go_big_quiet_step (fail))
  refine wpQuiet_nil ?_
  rintro _ ⟨y, rfl⟩
  go_wp2
  go_ret
  exact ⟨rfl, y.ext⟩

set_option maxHeartbeats 1000000 in
theorem tick_held {w : World} {N : Nat} {vm vp vq : Value} {C : Ctl} (h : CBox w N vm vp vq C) (hm : SlM w vm C.ms) (hp : SlI w vp C.plan) (hbk : C.bk = false) (hi : C.idx < C.ms.length) (hpos : C.pos = C.plan.length) (hhd : C.hd = true) :
    Calls Tryd.prog 23 #[.pointer (some ⟨N, 0, none⟩)] w fun e w' => e = .returned (.bool false) ∧ Ext w w' := by
  have HH := Lib.hid h; have HP := Lib.hid hp
  have c10 := Later.cell h.c10; have c0 := Later.cell h.c0; have c4 := Later.cell h.c4
  rw [hbk] at c10
  obtain ⟨ad, n, cap, b, off, hvm, rfl, -, -, -⟩ := hm
  rw [hvm] at c0
  have HPO := Lib.hid hpos; have HHD := Lib.hid hhd
  clear h hbk hpos hp hhd hvm
  have hin : ¬ (C.idx : Int) = (C.ms.length : Int) := by omega
  have hd0 : ((C.idx : Int) == (C.ms.length : Int)) = false := by simpa using hin
  go_enter Tryd.func23, Tryd.ntmps23
  go_wp2_with fail
  refine wp_region_later (by kernel_rfl) (by kernel_rfl) ?_
  repeat (go_big_quiet_step (fail))
  refine wpQuiet_nil ?_
  rintro _ ⟨y, rfl⟩
  have hE := y.ext
  clear c0 c4 c10
  generalize y.w = W1 at *
  clear y
  go_wp2_with fail
  refine (resting_is true (HH.out.later hE) (HP.out.later hE) (by simp [HPO.out])).mono ?_
  rintro e W2 ⟨rfl, hx2⟩
  have hE2 := hE.trans hx2
  have c9 := (HH.out.later hE2).c9
  rw [HHD.out] at c9
  go_wp2
  go_ret
  exact ⟨rfl, hE2⟩

set_option maxHeartbeats 1000000 in
theorem resume_any {B : Nat} {w : World} {N : Nat} {vm vp vq : Value} {C : Ctl} (h : CInv B w N vm vp vq C) (hlp : ∀ b, vp.ownBlock = some b → b < w.heap.size) :
    Calls Tryd.prog 21 #[.pointer (some ⟨N, 0, none⟩)] w (CPost B w N vm vp vq { C with hd := false } (.tuple #[])) := by
  have c9 := h.box.c9; have f9 := h.box.fr 9
  have hO : Only (fun k => k = N) w (w.setCell ⟨N, 9, none⟩ (.bool false)) := (Only.refl (fun k => k = N) w).set (.inl rfl) _
  have hI : CInv B (w.setCell ⟨N, 9, none⟩ (.bool false)) N vm vp vq { C with hd := false } := ⟨h.box.set_hd false, h.sm.only hO (fun b hb e => h.nm (by rw [hb, e])), h.sp.only hO (fun b hb e => h.np (by rw [hb, e])), h.sq.only hO (fun b hb e => h.nq (by rw [hb, e])), h.nm, h.np, h.nq, h.mq, h.pq, h.base⟩
  have HI := Lib.hid hI; have HO := Lib.hid hO
  clear hI hO h
  go_enter Tryd.func21, Tryd.ntmps21
  go_wp2
  go_end0
  exact ⟨rfl, vp, vq, HI.out, HO.out.mono (fun k _ e => .inl e), fun b hb => .inl hb, fun b hb => ⟨by simpa using hlp b hb, .inl hb⟩⟩

/-- The way since the last piece, and whether there is one. -/
def Ctl.pieceM (C : Ctl) : Mot := if C.idx < C.ms.length then C.cur.way C.last3 C.at3 else Mot.zero
def Ctl.pieceB (C : Ctl) : Bool := decide (C.idx < C.ms.length) && !eq3 C.last3 C.at3

theorem piece_any {w : World} {N : Nat} {vm vp vq : Value} {C : Ctl} (h : CBox w N vm vp vq C) (hm : SlM w vm C.ms) (k : C.posOk) :
    Calls Tryd.prog 41 #[.pointer (some ⟨N, 0, none⟩)] w fun e w' => e = .returned (.tuple #[Mv C.pieceM, .bool C.pieceB]) ∧ Ext w w' := by
  unfold Ctl.pieceM Ctl.pieceB
  by_cases hi : C.idx < C.ms.length
  · rw [if_pos hi, decide_eq_true hi, Bool.true_and]
    exact piece_cur h hm hi k
  · rw [if_neg hi, decide_eq_false hi, Bool.false_and]
    exact piece_end h hm (by have := k.le; omega)

theorem OwnM.base {B : Nat} {w : World} {v : Value} {l : List Mot} (h : OwnM B w v l) {b : Nat} (hb : v.ownBlock = some b) : B ≤ b := by
  obtain ⟨h1, h2⟩ := h
  rcases h2 with ⟨rfl, h3⟩ | ⟨g, cap, cur, rfl, h3, h4⟩
  · cases hb
  · have : g = b := by simpa [Value.ownBlock] using hb
    subst this
    exact h3

/-- What Done returns. -/
def Ctl.doneL (C : Ctl) : List Mot := if C.pieceB = true ∧ C.pos ≠ C.plan.length then C.ps ++ [C.pieceM] else C.ps

set_option maxHeartbeats 2000000 in
theorem done_any {B : Nat} {w : World} {N : Nat} {vm vp vq : Value} {C : Ctl} (h : CInv B w N vm vp vq C) (k : C.posOk) (hps : C.ps.length ≤ 999999999) :
    Calls Tryd.prog 24 #[.pointer (some ⟨N, 0, none⟩)] w (RetMots w C.doneL) := by
  have hD : C.doneL = if C.pieceB = true ∧ C.pos ≠ C.plan.length then C.ps ++ [C.pieceM] else C.ps := rfl
  have HK := Lib.hid k; have HH := Lib.hid h
  have hP : ∀ w', Ext w w' → Calls Tryd.prog 41 #[.pointer (some ⟨N, 0, none⟩)] w' fun e w'' => e = .returned (.tuple #[Mv C.pieceM, .bool C.pieceB]) ∧ Ext w' w'' := fun w' he => piece_any (HH.out.box.later he) (HH.out.sm.later he) HK.out
  have hR : ∀ w', Ext w w' → Calls Tryd.prog 36 #[.pointer (some ⟨N, 0, none⟩)] w' fun e w'' => e = .returned (.bool (decide (C.pos = C.plan.length))) ∧ Ext w' w'' := fun w' he => resting_is _ (HH.out.box.later he) (HH.out.sp.later he) rfl
  obtain ⟨br, hbr⟩ : ∃ br, br = decide (C.pos = C.plan.length) := ⟨_, rfl⟩
  rw [← hbr] at hR
  have hD2 : C.doneL = if C.pieceB = true ∧ br = false then C.ps ++ [C.pieceM] else C.ps := by rw [hD, hbr]; simp
  clear hbr hD
  have c11 := h.box.c11
  obtain ⟨a0, n0, k0, hvq⟩ := h.sq.form
  generalize C.pieceM = pm at *
  generalize C.pieceB = pb at *
  have HP := Lib.hid hP; have HR := Lib.hid hR; have HD := Lib.hid hD2
  clear hP hR hD2 h k
  have hcl := clone_any vq C.ps w HH.out.sq.sl (by omega)
  have HCL := Lib.hid hcl; clear hcl
  rw [hvq] at c11 HCL
  have HVQ := Lib.hid hvq; clear hvq
  go_enter Tryd.func24, Tryd.ntmps24
  go_wp2_with fail
  refine HCL.out.mono ?_
  rintro e w1 ⟨v1, rfl, own1, hx1⟩
  clear HCL c11
  go_wp2_with fail
  refine (HP.out _ hx1).mono ?_
  rintro e w2 ⟨rfl, hx2⟩
  have own2 := own1.later hx2
  have hx2' := hx1.trans hx2
  clear own1 hx2 hx1
  cases pb
  · go_wp2
    go_ret
    exact ⟨v1, rfl, by rw [HD.out]; exact own2.later ((Ext.refl _).alloc _), hx2'.alloc _⟩
  · go_wp2_with fail
    obtain ⟨W3, hW3, B3, hE3⟩ := M9Box.mk' w2 pm
    rw [hW3]; clear hW3
    have own3 := own2.later hE3
    have hx3 := hx2'.trans hE3
    clear own2
    refine (HR.out _ hx3).mono ?_
    rintro e w4 ⟨rfl, hx4⟩
    have own4 := own3.later hx4; have B4 := B3.later hx4
    have hx4' := hx3.trans hx4
    clear own3 B3
    cases br
    · have c0 := B4.c0; have c1 := B4.c1; have c2 := B4.c2; have c3 := B4.c3; have c4 := B4.c4; have c5 := B4.c5; have c6 := B4.c6; have c7 := B4.c7; have c8 := B4.c8
      obtain ⟨W5, hW5, B5, hE5⟩ := M9Box.mk' w4 pm
      have hq5 := own4.later hE5
      have hs5 := B5.sl1
      have hl5 : C.ps.length + [pm].length ≤ 1000000000 := by simp; omega
      have hb5 : w.heap.size ≤ W5.heap.size := Nat.le_trans hx4'.size hE5.size
      have hE5' := hx4'.trans hE5
      subst hW5
      have HQ5 := Lib.hid hq5; have HS5 := Lib.hid hs5; have HL5 := Lib.hid hl5; have HB5 := Lib.hid hb5; have HE5 := Lib.hid hE5'
      clear hq5 hs5 hl5 hb5 hE5' B5 hE5 own4
      go_wp2_with ((at_builtin; refine appM_at rfl _ _ rfl w.heap.size _ _ C.ps [pm] rfl rfl HQ5.out HS5.out HL5.out HB5.out ?_; intro v6 w6 own6 hg6 hloc6))
      have hE6 : Ext w w6 := ext_grown HE5.out hg6 (fun k hk => HQ5.out.base hk)
      clear hg6 hloc6
      clear c0 c1 c2 c3 c4 c5 c6 c7 c8
      go_ret
      exact ⟨v6, rfl, by rw [HD.out]; exact own6, hE6⟩
    · go_wp2
      go_ret
      exact ⟨v1, rfl, by rw [HD.out]; exact own4, hx4'⟩

end Go.Proofs.YtjibcnnbclcboaaDoor

namespace Go.Proofs.YtjibcnnbclcboaaDoor
open Go.RowKit
set_option maxRecDepth 8000
set_option maxRecDepth 8000

/-- A controller at its beginning. -/
def Ctl.new (l : List Mot) (s a j : Int) : Ctl :=
  { ms := l, s := s, a := a, j := j, idx := skp l 0, part := 0, plan := [], pos := 0, br := false, hd := false, bk := false, ps := []
    lx := (l.getD 0 Mot.zero).fx, ly := (l.getD 0 Mot.zero).fy, lz := (l.getD 0 Mot.zero).fz }

set_option maxHeartbeats 1000000 in
theorem new_err (v : Value) (l : List Mot) (s a j : Int) (w : World) (h : SlM w v l) (hn : l.length ≤ 1000000000) (hw : ∀ i, i < l.length → (l.getD i Mot.zero).wf) (hc : chk l s a j ≠ 0) :
    Calls Tryd.prog 32 #[v, Lm s a j] w fun e w' => e = .returned (.tuple #[.pointer none, .int .i64 (chk l s a j)]) ∧ Ext w w' := by
  have hk := check_any v l s a j _ (h.later ((Ext.refl w).alloc (.cells #[.int .i64 s, .int .i64 a, .int .i64 j] 54))) (by omega) hw
  have HK := Lib.hid hk
  clear hk h hw
  generalize chk l s a j = c at *
  have hc' : ¬ c = 0 := hc
  clear hc
  go_enter Tryd.func32, Tryd.ntmps32
  go_wp2_with fail
  refine HK.out.mono ?_
  rintro e w1 ⟨rfl, hx1⟩
  clear HK
  go_wp2
  go_ret2
  exact ⟨rfl, ((Ext.refl w).alloc _).trans hx1⟩

/-- What New returns. -/
def NewPost (w : World) (l : List Mot) (s a j : Int) (e : Ending) (w' : World) : Prop :=
  ∃ N vm, e = .returned (.tuple #[.pointer (some ⟨N, 0, none⟩), .int .i64 0]) ∧ CInv w.heap.size w' N vm (.slice none 0 0) (.slice none 0 0) (Ctl.new l s a j) ∧ Ext w w' ∧ (∀ b, vm.ownBlock = some b → w.heap.size ≤ b ∧ b < w'.heap.size)

set_option maxHeartbeats 2000000 in
theorem new_ok (v : Value) (l : List Mot) (s a j : Int) (w : World) (h : SlM w v l) (hn : l.length ≤ 1000000000) (hw : ∀ i, i < l.length → (l.getD i Mot.zero).wf) (hr : ∀ i, i < l.length → (l.getD i Mot.zero).rng) (hc : chk l s a j = 0) :
    Calls Tryd.prog 32 #[v, Lm s a j] w (NewPost w l s a j) := by
  have hk := check_any v l s a j _ (h.later ((Ext.refl w).alloc (.cells #[.int .i64 s, .int .i64 a, .int .i64 j] 54))) (by omega) hw
  rw [hc] at hk
  have HK := Lib.hid hk
  have HR := Lib.hid hr
  have HS := Lib.hid h
  clear hk h hw hc hr
  go_enter Tryd.func32, Tryd.ntmps32
  go_wp2_with fail
  obtain ⟨W0, hW0⟩ : ∃ W0 : World, w.alloc (.cells #[.int .i64 s, .int .i64 a, .int .i64 j] 54) = W0 := ⟨_, rfl⟩
  have b0 : W0.cell? ⟨w.heap.size, 0, none⟩ = some (.int .i64 s) := by rw [← hW0]; simp [go_sem]
  have b1 : W0.cell? ⟨w.heap.size, 1, none⟩ = some (.int .i64 a) := by rw [← hW0]; simp [go_sem]
  have b2 : W0.cell? ⟨w.heap.size, 2, none⟩ = some (.int .i64 j) := by rw [← hW0]; simp [go_sem]
  have hE0 : Ext w W0 := by rw [← hW0]; exact (Ext.refl w).alloc _
  rw [hW0] at HK ⊢
  clear hW0
  refine HK.out.mono ?_
  rintro e w1 ⟨rfl, hx1⟩
  clear HK
  have c0 : w1.cell? ⟨w.heap.size, 0, none⟩ = some (.int .i64 s) := Later.cell b0 ⟨w1, hx1⟩
  have c1 : w1.cell? ⟨w.heap.size, 1, none⟩ = some (.int .i64 a) := Later.cell b1 ⟨w1, hx1⟩
  have c2 : w1.cell? ⟨w.heap.size, 2, none⟩ = some (.int .i64 j) := Later.cell b2 ⟨w1, hx1⟩
  have hE1 := hE0.trans hx1
  clear b0 b1 b2 hE0 hx1
  have d0 := Later.cell c0; have d1 := Later.cell c1; have d2 := Later.cell c2
  clear c0 c1 c2
  go_wp2_with fail
  refine wp_region_tree (fun w' => ∃ y : Later w1, w' = y.w) 6 (.one [0, 2] 1 (.one [3] 4 (.leaf [5]))) (by kernel_rfl) (by kernel_rfl) (by kernel_rfl) ⟨⟨_, (Ext.refl w1).drew⟩, rfl⟩ ?_
  simp only [List.take_succ_cons, List.take_zero]
  refine tree_one fun K hK => ?_
  simp only [List.map_cons, List.map_nil, pickOp, List.getElem?_cons_zero, List.getElem?_cons_succ, Option.getD_some]
  repeat (go_big_quiet_step (fail))
  refine wpQuiet_nil ?_
  have kcl := clone_any v l w1.drew (HS.out.later hE1.drew) hn
  have KCL := Lib.hid kcl; clear kcl
  go_wp2_with ((go_at_call 19; with_reducible refine KCL.out.mono ?_); rintro e w2 ⟨vm, rfl, own2, hx2⟩)
  have hx2' : Ext w1 w2 := (Ext.refl w1).drew.trans hx2
  have hE2 := hE1.trans hx2'
  have hbs : ∀ b, vm.ownBlock = some b → w.heap.size ≤ b ∧ b < w2.heap.size := fun b hb => ⟨Nat.le_trans hE1.drew.size (own2.base hb), own2.lt hb⟩
  have hm2 := own2.sl
  clear hx2 KCL own2
  refine onlyK_normal (hK _ _ ⟨⟨_, hx2'⟩, rfl⟩ ?_); clear hK K
  obtain ⟨am, nm, cm, bm, om, hvm, hnm⟩ := hm2
  have HM : Hid (SlM w2 vm l) := Lib.hid ⟨am, nm, cm, bm, om, hvm, hnm⟩
  clear hnm
  subst hvm
  refine tree_one fun K hK => ?_
  simp only [List.map_cons, List.map_nil, pickOp, List.getElem?_cons_zero, List.getElem?_cons_succ, Option.getD_some]
  repeat (go_big_quiet_step (fail))
  refine wpQuiet_nil ?_
  go_wp2_with fail
  obtain ⟨W3, hW3⟩ : ∃ W3 : World, w2.alloc (.cells #[.slice am nm cm, .int .i64 s, .int .i64 a, .int .i64 j, .int .i64 0, .int .i64 0, .slice none 0 0, .int .i64 0, .bool false, .bool false, .bool false, .slice none 0 0, .int .i64 0, .int .i64 0, .int .i64 0] 98) = W3 := ⟨_, rfl⟩
  have hB3 : CBox W3 w2.heap.size (.slice am nm cm) (.slice none 0 0) (.slice none 0 0) { ms := l, s := s, a := a, j := j, idx := 0, part := 0, plan := [], pos := 0, br := false, hd := false, bk := false, ps := [], lx := 0, ly := 0, lz := 0 } := by
    rw [← hW3]
    constructor <;> simp [go_sem]
  have hx3 : Ext w2 W3 := by rw [← hW3]; exact (Ext.refl w2).alloc _
  rw [hW3]; clear hW3
  refine onlyK_normal (hK _ _ ⟨⟨_, hx2'.trans hx3⟩, rfl⟩ ?_); clear hK K
  clear d0 d1 d2
  refine tree_leaf ?_
  simp only [List.map_cons, List.map_nil, pickOp, List.getElem?_cons_zero, List.getElem?_cons_succ, Option.getD_some, List.drop_succ_cons, List.drop_zero]
  repeat (go_big_quiet_step (fail))
  refine wpQuiet_nil ?_
  have hE3 := hE2.trans hx3
  have hNw : w.heap.size ≤ w2.heap.size := hE2.size
  have HM3 : Hid (SlM W3 (.slice am nm cm) l) := Lib.hid (HM.out.later hx3)
  have NM : Hid ((Value.slice am nm cm).ownBlock ≠ some w2.heap.size) := Lib.hid (fun e => by have := hbs _ e; omega)
  have hbs3 : ∀ b, (Value.slice am nm cm).ownBlock = some b → w.heap.size ≤ b ∧ b < W3.heap.size := fun b hb => ⟨(hbs b hb).1, Nat.lt_of_lt_of_le (hbs b hb).2 hx3.size⟩
  have HB3 := Lib.hid hbs3
  clear hbs hbs3 HM hx2' hE1
  generalize w2.heap.size = N at *
  clear hE2 hx3
  have hsl3 := HS.out.later hE3
  obtain ⟨ad, n, cap, b, off, hv, hnl, h3, -, h4⟩ := hsl3
  subst hv
  by_cases h0 : l.length = 0
  · rw [h0] at hnl
    subst hnl
    clear h3 h4
    go_wp2_with fail
    refine (skip_any hB3 HM3.out NM.out HR.out (by simp only; omega) (by simp only; omega)).mono ?_
    rintro e w4 ⟨rfl, hB4, hO4⟩
    have hm4 := HM3.out.only hO4 (fun b hb e => NM.out (by rw [hb, e]))
    have hE4 : Ext w w4 := hE3.only hO4 (fun i hi e => by omega)
    have hz := List.length_eq_zero_iff.1 h0
    have hI : CInv w.heap.size w4 N (.slice am nm cm) (.slice none 0 0) (.slice none 0 0) (Ctl.new l s a j) := ⟨by subst hz; exact hB4, hm4, ⟨none, 0, 0, 0, 0, rfl, rfl, .inl rfl, fun i hi => by omega⟩, OwnM.nil _ _, NM.out, (by intro h; cases h), (by intro h; cases h), (by cases h' : (Value.slice am nm cm).ownBlock with | none => exact .inl rfl | some b' => right; intro e; cases e), .inl rfl, hNw⟩
    have HI := Lib.hid hI
    have hs4 := hO4.size
    clear hI hB4 hm4 hz hO4
    go_wp2
    go_ret2
    exact ⟨N, _, rfl, HI.out, hE4, fun b hb => ⟨(HB3.out b hb).1, Nat.lt_of_lt_of_le (HB3.out b hb).2 hs4⟩⟩
  · have hln : 0 < n := by omega
    obtain ⟨hb1, hb2⟩ := h4 0 hln
    obtain rfl : ad = some ⟨b, off, none⟩ := h3.resolve_left (by omega)
    rw [Nat.zero_mul, Nat.add_zero] at hb2
    clear h3 h4 hnl
    have e0 := hb2.c0; have e1 := hb2.c1; have e2 := hb2.c2
    have c12 := hB3.c12; have c13 := hB3.c13; have c14 := hB3.c14; have f12 := hB3.fr 12; have f13 := hB3.fr 13; have f14 := hB3.fr 14
    simp only at c12 c13 c14
    generalize hp : l.getD 0 Mot.zero = p at *
    have HP := Lib.hid hp; clear hp hb2
    go_wp2_with fail
    obtain ⟨W4, hW4⟩ : ∃ W4 : World, ((W3.setCell ⟨N, 12, none⟩ (.int .i64 p.fx)).setCell ⟨N, 13, none⟩ (.int .i64 p.fy)).setCell ⟨N, 14, none⟩ (.int .i64 p.fz) = W4 := ⟨_, rfl⟩
    have hB4 := ((hB3.set_lx p.fx).set_ly p.fy).set_lz p.fz
    have hO4 : Only (fun k => k = N) W3 W4 := by rw [← hW4]; exact (((Only.refl (fun k => k = N) W3).set (.inl rfl) _).set (.inl rfl) _).set (.inl rfl) _
    rw [hW4] at hB4 ⊢
    clear hW4 c12 c13 c14 f12 f13 f14 e0 e1 e2
    have hm4 := HM3.out.only hO4 (fun b hb e => NM.out (by rw [hb, e]))
    have hE4 : Ext w W4 := hE3.only hO4 (fun i hi e => by omega)
    have hs3 := hO4.size
    clear hO4
    refine (skip_any hB4 hm4 NM.out HR.out (by simp only; omega) (by simp only; omega)).mono ?_
    rintro e w5 ⟨rfl, hB5, hO5⟩
    have hm5 := hm4.only hO5 (fun b hb e => NM.out (by rw [hb, e]))
    have hE5 : Ext w w5 := hE4.only hO5 (fun i hi e => by omega)
    have hI : CInv w.heap.size w5 N (.slice am nm cm) (.slice none 0 0) (.slice none 0 0) (Ctl.new l s a j) := ⟨by have := hB5; unfold Ctl.new; rw [HP.out]; exact this, hm5, ⟨none, 0, 0, 0, 0, rfl, rfl, .inl rfl, fun i hi => by omega⟩, OwnM.nil _ _, NM.out, (by intro h; cases h), (by intro h; cases h), (by cases h' : (Value.slice am nm cm).ownBlock with | none => exact .inl rfl | some b' => right; intro e; cases e), .inl rfl, hNw⟩
    have HI := Lib.hid hI
    have hs4 := hO5.size
    clear hI hB5 hm5 hO5 hm4 hB4
    go_wp2
    go_ret2
    exact ⟨N, _, rfl, HI.out, hE5, fun b hb => ⟨(HB3.out b hb).1, Nat.lt_of_lt_of_le (HB3.out b hb).2 (Nat.le_trans hs3 hs4)⟩⟩

end Go.Proofs.YtjibcnnbclcboaaDoor

namespace Go.Proofs.YtjibcnnbclcboaaDoor
open Go.RowKit

/-- The plan for the rest of the motion. -/
def Ctl.steps (C : Ctl) : List Int := stepsR (C.cur.len - C.part) (C.cur.spd C.s) C.a C.j

/-- What Tick does. -/
def Ctl.tickB (C : Ctl) : Bool := !C.bk && decide (C.idx < C.ms.length) && !(decide (C.pos = C.plan.length) && C.hd)
def Ctl.tickC (C : Ctl) : Ctl :=
  if C.tickB = true then (if C.pos = C.plan.length then Ctl.advd { C with plan := C.steps, pos := 0, br := false } else C.advd) else C

/-- What never changes. -/
structure Ctl.Base (C : Ctl) : Prop where
  vl : vld C.s C.a C.j = true
  n : C.ms.length ≤ 1000000
  rng : ∀ i, i < C.ms.length → (C.ms.getD i Mot.zero).rng
  rate : ∀ i, i < C.ms.length → 0 ≤ (C.ms.getD i Mot.zero).rate ∧ (C.ms.getD i Mot.zero).rate ≤ 9223372036854775807
  stp : ∀ i, i < C.ms.length → stepsE (C.ms.getD i Mot.zero).len ((C.ms.getD i Mot.zero).spd C.s) C.a C.j = 0

/-- A state that a controller may have. -/
structure Ctl.Ok (C : Ctl) : Prop extends C.Base where
  le : C.idx ≤ C.ms.length
  p0 : C.idx < C.ms.length → 0 ≤ C.part
  p1 : C.idx < C.ms.length → C.part < C.cur.len
  rest : C.plan = [] → C.pos = 0
  run : C.plan ≠ [] → C.idx < C.ms.length ∧ C.pos < C.plan.length
  pos : ∀ x ∈ C.plan, 0 < x
  ln : C.plan.length ≤ 40000000
  sum : C.plan ≠ [] → C.part + (C.plan.drop C.pos).sum ≤ C.cur.len
  full : C.plan ≠ [] → C.br = false → C.part + (C.plan.drop C.pos).sum = C.cur.len ∧ smth (C.cur.spd C.s) C.a C.j C.plan = true ∧ 1 ≤ C.pos

/-- A state before a step of the plan. -/
structure Ctl.Pre (C : Ctl) : Prop extends C.Base where
  lt : C.idx < C.ms.length
  p0 : 0 ≤ C.part
  run : C.pos < C.plan.length
  pos : ∀ x ∈ C.plan, 0 < x
  ln : C.plan.length ≤ 40000000
  sum : C.part + (C.plan.drop C.pos).sum ≤ C.cur.len
  full : C.br = false → C.part + (C.plan.drop C.pos).sum = C.cur.len ∧ smth (C.cur.spd C.s) C.a C.j C.plan = true

theorem sum_drop {l : List Int} {k : Nat} (h : k < l.length) : (l.drop k).sum = l.getD k 0 + (l.drop (k + 1)).sum := by
  rw [List.drop_eq_getElem_cons h, List.sum_cons]
  simp [h]
theorem sum_nonneg' : ∀ {l : List Int}, (∀ x ∈ l, 0 < x) → 0 ≤ l.sum
  | [], _ => by simp
  | x :: l, h => by
    rw [List.sum_cons]
    have h1 := h x (by simp)
    have h2 := sum_nonneg' (l := l) (fun y hy => h y (by simp [hy]))
    omega
theorem sum_len : ∀ {l : List Int}, (∀ x ∈ l, 0 < x) → (l.length : Int) ≤ l.sum
  | [], _ => by simp
  | x :: l, h => by
    rw [List.sum_cons, List.length_cons]
    have h1 := h x (by simp)
    have h2 := sum_len (l := l) (fun y hy => h y (by simp [hy]))
    omega
theorem drop_pos {l : List Int} (h : ∀ x ∈ l, 0 < x) (k : Nat) : ∀ x ∈ l.drop k, 0 < x := fun x hx => h x (List.mem_of_mem_drop hx)
theorem getD_pos {l : List Int} (h : ∀ x ∈ l, 0 < x) {k : Nat} (hk : k < l.length) : 0 < l.getD k 0 := by
  have : l.getD k 0 = l[k] := by simp [hk]
  rw [this]; exact h _ (List.getElem_mem hk)

theorem Ctl.Base.len0 {C : Ctl} (h : C.Base) {i : Nat} (hi : i < C.ms.length) : 0 ≤ (C.ms.getD i Mot.zero).len ∧ (C.ms.getD i Mot.zero).len ≤ 40000000 := Mot.len_bounds (h.rng i hi)

/-- The end of a plan. -/
theorem stopd_ok {C : Ctl} (h : C.Base) (hi : C.idx < C.ms.length) (p0 : 0 ≤ C.part) (p1 : C.part ≤ C.cur.len) : C.stopd.Ok := by
  have hb : C.stopd.Base := ⟨h.vl, h.n, h.rng, h.rate, h.stp⟩
  by_cases h0 : C.cur.len - C.part = 0
  · have e1 : C.stopd.idx = skp C.ms (C.idx + 1) := by unfold Ctl.stopd; simp only; rw [if_pos h0]
    have e2 : C.stopd.part = 0 := by unfold Ctl.stopd; simp only; rw [if_pos h0]
    have hs := skp_le (ms := C.ms) (i := C.idx + 1) (by omega)
    refine ⟨hb, ?_, ?_, ?_, fun _ => rfl, fun h => absurd rfl h, (fun x hx => by cases hx), Nat.zero_le _, fun h => absurd rfl h, fun h => absurd rfl h⟩
    · rw [e1]; exact hs.2
    · intro _; rw [e2]; exact Int.le_refl _
    · intro hlt
      rw [e1] at hlt
      have hp := skp_pos hlt
      have hl := h.len0 hlt
      have : C.stopd.cur = C.ms.getD (skp C.ms (C.idx + 1)) Mot.zero := by unfold Ctl.cur; rw [e1]; rfl
      rw [e2, this]; omega
  · have e1 : C.stopd.idx = C.idx := by unfold Ctl.stopd; simp only; rw [if_neg h0]
    have e2 : C.stopd.part = C.part := by unfold Ctl.stopd; simp only; rw [if_neg h0]
    have e3 : C.stopd.cur = C.cur := by unfold Ctl.cur; rw [e1]; rfl
    refine ⟨hb, ?_, ?_, ?_, fun _ => rfl, fun h => absurd rfl h, (fun x hx => by cases hx), Nat.zero_le _, fun h => absurd rfl h, fun h => absurd rfl h⟩
    · rw [e1]; exact Nat.le_of_lt hi
    · intro _; rw [e2]; exact p0
    · intro _; rw [e2, e3]; omega

theorem advd_ok {C : Ctl} (h : C.Pre) : C.advd.Ok := by
  have hs := sum_drop h.run
  have hg := getD_pos h.pos h.run
  have hd := drop_pos h.pos (C.pos + 1)
  have hd0 := sum_nonneg' hd
  have h1 := h.sum
  have h2 := h.p0
  unfold Ctl.advd
  by_cases hl : C.pos + 1 = C.plan.length
  · rw [if_pos hl]
    have hb : Ctl.Base { C with part := C.part + C.plan.getD C.pos 0, pos := C.pos + 1 } := ⟨h.vl, h.n, h.rng, h.rate, h.stp⟩
    refine stopd_ok hb h.lt (by simp only; omega) ?_
    show C.part + C.plan.getD C.pos 0 ≤ C.cur.len
    omega
  · rw [if_neg hl]
    have hr := h.run
    have hd1 : ((C.plan.drop (C.pos + 1)).length : Int) ≤ (C.plan.drop (C.pos + 1)).sum := sum_len hd
    have hd2 : (C.plan.drop (C.pos + 1)).length = C.plan.length - (C.pos + 1) := List.length_drop
    refine ⟨⟨h.vl, h.n, h.rng, h.rate, h.stp⟩, Nat.le_of_lt h.lt, fun _ => ?_, fun _ => ?_, fun e => ?_, fun _ => ⟨h.lt, ?_⟩, h.pos, h.ln, fun _ => ?_, fun _ hb => ?_⟩
    · simp only; omega
    · show C.part + C.plan.getD C.pos 0 < C.cur.len; omega
    · simp only at e; rw [e] at hr; simp at hr
    · simp only; omega
    · show C.part + C.plan.getD C.pos 0 + (C.plan.drop (C.pos + 1)).sum ≤ C.cur.len; omega
    · obtain ⟨f1, f2⟩ := h.full hb
      refine ⟨?_, f2, ?_⟩
      · show C.part + C.plan.getD C.pos 0 + (C.plan.drop (C.pos + 1)).sum = C.cur.len; omega
      · show 1 ≤ C.pos + 1; omega

/-- The speed of a motion is a speed. -/
theorem spd_vld {m : Mot} {s a j : Int} (hv : vld s a j = true) : vld (m.spd s) a j = true := by
  rw [vld_iff] at *
  obtain ⟨⟨h1, h2⟩, h3⟩ := hv
  refine ⟨?_, h3⟩
  unfold Mot.spd
  split
  · omega
  · exact ⟨h1, h2⟩

theorem stepsE_mono {n m s a j : Int} (h : stepsE n s a j = 0) (h0 : 0 ≤ m) (h1 : m ≤ n) : stepsE m s a j = 0 := by
  obtain ⟨t1, t2⟩ := stepsE_zero h
  obtain ⟨v1, n0, n1⟩ := tickE_zero t1
  have t3 : tickE m s a j = 0 := by unfold tickE; rw [if_neg (by simp [v1]; omega), if_neg (by omega)]
  have e1 := tickN_eq t1
  have e2 := tickN_eq t3
  obtain ⟨⟨s1, s2⟩, ⟨a1, a2⟩, ⟨j1, j2⟩⟩ := (vld_iff s a j).1 v1
  obtain ⟨u1, u2, u3, u4⟩ := smp_bounds' s a j s1 a1 j1
  have : (m + smp s a j - 1) / smp s a j ≤ (n + smp s a j - 1) / smp s a j := Int.ediv_le_ediv (by omega) (by omega)
  unfold stepsE
  rw [if_pos t3, if_neg (by omega)]

theorem Ctl.Ok.stepsE0 {C : Ctl} (h : C.Ok) (hi : C.idx < C.ms.length) : stepsE (C.cur.len - C.part) (C.cur.spd C.s) C.a C.j = 0 := by
  have h0 := h.p0 hi
  have h1 := h.p1 hi
  exact stepsE_mono (h.stp C.idx hi) (by omega) (by show C.cur.len - C.part ≤ C.cur.len; omega)

theorem Ctl.Ok.steps_props {C : Ctl} (h : C.Ok) (hi : C.idx < C.ms.length) : (∀ x ∈ C.steps, 0 < x) ∧ C.steps.sum = C.cur.len - C.part ∧ smth (C.cur.spd C.s) C.a C.j C.steps = true ∧ 0 < C.steps.length := by
  have h0 := h.p0 hi
  have h1 := h.p1 hi
  have e : C.steps = stepsL (C.cur.len - C.part) (C.cur.spd C.s) C.a C.j := by unfold Ctl.steps stepsR; rw [if_pos (h.stepsE0 hi)]
  obtain ⟨q1, q2, q3, q4⟩ := stepsL_props (C.cur.len - C.part) (C.cur.spd C.s) C.a C.j (spd_vld h.vl) (by omega)
  rw [← e] at q1 q2 q4
  refine ⟨q1, q2, q4, ?_⟩
  rcases Nat.eq_zero_or_pos C.steps.length with hz | hz
  · have := List.length_eq_zero_iff.1 hz
    rw [this] at q2
    simp at q2
    omega
  · exact hz

theorem Ctl.Ok.pre_start {C : Ctl} (h : C.Ok) (hi : C.idx < C.ms.length) : Ctl.Pre { C with plan := C.steps, pos := 0, br := false } := by
  obtain ⟨q1, q2, q3, q4⟩ := h.steps_props hi
  have hl := Mot.len_bounds (h.rng C.idx hi)
  have hl2 : C.cur.len ≤ 40000000 := hl.2
  have h0 := h.p0 hi
  have q5 := sum_len q1
  refine ⟨⟨h.vl, h.n, h.rng, h.rate, h.stp⟩, hi, h.p0 hi, q4, q1, by show C.steps.length ≤ 40000000; omega, ?_, fun _ => ⟨?_, q3⟩⟩
  · show C.part + (C.steps.drop 0).sum ≤ C.cur.len; rw [List.drop_zero]; omega
  · show C.part + (C.steps.drop 0).sum = C.cur.len; rw [List.drop_zero]; omega

theorem Ctl.Ok.plan_nil {C : Ctl} (h : C.Ok) (hp : C.pos = C.plan.length) : C.plan = [] := by
  by_cases hn : C.plan = []
  · exact hn
  · have := (h.run hn).2; omega
theorem Ctl.Ok.pre_run {C : Ctl} (h : C.Ok) (hp : C.pos ≠ C.plan.length) : Ctl.Pre C := by
  have hn : C.plan ≠ [] := fun e => hp (by rw [h.rest e, e]; rfl)
  obtain ⟨h1, h2⟩ := h.run hn
  exact ⟨⟨h.vl, h.n, h.rng, h.rate, h.stp⟩, h1, h.p0 h1, h2, h.pos, h.ln, h.sum hn, fun hb => ⟨(h.full hn hb).1, (h.full hn hb).2.1⟩⟩

theorem Ctl.Ok.tick {C : Ctl} (h : C.Ok) : C.tickC.Ok := by
  unfold Ctl.tickC
  split
  · rename_i ht
    have hi : C.idx < C.ms.length := by
      unfold Ctl.tickB at ht
      simp only [Bool.and_eq_true, decide_eq_true_eq] at ht
      exact ht.1.2
    split
    · exact advd_ok (h.pre_start hi)
    · rename_i hp; exact advd_ok (h.pre_run hp)
  · exact h

theorem Ctl.Ok.posOk {C : Ctl} (h : C.Ok) : C.posOk :=
  ⟨h.le, Nat.le_trans h.n (by decide), fun hi => h.rng _ hi, h.p0, fun hi => Int.le_of_lt (h.p1 hi), fun hi => by have := h.p0 hi; have := h.p1 hi; omega⟩

end Go.Proofs.YtjibcnnbclcboaaDoor

namespace Go.Proofs.YtjibcnnbclcboaaDoor
open Go.RowKit
set_option maxRecDepth 8000

theorem stpTo_zero {l : List Mot} {s a j : Int} : ∀ {n : Nat}, stpTo l s a j n = 0 → ∀ k, k < n → stepsE (l.getD k Mot.zero).len ((l.getD k Mot.zero).spd s) a j = 0
  | 0, _, k, hk => by omega
  | n + 1, h, k, hk => by
    unfold stpTo at h
    split at h
    · rename_i h0
      by_cases e : k = n
      · subst e; exact h
      · exact stpTo_zero h0 k (by omega)
    · rename_i h0; exact absurd h h0
theorem goodTo_at {l : List Mot} : ∀ {n : Nat}, goodTo l n = true → ∀ k, k < n → goodAt l k = true
  | 0, _, k, hk => by omega
  | n + 1, h, k, hk => by
    unfold goodTo at h
    simp only [Bool.and_eq_true] at h
    by_cases e : k = n
    · subst e; exact h.2
    · exact goodTo_at h.1 k (by omega)

theorem conn_zero {l : List Mot} (h : conn l = 0) : goodTo l l.length = true ∧ rngTo l l.length = true ∧ l.length ≤ 20000 := by
  unfold conn at h
  split at h
  · omega
  · split at h
    · omega
    · split at h
      · omega
      · refine ⟨by simpa using ‹¬ goodTo l l.length = false›, by simpa using ‹¬ rngTo l l.length = false›, by omega⟩
theorem chk_zero {l : List Mot} {s a j : Int} (h : chk l s a j = 0) : vld s a j = true ∧ conn l = 0 ∧ stpTo l s a j l.length = 0 := by
  unfold chk at h
  split at h
  · omega
  · split at h
    · exact ⟨by simpa using ‹¬ vld s a j = false›, by assumption, h⟩
    · exact absurd h (by assumption)

theorem new_base {l : List Mot} {s a j : Int} (h : chk l s a j = 0) (hw : ∀ i, i < l.length → (l.getD i Mot.zero).wf) : (Ctl.new l s a j).Base := by
  obtain ⟨h1, h2, h3⟩ := chk_zero h
  obtain ⟨g1, g2, g3⟩ := conn_zero h2
  refine ⟨h1, by show l.length ≤ 1000000; omega, fun i hi => rngTo_at g2 i hi, fun i hi => ⟨?_, (hw i hi).a6.2⟩, fun i hi => stpTo_zero h3 i hi⟩
  have := goodTo_at g1 i hi
  unfold goodAt at this
  simp only [Bool.and_eq_true, Bool.not_eq_true', decide_eq_false_iff_not] at this
  show 0 ≤ (l.getD i Mot.zero).rate
  omega

theorem new_Ok {l : List Mot} {s a j : Int} (h : chk l s a j = 0) (hw : ∀ i, i < l.length → (l.getD i Mot.zero).wf) : (Ctl.new l s a j).Ok := by
  have hb := new_base h hw
  have hs := skp_le (ms := l) (i := 0) (by omega)
  refine ⟨hb, hs.2, fun _ => Int.le_refl _, fun hlt => ?_, fun _ => rfl, fun h => absurd rfl h, (fun x hx => by cases hx), Nat.zero_le _, fun h => absurd rfl h, fun h => absurd rfl h⟩
  have hp := skp_pos (ms := l) (i := 0) hlt
  have hl := hb.len0 hlt
  have e : (Ctl.new l s a j).cur = l.getD (skp l 0) Mot.zero := rfl
  have e2 : (Ctl.new l s a j).ms.getD (Ctl.new l s a j).idx Mot.zero = l.getD (skp l 0) Mot.zero := rfl
  rw [e2] at hl
  rw [e]
  show 0 < _
  omega

theorem stopd_ps (C : Ctl) : C.stopd.ps.length ≤ C.ps.length + 1 := by
  show C.psAdd.length ≤ _
  unfold Ctl.psAdd
  split
  · omega
  · simp
theorem advd_ps (C : Ctl) : C.advd.ps.length ≤ C.ps.length + 1 := by
  unfold Ctl.advd
  split
  · exact stopd_ps _
  · show C.ps.length ≤ _; omega
theorem tickC_ps (C : Ctl) : C.tickC.ps.length ≤ C.ps.length + 1 := by
  unfold Ctl.tickC
  split
  · split
    · exact advd_ps _
    · exact advd_ps _
  · omega

/-- The controller stands in memory. -/
structure CAt (B : Nat) (w : World) (N : Nat) (vm vp vq : Value) (C : Ctl) : Prop where
  inv : CInv B w N vm vp vq C
  lp : ∀ b, vp.ownBlock = some b → b < w.heap.size
  lm : ∀ b, vm.ownBlock = some b → b < w.heap.size
  ok : C.Ok

theorem CAt.later {B : Nat} {w w' : World} {N : Nat} {vm vp vq : Value} {C : Ctl} (h : CAt B w N vm vp vq C) (he : Ext w w') : CAt B w' N vm vp vq C :=
  ⟨h.inv.later he, fun b hb => Nat.lt_of_lt_of_le (h.lp b hb) he.size, fun b hb => Nat.lt_of_lt_of_le (h.lm b hb) he.size, h.ok⟩

/-- What a call that changes the controller leaves. -/
def CRet (B : Nat) (w : World) (N : Nat) (vm vp vq : Value) (C' : Ctl) (v : Value) (e : Ending) (w' : World) : Prop :=
  e = .returned v ∧ ∃ vp' vq', CAt B w' N vm vp' vq' C' ∧ Only (Foot N vq) w w' ∧ (∀ b, vq'.ownBlock = some b → vq.ownBlock = some b ∨ w.heap.size ≤ b) ∧ (∀ b, vp'.ownBlock = some b → vp.ownBlock = some b ∨ w.heap.size ≤ b)

theorem CPost.ret {B : Nat} {w : World} {N : Nat} {vm vp vq : Value} {C C' : Ctl} {v : Value} (h : CAt B w N vm vp vq C) (hok : C'.Ok) : ∀ (e : Ending) (w' : World), CPost B w N vm vp vq C' v e w' → CRet B w N vm vp vq C' v e w' :=
  fun _ _ ⟨he, vp', vq', hI, hO, hl, hp⟩ => ⟨he, vp', vq', ⟨hI, fun b hb => (hp b hb).1, fun b hb => Nat.lt_of_lt_of_le (h.lm b hb) hO.size, hok⟩, hO, hl, fun b hb => (hp b hb).2⟩

theorem CAt.same {B : Nat} {w : World} {N : Nat} {vm vp vq : Value} {C : Ctl} (h : CAt B w N vm vp vq C) {v : Value} {e : Ending} {w' : World} (k : e = .returned v ∧ Ext w w') : CRet B w N vm vp vq C v e w' :=
  ⟨k.1, vp, vq, h.later k.2, Only.of_ext k.2, fun _ hb => .inl hb, fun _ hb => .inl hb⟩

theorem tick_any {B : Nat} {w : World} {N : Nat} {vm vp vq : Value} {C : Ctl} (h : CAt B w N vm vp vq C) (hps : C.ps.length ≤ 999999999) :
    Calls Tryd.prog 23 #[.pointer (some ⟨N, 0, none⟩)] w (CRet B w N vm vp vq C.tickC (.bool C.tickB)) := by
  have hok := h.ok
  have hT := hok.tick
  have hn : C.ms.length ≤ 1000000000000 := Nat.le_trans hok.n (by decide)
  by_cases hbk : C.bk = true
  · have e : C.tickB = false := by simp [Ctl.tickB, hbk]
    have e2 : C.tickC = C := by unfold Ctl.tickC; rw [e]; rfl
    rw [e, e2]
    exact (tick_broken h.inv.box hbk).mono fun _ _ k => h.same k
  · have hbk' : C.bk = false := by simpa using hbk
    by_cases hi : C.idx < C.ms.length
    · have hr : ∀ i, i < C.ms.length → (C.ms.getD i Mot.zero).rng := hok.rng
      have hl := Mot.len_bounds (hr C.idx hi)
      have hl2 : C.cur.len ≤ 40000000 := hl.2
      have q0 := hok.p0 hi
      have q1 := hok.p1 hi
      by_cases hp : C.pos = C.plan.length
      · cases hhd : C.hd
        · have e : C.tickB = true := by simp [Ctl.tickB, hbk', hi, hhd]
          have e2 : C.tickC = Ctl.advd { C with plan := C.steps, pos := 0, br := false } := by unfold Ctl.tickC; rw [if_pos e, if_pos hp]
          rw [e2] at hT
          rw [e, e2]
          obtain ⟨s1, s2, s3, s4⟩ := hok.steps_props hi
          have s5 := sum_len s1
          have s6 := getD_pos s1 s4
          have s7 := sum_drop s4
          have s8 := sum_nonneg' (drop_pos s1 1)
          rw [List.drop_zero] at s7
          rw [Nat.zero_add] at s7
          exact (tick_start h.inv hbk' hhd hi hn hr (hok.rate C.idx hi).2 hp (hok.stepsE0 hi) rfl s4 (by unfold Ctl.steps at *; omega) q0 (by unfold Ctl.steps at *; omega) (by unfold Ctl.steps at *; omega) (by omega) hps).mono (CPost.ret h hT)
        · have e : C.tickB = false := by simp [Ctl.tickB, hhd, hp]
          have e2 : C.tickC = C := by unfold Ctl.tickC; rw [e]; rfl
          rw [e, e2]
          exact (tick_held h.inv.box h.inv.sm h.inv.sp hbk' hi hp hhd).mono fun _ _ k => h.same k
      · have e : C.tickB = true := by simp [Ctl.tickB, hbk', hi, hp]
        have e2 : C.tickC = C.advd := by unfold Ctl.tickC; rw [if_pos e, if_neg hp]
        rw [e2] at hT
        rw [e, e2]
        have hpre := hok.pre_run hp
        have s5 := sum_len hpre.pos
        have s6 := getD_pos hpre.pos hpre.run
        have s7 := sum_drop hpre.run
        have s8 := sum_nonneg' (drop_pos hpre.pos (C.pos + 1))
        have s9 := hpre.sum
        exact (tick_run h.inv hbk' hi hn hr hpre.run (Nat.le_trans hok.ln (by decide)) q0 (by omega) (by omega) (by omega) hps).mono (CPost.ret h hT)
    · have hi' : C.idx = C.ms.length := by have := hok.le; omega
      have e : C.tickB = false := by simp [Ctl.tickB, hi]
      have e2 : C.tickC = C := by unfold Ctl.tickC; rw [e]; rfl
      rw [e, e2]
      exact (tick_done h.inv.box h.inv.sm hbk' hi').mono fun _ _ k => h.same k

end Go.Proofs.YtjibcnnbclcboaaDoor

namespace Go.Proofs.YtjibcnnbclcboaaDoor
open Go.RowKit

/-- k ticks. -/
def iterC : Nat → Ctl → Ctl
  | 0, C => C
  | k + 1, C => (iterC k C).tickC

def aL : List Mot := [⟨0, 0, 0, 30, 0, 0, 100000, 0, 0⟩, ⟨30, 0, 0, 30, 40, 0, 0, 1, 0⟩]
def aC : Ctl := Ctl.new aL 10 10 10

theorem aL_chk : chk aL 10 10 10 = 0 := by decide +kernel

theorem aC_ticks : ∀ k, k < 7 → (iterC k aC).tickB = true := by decide +kernel
theorem aC_end : (iterC 7 aC).tickB = false := by decide +kernel
theorem aC_idx : (iterC 7 aC).idx = 2 := by decide +kernel
theorem aC_at3 : (iterC 7 aC).at3 = (30, 40, 0) := by decide +kernel
theorem aC_done : (iterC 7 aC).doneL = aL := by decide +kernel
theorem aC_start : aC.at3 = (0, 0, 0) := by decide +kernel
theorem aC_ps : ∀ k, k < 8 → (iterC k aC).ps.length ≤ 2 := by decide +kernel

theorem aL_wf : ∀ i, i < aL.length → (aL.getD i Mot.zero).wf := by
  intro i hi
  have h2 : aL.length = 2 := rfl
  have : i = 0 ∨ i = 1 := by omega
  rcases this with rfl | rfl <;> constructor <;> decide
theorem aL_rng : ∀ i, i < aL.length → (aL.getD i Mot.zero).rng := by decide +kernel
theorem aC_Ok : aC.Ok := new_Ok aL_chk aL_wf
theorem iterC_Ok {C : Ctl} (h : C.Ok) : ∀ k, (iterC k C).Ok
  | 0 => h
  | k + 1 => (iterC_Ok h k).tick

/-- What is changed lies above the base. -/
theorem CAt.ext {w0 w w' : World} {N : Nat} {vm vp vq : Value} {C : Ctl} (h : CAt w0.heap.size w N vm vp vq C) (he : Ext w0 w) (hO : Only (Foot N vq) w w') : Ext w0 w' := by
  refine he.only hO fun i hi hf => ?_
  rcases hf with rfl | hf
  · have := h.inv.base; omega
  · have := h.inv.sq.base hf; omega

end Go.Proofs.YtjibcnnbclcboaaDoor

namespace Go.Proofs.YtjibcnnbclcboaaDoor
open Go.RowKit
set_option maxRecDepth 8000

end Go.Proofs.YtjibcnnbclcboaaDoor

namespace Go.Proofs.YtjibcnnbclcboaaDoor
open Go.RowKit
set_option maxRecDepth 8000

theorem conn_bad {l : List Mot} {k : Nat} (hk : k < l.length) (h : goodAt l k = false) : conn l = 1 := by
  have := goodTo_false h l.length hk
  simp [conn, this]
theorem conn_far {l : List Mot} {k : Nat} (hk : k < l.length) (hg : goodTo l l.length = true) (h : rngAt l k = false) : conn l = 11 := by
  have := rngTo_false h l.length hk
  simp [conn, this, hg]
theorem eqP_symm (a b c d e f : Int) : eqP a b c d e f = eqP d e f a b c := by
  unfold eqP
  rw [decide_eq_decide]
  omega

end Go.Proofs.YtjibcnnbclcboaaDoor

namespace Go.Proofs.YtjibcnnbclcboaaDoor
open Go.RowKit
set_option maxRecDepth 8000
set_option maxRecDepth 8000

/-- A world with three cells more, which hold these values. -/
structure B3 (W : World) (N : Nat) (x y z : Value) : Prop where
  c0 : W.cell? ⟨N, 0, none⟩ = some x
  c1 : W.cell? ⟨N, 1, none⟩ = some y
  c2 : W.cell? ⟨N, 2, none⟩ = some z
  f0 : W.frozen? ⟨N, 0, none⟩ = false
  f1 : W.frozen? ⟨N, 1, none⟩ = false
  f2 : W.frozen? ⟨N, 2, none⟩ = false
  lt : N < W.heap.size
theorem B3.mk' (w : World) (x y z : Value) (t : TypeId) : ∃ W : World, w.alloc (.cells #[x, y, z] t) = W ∧ B3 W w.heap.size x y z ∧ Ext w W := by
  refine ⟨_, rfl, ?_, (Ext.refl w).alloc _⟩
  constructor <;> simp [go_sem]
theorem B3.only {D : Nat → Prop} {W W' : World} {N : Nat} {x y z : Value} (h : B3 W N x y z) (k : Only D W W') (hd : ¬ D N) : B3 W' N x y z :=
  ⟨by rw [k.cell h.lt hd]; exact h.c0, by rw [k.cell h.lt hd]; exact h.c1, by rw [k.cell h.lt hd]; exact h.c2, by rw [k.frozen h.lt hd]; exact h.f0, by rw [k.frozen h.lt hd]; exact h.f1, by rw [k.frozen h.lt hd]; exact h.f2, Nat.lt_of_lt_of_le h.lt k.size⟩
theorem B3.later {W W' : World} {N : Nat} {x y z : Value} (h : B3 W N x y z) (k : Ext W W') : B3 W' N x y z := h.only (D := fun _ => False) (Only.of_ext k) (fun h => h)

/-- The sum of the first lengths. -/
def lsum (l : List Mot) : Nat → Int
  | 0 => 0
  | k + 1 => lsum l k + (l.getD k Mot.zero).len
/-- Motions are few, and short. -/
def shrt (l : List Mot) : Bool := decide (l.length ≤ 8) && decide (lsum l l.length ≤ 2000)

/-- Motions are valid, short and not slow. -/
def rightB (l : List Mot) (s a j : Int) : Bool := vld s a j && decide (conn l = 0) && shrt l

end Go.Proofs.YtjibcnnbclcboaaDoor

namespace Go.Proofs.YtjibcnnbclcboaaDoor
open Go.RowKit
set_option maxRecDepth 8000
set_option maxRecDepth 8000

/-- The pieces, with the one up to the present position, if there is one. -/
def Ctl.psAll (C : Ctl) : List Mot := if C.pieceB = true then C.ps ++ [C.pieceM] else C.ps
/-- What Break does. -/
def Ctl.brkC (C : Ctl) : Ctl :=
  if C.bk = true then C else { C with ps := C.psAll, lx := C.at3.1, ly := C.at3.2.1, lz := C.at3.2.2, plan := [], pos := 0, br := false, hd := false, bk := true }

set_option maxHeartbeats 1000000 in
theorem break_bk {w : World} {N : Nat} {vm vp vq : Value} {C : Ctl} (h : CBox w N vm vp vq C) (hbk : C.bk = true) :
    Calls Tryd.prog 53 #[.pointer (some ⟨N, 0, none⟩)] w fun e w' => e = .returned (.tuple #[]) ∧ Ext w w' := by
  have c10 := h.c10
  rw [hbk] at c10
  clear h hbk
  go_enter Tryd.func53, Tryd.ntmps53
  go_wp2
  refine bodyPost_ret (v := .tuple #[]) (by simp [results, Tryd.results53, go_sem]) rfl ⟨rfl, Ext.refl _⟩

set_option maxHeartbeats 4000000 in
theorem break_run {B : Nat} {w : World} {N : Nat} {vm vp vq : Value} {C : Ctl} (h : CInv B w N vm vp vq C) (hbk : C.bk = false) (k : C.posOk) (hv0 : ∀ b, vm.ownBlock = some b → b < w.heap.size) (hq : C.ps.length ≤ 999999999) :
    Calls Tryd.prog 53 #[.pointer (some ⟨N, 0, none⟩)] w (CPost B w N vm vp vq C.brkC (.tuple #[])) := by
  have hst : C.brkC = { C with ps := C.psAll, lx := C.at3.1, ly := C.at3.2.1, lz := C.at3.2.2, plan := [], pos := 0, br := false, hd := false, bk := true } := by unfold Ctl.brkC; rw [hbk]; rfl
  rw [hst]
  clear hst
  have HH := Lib.hid h
  have HK := Lib.hid k; clear k
  have HV0 := Lib.hid hv0; clear hv0
  have hN := h.box.lt
  have c10 := h.box.c10
  rw [hbk] at c10
  clear h hbk
  have HP1 := Lib.hid (piece_any HH.out.box HH.out.sm HK.out)
  have hps : C.psAll = if C.pieceB = true then C.ps ++ [C.pieceM] else C.ps := rfl
  have HPS := Lib.hid hps
  clear hps
  generalize C.psAll = ps6 at *
  generalize C.pieceB = bv at *
  generalize C.pieceM = pm at *
  have hat : ∀ (w' : World) (vq' : Value) (l : List Mot), CBox w' N vm vp vq' { C with ps := l } → SlM w' vm C.ms → Calls Tryd.prog 52 #[.pointer (some ⟨N, 0, none⟩)] w' fun e w'' => e = .returned (P3 C.at3) ∧ Ext w' w'' := fun w' vq' l hb hm => cpos_any (C := { C with ps := l }) hb hm ⟨HK.out.le, HK.out.n, HK.out.rng, HK.out.p0, HK.out.p1, HK.out.p2⟩
  have HAT := Lib.hid hat
  clear hat
  generalize C.at3 = q at *
  obtain ⟨qx, qy, qz⟩ := q
  simp only [P3] at HAT
  simp only
  go_enter Tryd.func53, Tryd.ntmps53
  go_wp2_with fail
  refine HP1.out.mono ?_
  rintro e w2 ⟨rfl, hx2⟩
  clear HP1 c10
  have hB2 := HH.out.box.later hx2; have hm2 := HH.out.sm.later hx2; have hq2 := HH.out.sq.later hx2
  have hO2 : Only (Foot N vq) w w2 := Only.of_ext hx2
  clear hx2
  cases bv
  · go_wp2_with fail
    obtain ⟨W3, hW3, B3, hE3⟩ := M9Box.mk' w2 pm
    rw [hW3]; clear hW3
    have hB6 := hB2.later hE3; have hm6 := hm2.later hE3; have hq6 := hq2.later hE3
    have hO6 := hO2.trans (Only.of_ext hE3)
    clear hB2 hm2 hq2 hO2 hE3 B3
    have nq6 := HH.out.nq
    have mq6 := HH.out.mq
    have hloc6 : ∀ b, vq.ownBlock = some b → vq.ownBlock = some b ∨ w.heap.size ≤ b := fun b hb => .inl hb
    have HPS6 : Hid (ps6 = C.ps) := Lib.hid (by rw [HPS.out]; rfl)
    clear HPS
    obtain ⟨l6, hl6⟩ : ∃ l6, l6 = C.ps := ⟨_, rfl⟩
    have hB6 : CBox W3 N vm vp vq { C with ps := l6 } := by rw [hl6]; exact hB6
    rw [← hl6] at HPS6 hq6
    clear hl6
    obtain ⟨vq6, hvq6⟩ : ∃ vq6, vq6 = vq := ⟨_, rfl⟩
    rw [← hvq6] at hB6 hq6 nq6 mq6
    have hloc6 : ∀ b, vq6.ownBlock = some b → vq.ownBlock = some b ∨ w.heap.size ≤ b := by rw [hvq6]; exact hloc6
    clear hvq6
    refine (HAT.out _ _ _ hB6 hm6).mono ?_
    rintro e w7 ⟨rfl, hx7⟩
    have hB7 := hB6.later hx7; have hm7 := hm6.later hx7; have hq7 := hq6.later hx7
    have hO7 := hO6.trans (Only.of_ext hx7)
    clear hB6 hm6 hq6 hO6 hx7
    have c12 := hB7.c12; have c13 := hB7.c13; have c14 := hB7.c14; have f12 := hB7.fr 12; have f13 := hB7.fr 13; have f14 := hB7.fr 14
    have c6 := hB7.c6; have c7 := hB7.c7; have c8 := hB7.c8; have f6 := hB7.fr 6; have f7 := hB7.fr 7; have f8 := hB7.fr 8
    have c9 := hB7.c9; have c10 := hB7.c10; have f9 := hB7.fr 9; have f10 := hB7.fr 10
    go_wp2
    obtain ⟨W8, hW8⟩ : ∃ W8 : World, (((((((w7.setCell ⟨N, 12, none⟩ (.int .i64 qx)).setCell ⟨N, 13, none⟩ (.int .i64 qy)).setCell ⟨N, 14, none⟩ (.int .i64 qz)).setCell ⟨N, 6, none⟩ (.slice none 0 0)).setCell ⟨N, 7, none⟩ (.int .i64 0)).setCell ⟨N, 8, none⟩ (.bool false)).setCell ⟨N, 9, none⟩ (.bool false)).setCell ⟨N, 10, none⟩ (.bool true) = W8 := ⟨_, rfl⟩
    have hB8 : CBox W8 N vm (.slice none 0 0) vq6 { C with ps := l6, lx := qx, ly := qy, lz := qz, plan := [], pos := 0, br := false, hd := false, bk := true } := by
      rw [← hW8]
      simpa using (((((((hB7.set_lx qx).set_ly qy).set_lz qz).set_vp (.slice none 0 0) []).set_pos 0).set_br false).set_hd false).set_bk true
    have hO8 : Only (Foot N vq) w W8 := by rw [← hW8]; exact (((((((hO7.set (.inl (.inl rfl)) _).set (.inl (.inl rfl)) _).set (.inl (.inl rfl)) _).set (.inl (.inl rfl)) _).set (.inl (.inl rfl)) _).set (.inl (.inl rfl)) _).set (.inl (.inl rfl)) _).set (.inl (.inl rfl)) _
    have hO8' : Only (fun k => k = N) w7 W8 := by rw [← hW8]; exact ((((((((Only.refl (fun k => k = N) w7).set (.inl rfl) _).set (.inl rfl) _).set (.inl rfl) _).set (.inl rfl) _).set (.inl rfl) _).set (.inl rfl) _).set (.inl rfl) _).set (.inl rfl) _
    rw [hW8]; clear hW8
    have hm8 := hm7.only hO8' (fun b hb e => HH.out.nm (by rw [hb, e]))
    have hq8 := hq7.only hO8' (fun b hb e => nq6 (by rw [hb, e]))
    have fin : CInv B W8 N vm (.slice none 0 0) vq6 { C with ps := ps6, lx := qx, ly := qy, lz := qz, plan := [], pos := 0, br := false, hd := false, bk := true } := by
      rw [HPS6.out]
      exact ⟨hB8, hm8, ⟨none, 0, 0, 0, 0, rfl, rfl, .inl rfl, fun i hi => by omega⟩, hq8, HH.out.nm, (by intro h; cases h), nq6, mq6, .inl rfl, HH.out.base⟩
    go_end0
    exact ⟨rfl, _, vq6, fin, hO8, hloc6, fun b hb => by cases hb⟩
  · go_wp2_with fail
    obtain ⟨W3, hW3, B3, hE3⟩ := M9Box.mk' w2 pm
    rw [hW3]; clear hW3
    have hB3 := hB2.later hE3; have hm3 := hm2.later hE3; have hq3 := hq2.later hE3
    have hO3 := hO2.trans (Only.of_ext hE3)
    have hd1 : ¬ vq.ownBlock = some N := HH.out.nq
    have hd2 : ¬ vq.ownBlock = some w2.heap.size := fun e => by have := hq2.lt e; omega
    have e0 := Chg.cell (D := fun k => vq.ownBlock = some k) B3.c0 hd2; have e1 := Chg.cell (D := fun k => vq.ownBlock = some k) B3.c1 hd2; have e2 := Chg.cell (D := fun k => vq.ownBlock = some k) B3.c2 hd2; have e3 := Chg.cell (D := fun k => vq.ownBlock = some k) B3.c3 hd2; have e4 := Chg.cell (D := fun k => vq.ownBlock = some k) B3.c4 hd2; have e5 := Chg.cell (D := fun k => vq.ownBlock = some k) B3.c5 hd2; have e6 := Chg.cell (D := fun k => vq.ownBlock = some k) B3.c6 hd2; have e7 := Chg.cell (D := fun k => vq.ownBlock = some k) B3.c7 hd2; have e8 := Chg.cell (D := fun k => vq.ownBlock = some k) B3.c8 hd2
    have e11 := Chg.cell (D := fun k => vq.ownBlock = some k) hB3.c11 hd1
    have H1 := Lib.hid hd1; have H2 := Lib.hid hd2
    clear hd1 hd2
    refine wp_region_tree (fun w' => ∃ y : Chg (fun k => vq.ownBlock = some k) W3, w' = y.w) 8 (.one [0, 1, 2, 3, 4, 5] 6 (.one [] 7 (.leaf []))) (by kernel_rfl) (by kernel_rfl) (by kernel_rfl) ⟨⟨_, (Only.refl _ W3).drew⟩, rfl⟩ ?_
    simp only [List.take_succ_cons, List.take_zero]
    refine tree_one fun K hK => ?_
    simp only [List.map_cons, List.map_nil, pickOp, List.getElem?_cons_zero, List.getElem?_cons_succ, Option.getD_some]
    repeat (go_big_quiet_step (fail))
    refine wpQuiet_nil ?_
    clear e0 e1 e2 e3 e4 e5 e6 e7 e8 e11
    go_wp2_with fail
    obtain ⟨W4, hW4, B4, hE4⟩ := M9Box.mk' W3 pm
    rw [hW4]; clear hW4
    refine onlyK_normal (hK _ _ ⟨⟨_, (Only.of_ext hE4).drew⟩, rfl⟩ ?_); clear hK K
    refine tree_one0 fun K hK => ?_
    simp only [pickOp, List.getElem?_cons_zero, List.getElem?_cons_succ, Option.getD_some]
    have hs4 := B4.sl1.later (Ext.refl W4).drew
    have hq4 := hq3.later hE4.drew
    have hl4 : C.ps.length + [pm].length ≤ 1000000000 := by simp; omega
    have hb4 : B ≤ W4.drew.heap.size := by have := HH.out.base; have := hO3.size; have := hE4.size; simp; omega
    have HS4 := Lib.hid hs4; have HQ4 := Lib.hid hq4; have HL4 := Lib.hid hl4; have HB4 := Lib.hid hb4
    clear hs4 hq4 hl4 hb4
    go_wp2_with ((at_builtin; refine appM_at rfl _ _ rfl B _ _ C.ps [pm] rfl rfl HQ4.out HS4.out HL4.out HB4.out ?_; intro v5 w5 own5 hg5 hloc5))
    have hg5 : W4.drew.grownBy w5 vq.ownBlock := hg5
    have hloc5 : v5.ownBlock = vq.ownBlock ∨ v5.ownBlock = some W4.drew.heap.size := hloc5
    have hO5 := (Only.of_ext (D := fun k => vq.ownBlock = some k) hE4).drew.trans (Only.of_grown hg5)
    refine onlyK_normal (hK _ _ ⟨⟨_, hO5⟩, rfl⟩ ?_); clear hK K
    have hB5 := hB3.only hO5 H1.out
    have hm5 := hm3.only hO5 (fun b hb e => HH.out.offm b hb (.inr e))
    have hO5' := hO3.trans (hO5.mono (D' := Foot N vq) (fun k _ e => .inr e))
    have hsz : w.heap.size ≤ W4.drew.heap.size := by have := hO3.size; have := hE4.size; simp; omega
    have nq6 : v5.ownBlock ≠ some N := by
      rcases hloc5 with h | h
      · rw [h]; exact H1.out
      · rw [h]; intro e; injection e with e; omega
    have mq6 : vm.ownBlock = none ∨ vm.ownBlock ≠ v5.ownBlock := by
      rcases hloc5 with h | h
      · rw [h]; exact HH.out.mq
      · right; rw [h]; intro e
        have := HV0.out _ e
        omega
    have hloc6 : ∀ b, v5.ownBlock = some b → vq.ownBlock = some b ∨ w.heap.size ≤ b := fun b hb => by
      rcases hloc5 with h | h
      · left; rw [← h]; exact hb
      · right; rw [h] at hb; injection hb with hb; omega
    obtain ⟨a5, n5, k5, hv5⟩ := own5.form
    subst hv5
    clear hloc5 hg5 hO5 hO3 HB4 HL4 HQ4 HS4 H1 H2 B4 hE4 B3 hE3 hB3 hm3 hq3 hB2 hm2 hq2 hO2
    refine tree_leaf0 ?_
    simp only [List.drop_succ_cons, List.drop_zero]
    have c11 := hB5.c11; have f11 := hB5.fr 11
    go_wp2_with fail
    have hB6 : CBox (w5.setCell ⟨N, 11, none⟩ (.slice a5 n5 k5)) N vm vp (.slice a5 n5 k5) { C with ps := C.ps ++ [pm] } := hB5.set_vq (.slice a5 n5 k5) _
    have hO6 : Only (Foot N vq) w (w5.setCell ⟨N, 11, none⟩ (.slice a5 n5 k5)) := hO5'.set (.inl (.inl rfl)) _
    have hO6' : Only (fun k => k = N) w5 (w5.setCell ⟨N, 11, none⟩ (.slice a5 n5 k5)) := (Only.refl (fun k => k = N) w5).set (.inl rfl) _
    have hm6 := hm5.only hO6' (fun b hb e => HH.out.nm (by rw [hb, e]))
    have hq6 := own5.only hO6' (fun b hb e => nq6 (by rw [hb, e]))
    clear hO6' hm5 hB5 hO5' own5 c11 f11
    have HPS6 : Hid (ps6 = C.ps ++ [pm]) := Lib.hid (by rw [HPS.out]; rfl)
    clear HPS
    generalize w5.setCell ⟨N, 11, none⟩ (.slice a5 n5 k5) = W6 at *
    generalize C.ps ++ [pm] = l6 at *
    obtain ⟨vq6, hvq6⟩ : ∃ vq6 : Value, vq6 = .slice a5 n5 k5 := ⟨_, rfl⟩
    rw [← hvq6] at hB6 hq6 nq6 mq6 hloc6
    clear hvq6
    refine (HAT.out _ _ _ hB6 hm6).mono ?_
    rintro e w7 ⟨rfl, hx7⟩
    have hB7 := hB6.later hx7; have hm7 := hm6.later hx7; have hq7 := hq6.later hx7
    have hO7 := hO6.trans (Only.of_ext hx7)
    clear hB6 hm6 hq6 hO6 hx7
    have c12 := hB7.c12; have c13 := hB7.c13; have c14 := hB7.c14; have f12 := hB7.fr 12; have f13 := hB7.fr 13; have f14 := hB7.fr 14
    have c6 := hB7.c6; have c7 := hB7.c7; have c8 := hB7.c8; have f6 := hB7.fr 6; have f7 := hB7.fr 7; have f8 := hB7.fr 8
    have c9 := hB7.c9; have c10 := hB7.c10; have f9 := hB7.fr 9; have f10 := hB7.fr 10
    go_wp2
    obtain ⟨W8, hW8⟩ : ∃ W8 : World, (((((((w7.setCell ⟨N, 12, none⟩ (.int .i64 qx)).setCell ⟨N, 13, none⟩ (.int .i64 qy)).setCell ⟨N, 14, none⟩ (.int .i64 qz)).setCell ⟨N, 6, none⟩ (.slice none 0 0)).setCell ⟨N, 7, none⟩ (.int .i64 0)).setCell ⟨N, 8, none⟩ (.bool false)).setCell ⟨N, 9, none⟩ (.bool false)).setCell ⟨N, 10, none⟩ (.bool true) = W8 := ⟨_, rfl⟩
    have hB8 : CBox W8 N vm (.slice none 0 0) vq6 { C with ps := l6, lx := qx, ly := qy, lz := qz, plan := [], pos := 0, br := false, hd := false, bk := true } := by
      rw [← hW8]
      simpa using (((((((hB7.set_lx qx).set_ly qy).set_lz qz).set_vp (.slice none 0 0) []).set_pos 0).set_br false).set_hd false).set_bk true
    have hO8 : Only (Foot N vq) w W8 := by rw [← hW8]; exact (((((((hO7.set (.inl (.inl rfl)) _).set (.inl (.inl rfl)) _).set (.inl (.inl rfl)) _).set (.inl (.inl rfl)) _).set (.inl (.inl rfl)) _).set (.inl (.inl rfl)) _).set (.inl (.inl rfl)) _).set (.inl (.inl rfl)) _
    have hO8' : Only (fun k => k = N) w7 W8 := by rw [← hW8]; exact ((((((((Only.refl (fun k => k = N) w7).set (.inl rfl) _).set (.inl rfl) _).set (.inl rfl) _).set (.inl rfl) _).set (.inl rfl) _).set (.inl rfl) _).set (.inl rfl) _).set (.inl rfl) _
    rw [hW8]; clear hW8
    have hm8 := hm7.only hO8' (fun b hb e => HH.out.nm (by rw [hb, e]))
    have hq8 := hq7.only hO8' (fun b hb e => nq6 (by rw [hb, e]))
    have fin : CInv B W8 N vm (.slice none 0 0) vq6 { C with ps := ps6, lx := qx, ly := qy, lz := qz, plan := [], pos := 0, br := false, hd := false, bk := true } := by
      rw [HPS6.out]
      exact ⟨hB8, hm8, ⟨none, 0, 0, 0, 0, rfl, rfl, .inl rfl, fun i hi => by omega⟩, hq8, HH.out.nm, (by intro h; cases h), nq6, mq6, .inl rfl, HH.out.base⟩
    go_end0
    exact ⟨rfl, _, vq6, fin, hO8, hloc6, fun b hb => by cases hb⟩

end Go.Proofs.YtjibcnnbclcboaaDoor

namespace Go.Proofs.YtjibcnnbclcboaaDoor
open Go.RowKit

/-- The last two distances of the plan. -/
def Ctl.dLast (C : Ctl) : Int := C.plan.getD (C.pos - 1) 0
def Ctl.dBefore (C : Ctl) : Int := if 1 < C.pos then C.plan.getD (C.pos - 2) 0 else 0
def Ctl.needed (C : Ctl) : Int := dsum (C.cur.spd C.s) C.a C.j C.dLast (C.dLast - C.dBefore)
def Ctl.stopL (C : Ctl) : List Int := stops (C.cur.spd C.s) C.a C.j C.dLast (C.dLast - C.dBefore)

/-- What Hold does. -/
def Ctl.holdC (C : Ctl) : Ctl :=
  if C.bk = true then C
  else if C.pos = C.plan.length ∨ C.br = true then { C with hd := true }
  else if C.needed ≤ C.cur.len - C.part then
    (if C.stopL = [] then Ctl.stopd { C with hd := true, plan := [], pos := 0, br := true } else { C with hd := true, plan := C.stopL, pos := 0, br := true })
  else { C with hd := true }

theorem smGo_at (s a j : Int) : ∀ (l : List Int) (k : Nat) (v b : Int), 0 ≤ v → v ≤ s → -a ≤ b → b ≤ a → smGo s a j v b (l ++ [0, 0]) = true → k < l.length →
    ∃ p, p = (if k = 0 then v else l.getD (k - 1) 0) ∧ 0 ≤ p ∧ p ≤ s ∧ 0 ≤ l.getD k 0 ∧ l.getD k 0 ≤ s ∧ -a ≤ l.getD k 0 - p ∧ l.getD k 0 - p ≤ a ∧ smGo s a j (l.getD k 0) (l.getD k 0 - p) (l.drop (k + 1) ++ [0, 0]) = true
  | [], k, v, b, _, _, _, _, _, hk => by simp at hk
  | x :: l, 0, v, b, h1, h2, h3, h4, h, hk => by
    simp only [List.cons_append, smGo, Bool.and_eq_true, inR_iff] at h
    obtain ⟨⟨⟨⟨x1, x2⟩, y1, y2⟩, _⟩, hr⟩ := h
    exact ⟨v, by simp, h1, h2, by simpa using x1, by simpa using x2, by simpa using y1, by simpa using y2, by simpa using hr⟩
  | x :: l, k + 1, v, b, h1, h2, h3, h4, h, hk => by
    simp only [List.cons_append, smGo, Bool.and_eq_true, inR_iff] at h
    obtain ⟨⟨⟨⟨x1, x2⟩, y1, y2⟩, _⟩, hr⟩ := h
    obtain ⟨p, hp, q⟩ := smGo_at s a j l k x (x - v) x1 x2 y1 y2 hr (by simpa using hk)
    refine ⟨p, ?_, by simpa using q⟩
    rw [hp]
    cases k with
    | zero => simp
    | succ k => simp

theorem Ctl.Ok.mvg {C : Ctl} (h : C.Ok) (hp : C.pos ≠ C.plan.length) (hb : C.br = false) : Go.Proofs.YtjibcnnbclcboaaDoor.mvg (C.cur.spd C.s) C.a C.j C.dBefore C.dLast = true := by
  have hn : C.plan ≠ [] := fun e => hp (by rw [h.rest e, e]; rfl)
  obtain ⟨f1, f2, f3⟩ := h.full hn hb
  obtain ⟨r1, r2⟩ := h.run hn
  have hv := spd_vld (m := C.cur) h.vl
  obtain ⟨⟨s1, s2⟩, ⟨a1, a2⟩, ⟨j1, j2⟩⟩ := (vld_iff _ _ _).1 hv
  unfold smth at f2
  rw [hv, Bool.true_and] at f2
  obtain ⟨p, hp1, p0, p1, q0, q1, d1, d2, hs⟩ := smGo_at (C.cur.spd C.s) C.a C.j C.plan (C.pos - 1) 0 0 (by omega) (by omega) (by omega) (by omega) f2 (by omega)
  have e1 : C.dBefore = p := by
    rw [hp1]; unfold Ctl.dBefore
    by_cases h1 : 1 < C.pos
    · rw [if_pos h1, if_neg (by omega)]; rfl
    · rw [if_neg h1, if_pos (by omega)]
  have e2 : C.dLast = C.plan.getD (C.pos - 1) 0 := rfl
  rw [← e2] at q0 q1 d1 d2 hs
  rw [← e1] at p0 p1 d1 d2 hs
  rw [mvg_iff]
  exact ⟨hv, ⟨p0, p1⟩, ⟨q0, q1⟩, smooth_safe _ _ _ j1 _ _ _ q0 q1 d1 d2 hs⟩

theorem Ctl.Ok.stop_props {C : Ctl} (h : C.Ok) (hp : C.pos ≠ C.plan.length) (hb : C.br = false) : (∀ x ∈ C.stopL, 0 < x) ∧ C.stopL.sum = C.needed := by
  obtain ⟨hv, _, _, hs⟩ := (mvg_iff _ _ _ _ _).1 (h.mvg hp hb)
  exact ⟨fun x hx => (stops_pos _ _ _ _ _ hv hs x hx).1, stops_sum _ _ _ _ _ hv hs⟩

theorem Ctl.Ok.hold {C : Ctl} (h : C.Ok) : C.holdC.Ok := by
  unfold Ctl.holdC
  split
  · exact h
  · split
    · exact ⟨⟨h.vl, h.n, h.rng, h.rate, h.stp⟩, h.le, h.p0, h.p1, h.rest, h.run, h.pos, h.ln, h.sum, h.full⟩
    · rename_i hc
      have hp : C.pos ≠ C.plan.length := fun e => hc (.inl e)
      have hb : C.br = false := by simpa using fun e => hc (.inr e)
      have hn : C.plan ≠ [] := fun e => hp (by rw [h.rest e, e]; rfl)
      obtain ⟨r1, r2⟩ := h.run hn
      obtain ⟨t1, t2⟩ := h.stop_props hp hb
      have q0 := h.p0 r1
      have q1 := h.p1 r1
      have hl := (Mot.len_bounds (h.rng C.idx r1)).2
      have hl2 : C.cur.len ≤ 40000000 := hl
      split
      · rename_i hneed
        split
        · exact stopd_ok ⟨h.vl, h.n, h.rng, h.rate, h.stp⟩ r1 q0 (Int.le_of_lt q1)
        · rename_i hne
          have t3 := sum_len t1
          refine ⟨⟨h.vl, h.n, h.rng, h.rate, h.stp⟩, h.le, h.p0, h.p1, fun e => absurd e hne, fun _ => ⟨r1, ?_⟩, t1, ?_, fun _ => ?_, fun _ hb' => by cases hb'⟩
          · show 0 < C.stopL.length
            exact List.length_pos_iff.2 hne
          · show C.stopL.length ≤ 40000000; omega
          · show C.part + (C.stopL.drop 0).sum ≤ C.cur.len
            rw [List.drop_zero]; omega
      · exact ⟨⟨h.vl, h.n, h.rng, h.rate, h.stp⟩, h.le, h.p0, h.p1, h.rest, h.run, h.pos, h.ln, h.sum, h.full⟩

theorem Ctl.Ok.brk {C : Ctl} (h : C.Ok) : C.brkC.Ok := by
  unfold Ctl.brkC
  split
  · exact h
  · exact ⟨⟨h.vl, h.n, h.rng, h.rate, h.stp⟩, h.le, h.p0, h.p1, fun _ => rfl, fun e => absurd rfl e, (fun x hx => by cases hx), Nat.zero_le _, fun e => absurd rfl e, fun e => absurd rfl e⟩
theorem Ctl.Ok.resume {C : Ctl} (h : C.Ok) : Ctl.Ok { C with hd := false } :=
  ⟨⟨h.vl, h.n, h.rng, h.rate, h.stp⟩, h.le, h.p0, h.p1, h.rest, h.run, h.pos, h.ln, h.sum, h.full⟩

theorem holdC_ps (C : Ctl) : C.holdC.ps.length ≤ C.ps.length + 1 := by
  unfold Ctl.holdC
  split
  · omega
  · split
    · show C.ps.length ≤ _; omega
    · split
      · split
        · exact stopd_ps _
        · show C.ps.length ≤ _; omega
      · show C.ps.length ≤ _; omega
theorem brkC_ps (C : Ctl) : C.brkC.ps.length ≤ C.ps.length + 1 := by
  unfold Ctl.brkC
  split
  · omega
  · show C.psAll.length ≤ _
    unfold Ctl.psAll
    split
    · simp
    · omega

end Go.Proofs.YtjibcnnbclcboaaDoor
