/-
  Walks: job.Disturbed.
  job.Disturbed: all cases in one contract.
  The examples of the chapter, reckoned by the plain model.
-/
import Derived.Test.YtjibcnnbclcboaaDoorQS16
namespace Go.Proofs.YtjibcnnbclcboaaDoor
open Go.RowKit
set_option maxRecDepth 8000
set_option maxRecDepth 8000

theorem sliceE_from {w : World} {ad : Option Addr} {n cap : Nat} {e : Int × Int} {r : List (Int × Int)} (h : SlE w (.slice ad n cap) (e :: r)) : SlE w (Go.sliced ad 1 n cap 2) r := by
  obtain ⟨ad', n', cap', b, off, hv, hn, h3, h5, h4⟩ := h
  cases hv
  simp only [List.length_cons] at hn
  have e0 := h3.resolve_left (by omega)
  subst e0
  unfold Go.sliced
  by_cases hc : cap = 1
  · rw [if_pos hc]
    refine ⟨_, n - 1, cap - 1, 0, 0, rfl, by omega, .inl (by omega), by omega, fun k hk => by omega⟩
  · rw [if_neg hc]
    refine ⟨_, n - 1, cap - 1, b, off + 1 * 2, rfl, by omega, .inr ?_, by omega, fun k hk => ?_⟩
    · show some ((⟨b, off, none⟩ : Addr).add (1 * 2)) = _
      rw [Addr.add_none]
    · obtain ⟨p, q1, q2⟩ := h4 (k + 1) (by omega)
      have e1 : off + (k + 1) * 2 = off + 1 * 2 + k * 2 := by omega
      rw [e1] at q1 q2
      exact ⟨p, by simpa using q1, by simpa using q2⟩

theorem Tryd.elem_evJ : Tryd.prog.elem 58 = 57 := by kernel_rfl
theorem sliceEJ_at {w : World} {ad : Option Addr} {n cap : Nat} {e : Int × Int} {r : List (Int × Int)} (h : SlE w (.slice ad n cap) (e :: r)) :
    ∃ a3 n3 c3, (∀ wx, (Instr.slice 58 (.slice ad n cap) (some (.int .i64 1)) none none).run Tryd.prog wx = .ok (.slice a3 n3 c3) wx) ∧ SlE w (.slice a3 n3 c3) r := by
  refine ⟨_, _, _, fun wx => ?_, sliceE_from h⟩
  obtain ⟨i0, hi0, hz0, hz1, hz2⟩ := info_parts Tryd.info_evJ
  have hn : 1 ≤ n := by
    obtain ⟨ad', n', cap', b, off, hv, hn, _⟩ := h
    cases hv
    simp only [List.length_cons] at hn
    omega
  have := run_slice_l (P := Tryd.prog) (w := wx) 58 ad n cap (by rw [Tryd.elem_evJ]; exact Tryd.underlying58) .i64 (1 : Int) (by omega) (by omega)
  rw [this, Tryd.elem_evJ]
  simp [sizeOf, typeInfo, hi0, hz1]
  rfl

/-- The length of a slice. -/
def lenOf : Value → Nat
  | .slice _ n _ => n
  | _ => 0
/-- What a job answers. -/
def RetDist (w : World) (R : Int × List Mot) (e : Ending) (w' : World) : Prop := ∃ v, e = .returned (.tuple #[v, .int .i64 R.1]) ∧ SlM w' v R.2 ∧ Ext w w' ∧ CapV v
theorem nilSlM (w : World) : SlM w (.slice none 0 0) [] := nilM w
theorem slE_is {w : World} {v : Value} {l : List (Int × Int)} (h : SlE w v l) : ∃ x c, v = .slice x l.length c := by
  obtain ⟨ad, n, cap, b, off, rfl, hn, _⟩ := h
  exact ⟨ad, cap, by rw [hn]⟩
theorem slE_head {w : World} {x : Option Addr} {n c : Nat} {e : Int × Int} {r : List (Int × Int)} (h : SlE w (.slice x n c) (e :: r)) : ∃ b off, x = some ⟨b, off, none⟩ ∧ w.cell? ⟨b, off, none⟩ = some (.int .i64 e.1) ∧ w.cell? ⟨b, off + 1, none⟩ = some (.int .i64 e.2) := by
  obtain ⟨ad, n', cap, b, off, hv, hn, h3, h5, h4⟩ := h
  cases hv
  simp only [List.length_cons] at hn
  obtain ⟨p, q1, q2⟩ := h4 0 (by omega)
  exact ⟨b, off, h3.resolve_left (by omega), by simpa using q1, by simpa using q2⟩

/-- The machine at its start. -/
theorem JBox.mk0 (w : World) (s a j safe : Int) : ∃ W : World, w.alloc (.cells #[.slice none 0 0, .int .i64 s, .int .i64 a, .int .i64 j, .int .i64 safe, .pointer none, .slice none 0 0, .bool false, .int .i64 0] 79) = W ∧ JBox W w.heap.size (.slice none 0 0) (.pointer none) (.slice none 0 0) s a j safe false 0 ∧ Ext w W := by
  refine ⟨_, rfl, ?_, (Ext.refl w).alloc _⟩
  constructor
  case c9 =>
    intro i hi
    simp [go_sem]
    omega
  case fr =>
    intro i hi
    simp [go_sem]
  case isM => exact ⟨_, _, _, rfl⟩
  case isC => exact ⟨_, rfl⟩
  case isP => exact ⟨_, _, _, rfl⟩
  all_goals simp [go_sem]

set_option maxHeartbeats 16000000 in
theorem jdist_run (v ve : Value) (l : List Mot) (es0 : List (Int × Int)) (s a j safe : Int) (w0 : World) (h : SlM w0 v l) (he : SlE w0 ve es0) (hn : l.length ≤ 800000) (hne : es0.length ≤ 9223372036854775807) (hwf : WfL l) (hsf : in64 safe) (hv : validE es0 = true) (hc : chk l s a j = 0) :
    Calls Tryd.prog 9 #[v, Lm s a j, ve, .int .i64 safe] w0 (RetDist w0 (dist l s a j safe es0)) := by
  have HEO := Lib.hid (validE_ok hv)
  have HSF := Lib.hid hsf; have HCK := Lib.hid hc; have HWF := Lib.hid hwf
  have HR : Hid (dist l s a j safe es0 = JobS.from_ s a j safe 0 (JobS.new l s a j) es0) := Lib.hid (by unfold dist; rw [if_pos hc]; rfl)
  have HOK0 : Hid ((JobS.new l s a j).Ok 0 l.length) := Lib.hid (JobS.Ok.new hc hwf)
  generalize dist l s a j safe es0 = R at *
  obtain ⟨W1, hW1, L1, hE1⟩ := B3.mk' w0 (.int .i64 s) (.int .i64 a) (.int .i64 j) 54
  have kv := jvalid_any ve es0 W1 (he.later hE1) hne
  rw [hv] at kv
  have KV := Lib.hid kv
  have HS := Lib.hid h; have HE := Lib.hid he
  obtain ⟨x0, c0, hve⟩ := slE_is he
  obtain ⟨xv, cv, hvv⟩ := h.is
  clear kv hv hc hwf hsf h he
  have HL1 := Lib.hid L1; clear L1
  subst hve hvv
  go_enter Tryd.func9, Tryd.ntmps9
  go_wp2_with fail
  clear hW1
  refine KV.out.mono ?_
  rintro e w2 ⟨rfl, hx2⟩
  have L2 := HL1.out.later hx2
  have l0 := L2.c0; have l1 := L2.c1; have l2 := L2.c2
  have hE2 := hE1.trans hx2
  clear KV HL1 hx2 hE1
  go_wp2_with fail
  obtain ⟨W3, hW3, J3, hx3⟩ := JBox.mk0 w2 s a j safe
  rw [hW3]; clear hW3
  have hE3 := hE2.trans hx3
  have hGw : w0.heap.size ≤ w2.heap.size := hE2.size
  generalize w2.heap.size = G at *
  clear l0 l1 l2 L2 hx3 hE2
  refine (clone_any _ l W3 (HS.out.later hE3) (by omega)).mono ?_
  rintro e w4 ⟨v4, rfl, own4, hx4⟩
  have J4 := J3.later hx4
  have hE4 := hE3.trans hx4
  have S4 := own4.sl
  have hcap4 := own4.cap
  have hlt4 : ∀ b, v4.ownBlock = some b → b < w4.heap.size := fun b hb => own4.lt hb
  clear J3 hx4 hE3 own4
  go_wp2_with fail
  refine (mstart_ok J4 S4 (by omega) HWF.out HCK.out).mono ?_
  rintro e w5 ⟨rfl, N5, J5, C5, O5⟩
  have h5 : JInv w0 G w4.heap.size w5 s a j safe (JobS.new l s a j) v4 (.slice none 0 0) N5 := by
    refine ⟨J5, hGw, J4.lt, S4.only' O5 (fun hl b hb e => J4.apart S4 hl (by rw [hb, e])), hcap4, fun _ b hb => hlt4 b hb, World.ownsRow_nil _ _ _ _, (fun b hb => by cases hb), (fun _ b _ e => by cases e), C5, hE4.only O5 (fun i hi e => by omega)⟩
  have HJ5 : Hid (JIn w0 G w5 s a j safe (JobS.new l s a j)) := Lib.hid ⟨_, _, _, _, h5⟩
  clear J5 C5 O5 J4 S4 hcap4 hlt4 h5 hE4 HCK HWF HS
  generalize JobS.new l s a j = J0 at *
  go_wp2_with fail
  go_loopw [2, 12] (fun tv tt wr => ∃ (k : Nat) (es : List (Int × Int)) (J : JobS), k ≤ 100000 ∧ tt = .int .i64 k ∧ SlE w0 tv es ∧ JIn w0 G wr s a j safe J ∧ Hid (J.Ok (2 * k + 2 * (20 - es.length)) (800000 + 4 * (20 - es.length))) ∧ Hid (EvOk es) ∧ Hid (R = JobS.from_ s a j safe k J es) ∧ es.length ≤ 20) (fun _ tt _ => 100001 - (intOf tt).toNat)
  case atStart => exact ⟨0, es0, J0, by omega, rfl, HE.out, HJ5.out, Lib.hid (HOK0.out.mono (by omega) (by omega)), Lib.hid HEO.out.1, HR, HEO.out.2⟩
  case round =>
    clear HR HOK0 HJ5 HE HEO
    obtain ⟨k, es, J, hk, rfl, hsl, hJ, HOK, HEO, HR, hle⟩ := hrel
    obtain ⟨xe, ce, rfl⟩ := slE_is hsl
    have HSL := Lib.hid hsl
    have HJ := Lib.hid hJ
    clear hsl hJ
    have KD := Lib.hid (mdone_any HJ.out)
    cases hd0 : J.doneB
    rotate_left
    · have HR1 : Hid (R = (0, J.out)) := Lib.hid (by rw [HR.out, from_done hd0])
      clear HR
      obtain ⟨HR, -⟩ : Hid (R = (0, J.out)) ∧ True := ⟨HR1, trivial⟩
      clear HR1
      rw [hd0] at KD
      go_wp2_with ((go_at_call 20; with_reducible refine (KD.out).mono ?_); rintro e w5 ⟨rfl, hx5⟩)
      obtain ⟨B, vm, vps, N, h5⟩ := HJ.out.later hx5
      have H := Lib.hid h5; clear h5
      have HPS : Hid (J.C.ps.length ≤ 999999999) := Lib.hid (by have := HOK.out.ps; omega)
      have HLN : Hid (J.ps.length + J.C.doneL.length ≤ 1000000000) := Lib.hid (by have := HOK.out.ps; have := doneL_len J.C; omega)
      clear HJ HOK KD hx5
      go_wp2_with fail
      have nG : ¬ (vps.ownBlock = some G) := fun e => (H.out.lp _ e).2 rfl
      have d5 := Chg.cell (D := fun k => vps.ownBlock = some k) H.out.box.c5 nG; have d6 := Chg.cell (D := fun k => vps.ownBlock = some k) H.out.box.c6 nG
      refine wp_region_tree (fun w' => ∃ y : Chg (fun k => vps.ownBlock = some k) w5, w' = y.w) 10 (.one [0, 1, 2, 3, 4, 5, 6, 7] 8 (.one [] 9 (.leaf []))) (by kernel_rfl) (by kernel_rfl) (by kernel_rfl) ⟨⟨_, (Only.refl _ w5).drew⟩, rfl⟩ ?_
      simp only [List.take_succ_cons, List.take_zero]
      refine tree_one fun K hK => ?_
      simp only [List.map_cons, List.map_nil, pickOp, List.getElem?_cons_zero, List.getElem?_cons_succ, Option.getD_some]
      repeat (go_big_quiet_step (fail))
      refine wpQuiet_nil ?_
      clear d5 d6
      have H4 := H.out.later (Ext.refl w5).drew
      have hD3 : Only (fun k => vps.ownBlock = some k) w5 (World.drew w5) := (Only.refl _ w5).drew
      generalize World.drew w5 = w4 at *
      have HD := Lib.hid (done_in H4.ctl HPS.out)
      go_wp2_with ((go_at_call 24; with_reducible refine (HD.out).mono ?_); rintro e w5 ⟨v5, rfl, own5, hx5⟩)
      clear HD
      refine onlyK_normal (hK _ _ ⟨⟨_, hD3.trans (Only.of_ext hx5)⟩, rfl⟩ ?_); clear hK K
      refine tree_one0 fun K hK => ?_
      simp only [pickOp, List.getElem?_cons_zero, List.getElem?_cons_succ, Option.getD_some]
      have HQ4 := Lib.hid (H4.sp.later hx5); have HS4 := Lib.hid own5.sl; have HB4 : Hid (w0.heap.size ≤ w5.heap.size) := Lib.hid (H4.ext.trans hx5).size
      clear own5
      go_wp2_with ((at_builtin; refine appM_at rfl _ _ rfl w0.heap.size _ _ J.ps J.C.doneL rfl rfl HQ4.out HS4.out HLN.out HB4.out ?_; intro v6 w6 own6 hg6 hloc6))
      have hO6 : Only (fun k => vps.ownBlock = some k) w4 w6 := (Only.of_ext hx5).trans (Only.of_grown hg6)
      refine onlyK_normal (hK _ _ ⟨⟨_, hD3.trans hO6⟩, rfl⟩ ?_); clear hK K
      refine tree_leaf0 ?_
      simp only [List.drop_succ_cons, List.drop_zero]
      have E6 : Ext w0 w6 := H4.ext.only hO6 (fun i hi e => by have := H4.sp.base e; omega)
      go_wp2
      go_ret2
      rw [HR.out]
      exact ⟨_, rfl, own6.sl, E6, own6.cap⟩
    rw [hd0] at KD
    by_cases hk1 : k < 100000
    rotate_left
    · have hkb : decide ((k : Int) ≥ 100000) = true := by simp; omega
      have HR1 : Hid (R = (3, [])) := Lib.hid (by rw [HR.out, from_late hd0 (by omega)])
      go_wp2_with ((go_at_call 20; with_reducible refine (KD.out).mono ?_); rintro e w5 ⟨rfl, hx5⟩)
      go_ret2
      rw [HR1.out]
      exact ⟨_, rfl, nilSlM _, HJ.out.ext.trans hx5, capNil⟩
    have hkb : decide ((k : Int) ≥ 100000) = false := by simp; omega
    have HD0 := Lib.hid hd0; clear hd0

    by_cases hw : J.held = true ∧ J.till ≤ k
    · have hwk : J.wake k = { J with C := { J.C with hd := false }, held := false } := by unfold JobS.wake; rw [if_pos hw]
      have hh := hw.1
      have htl : decide ((k : Int) ≥ J.till) = true := by simp; exact hw.2
      go_wp2_with ((go_at_call 20; with_reducible refine (KD.out).mono ?_); rintro e w5 ⟨rfl, hx5⟩; obtain ⟨B5, vm5, vps5, N5, h5⟩ := HJ.out.later hx5; have c5 := h5.box.c5; have c7 := h5.box.c7; have c8 := h5.box.c8; rw [hh] at c7; have KT := Lib.hid (resume_in h5.ctl); have HJ5 := Lib.hid h5; clear h5)
      refine KT.out.mono ?_
      rintro e w6 ⟨rfl, hC6, hO6⟩
      have HJ6 := Lib.hid (HJ5.out.work hC6 hO6)
      clear c5 c7 c8 KT HJ5 hC6 hO6
      have g7 := HJ6.out.box.c7; have f7 := HJ6.out.box.fr 7 (by decide)
      have H7 := HJ6.out.put7 false
      go_wp2_with fail
      have HJ7 : Hid (JIn w0 G (w6.setCell ⟨G, 7, none⟩ (.bool false)) s a j safe (J.wake k)) := Lib.hid (by rw [hwk]; exact ⟨_, _, _, _, H7⟩)
      clear g7 f7 H7 HJ6 hwk hh htl hw KD HJ
      generalize w6.setCell ⟨G, 7, none⟩ (.bool false) = w7 at *
      have HOKw : Hid ((J.wake k).Ok (2 * k + 2 * (20 - es.length)) (800000 + 4 * (20 - es.length))) := Lib.hid (HOK.out.wake k)
      obtain ⟨JW, hJW⟩ : ∃ X, X = J.wake k := ⟨_, rfl⟩
      rw [← hJW] at HJ7 HOKw
      have HJW := Lib.hid hJW; clear hJW HOK
      obtain ⟨wo, rfl⟩ : ∃ wo : World, wo = wr := ⟨_, rfl⟩
      go_wp2_with fail
      go_loopw [2] (fun tv wr => ∃ (es1 : List (Int × Int)) (J1 : JobS), SlE w0 tv es1 ∧ JIn w0 G wr s a j safe J1 ∧ Hid (J1.Ok (2 * k + 2 * (20 - es1.length)) (800000 + 4 * (20 - es1.length))) ∧ Hid (EvOk es1) ∧ Hid (JobS.evs s a j safe k es JW = JobS.evs s a j safe k es1 J1) ∧ es1.length ≤ 20) (fun tv _ => lenOf tv)
      case atStart => exact ⟨es, JW, HSL.out, HJ7.out, HOKw, HEO, Lib.hid rfl, hle⟩
      case round =>
        clear HOKw HJ7 HSL HEO
        obtain ⟨es1, J1, hsl, hJ, HOK1, HEO1, HEQ, hle1⟩ := hrel
        have HSL1 := Lib.hid hsl; have HJ1 := Lib.hid hJ
        clear hsl hJ
        cases es1 with
        | nil =>
          obtain ⟨x1, c1, rfl⟩ := slE_is HSL1.out
          simp only [List.length_nil] at *
          have HEV : Hid (JobS.evs s a j safe k es (J.wake k) = (0, J1, [])) := Lib.hid (by rw [← HJW.out, HEQ.out, evs_nil])
          clear HEQ HJW
          have KD := Lib.hid (mdone_any HJ1.out)
          cases hd1 : J1.doneB
          · have HR1 : Hid (R = JobS.from_ s a j safe (k + 1) J1.tick []) := Lib.hid (by rw [HR.out, from_step HD0.out hk1, HEV.out]; simp [hd1])
            rw [hd1] at KD
            go_wp2_with ((go_at_call 20; with_reducible refine (KD.out).mono ?_); rintro e w5 ⟨rfl, hx5⟩; obtain ⟨B5, vm5, vps5, N5, h5⟩ := HJ1.out.later hx5; have c5 := h5.box.c5; have KT := Lib.hid (tick_in h5.ctl (by have := HOK1.out.ps; omega)); have HJ5 := Lib.hid h5; clear h5)
            refine KT.out.mono ?_
            rintro e w6 ⟨rfl, hC6, hO6⟩
            have HJ6 := Lib.hid (HJ5.out.work hC6 hO6)
            clear c5 KT HJ5 hC6 hO6
            go_wp2
            go_roundw
            case rel => exact ⟨k + 1, [], J1.tick, by omega, by go_num, HSL1.out, ⟨_, _, _, _, HJ6.out⟩, Lib.hid (HOK1.out.tick.mono (by simp only [List.length_nil]; omega) (by simp only [List.length_nil]; omega)), HEO1, HR1, by simp only [List.length_nil]; omega⟩
            case measure => simp [intOf]; omega
          · have HR1 : Hid (R = (0, J1.out)) := Lib.hid (by rw [HR.out, from_step HD0.out hk1, HEV.out]; simp [hd1])
            rw [hd1] at KD
            clear HR
            obtain ⟨HR, -⟩ : Hid (R = (0, J1.out)) ∧ True := ⟨HR1, trivial⟩
            clear HR1
            go_wp2_with ((go_at_call 20; with_reducible refine (KD.out).mono ?_); rintro e w5 ⟨rfl, hx5⟩)
            obtain ⟨B, vm, vps, N, h5⟩ := HJ1.out.later hx5
            have H := Lib.hid h5; clear h5
            have HPS : Hid (J1.C.ps.length ≤ 999999999) := Lib.hid (by have := HOK1.out.ps; omega)
            have HLN : Hid (J1.ps.length + J1.C.doneL.length ≤ 1000000000) := Lib.hid (by have := HOK1.out.ps; have := doneL_len J1.C; omega)
            clear HJ1 HOK1 HEV KD hx5
            go_wp2_with fail
            have nG : ¬ (vps.ownBlock = some G) := fun e => (H.out.lp _ e).2 rfl
            have d5 := Chg.cell (D := fun k => vps.ownBlock = some k) H.out.box.c5 nG; have d6 := Chg.cell (D := fun k => vps.ownBlock = some k) H.out.box.c6 nG
            refine wp_region_tree (fun w' => ∃ y : Chg (fun k => vps.ownBlock = some k) w5, w' = y.w) 10 (.one [0, 1, 2, 3, 4, 5, 6, 7] 8 (.one [] 9 (.leaf []))) (by kernel_rfl) (by kernel_rfl) (by kernel_rfl) ⟨⟨_, (Only.refl _ w5).drew⟩, rfl⟩ ?_
            simp only [List.take_succ_cons, List.take_zero]
            refine tree_one fun K hK => ?_
            simp only [List.map_cons, List.map_nil, pickOp, List.getElem?_cons_zero, List.getElem?_cons_succ, Option.getD_some]
            repeat (go_big_quiet_step (fail))
            refine wpQuiet_nil ?_
            clear d5 d6
            have H4 := H.out.later (Ext.refl w5).drew
            have hD3 : Only (fun k => vps.ownBlock = some k) w5 (World.drew w5) := (Only.refl _ w5).drew
            generalize World.drew w5 = w4 at *
            have HD := Lib.hid (done_in H4.ctl HPS.out)
            go_wp2_with ((go_at_call 24; with_reducible refine (HD.out).mono ?_); rintro e w5 ⟨v5, rfl, own5, hx5⟩)
            clear HD
            refine onlyK_normal (hK _ _ ⟨⟨_, hD3.trans (Only.of_ext hx5)⟩, rfl⟩ ?_); clear hK K
            refine tree_one0 fun K hK => ?_
            simp only [pickOp, List.getElem?_cons_zero, List.getElem?_cons_succ, Option.getD_some]
            have HQ4 := Lib.hid (H4.sp.later hx5); have HS4 := Lib.hid own5.sl; have HB4 : Hid (w0.heap.size ≤ w5.heap.size) := Lib.hid (H4.ext.trans hx5).size
            clear own5
            go_wp2_with ((at_builtin; refine appM_at rfl _ _ rfl w0.heap.size _ _ J1.ps J1.C.doneL rfl rfl HQ4.out HS4.out HLN.out HB4.out ?_; intro v6 w6 own6 hg6 hloc6))
            have hO6 : Only (fun k => vps.ownBlock = some k) w4 w6 := (Only.of_ext hx5).trans (Only.of_grown hg6)
            refine onlyK_normal (hK _ _ ⟨⟨_, hD3.trans hO6⟩, rfl⟩ ?_); clear hK K
            refine tree_leaf0 ?_
            simp only [List.drop_succ_cons, List.drop_zero]
            have E6 : Ext w0 w6 := H4.ext.only hO6 (fun i hi e => by have := H4.sp.base e; omega)
            go_wp2
            go_ret2
            rw [HR.out]
            exact ⟨_, rfl, own6.sl, E6, own6.cap⟩
        | cons e1 er =>
          obtain ⟨x1, c1, rfl⟩ := slE_is HSL1.out
          simp only [List.length_cons] at *
          obtain ⟨b1, o1, rfl, hc1, hc2⟩ := slE_head (HSL1.out.later HJ1.out.ext)
          obtain ⟨a3, n3, c3, hsl3, hs3⟩ := sliceEJ_at HSL1.out
          have HS3 := Lib.hid hs3; clear hs3
          have hg0 : decide (((er.length + 1 : Nat) : Int) > 0) = true := by simp
          by_cases hat : e1.1 ≤ k
          · have hat' : decide (e1.1 ≤ (k : Int)) = true := by simpa using hat
            have HX := HEO1.out.head
            have KE := Lib.hid (mevent_any (t := k) HJ1.out HOK1.out (by omega) (by omega) HSF.out HX.2.2.1 HX.2.2.2 (by omega) (by omega))
            by_cases hcode : (J1.ev s a j safe k e1).1 = 0
            · have HEQ2 : Hid (JobS.evs s a j safe k es JW = JobS.evs s a j safe k er (J1.ev s a j safe k e1).2) := Lib.hid (by rw [HEQ.out, evs_ok hat hcode])
              have HOK2 := Lib.hid (HOK1.out.ev HSF.out hcode)
              have HC := Lib.hid hcode
              generalize J1.ev s a j safe k e1 = RE at *
              obtain ⟨ec, J2⟩ := RE
              have hce : ec = 0 := HC.out
              subst hce
              clear HC hcode HEQ HX
              go_wp2_with ((go_at_call 22; with_reducible refine (KE.out).mono ?_); rintro e w8 ⟨rfl, hx8, hj8⟩)
              go_roundw
              case rel => exact ⟨er, J2, HS3.out, hj8 trivial, Lib.hid (HOK2.out.mono (by omega) (by omega)), Lib.hid HEO1.out.tail, HEQ2, by omega⟩
              case measure => obtain ⟨xx, cc, e⟩ := slE_is HS3.out; rw [e]; simp [lenOf]
            · have HR1 : Hid (R = ((J1.ev s a j safe k e1).1, [])) := Lib.hid (by rw [HR.out, from_step HD0.out hk1, ← HJW.out, HEQ.out, evs_bad hat hcode]; simp [hcode])
              have hnz : ((J1.ev s a j safe k e1).1 == 0) = false := by simp [hcode]
              generalize J1.ev s a j safe k e1 = RE at *
              obtain ⟨ec, J2⟩ := RE
              simp only at *
              clear HX
              go_wp2_with ((go_at_call 22; with_reducible refine (KE.out).mono ?_); rintro e w8 ⟨rfl, hx8, hj8⟩)
              go_ret2
              rw [HR1.out]
              exact ⟨_, rfl, nilSlM _, hx8, capNil⟩
          · have hat' : decide (e1.1 ≤ (k : Int)) = false := by simpa using hat
            have HEV : Hid (JobS.evs s a j safe k es (J.wake k) = (0, J1, e1 :: er)) := Lib.hid (by rw [← HJW.out, HEQ.out, evs_later hat])
            clear HEQ HJW hsl3 HS3
            have KD := Lib.hid (mdone_any HJ1.out)
            cases hd1 : J1.doneB
            · have HR1 : Hid (R = JobS.from_ s a j safe (k + 1) J1.tick (e1 :: er)) := Lib.hid (by rw [HR.out, from_step HD0.out hk1, HEV.out]; simp [hd1])
              rw [hd1] at KD
              go_wp2_with ((go_at_call 20; with_reducible refine (KD.out).mono ?_); rintro e w5 ⟨rfl, hx5⟩; obtain ⟨B5, vm5, vps5, N5, h5⟩ := HJ1.out.later hx5; have c5 := h5.box.c5; have KT := Lib.hid (tick_in h5.ctl (by have := HOK1.out.ps; omega)); have HJ5 := Lib.hid h5; clear h5)
              refine KT.out.mono ?_
              rintro e w6 ⟨rfl, hC6, hO6⟩
              have HJ6 := Lib.hid (HJ5.out.work hC6 hO6)
              clear c5 KT HJ5 hC6 hO6
              go_wp2
              go_roundw
              case rel => exact ⟨k + 1, (e1 :: er), J1.tick, by omega, by go_num, HSL1.out, ⟨_, _, _, _, HJ6.out⟩, Lib.hid (HOK1.out.tick.mono (by simp only [List.length_cons]; omega) (by simp only [List.length_cons]; omega)), HEO1, HR1, by simp only [List.length_cons]; omega⟩
              case measure => simp [intOf]; omega
            · have HR1 : Hid (R = (0, J1.out)) := Lib.hid (by rw [HR.out, from_step HD0.out hk1, HEV.out]; simp [hd1])
              rw [hd1] at KD
              clear HR
              obtain ⟨HR, -⟩ : Hid (R = (0, J1.out)) ∧ True := ⟨HR1, trivial⟩
              clear HR1
              go_wp2_with ((go_at_call 20; with_reducible refine (KD.out).mono ?_); rintro e w5 ⟨rfl, hx5⟩)
              obtain ⟨B, vm, vps, N, h5⟩ := HJ1.out.later hx5
              have H := Lib.hid h5; clear h5
              have HPS : Hid (J1.C.ps.length ≤ 999999999) := Lib.hid (by have := HOK1.out.ps; omega)
              have HLN : Hid (J1.ps.length + J1.C.doneL.length ≤ 1000000000) := Lib.hid (by have := HOK1.out.ps; have := doneL_len J1.C; omega)
              clear HJ1 HOK1 HEV KD hx5
              go_wp2_with fail
              have nG : ¬ (vps.ownBlock = some G) := fun e => (H.out.lp _ e).2 rfl
              have d5 := Chg.cell (D := fun k => vps.ownBlock = some k) H.out.box.c5 nG; have d6 := Chg.cell (D := fun k => vps.ownBlock = some k) H.out.box.c6 nG
              refine wp_region_tree (fun w' => ∃ y : Chg (fun k => vps.ownBlock = some k) w5, w' = y.w) 10 (.one [0, 1, 2, 3, 4, 5, 6, 7] 8 (.one [] 9 (.leaf []))) (by kernel_rfl) (by kernel_rfl) (by kernel_rfl) ⟨⟨_, (Only.refl _ w5).drew⟩, rfl⟩ ?_
              simp only [List.take_succ_cons, List.take_zero]
              refine tree_one fun K hK => ?_
              simp only [List.map_cons, List.map_nil, pickOp, List.getElem?_cons_zero, List.getElem?_cons_succ, Option.getD_some]
              repeat (go_big_quiet_step (fail))
              refine wpQuiet_nil ?_
              clear d5 d6
              have H4 := H.out.later (Ext.refl w5).drew
              have hD3 : Only (fun k => vps.ownBlock = some k) w5 (World.drew w5) := (Only.refl _ w5).drew
              generalize World.drew w5 = w4 at *
              have HD := Lib.hid (done_in H4.ctl HPS.out)
              go_wp2_with ((go_at_call 24; with_reducible refine (HD.out).mono ?_); rintro e w5 ⟨v5, rfl, own5, hx5⟩)
              clear HD
              refine onlyK_normal (hK _ _ ⟨⟨_, hD3.trans (Only.of_ext hx5)⟩, rfl⟩ ?_); clear hK K
              refine tree_one0 fun K hK => ?_
              simp only [pickOp, List.getElem?_cons_zero, List.getElem?_cons_succ, Option.getD_some]
              have HQ4 := Lib.hid (H4.sp.later hx5); have HS4 := Lib.hid own5.sl; have HB4 : Hid (w0.heap.size ≤ w5.heap.size) := Lib.hid (H4.ext.trans hx5).size
              clear own5
              go_wp2_with ((at_builtin; refine appM_at rfl _ _ rfl w0.heap.size _ _ J1.ps J1.C.doneL rfl rfl HQ4.out HS4.out HLN.out HB4.out ?_; intro v6 w6 own6 hg6 hloc6))
              have hO6 : Only (fun k => vps.ownBlock = some k) w4 w6 := (Only.of_ext hx5).trans (Only.of_grown hg6)
              refine onlyK_normal (hK _ _ ⟨⟨_, hD3.trans hO6⟩, rfl⟩ ?_); clear hK K
              refine tree_leaf0 ?_
              simp only [List.drop_succ_cons, List.drop_zero]
              have E6 : Ext w0 w6 := H4.ext.only hO6 (fun i hi e => by have := H4.sp.base e; omega)
              go_wp2
              go_ret2
              rw [HR.out]
              exact ⟨_, rfl, own6.sl, E6, own6.cap⟩
    · have hwk : J.wake k = J := by unfold JobS.wake; rw [if_neg hw]
      cases hh : J.held
      · go_wp2_with ((go_at_call 20; with_reducible refine (KD.out).mono ?_); rintro e w5 ⟨rfl, hx5⟩; obtain ⟨B5, vm5, vps5, N5, h5⟩ := HJ.out.later hx5; have c5 := h5.box.c5; have c7 := h5.box.c7; have c8 := h5.box.c8; rw [hh] at c7; have KT := Lib.hid (resume_in h5.ctl); have HJ5 := Lib.hid h5; clear h5)
        have HJ7 : Hid (JIn w0 G w5 s a j safe (J.wake k)) := Lib.hid (by rw [hwk]; exact ⟨_, _, _, _, HJ5.out⟩)
        clear c5 c7 c8 KT HJ5 hwk hw KD HJ hh
        have HOKw : Hid ((J.wake k).Ok (2 * k + 2 * (20 - es.length)) (800000 + 4 * (20 - es.length))) := Lib.hid (HOK.out.wake k)
        obtain ⟨JW, hJW⟩ : ∃ X, X = J.wake k := ⟨_, rfl⟩
        rw [← hJW] at HJ7 HOKw
        have HJW := Lib.hid hJW; clear hJW HOK
        obtain ⟨wo, rfl⟩ : ∃ wo : World, wo = wr := ⟨_, rfl⟩
        go_wp2_with fail
        go_loopw [2] (fun tv wr => ∃ (es1 : List (Int × Int)) (J1 : JobS), SlE w0 tv es1 ∧ JIn w0 G wr s a j safe J1 ∧ Hid (J1.Ok (2 * k + 2 * (20 - es1.length)) (800000 + 4 * (20 - es1.length))) ∧ Hid (EvOk es1) ∧ Hid (JobS.evs s a j safe k es JW = JobS.evs s a j safe k es1 J1) ∧ es1.length ≤ 20) (fun tv _ => lenOf tv)
        case atStart => exact ⟨es, JW, HSL.out, HJ7.out, HOKw, HEO, Lib.hid rfl, hle⟩
        case round =>
          clear HOKw HJ7 HSL HEO
          obtain ⟨es1, J1, hsl, hJ, HOK1, HEO1, HEQ, hle1⟩ := hrel
          have HSL1 := Lib.hid hsl; have HJ1 := Lib.hid hJ
          clear hsl hJ
          cases es1 with
          | nil =>
            obtain ⟨x1, c1, rfl⟩ := slE_is HSL1.out
            simp only [List.length_nil] at *
            have HEV : Hid (JobS.evs s a j safe k es (J.wake k) = (0, J1, [])) := Lib.hid (by rw [← HJW.out, HEQ.out, evs_nil])
            clear HEQ HJW
            have KD := Lib.hid (mdone_any HJ1.out)
            cases hd1 : J1.doneB
            · have HR1 : Hid (R = JobS.from_ s a j safe (k + 1) J1.tick []) := Lib.hid (by rw [HR.out, from_step HD0.out hk1, HEV.out]; simp [hd1])
              rw [hd1] at KD
              go_wp2_with ((go_at_call 20; with_reducible refine (KD.out).mono ?_); rintro e w5 ⟨rfl, hx5⟩; obtain ⟨B5, vm5, vps5, N5, h5⟩ := HJ1.out.later hx5; have c5 := h5.box.c5; have KT := Lib.hid (tick_in h5.ctl (by have := HOK1.out.ps; omega)); have HJ5 := Lib.hid h5; clear h5)
              refine KT.out.mono ?_
              rintro e w6 ⟨rfl, hC6, hO6⟩
              have HJ6 := Lib.hid (HJ5.out.work hC6 hO6)
              clear c5 KT HJ5 hC6 hO6
              go_wp2
              go_roundw
              case rel => exact ⟨k + 1, [], J1.tick, by omega, by go_num, HSL1.out, ⟨_, _, _, _, HJ6.out⟩, Lib.hid (HOK1.out.tick.mono (by simp only [List.length_nil]; omega) (by simp only [List.length_nil]; omega)), HEO1, HR1, by simp only [List.length_nil]; omega⟩
              case measure => simp [intOf]; omega
            · have HR1 : Hid (R = (0, J1.out)) := Lib.hid (by rw [HR.out, from_step HD0.out hk1, HEV.out]; simp [hd1])
              rw [hd1] at KD
              clear HR
              obtain ⟨HR, -⟩ : Hid (R = (0, J1.out)) ∧ True := ⟨HR1, trivial⟩
              clear HR1
              go_wp2_with ((go_at_call 20; with_reducible refine (KD.out).mono ?_); rintro e w5 ⟨rfl, hx5⟩)
              obtain ⟨B, vm, vps, N, h5⟩ := HJ1.out.later hx5
              have H := Lib.hid h5; clear h5
              have HPS : Hid (J1.C.ps.length ≤ 999999999) := Lib.hid (by have := HOK1.out.ps; omega)
              have HLN : Hid (J1.ps.length + J1.C.doneL.length ≤ 1000000000) := Lib.hid (by have := HOK1.out.ps; have := doneL_len J1.C; omega)
              clear HJ1 HOK1 HEV KD hx5
              go_wp2_with fail
              have nG : ¬ (vps.ownBlock = some G) := fun e => (H.out.lp _ e).2 rfl
              have d5 := Chg.cell (D := fun k => vps.ownBlock = some k) H.out.box.c5 nG; have d6 := Chg.cell (D := fun k => vps.ownBlock = some k) H.out.box.c6 nG
              refine wp_region_tree (fun w' => ∃ y : Chg (fun k => vps.ownBlock = some k) w5, w' = y.w) 10 (.one [0, 1, 2, 3, 4, 5, 6, 7] 8 (.one [] 9 (.leaf []))) (by kernel_rfl) (by kernel_rfl) (by kernel_rfl) ⟨⟨_, (Only.refl _ w5).drew⟩, rfl⟩ ?_
              simp only [List.take_succ_cons, List.take_zero]
              refine tree_one fun K hK => ?_
              simp only [List.map_cons, List.map_nil, pickOp, List.getElem?_cons_zero, List.getElem?_cons_succ, Option.getD_some]
              repeat (go_big_quiet_step (fail))
              refine wpQuiet_nil ?_
              clear d5 d6
              have H4 := H.out.later (Ext.refl w5).drew
              have hD3 : Only (fun k => vps.ownBlock = some k) w5 (World.drew w5) := (Only.refl _ w5).drew
              generalize World.drew w5 = w4 at *
              have HD := Lib.hid (done_in H4.ctl HPS.out)
              go_wp2_with ((go_at_call 24; with_reducible refine (HD.out).mono ?_); rintro e w5 ⟨v5, rfl, own5, hx5⟩)
              clear HD
              refine onlyK_normal (hK _ _ ⟨⟨_, hD3.trans (Only.of_ext hx5)⟩, rfl⟩ ?_); clear hK K
              refine tree_one0 fun K hK => ?_
              simp only [pickOp, List.getElem?_cons_zero, List.getElem?_cons_succ, Option.getD_some]
              have HQ4 := Lib.hid (H4.sp.later hx5); have HS4 := Lib.hid own5.sl; have HB4 : Hid (w0.heap.size ≤ w5.heap.size) := Lib.hid (H4.ext.trans hx5).size
              clear own5
              go_wp2_with ((at_builtin; refine appM_at rfl _ _ rfl w0.heap.size _ _ J1.ps J1.C.doneL rfl rfl HQ4.out HS4.out HLN.out HB4.out ?_; intro v6 w6 own6 hg6 hloc6))
              have hO6 : Only (fun k => vps.ownBlock = some k) w4 w6 := (Only.of_ext hx5).trans (Only.of_grown hg6)
              refine onlyK_normal (hK _ _ ⟨⟨_, hD3.trans hO6⟩, rfl⟩ ?_); clear hK K
              refine tree_leaf0 ?_
              simp only [List.drop_succ_cons, List.drop_zero]
              have E6 : Ext w0 w6 := H4.ext.only hO6 (fun i hi e => by have := H4.sp.base e; omega)
              go_wp2
              go_ret2
              rw [HR.out]
              exact ⟨_, rfl, own6.sl, E6, own6.cap⟩
          | cons e1 er =>
            obtain ⟨x1, c1, rfl⟩ := slE_is HSL1.out
            simp only [List.length_cons] at *
            obtain ⟨b1, o1, rfl, hc1, hc2⟩ := slE_head (HSL1.out.later HJ1.out.ext)
            obtain ⟨a3, n3, c3, hsl3, hs3⟩ := sliceEJ_at HSL1.out
            have HS3 := Lib.hid hs3; clear hs3
            have hg0 : decide (((er.length + 1 : Nat) : Int) > 0) = true := by simp
            by_cases hat : e1.1 ≤ k
            · have hat' : decide (e1.1 ≤ (k : Int)) = true := by simpa using hat
              have HX := HEO1.out.head
              have KE := Lib.hid (mevent_any (t := k) HJ1.out HOK1.out (by omega) (by omega) HSF.out HX.2.2.1 HX.2.2.2 (by omega) (by omega))
              by_cases hcode : (J1.ev s a j safe k e1).1 = 0
              · have HEQ2 : Hid (JobS.evs s a j safe k es JW = JobS.evs s a j safe k er (J1.ev s a j safe k e1).2) := Lib.hid (by rw [HEQ.out, evs_ok hat hcode])
                have HOK2 := Lib.hid (HOK1.out.ev HSF.out hcode)
                have HC := Lib.hid hcode
                generalize J1.ev s a j safe k e1 = RE at *
                obtain ⟨ec, J2⟩ := RE
                have hce : ec = 0 := HC.out
                subst hce
                clear HC hcode HEQ HX
                go_wp2_with ((go_at_call 22; with_reducible refine (KE.out).mono ?_); rintro e w8 ⟨rfl, hx8, hj8⟩)
                go_roundw
                case rel => exact ⟨er, J2, HS3.out, hj8 trivial, Lib.hid (HOK2.out.mono (by omega) (by omega)), Lib.hid HEO1.out.tail, HEQ2, by omega⟩
                case measure => obtain ⟨xx, cc, e⟩ := slE_is HS3.out; rw [e]; simp [lenOf]
              · have HR1 : Hid (R = ((J1.ev s a j safe k e1).1, [])) := Lib.hid (by rw [HR.out, from_step HD0.out hk1, ← HJW.out, HEQ.out, evs_bad hat hcode]; simp [hcode])
                have hnz : ((J1.ev s a j safe k e1).1 == 0) = false := by simp [hcode]
                generalize J1.ev s a j safe k e1 = RE at *
                obtain ⟨ec, J2⟩ := RE
                simp only at *
                clear HX
                go_wp2_with ((go_at_call 22; with_reducible refine (KE.out).mono ?_); rintro e w8 ⟨rfl, hx8, hj8⟩)
                go_ret2
                rw [HR1.out]
                exact ⟨_, rfl, nilSlM _, hx8, capNil⟩
            · have hat' : decide (e1.1 ≤ (k : Int)) = false := by simpa using hat
              have HEV : Hid (JobS.evs s a j safe k es (J.wake k) = (0, J1, e1 :: er)) := Lib.hid (by rw [← HJW.out, HEQ.out, evs_later hat])
              clear HEQ HJW hsl3 HS3
              have KD := Lib.hid (mdone_any HJ1.out)
              cases hd1 : J1.doneB
              · have HR1 : Hid (R = JobS.from_ s a j safe (k + 1) J1.tick (e1 :: er)) := Lib.hid (by rw [HR.out, from_step HD0.out hk1, HEV.out]; simp [hd1])
                rw [hd1] at KD
                go_wp2_with ((go_at_call 20; with_reducible refine (KD.out).mono ?_); rintro e w5 ⟨rfl, hx5⟩; obtain ⟨B5, vm5, vps5, N5, h5⟩ := HJ1.out.later hx5; have c5 := h5.box.c5; have KT := Lib.hid (tick_in h5.ctl (by have := HOK1.out.ps; omega)); have HJ5 := Lib.hid h5; clear h5)
                refine KT.out.mono ?_
                rintro e w6 ⟨rfl, hC6, hO6⟩
                have HJ6 := Lib.hid (HJ5.out.work hC6 hO6)
                clear c5 KT HJ5 hC6 hO6
                go_wp2
                go_roundw
                case rel => exact ⟨k + 1, (e1 :: er), J1.tick, by omega, by go_num, HSL1.out, ⟨_, _, _, _, HJ6.out⟩, Lib.hid (HOK1.out.tick.mono (by simp only [List.length_cons]; omega) (by simp only [List.length_cons]; omega)), HEO1, HR1, by simp only [List.length_cons]; omega⟩
                case measure => simp [intOf]; omega
              · have HR1 : Hid (R = (0, J1.out)) := Lib.hid (by rw [HR.out, from_step HD0.out hk1, HEV.out]; simp [hd1])
                rw [hd1] at KD
                clear HR
                obtain ⟨HR, -⟩ : Hid (R = (0, J1.out)) ∧ True := ⟨HR1, trivial⟩
                clear HR1
                go_wp2_with ((go_at_call 20; with_reducible refine (KD.out).mono ?_); rintro e w5 ⟨rfl, hx5⟩)
                obtain ⟨B, vm, vps, N, h5⟩ := HJ1.out.later hx5
                have H := Lib.hid h5; clear h5
                have HPS : Hid (J1.C.ps.length ≤ 999999999) := Lib.hid (by have := HOK1.out.ps; omega)
                have HLN : Hid (J1.ps.length + J1.C.doneL.length ≤ 1000000000) := Lib.hid (by have := HOK1.out.ps; have := doneL_len J1.C; omega)
                clear HJ1 HOK1 HEV KD hx5
                go_wp2_with fail
                have nG : ¬ (vps.ownBlock = some G) := fun e => (H.out.lp _ e).2 rfl
                have d5 := Chg.cell (D := fun k => vps.ownBlock = some k) H.out.box.c5 nG; have d6 := Chg.cell (D := fun k => vps.ownBlock = some k) H.out.box.c6 nG
                refine wp_region_tree (fun w' => ∃ y : Chg (fun k => vps.ownBlock = some k) w5, w' = y.w) 10 (.one [0, 1, 2, 3, 4, 5, 6, 7] 8 (.one [] 9 (.leaf []))) (by kernel_rfl) (by kernel_rfl) (by kernel_rfl) ⟨⟨_, (Only.refl _ w5).drew⟩, rfl⟩ ?_
                simp only [List.take_succ_cons, List.take_zero]
                refine tree_one fun K hK => ?_
                simp only [List.map_cons, List.map_nil, pickOp, List.getElem?_cons_zero, List.getElem?_cons_succ, Option.getD_some]
                repeat (go_big_quiet_step (fail))
                refine wpQuiet_nil ?_
                clear d5 d6
                have H4 := H.out.later (Ext.refl w5).drew
                have hD3 : Only (fun k => vps.ownBlock = some k) w5 (World.drew w5) := (Only.refl _ w5).drew
                generalize World.drew w5 = w4 at *
                have HD := Lib.hid (done_in H4.ctl HPS.out)
                go_wp2_with ((go_at_call 24; with_reducible refine (HD.out).mono ?_); rintro e w5 ⟨v5, rfl, own5, hx5⟩)
                clear HD
                refine onlyK_normal (hK _ _ ⟨⟨_, hD3.trans (Only.of_ext hx5)⟩, rfl⟩ ?_); clear hK K
                refine tree_one0 fun K hK => ?_
                simp only [pickOp, List.getElem?_cons_zero, List.getElem?_cons_succ, Option.getD_some]
                have HQ4 := Lib.hid (H4.sp.later hx5); have HS4 := Lib.hid own5.sl; have HB4 : Hid (w0.heap.size ≤ w5.heap.size) := Lib.hid (H4.ext.trans hx5).size
                clear own5
                go_wp2_with ((at_builtin; refine appM_at rfl _ _ rfl w0.heap.size _ _ J1.ps J1.C.doneL rfl rfl HQ4.out HS4.out HLN.out HB4.out ?_; intro v6 w6 own6 hg6 hloc6))
                have hO6 : Only (fun k => vps.ownBlock = some k) w4 w6 := (Only.of_ext hx5).trans (Only.of_grown hg6)
                refine onlyK_normal (hK _ _ ⟨⟨_, hD3.trans hO6⟩, rfl⟩ ?_); clear hK K
                refine tree_leaf0 ?_
                simp only [List.drop_succ_cons, List.drop_zero]
                have E6 : Ext w0 w6 := H4.ext.only hO6 (fun i hi e => by have := H4.sp.base e; omega)
                go_wp2
                go_ret2
                rw [HR.out]
                exact ⟨_, rfl, own6.sl, E6, own6.cap⟩
      · have htl : decide ((k : Int) ≥ J.till) = false := by simp; exact Int.not_le.1 (fun h => hw ⟨hh, h⟩)
        go_wp2_with ((go_at_call 20; with_reducible refine (KD.out).mono ?_); rintro e w5 ⟨rfl, hx5⟩; obtain ⟨B5, vm5, vps5, N5, h5⟩ := HJ.out.later hx5; have c5 := h5.box.c5; have c7 := h5.box.c7; have c8 := h5.box.c8; rw [hh] at c7; have KT := Lib.hid (resume_in h5.ctl); have HJ5 := Lib.hid h5; clear h5)
        have HJ7 : Hid (JIn w0 G w5 s a j safe (J.wake k)) := Lib.hid (by rw [hwk]; exact ⟨_, _, _, _, HJ5.out⟩)
        clear c5 c7 c8 KT HJ5 hwk hw KD HJ hh htl
        have HOKw : Hid ((J.wake k).Ok (2 * k + 2 * (20 - es.length)) (800000 + 4 * (20 - es.length))) := Lib.hid (HOK.out.wake k)
        obtain ⟨JW, hJW⟩ : ∃ X, X = J.wake k := ⟨_, rfl⟩
        rw [← hJW] at HJ7 HOKw
        have HJW := Lib.hid hJW; clear hJW HOK
        obtain ⟨wo, rfl⟩ : ∃ wo : World, wo = wr := ⟨_, rfl⟩
        go_wp2_with fail
        go_loopw [2] (fun tv wr => ∃ (es1 : List (Int × Int)) (J1 : JobS), SlE w0 tv es1 ∧ JIn w0 G wr s a j safe J1 ∧ Hid (J1.Ok (2 * k + 2 * (20 - es1.length)) (800000 + 4 * (20 - es1.length))) ∧ Hid (EvOk es1) ∧ Hid (JobS.evs s a j safe k es JW = JobS.evs s a j safe k es1 J1) ∧ es1.length ≤ 20) (fun tv _ => lenOf tv)
        case atStart => exact ⟨es, JW, HSL.out, HJ7.out, HOKw, HEO, Lib.hid rfl, hle⟩
        case round =>
          clear HOKw HJ7 HSL HEO
          obtain ⟨es1, J1, hsl, hJ, HOK1, HEO1, HEQ, hle1⟩ := hrel
          have HSL1 := Lib.hid hsl; have HJ1 := Lib.hid hJ
          clear hsl hJ
          cases es1 with
          | nil =>
            obtain ⟨x1, c1, rfl⟩ := slE_is HSL1.out
            simp only [List.length_nil] at *
            have HEV : Hid (JobS.evs s a j safe k es (J.wake k) = (0, J1, [])) := Lib.hid (by rw [← HJW.out, HEQ.out, evs_nil])
            clear HEQ HJW
            have KD := Lib.hid (mdone_any HJ1.out)
            cases hd1 : J1.doneB
            · have HR1 : Hid (R = JobS.from_ s a j safe (k + 1) J1.tick []) := Lib.hid (by rw [HR.out, from_step HD0.out hk1, HEV.out]; simp [hd1])
              rw [hd1] at KD
              go_wp2_with ((go_at_call 20; with_reducible refine (KD.out).mono ?_); rintro e w5 ⟨rfl, hx5⟩; obtain ⟨B5, vm5, vps5, N5, h5⟩ := HJ1.out.later hx5; have c5 := h5.box.c5; have KT := Lib.hid (tick_in h5.ctl (by have := HOK1.out.ps; omega)); have HJ5 := Lib.hid h5; clear h5)
              refine KT.out.mono ?_
              rintro e w6 ⟨rfl, hC6, hO6⟩
              have HJ6 := Lib.hid (HJ5.out.work hC6 hO6)
              clear c5 KT HJ5 hC6 hO6
              go_wp2
              go_roundw
              case rel => exact ⟨k + 1, [], J1.tick, by omega, by go_num, HSL1.out, ⟨_, _, _, _, HJ6.out⟩, Lib.hid (HOK1.out.tick.mono (by simp only [List.length_nil]; omega) (by simp only [List.length_nil]; omega)), HEO1, HR1, by simp only [List.length_nil]; omega⟩
              case measure => simp [intOf]; omega
            · have HR1 : Hid (R = (0, J1.out)) := Lib.hid (by rw [HR.out, from_step HD0.out hk1, HEV.out]; simp [hd1])
              rw [hd1] at KD
              clear HR
              obtain ⟨HR, -⟩ : Hid (R = (0, J1.out)) ∧ True := ⟨HR1, trivial⟩
              clear HR1
              go_wp2_with ((go_at_call 20; with_reducible refine (KD.out).mono ?_); rintro e w5 ⟨rfl, hx5⟩)
              obtain ⟨B, vm, vps, N, h5⟩ := HJ1.out.later hx5
              have H := Lib.hid h5; clear h5
              have HPS : Hid (J1.C.ps.length ≤ 999999999) := Lib.hid (by have := HOK1.out.ps; omega)
              have HLN : Hid (J1.ps.length + J1.C.doneL.length ≤ 1000000000) := Lib.hid (by have := HOK1.out.ps; have := doneL_len J1.C; omega)
              clear HJ1 HOK1 HEV KD hx5
              go_wp2_with fail
              have nG : ¬ (vps.ownBlock = some G) := fun e => (H.out.lp _ e).2 rfl
              have d5 := Chg.cell (D := fun k => vps.ownBlock = some k) H.out.box.c5 nG; have d6 := Chg.cell (D := fun k => vps.ownBlock = some k) H.out.box.c6 nG
              refine wp_region_tree (fun w' => ∃ y : Chg (fun k => vps.ownBlock = some k) w5, w' = y.w) 10 (.one [0, 1, 2, 3, 4, 5, 6, 7] 8 (.one [] 9 (.leaf []))) (by kernel_rfl) (by kernel_rfl) (by kernel_rfl) ⟨⟨_, (Only.refl _ w5).drew⟩, rfl⟩ ?_
              simp only [List.take_succ_cons, List.take_zero]
              refine tree_one fun K hK => ?_
              simp only [List.map_cons, List.map_nil, pickOp, List.getElem?_cons_zero, List.getElem?_cons_succ, Option.getD_some]
              repeat (go_big_quiet_step (fail))
              refine wpQuiet_nil ?_
              clear d5 d6
              have H4 := H.out.later (Ext.refl w5).drew
              have hD3 : Only (fun k => vps.ownBlock = some k) w5 (World.drew w5) := (Only.refl _ w5).drew
              generalize World.drew w5 = w4 at *
              have HD := Lib.hid (done_in H4.ctl HPS.out)
              go_wp2_with ((go_at_call 24; with_reducible refine (HD.out).mono ?_); rintro e w5 ⟨v5, rfl, own5, hx5⟩)
              clear HD
              refine onlyK_normal (hK _ _ ⟨⟨_, hD3.trans (Only.of_ext hx5)⟩, rfl⟩ ?_); clear hK K
              refine tree_one0 fun K hK => ?_
              simp only [pickOp, List.getElem?_cons_zero, List.getElem?_cons_succ, Option.getD_some]
              have HQ4 := Lib.hid (H4.sp.later hx5); have HS4 := Lib.hid own5.sl; have HB4 : Hid (w0.heap.size ≤ w5.heap.size) := Lib.hid (H4.ext.trans hx5).size
              clear own5
              go_wp2_with ((at_builtin; refine appM_at rfl _ _ rfl w0.heap.size _ _ J1.ps J1.C.doneL rfl rfl HQ4.out HS4.out HLN.out HB4.out ?_; intro v6 w6 own6 hg6 hloc6))
              have hO6 : Only (fun k => vps.ownBlock = some k) w4 w6 := (Only.of_ext hx5).trans (Only.of_grown hg6)
              refine onlyK_normal (hK _ _ ⟨⟨_, hD3.trans hO6⟩, rfl⟩ ?_); clear hK K
              refine tree_leaf0 ?_
              simp only [List.drop_succ_cons, List.drop_zero]
              have E6 : Ext w0 w6 := H4.ext.only hO6 (fun i hi e => by have := H4.sp.base e; omega)
              go_wp2
              go_ret2
              rw [HR.out]
              exact ⟨_, rfl, own6.sl, E6, own6.cap⟩
          | cons e1 er =>
            obtain ⟨x1, c1, rfl⟩ := slE_is HSL1.out
            simp only [List.length_cons] at *
            obtain ⟨b1, o1, rfl, hc1, hc2⟩ := slE_head (HSL1.out.later HJ1.out.ext)
            obtain ⟨a3, n3, c3, hsl3, hs3⟩ := sliceEJ_at HSL1.out
            have HS3 := Lib.hid hs3; clear hs3
            have hg0 : decide (((er.length + 1 : Nat) : Int) > 0) = true := by simp
            by_cases hat : e1.1 ≤ k
            · have hat' : decide (e1.1 ≤ (k : Int)) = true := by simpa using hat
              have HX := HEO1.out.head
              have KE := Lib.hid (mevent_any (t := k) HJ1.out HOK1.out (by omega) (by omega) HSF.out HX.2.2.1 HX.2.2.2 (by omega) (by omega))
              by_cases hcode : (J1.ev s a j safe k e1).1 = 0
              · have HEQ2 : Hid (JobS.evs s a j safe k es JW = JobS.evs s a j safe k er (J1.ev s a j safe k e1).2) := Lib.hid (by rw [HEQ.out, evs_ok hat hcode])
                have HOK2 := Lib.hid (HOK1.out.ev HSF.out hcode)
                have HC := Lib.hid hcode
                generalize J1.ev s a j safe k e1 = RE at *
                obtain ⟨ec, J2⟩ := RE
                have hce : ec = 0 := HC.out
                subst hce
                clear HC hcode HEQ HX
                go_wp2_with ((go_at_call 22; with_reducible refine (KE.out).mono ?_); rintro e w8 ⟨rfl, hx8, hj8⟩)
                go_roundw
                case rel => exact ⟨er, J2, HS3.out, hj8 trivial, Lib.hid (HOK2.out.mono (by omega) (by omega)), Lib.hid HEO1.out.tail, HEQ2, by omega⟩
                case measure => obtain ⟨xx, cc, e⟩ := slE_is HS3.out; rw [e]; simp [lenOf]
              · have HR1 : Hid (R = ((J1.ev s a j safe k e1).1, [])) := Lib.hid (by rw [HR.out, from_step HD0.out hk1, ← HJW.out, HEQ.out, evs_bad hat hcode]; simp [hcode])
                have hnz : ((J1.ev s a j safe k e1).1 == 0) = false := by simp [hcode]
                generalize J1.ev s a j safe k e1 = RE at *
                obtain ⟨ec, J2⟩ := RE
                simp only at *
                clear HX
                go_wp2_with ((go_at_call 22; with_reducible refine (KE.out).mono ?_); rintro e w8 ⟨rfl, hx8, hj8⟩)
                go_ret2
                rw [HR1.out]
                exact ⟨_, rfl, nilSlM _, hx8, capNil⟩
            · have hat' : decide (e1.1 ≤ (k : Int)) = false := by simpa using hat
              have HEV : Hid (JobS.evs s a j safe k es (J.wake k) = (0, J1, e1 :: er)) := Lib.hid (by rw [← HJW.out, HEQ.out, evs_later hat])
              clear HEQ HJW hsl3 HS3
              have KD := Lib.hid (mdone_any HJ1.out)
              cases hd1 : J1.doneB
              · have HR1 : Hid (R = JobS.from_ s a j safe (k + 1) J1.tick (e1 :: er)) := Lib.hid (by rw [HR.out, from_step HD0.out hk1, HEV.out]; simp [hd1])
                rw [hd1] at KD
                go_wp2_with ((go_at_call 20; with_reducible refine (KD.out).mono ?_); rintro e w5 ⟨rfl, hx5⟩; obtain ⟨B5, vm5, vps5, N5, h5⟩ := HJ1.out.later hx5; have c5 := h5.box.c5; have KT := Lib.hid (tick_in h5.ctl (by have := HOK1.out.ps; omega)); have HJ5 := Lib.hid h5; clear h5)
                refine KT.out.mono ?_
                rintro e w6 ⟨rfl, hC6, hO6⟩
                have HJ6 := Lib.hid (HJ5.out.work hC6 hO6)
                clear c5 KT HJ5 hC6 hO6
                go_wp2
                go_roundw
                case rel => exact ⟨k + 1, (e1 :: er), J1.tick, by omega, by go_num, HSL1.out, ⟨_, _, _, _, HJ6.out⟩, Lib.hid (HOK1.out.tick.mono (by simp only [List.length_cons]; omega) (by simp only [List.length_cons]; omega)), HEO1, HR1, by simp only [List.length_cons]; omega⟩
                case measure => simp [intOf]; omega
              · have HR1 : Hid (R = (0, J1.out)) := Lib.hid (by rw [HR.out, from_step HD0.out hk1, HEV.out]; simp [hd1])
                rw [hd1] at KD
                clear HR
                obtain ⟨HR, -⟩ : Hid (R = (0, J1.out)) ∧ True := ⟨HR1, trivial⟩
                clear HR1
                go_wp2_with ((go_at_call 20; with_reducible refine (KD.out).mono ?_); rintro e w5 ⟨rfl, hx5⟩)
                obtain ⟨B, vm, vps, N, h5⟩ := HJ1.out.later hx5
                have H := Lib.hid h5; clear h5
                have HPS : Hid (J1.C.ps.length ≤ 999999999) := Lib.hid (by have := HOK1.out.ps; omega)
                have HLN : Hid (J1.ps.length + J1.C.doneL.length ≤ 1000000000) := Lib.hid (by have := HOK1.out.ps; have := doneL_len J1.C; omega)
                clear HJ1 HOK1 HEV KD hx5
                go_wp2_with fail
                have nG : ¬ (vps.ownBlock = some G) := fun e => (H.out.lp _ e).2 rfl
                have d5 := Chg.cell (D := fun k => vps.ownBlock = some k) H.out.box.c5 nG; have d6 := Chg.cell (D := fun k => vps.ownBlock = some k) H.out.box.c6 nG
                refine wp_region_tree (fun w' => ∃ y : Chg (fun k => vps.ownBlock = some k) w5, w' = y.w) 10 (.one [0, 1, 2, 3, 4, 5, 6, 7] 8 (.one [] 9 (.leaf []))) (by kernel_rfl) (by kernel_rfl) (by kernel_rfl) ⟨⟨_, (Only.refl _ w5).drew⟩, rfl⟩ ?_
                simp only [List.take_succ_cons, List.take_zero]
                refine tree_one fun K hK => ?_
                simp only [List.map_cons, List.map_nil, pickOp, List.getElem?_cons_zero, List.getElem?_cons_succ, Option.getD_some]
                repeat (go_big_quiet_step (fail))
                refine wpQuiet_nil ?_
                clear d5 d6
                have H4 := H.out.later (Ext.refl w5).drew
                have hD3 : Only (fun k => vps.ownBlock = some k) w5 (World.drew w5) := (Only.refl _ w5).drew
                generalize World.drew w5 = w4 at *
                have HD := Lib.hid (done_in H4.ctl HPS.out)
                go_wp2_with ((go_at_call 24; with_reducible refine (HD.out).mono ?_); rintro e w5 ⟨v5, rfl, own5, hx5⟩)
                clear HD
                refine onlyK_normal (hK _ _ ⟨⟨_, hD3.trans (Only.of_ext hx5)⟩, rfl⟩ ?_); clear hK K
                refine tree_one0 fun K hK => ?_
                simp only [pickOp, List.getElem?_cons_zero, List.getElem?_cons_succ, Option.getD_some]
                have HQ4 := Lib.hid (H4.sp.later hx5); have HS4 := Lib.hid own5.sl; have HB4 : Hid (w0.heap.size ≤ w5.heap.size) := Lib.hid (H4.ext.trans hx5).size
                clear own5
                go_wp2_with ((at_builtin; refine appM_at rfl _ _ rfl w0.heap.size _ _ J1.ps J1.C.doneL rfl rfl HQ4.out HS4.out HLN.out HB4.out ?_; intro v6 w6 own6 hg6 hloc6))
                have hO6 : Only (fun k => vps.ownBlock = some k) w4 w6 := (Only.of_ext hx5).trans (Only.of_grown hg6)
                refine onlyK_normal (hK _ _ ⟨⟨_, hD3.trans hO6⟩, rfl⟩ ?_); clear hK K
                refine tree_leaf0 ?_
                simp only [List.drop_succ_cons, List.drop_zero]
                have E6 : Ext w0 w6 := H4.ext.only hO6 (fun i hi e => by have := H4.sp.base e; omega)
                go_wp2
                go_ret2
                rw [HR.out]
                exact ⟨_, rfl, own6.sl, E6, own6.cap⟩

end Go.Proofs.YtjibcnnbclcboaaDoor

namespace Go.Proofs.YtjibcnnbclcboaaDoor
open Go.RowKit
set_option maxRecDepth 8000
set_option maxRecDepth 8000

set_option maxHeartbeats 2000000 in
theorem jdist_inv (v ve : Value) (es0 : List (Int × Int)) (s a j safe : Int) (w0 : World) (he : SlE w0 ve es0) (hne : es0.length ≤ 9223372036854775807) (hv : validE es0 = false) :
    Calls Tryd.prog 9 #[v, Lm s a j, ve, .int .i64 safe] w0 (RetDist w0 (1, [])) := by
  obtain ⟨W1, hW1, L1, hE1⟩ := B3.mk' w0 (.int .i64 s) (.int .i64 a) (.int .i64 j) 54
  have kv := jvalid_any ve es0 W1 (he.later hE1) hne
  rw [hv] at kv
  have KV := Lib.hid kv
  obtain ⟨x0, c0, hve⟩ := slE_is he
  clear kv hv he
  subst hve
  go_enter Tryd.func9, Tryd.ntmps9
  go_wp2_with fail
  clear hW1
  refine KV.out.mono ?_
  rintro e w2 ⟨rfl, hx2⟩
  go_wp2
  go_ret2
  exact ⟨_, rfl, nilSlM _, hE1.trans hx2, capNil⟩

set_option maxHeartbeats 2000000 in
theorem jdist_chk (v ve : Value) (l : List Mot) (es0 : List (Int × Int)) (s a j safe : Int) (w0 : World) (h : SlM w0 v l) (he : SlE w0 ve es0) (hn : l.length ≤ 800000) (hne : es0.length ≤ 9223372036854775807) (hwf : WfL l) (hv : validE es0 = true) (hc : chk l s a j ≠ 0) :
    Calls Tryd.prog 9 #[v, Lm s a j, ve, .int .i64 safe] w0 (RetDist w0 (chk l s a j, [])) := by
  have HCK := Lib.hid hc; have HWF := Lib.hid hwf
  obtain ⟨W1, hW1, L1, hE1⟩ := B3.mk' w0 (.int .i64 s) (.int .i64 a) (.int .i64 j) 54
  have kv := jvalid_any ve es0 W1 (he.later hE1) hne
  rw [hv] at kv
  have KV := Lib.hid kv
  have HS := Lib.hid h
  obtain ⟨x0, c0, hve⟩ := slE_is he
  obtain ⟨xv, cv, hvv⟩ := h.is
  have hnz : (chk l s a j == 0) = false := by simp [hc]
  clear kv hv hc hwf h he
  have HL1 := Lib.hid L1; clear L1
  subst hve hvv
  go_enter Tryd.func9, Tryd.ntmps9
  go_wp2_with fail
  clear hW1
  refine KV.out.mono ?_
  rintro e w2 ⟨rfl, hx2⟩
  have L2 := HL1.out.later hx2
  have l0 := L2.c0; have l1 := L2.c1; have l2 := L2.c2
  have hE2 := hE1.trans hx2
  clear KV HL1 hx2 hE1
  go_wp2_with fail
  obtain ⟨W3, hW3, J3, hx3⟩ := JBox.mk0 w2 s a j safe
  rw [hW3]; clear hW3
  have hE3 := hE2.trans hx3
  have hGw : w0.heap.size ≤ w2.heap.size := hE2.size
  generalize w2.heap.size = G at *
  clear l0 l1 l2 L2 hx3 hE2
  refine (clone_any _ l W3 (HS.out.later hE3) (by omega)).mono ?_
  rintro e w4 ⟨v4, rfl, own4, hx4⟩
  have J4 := J3.later hx4
  have hE4 := hE3.trans hx4
  have S4 := own4.sl
  clear J3 hx4 hE3 own4
  go_wp2_with fail
  refine (mstart_bad J4 S4 (by omega) HWF.out HCK.out).mono ?_
  rintro e w5 ⟨rfl, hx5⟩
  clear J4 S4
  go_wp2
  go_ret2
  exact ⟨_, rfl, nilSlM _, hE4.trans hx5, capNil⟩

/-- What job.Disturbed answers. -/
def distE (l : List Mot) (s a j safe : Int) (es : List (Int × Int)) : Int × List Mot := if validE es = true then dist l s a j safe es else (1, [])

theorem jdist_any (v ve : Value) (l : List Mot) (es0 : List (Int × Int)) (s a j safe : Int) (w0 : World) (h : SlM w0 v l) (he : SlE w0 ve es0) (hn : l.length ≤ 800000) (hne : es0.length ≤ 9223372036854775807) (hwf : WfL l) (hsf : in64 safe) :
    Calls Tryd.prog 9 #[v, Lm s a j, ve, .int .i64 safe] w0 (RetDist w0 (distE l s a j safe es0)) := by
  unfold distE
  by_cases hv : validE es0 = true
  · rw [if_pos hv]
    by_cases hc : chk l s a j = 0
    · exact jdist_run v ve l es0 s a j safe w0 h he hn hne hwf hsf hv hc
    · have e : dist l s a j safe es0 = (chk l s a j, []) := by unfold dist; rw [if_neg hc]
      rw [e]
      exact jdist_chk v ve l es0 s a j safe w0 h he hn hne hwf hv hc
  · rw [if_neg hv]
    exact jdist_inv v ve es0 s a j safe w0 he hne (by simpa using hv)

end Go.Proofs.YtjibcnnbclcboaaDoor

namespace Go.Proofs.YtjibcnnbclcboaaDoor
open Go.RowKit

def awL : List Mot := [⟨0, 0, 0, 1000, 0, 0, 1000000, 0, 0⟩]
def awM : List Mot := [⟨0, 0, 0, 300, 0, 0, 1000000, 0, 0⟩, ⟨300, 0, 0, 1000, 0, 0, 1000000, 0, 0⟩]
def awN : List Mot := [⟨0, 0, 0, 300, 0, 0, 1000000, 0, 0⟩, ⟨300, 0, 0, 300, 0, 5000, 0, 0, 0⟩, ⟨300, 0, 5000, 0, 0, 5000, 0, 0, 0⟩, ⟨0, 0, 5000, 0, 0, 1000, 0, 0, 0⟩, ⟨0, 0, 1000, 0, 0, 0, 1000000, 0, 0⟩, ⟨0, 0, 0, 1000, 0, 0, 1000000, 0, 0⟩]
theorem aw1 : distE awL 100 100 100 5000 [(3, 5)] = (0, awM) := by kernel_rfl
theorem aw2 : distE awL 100 100 100 5000 [(3, 0)] = (0, awN) := by kernel_rfl
theorem aw_wf : WfL awL := by
  intro i hi
  have h : i = 0 := by have : awL.length = 1 := rfl
                       omega
  subst h
  constructor <;> decide

end Go.Proofs.YtjibcnnbclcboaaDoor
