/-
  Walks: the law's own disturbed.
-/
import Derived.Test.YtjibcnnbclcboaaGreatDoorQB30
namespace Go.Proofs.YtjibcnnbclcboaaGreatDoor
open Go.RowKit
set_option maxRecDepth 30000

/-- What stands in memory while the law's own rule is followed. -/
structure LInv (w0 : World) (X B : Nat) (w : World) (s a j : Int) (J : JobS) (vm vps : Value) (N : Nat) : Prop where
  box : B3 w X (.int .i64 s) (.int .i64 a) (.int .i64 j)
  base : w0.heap.size ≤ X
  lt : X < B
  sm : SlM w vm J.l
  cap : CapV vm
  lm : J.l ≠ [] → ∀ b, vm.ownBlock = some b → b < B
  sp : OwnM w0.heap.size w vps J.ps
  lp : ∀ b, vps.ownBlock = some b → b < B ∧ b ≠ X
  mp : J.l ≠ [] → ∀ b, vm.ownBlock = some b → vps.ownBlock ≠ some b
  ctl : CIn B w N J.C
  ext : Ext w0 w
section
variable {w0 : World} {X B : Nat} {w w' : World} {s a j : Int} {J : JobS} {vm vps : Value} {N : Nat}
theorem LInv.later (h : LInv w0 X B w s a j J vm vps N) (k : Ext w w') : LInv w0 X B w' s a j J vm vps N :=
  ⟨h.box.later k, h.base, h.lt, h.sm.later k, h.cap, h.lm, h.sp.later k, h.lp, h.mp, h.ctl.later k, h.ext.trans k⟩
theorem LInv.work {C' : Ctl} (h : LInv w0 X B w s a j J vm vps N) (hc : CIn B w' N C') (k : Only (fun k => B ≤ k) w w') : LInv w0 X B w' s a j { J with C := C' } vm vps N :=
  ⟨h.box.only k (by have := h.lt; omega), h.base, h.lt, h.sm.only' k (fun hl b hb hB => by have := h.lm hl b hb; omega), h.cap, h.lm, h.sp.only k (fun b hb hB => by have := (h.lp b hb).1; omega), h.lp, h.mp, hc, h.ext.only k (fun i hi hB => by have := h.base; have := h.lt; omega)⟩
theorem LInv.bits (h : LInv w0 X B w s a j J vm vps N) (b : Bool) (t : Int) : LInv w0 X B w s a j { J with held := b, till := t } vm vps N :=
  ⟨h.box, h.base, h.lt, h.sm, h.cap, h.lm, h.sp, h.lp, h.mp, h.ctl, h.ext⟩
end

set_option maxHeartbeats 16000000 in
theorem ldist_run (v ve : Value) (l : List Mot) (es0 : List (Int × Int)) (s a j safe : Int) (w0 : World) (h : SlM w0 v l) (hcap : CapV v) (he : SlE w0 ve es0) (hn : l.length ≤ 800000) (hwf : WfL l) (hsf : in64 safe) (hv : validE es0 = true) (hc : chk l s a j = 0) :
    Calls Tryz.prog 12 #[v, Lm s a j, ve, .int .i64 safe] w0 (RetDist w0 (dist l s a j safe es0)) := by
  have HEO := Lib.hid (validE_ok hv)
  have HSF := Lib.hid hsf
  have HR : Hid (dist l s a j safe es0 = JobS.from_ s a j safe 0 (JobS.new l s a j) es0) := Lib.hid (by unfold dist; rw [if_pos hc]; rfl)
  have HOK0 : Hid ((JobS.new l s a j).Ok 0 l.length) := Lib.hid (JobS.Ok.new hc hwf)
  generalize dist l s a j safe es0 = R at *
  obtain ⟨W1, hW1, L1, hE1⟩ := B3.mk' w0 (.int .i64 s) (.int .i64 a) (.int .i64 j) 32
  have KN := Lib.hid (new_in v l s a j W1 (h.later hE1) (by omega) hwf hc)
  have HS := Lib.hid h; have HE := Lib.hid he; have HCP := Lib.hid hcap
  obtain ⟨x0, c0, hve⟩ := slE_is he
  obtain ⟨xv, cv, hvv⟩ := h.is
  clear hv hc hwf hsf h he hcap
  have l0 := L1.c0; have l1 := L1.c1; have l2 := L1.c2
  have HL1 := Lib.hid L1; clear L1
  subst hve hvv
  go_enter Tryz.func12, Tryz.ntmps12
  go_wp2_with fail
  clear hW1
  refine KN.out.mono ?_
  rintro e w2 ⟨N0, rfl, hC2, hx2⟩
  have h2 : LInv w0 w0.heap.size W1.heap.size w2 s a j (JobS.new l s a j) (.slice xv l.length cv) (.slice none 0 0) N0 :=
    ⟨HL1.out.later hx2, Nat.le_refl _, HL1.out.lt, HS.out.later (hE1.trans hx2), HCP.out, fun hl b hb => by have := HS.out.below hl hb; have := HL1.out.lt; omega, World.ownsRow_nil _ _ _ _, (fun b hb => by cases hb), (fun _ b _ e => by cases e), hC2, hE1.trans hx2⟩
  have HJ2 := Lib.hid h2
  have hJ0 : (JobS.new l s a j).held = false := rfl
  have hJ1 : (JobS.new l s a j).till = 0 := rfl
  have HJ00 := Lib.hid hJ0; have HJ01 := Lib.hid hJ1
  clear l0 l1 l2 KN HL1 hE1 hx2 hC2 h2 HCP HS hJ0 hJ1
  generalize JobS.new l s a j = J0 at *
  generalize W1.heap.size = B0 at *
  go_wp2_with fail
  go_loopw [0, 2, 10, 12, 13, 14, 15] (fun t0 t2 t10 t12 t13 t14 t15 wr => ∃ (k : Nat) (es : List (Int × Int)) (J : JobS) (B N : Nat) (vm vps : Value), k ≤ 100000 ∧ t15 = .int .i64 k ∧ SlE w0 t2 es ∧ vm = t0 ∧ t10 = .pointer (some ⟨N, 0, none⟩) ∧ vps = t12 ∧ t13 = .bool J.held ∧ t14 = .int .i64 J.till ∧ Hid (LInv w0 w0.heap.size B wr s a j J vm vps N) ∧ Hid (J.Ok (2 * k + 2 * (20 - es.length)) (800000 + 4 * (20 - es.length))) ∧ Hid (EvOk es) ∧ Hid (R = JobS.from_ s a j safe k J es) ∧ es.length ≤ 20) (fun _ _ _ _ _ _ t15 _ => 100001 - (intOf t15).toNat)
  case atStart => exact ⟨0, es0, J0, B0, N0, _, _, by omega, rfl, HE.out, rfl, rfl, rfl, by rw [HJ00.out], by rw [HJ01.out], HJ2, Lib.hid (HOK0.out.mono (by omega) (by omega)), Lib.hid HEO.out.1, HR, HEO.out.2⟩
  case round =>
    clear HR HOK0 HJ2 HE HEO HJ00 HJ01
    obtain ⟨k, es, J, B, N, vm, vps, hk, rfl, hsl, rfl, rfl, rfl, rfl, rfl, HI, HOK, HEO, HR, hle⟩ := hrel
    obtain ⟨xe, ce, rfl⟩ := slE_is hsl
    have HSL := Lib.hid hsl
    clear hsl
    obtain ⟨xm, cm, hvm⟩ := HI.out.sm.is
    subst hvm
    have hil : J.C.idx ≤ J.l.length := by have := HOK.out.ok.posOk.le; rw [HOK.out.ms] at this; exact this
    have KI := Lib.hid (index_in HI.out.ctl)
    cases hd0 : J.doneB
    rotate_left
    · have HRX : Hid (R = (0, J.out)) := Lib.hid (by rw [HR.out, from_done hd0])
      have hix : J.C.idx = J.l.length := of_decide_eq_true hd0
      rw [hix] at KI
      obtain ⟨HOKX, KIX⟩ := And.intro HOK KI
      clear HOK KI hix hd0 hil
      have HPS : Hid (J.C.ps.length ≤ 999999999) := Lib.hid (by have := HOKX.out.ps; omega)
      have HLN : Hid (J.ps.length + J.C.doneL.length ≤ 1000000000) := Lib.hid (by have := HOKX.out.ps; have := doneL_len J.C; omega)
      have HD := Lib.hid (done_in HI.out.ctl HPS.out)
      go_wp2_with ((go_at_call 34; with_reducible refine (KIX.out).mono ?_); rintro e wz ⟨rfl, rfl⟩)
      refine HD.out.mono ?_
      rintro e w5 ⟨v5, rfl, own5, hx5⟩
      have HQ4 := Lib.hid (HI.out.sp.later hx5); have HS4 := Lib.hid own5.sl; have HB4 : Hid (w0.heap.size ≤ w5.heap.size) := Lib.hid (HI.out.ext.trans hx5).size
      clear own5 HD
      go_wp2_with ((at_builtin; refine appM_at rfl _ _ rfl w0.heap.size _ _ J.ps J.C.doneL rfl rfl HQ4.out HS4.out HLN.out HB4.out ?_; intro v6 w6 own6 hg6 hloc6))
      have hO6 := (Only.of_ext (D := fun k => _ = some k) hx5).trans (Only.of_grown hg6)
      have E6 : Ext w0 w6 := HI.out.ext.only hO6 (fun i hi e => by have := HI.out.sp.base e; omega)
      go_ret2
      rw [HRX.out]
      exact ⟨_, rfl, own6.sl, E6, own6.cap⟩
    have hix : J.C.idx ≠ J.l.length := fun e => by rw [show J.doneB = true from decide_eq_true e] at hd0; cases hd0
    have hlt : decide ((J.C.idx : Int) < (J.l.length : Int)) = true := by simp; omega
    by_cases hk1 : k < 100000
    rotate_left
    · have hkb : decide ((k : Int) ≥ 100000) = true := by simp; omega
      have HR1 : Hid (R = (3, [])) := Lib.hid (by rw [HR.out, from_late hd0 (by omega)])
      go_wp2_with ((go_at_call 34; with_reducible refine (KI.out).mono ?_); rintro e wz ⟨rfl, rfl⟩)
      go_ret2
      rw [HR1.out]
      exact ⟨_, rfl, nilSlM _, HI.out.ext, capNil⟩
    have hkb : decide ((k : Int) ≥ 100000) = false := by simp; omega
    have HD0 := Lib.hid hd0; clear hd0
    by_cases hw : J.held = true ∧ J.till ≤ k
    · have hwk : J.wake k = { J with C := { J.C with hd := false }, held := false } := by unfold JobS.wake; rw [if_pos hw]
      have hh := hw.1
      have htl : decide ((k : Int) ≥ J.till) = true := by simp; exact hw.2
      have KT := Lib.hid (resume_in HI.out.ctl)
      go_wp2_with ((go_at_call 34; with_reducible refine (KI.out).mono ?_); rintro e wz ⟨rfl, rfl⟩)
      refine KT.out.mono ?_
      rintro e w7 ⟨rfl, hC6, hO6⟩
      have h7 := (HI.out.work hC6 hO6).bits false J.till
      have HJ7 : Hid (LInv w0 w0.heap.size B w7 s a j (J.wake k) (.slice xm J.l.length cm) vps N) := Lib.hid (by rw [hwk]; exact h7)
      have HHW : Hid ((J.wake k).held = false) := Lib.hid (by rw [hwk])
      have HTW : Hid ((J.wake k).till = J.till) := Lib.hid (by rw [hwk])
      clear KT hC6 hO6 h7 hwk hh htl hw KI HI
      have HOKw : Hid ((J.wake k).Ok (2 * k + 2 * (20 - es.length)) (800000 + 4 * (20 - es.length))) := Lib.hid (HOK.out.wake k)
      obtain ⟨JW, hJW⟩ : ∃ X, X = J.wake k := ⟨_, rfl⟩
      rw [← hJW] at HJ7 HOKw HHW HTW
      have HJW := Lib.hid hJW; clear hJW HOK hlt hix hil hkb
      obtain ⟨wo, rfl⟩ : ∃ wo : World, wo = wr := ⟨_, rfl⟩
      go_wp2_with fail
      go_loopw [0, 2, 10, 12, 13, 14] (fun t0 t2 t10 t12 t13 t14 wr => ∃ (es1 : List (Int × Int)) (J1 : JobS) (B1 N1 : Nat) (vm1 vps1 : Value), SlE w0 t2 es1 ∧ vm1 = t0 ∧ t10 = .pointer (some ⟨N1, 0, none⟩) ∧ vps1 = t12 ∧ t13 = .bool J1.held ∧ t14 = .int .i64 J1.till ∧ Hid (LInv w0 w0.heap.size B1 wr s a j J1 vm1 vps1 N1) ∧ Hid (J1.Ok (2 * k + 2 * (20 - es1.length)) (800000 + 4 * (20 - es1.length))) ∧ Hid (EvOk es1) ∧ Hid (JobS.evs s a j safe k es JW = JobS.evs s a j safe k es1 J1) ∧ es1.length ≤ 20) (fun _ t2 _ _ _ _ _ => lenOf t2)
      case atStart => exact ⟨es, JW, B, N, _, _, HSL.out, rfl, rfl, rfl, by rw [HHW.out], by rw [HTW.out], HJ7, HOKw, HEO, Lib.hid rfl, hle⟩
      case round =>
        clear HOKw HJ7 HSL HEO HHW HTW
        obtain ⟨es1, J1, B1, N1, vm1, vps1, hsl, rfl, rfl, rfl, rfl, rfl, HI1, HOK1, HEO1, HEQ, hle1⟩ := hrel
        have HSL1 := Lib.hid hsl
        clear hsl
        obtain ⟨xm1, cm1, hvm1⟩ := HI1.out.sm.is
        subst hvm1
        have hil1 : J1.C.idx ≤ J1.l.length := by have := HOK1.out.ok.posOk.le; rw [HOK1.out.ms] at this; exact this
        cases es1 with
        | nil =>
          obtain ⟨x1, c1, rfl⟩ := slE_is HSL1.out
          simp only [List.length_nil] at *
          have HEV : Hid (JobS.evs s a j safe k es (J.wake k) = (0, J1, [])) := Lib.hid (by rw [← HJW.out, HEQ.out, evs_nil])
          clear HEQ HJW
          have KI1 := Lib.hid (index_in HI1.out.ctl)
          cases hd1 : J1.doneB
          · have hix1 : J1.C.idx ≠ J1.l.length := fun e => by rw [show J1.doneB = true from decide_eq_true e] at hd1; cases hd1
            have hq1 : ((J1.C.idx : Int) == (J1.l.length : Int)) = false := by simp; omega
            have HR1 : Hid (R = JobS.from_ s a j safe (k + 1) J1.tick []) := Lib.hid (by rw [HR.out, from_step HD0.out hk1, HEV.out]; simp [hd1])
            have KT := Lib.hid (tick_in HI1.out.ctl (by have := HOK1.out.ps; omega))
            clear hix1 hd1
            go_wp2_with ((go_at_call 34; with_reducible refine (KI1.out).mono ?_); rintro e wz ⟨rfl, rfl⟩)
            refine KT.out.mono ?_
            rintro e w6 ⟨rfl, hC6, hO6⟩
            have HJ6 := Lib.hid (HI1.out.work hC6 hO6)
            clear KT hC6 hO6
            go_wp2
            go_roundw
            case rel => exact ⟨k + 1, [], J1.tick, B1, N1, _, _, by omega, by go_num, HSL1.out, rfl, rfl, rfl, rfl, rfl, HJ6, Lib.hid (HOK1.out.tick.mono (by simp only [List.length_nil]; omega) (by simp only [List.length_nil]; omega)), HEO1, HR1, by simp only [List.length_nil]; omega⟩
            case measure => simp [intOf]; omega
          · have hix1 : J1.C.idx = J1.l.length := of_decide_eq_true hd1
            have hq1 : ((J1.C.idx : Int) == (J1.l.length : Int)) = true := by simp; omega
            have HRX : Hid (R = (0, J1.out)) := Lib.hid (by rw [HR.out, from_step HD0.out hk1, HEV.out]; simp [hd1])
            obtain ⟨HOKX, KIX⟩ := And.intro HOK1 KI1
            clear HOK1 KI1 HR HEV hix1 hd1
            have HPS : Hid (J1.C.ps.length ≤ 999999999) := Lib.hid (by have := HOKX.out.ps; omega)
            have HLN : Hid (J1.ps.length + J1.C.doneL.length ≤ 1000000000) := Lib.hid (by have := HOKX.out.ps; have := doneL_len J1.C; omega)
            have HD := Lib.hid (done_in HI1.out.ctl HPS.out)
            go_wp2_with ((go_at_call 34; with_reducible refine (KIX.out).mono ?_); rintro e wz ⟨rfl, rfl⟩)
            refine HD.out.mono ?_
            rintro e w5 ⟨v5, rfl, own5, hx5⟩
            have HQ4 := Lib.hid (HI1.out.sp.later hx5); have HS4 := Lib.hid own5.sl; have HB4 : Hid (w0.heap.size ≤ w5.heap.size) := Lib.hid (HI1.out.ext.trans hx5).size
            clear own5 HD
            go_wp2_with ((at_builtin; refine appM_at rfl _ _ rfl w0.heap.size _ _ J1.ps J1.C.doneL rfl rfl HQ4.out HS4.out HLN.out HB4.out ?_; intro v6 w6 own6 hg6 hloc6))
            have hO6 := (Only.of_ext (D := fun k => _ = some k) hx5).trans (Only.of_grown hg6)
            have E6 : Ext w0 w6 := HI1.out.ext.only hO6 (fun i hi e => by have := HI1.out.sp.base e; omega)
            go_ret2
            rw [HRX.out]
            exact ⟨_, rfl, own6.sl, E6, own6.cap⟩
        | cons e1 er =>
          obtain ⟨x1, c1, rfl⟩ := slE_is HSL1.out
          simp only [List.length_cons] at *
          obtain ⟨b1, o1, rfl, hc1, hc2⟩ := slE_head (HSL1.out.later HI1.out.ext)
          obtain ⟨a3, n3, c3, hsl3, hs3⟩ := sliceER_at HSL1.out
          have HS3 := Lib.hid hs3; clear hs3
          have hg0 : decide (((er.length + 1 : Nat) : Int) > 0) = true := by simp
          by_cases hat : e1.1 ≤ k
          rotate_left
          · have hat' : decide (e1.1 ≤ (k : Int)) = false := by simpa using hat
            have HEV : Hid (JobS.evs s a j safe k es (J.wake k) = (0, J1, e1 :: er)) := Lib.hid (by rw [← HJW.out, HEQ.out, evs_later hat])
            clear HEQ HJW hsl3 HS3
            have KI1 := Lib.hid (index_in HI1.out.ctl)
            cases hd1 : J1.doneB
            · have hix1 : J1.C.idx ≠ J1.l.length := fun e => by rw [show J1.doneB = true from decide_eq_true e] at hd1; cases hd1
              have hq1 : ((J1.C.idx : Int) == (J1.l.length : Int)) = false := by simp; omega
              have HR1 : Hid (R = JobS.from_ s a j safe (k + 1) J1.tick (e1 :: er)) := Lib.hid (by rw [HR.out, from_step HD0.out hk1, HEV.out]; simp [hd1])
              have KT := Lib.hid (tick_in HI1.out.ctl (by have := HOK1.out.ps; omega))
              clear hix1 hd1
              go_wp2_with ((go_at_call 34; with_reducible refine (KI1.out).mono ?_); rintro e wz ⟨rfl, rfl⟩)
              refine KT.out.mono ?_
              rintro e w6 ⟨rfl, hC6, hO6⟩
              have HJ6 := Lib.hid (HI1.out.work hC6 hO6)
              clear KT hC6 hO6
              go_wp2
              go_roundw
              case rel => exact ⟨k + 1, (e1 :: er), J1.tick, B1, N1, _, _, by omega, by go_num, HSL1.out, rfl, rfl, rfl, rfl, rfl, HJ6, Lib.hid (HOK1.out.tick.mono (by simp only [List.length_cons]; omega) (by simp only [List.length_cons]; omega)), HEO1, HR1, by simp only [List.length_cons]; omega⟩
              case measure => simp [intOf]; omega
            · have hix1 : J1.C.idx = J1.l.length := of_decide_eq_true hd1
              have hq1 : ((J1.C.idx : Int) == (J1.l.length : Int)) = true := by simp; omega
              have HRX : Hid (R = (0, J1.out)) := Lib.hid (by rw [HR.out, from_step HD0.out hk1, HEV.out]; simp [hd1])
              obtain ⟨HOKX, KIX⟩ := And.intro HOK1 KI1
              clear HOK1 KI1 HR HEV hix1 hd1
              have HPS : Hid (J1.C.ps.length ≤ 999999999) := Lib.hid (by have := HOKX.out.ps; omega)
              have HLN : Hid (J1.ps.length + J1.C.doneL.length ≤ 1000000000) := Lib.hid (by have := HOKX.out.ps; have := doneL_len J1.C; omega)
              have HD := Lib.hid (done_in HI1.out.ctl HPS.out)
              go_wp2_with ((go_at_call 34; with_reducible refine (KIX.out).mono ?_); rintro e wz ⟨rfl, rfl⟩)
              refine HD.out.mono ?_
              rintro e w5 ⟨v5, rfl, own5, hx5⟩
              have HQ4 := Lib.hid (HI1.out.sp.later hx5); have HS4 := Lib.hid own5.sl; have HB4 : Hid (w0.heap.size ≤ w5.heap.size) := Lib.hid (HI1.out.ext.trans hx5).size
              clear own5 HD
              go_wp2_with ((at_builtin; refine appM_at rfl _ _ rfl w0.heap.size _ _ J1.ps J1.C.doneL rfl rfl HQ4.out HS4.out HLN.out HB4.out ?_; intro v6 w6 own6 hg6 hloc6))
              have hO6 := (Only.of_ext (D := fun k => _ = some k) hx5).trans (Only.of_grown hg6)
              have E6 : Ext w0 w6 := HI1.out.ext.only hO6 (fun i hi e => by have := HI1.out.sp.base e; omega)
              go_ret2
              rw [HRX.out]
              exact ⟨_, rfl, own6.sl, E6, own6.cap⟩
          have hat' : decide (e1.1 ≤ (k : Int)) = true := by simpa using hat
          have HX := HEO1.out.head
          obtain ⟨hx1, hx2, hx3, hx4⟩ := HX
          have HOKE := fun hcode => HOK1.out.ev HSF.out (t := (k : Int)) (s := s) (a := a) (j := j) (x := e1) hcode
          have HOKE' := Lib.hid HOKE; clear HOKE
          by_cases hz : e1.2 = 0
          rotate_left
          · have hpos : decide (e1.2 > 0) = true := by simp; omega
            have hev : J1.ev s a j safe k e1 = (0, J1.hold e1.2 k) := by unfold JobS.ev; rw [if_neg hz]
            have HEQ2 : Hid (JobS.evs s a j safe k es JW = JobS.evs s a j safe k er (J1.hold e1.2 k)) := Lib.hid (by rw [HEQ.out, evs_ok hat (by rw [hev]), hev])
            have HOK2 : Hid ((J1.hold e1.2 k).Ok (2 * k + 2 * (20 - (er.length + 1)) + 2) (800000 + 4 * (20 - (er.length + 1)) + 4)) := Lib.hid (by have := HOKE'.out (by rw [hev]); rw [hev] at this; exact this)
            have KH := Lib.hid (hold_in HI1.out.ctl (by have := HOK1.out.ps; omega))
            clear hev HOKE' HEQ
            cases hh : J1.held
            · have hT : (J1.hold e1.2 k).till = k + e1.2 := by unfold JobS.hold; simp [hh]
              have hF : ({ ({ J1 with C := J1.C.holdC } : JobS) with held := true, till := k + e1.2 } : JobS) = J1.hold e1.2 k := by unfold JobS.hold; simp [hh]
              have HH1 := Lib.hid hh
              clear hh
              go_wp2_with fail
              refine KH.out.mono ?_
              rintro e w8 ⟨rfl, hC8, hO8⟩
              have H8 := (HI1.out.work hC8 hO8).bits true (k + e1.2)
              rw [hF] at H8
              go_wp2
              go_roundw
              case rel => exact ⟨er, J1.hold e1.2 k, B1, N1, _, _, HS3.out, rfl, rfl, rfl, rfl, by rw [hT], Lib.hid H8, Lib.hid (HOK2.out.mono (by omega) (by omega)), Lib.hid HEO1.out.tail, HEQ2, by omega⟩
              case measure => obtain ⟨xx, cc, e⟩ := slE_is HS3.out; rw [e]; simp [lenOf]
            · by_cases hq : J1.till < k + e1.2
              · have hT : (J1.hold e1.2 k).till = k + e1.2 := by unfold JobS.hold; simp [hh, hq]
                have hF : ({ ({ J1 with C := J1.C.holdC } : JobS) with held := true, till := k + e1.2 } : JobS) = J1.hold e1.2 k := by unfold JobS.hold; simp [hh, hq]
                have hqd : decide ((k : Int) + e1.2 > J1.till) = true := by simpa using hq
                have HH1 := Lib.hid hh
                clear hh
                go_wp2_with fail
                refine KH.out.mono ?_
                rintro e w8 ⟨rfl, hC8, hO8⟩
                have H8 := (HI1.out.work hC8 hO8).bits true (k + e1.2)
                rw [hF] at H8
                go_wp2
                go_roundw
                case rel => exact ⟨er, J1.hold e1.2 k, B1, N1, _, _, HS3.out, rfl, rfl, rfl, rfl, by rw [hT], Lib.hid H8, Lib.hid (HOK2.out.mono (by omega) (by omega)), Lib.hid HEO1.out.tail, HEQ2, by omega⟩
                case measure => obtain ⟨xx, cc, e⟩ := slE_is HS3.out; rw [e]; simp [lenOf]
              · have hT : (J1.hold e1.2 k).till = J1.till := by unfold JobS.hold; simp [hh, hq]
                have hF : ({ ({ J1 with C := J1.C.holdC } : JobS) with held := true, till := J1.till } : JobS) = J1.hold e1.2 k := by unfold JobS.hold; simp [hh, hq]
                have hqd : decide ((k : Int) + e1.2 > J1.till) = false := by simpa using hq
                have HH1 := Lib.hid hh
                clear hh
                go_wp2_with fail
                refine KH.out.mono ?_
                rintro e w8 ⟨rfl, hC8, hO8⟩
                have H8 := (HI1.out.work hC8 hO8).bits true (J1.till)
                rw [hF] at H8
                go_wp2
                go_roundw
                case rel => exact ⟨er, J1.hold e1.2 k, B1, N1, _, _, HS3.out, rfl, rfl, rfl, rfl, by rw [hT], Lib.hid H8, Lib.hid (HOK2.out.mono (by omega) (by omega)), Lib.hid HEO1.out.tail, HEQ2, by omega⟩
                case measure => obtain ⟨xx, cc, e⟩ := slE_is HS3.out; rw [e]; simp [lenOf]
          have hpos : decide (e1.2 > 0) = false := by simp; omega
          have hev : J1.ev s a j safe k e1 = J1.broken s a j safe := by unfold JobS.ev; rw [if_pos hz]
          have HEV := Lib.hid hev; clear hev
          have HLL : Hid (J1.l.length ≤ 1000000) := Lib.hid (by have := HOK1.out.ln; omega)
          have HLR : Hid ((rstL J1.l J1.C.idx J1.C.at3 safe).length ≤ 1000000000) := Lib.hid (by have := rstL_length J1.l J1.C.idx J1.C.at3 safe; have := HOK1.out.ln; omega)
          have HWF : Hid (WfL (rstL J1.l J1.C.idx J1.C.at3 safe)) := Lib.hid (rstL_wf HOK1.out.wf HOK1.out.ok.at3_in HSF.out)
          have HPS : Hid (J1.C.ps.length ≤ 999999999) := Lib.hid (by have := HOK1.out.ps; omega)
          have HPB : Hid (J1.C.brkC.ps.length ≤ 999999999) := Lib.hid (by have := HOK1.out.ps; have := brkC_ps J1.C; omega)
          have HLN : Hid (J1.ps.length + J1.C.brkC.doneL.length ≤ 1000000000) := Lib.hid (by have := HOK1.out.ps; have := brkC_ps J1.C; have := doneL_len J1.C.brkC; omega)
          have KP := Lib.hid (pos_in HI1.out.ctl)
          have hBR : J1.broken s a j safe = J1.broken s a j safe := rfl
          conv at hBR => rhs; unfold JobS.broken
          generalize hat3 : J1.C.at3 = p3 at *
          obtain ⟨qx, qy, qz⟩ := p3
          have HBR := Lib.hid hBR
          clear hBR hat3
          go_wp2_with fail
          refine KP.out.mono ?_
          rintro e V1 ⟨rfl, hy1⟩
          have KI1 := Lib.hid (index_in (HI1.out.ctl.later hy1))
          go_wp2_with ((go_at_call 34; with_reducible refine (KI1.out).mono ?_); rintro e wz ⟨rfl, rfl⟩)
          obtain ⟨V2, hV2, bA, hy2⟩ := P3Box.mk' V1 qx qy qz
          rw [hV2]; clear hV2
          have hA1 : wr.heap.size ≤ V1.heap.size := hy1.size
          generalize V1.heap.size = A at *
          have hy := hy1.trans hy2
          clear hy1 hy2 KI1 KP
          refine (break_up HI1.out.ctl hy HPS.out).mono ?_
          rintro e w3 ⟨rfl, hC3, hO3⟩
          have H3 := Lib.hid ((HI1.out.later hy).work hC3 (hO3.mono (fun _ _ h => h.1)))
          have bP3 := Lib.hid (bA.only hO3 (by omega))
          have hBw : B1 ≤ wr.heap.size := by have := HI1.out.ctl.lt; omega
          clear hC3 hO3 bA hy
          clear V2
          have HD := Lib.hid (done_in H3.out.ctl HPB.out)
          go_wp2_with fail
          refine HD.out.mono ?_
          rintro e w5 ⟨v5, rfl, own5, hx5⟩
          have HQ4 := Lib.hid (H3.out.sp.later hx5); have HS4 := Lib.hid own5.sl; have HB4 : Hid (w0.heap.size ≤ w5.heap.size) := Lib.hid (H3.out.ext.trans hx5).size
          clear own5 HD
          have nA : ¬ (vps1.ownBlock = some A) := fun e => by have := (H3.out.lp _ e).1; omega
          have nX : ¬ (vps1.ownBlock = some w0.heap.size) := fun e => (H3.out.lp _ e).2 rfl
          have kr : ∀ w6 v6, OwnM w0.heap.size w6 v6 (J1.ps ++ J1.C.brkC.doneL) → w5.grownBy w6 vps1.ownBlock → (v6.ownBlock = vps1.ownBlock ∨ v6.ownBlock = some w5.heap.size) → P3Box w6 A qx qy qz ∧ Hid (SlM w6 (.slice xm1 J1.l.length cm1) J1.l ∧ B3 w6 w0.heap.size (.int .i64 s) (.int .i64 a) (.int .i64 j) ∧ Ext w0 w6 ∧ (∀ b, v6.ownBlock = some b → b < w6.heap.size ∧ b ≠ w0.heap.size)) := by
            intro w6 v6 own6 hg6 hloc6
            have hO6 : Only (fun k => vps1.ownBlock = some k) w3 w6 := (Only.of_ext hx5).trans (Only.of_grown hg6)
            refine ⟨bP3.out.only hO6 nA, Lib.hid ⟨H3.out.sm.only' hO6 (fun hl b hb e => H3.out.mp hl b hb e), H3.out.box.only hO6 nX, H3.out.ext.only hO6 (fun i hi e => by have := H3.out.sp.base e; omega), fun b hb => ⟨own6.lt hb, ?_⟩⟩⟩
            intro e
            rw [e] at hb
            rcases hloc6 with e | e
            · exact nX (by rw [← e, hb])
            · rw [hb] at e
              have h1 := H3.out.box.lt
              have h2 := hx5.size
              have := Option.some.inj e
              omega
          have KR := Lib.hid kr; clear kr
          go_wp2_with ((at_builtin; refine appM_at rfl _ _ rfl w0.heap.size _ _ J1.ps J1.C.brkC.doneL rfl rfl HQ4.out HS4.out HLN.out HB4.out ?_; intro v6 w6 own6 hg6 hloc6; obtain ⟨bP6, H6⟩ := KR.out w6 v6 own6 hg6 hloc6; obtain ⟨p0, p1, p2, -, -, -⟩ := bP6.at; have HOWN6 := Lib.hid own6; clear own6 hg6 hloc6))
          clear p0 p1 p2 bP6 KR
          refine (crestart_any _ J1.l J1.C.idx qx qy qz safe w6 H6.out.1 HI1.out.cap hil1 HLL.out).mono ?_
          rintro e w8 ⟨v8, rfl, S8, F8, hx8⟩
          obtain ⟨x8, c8, rfl⟩ := S8.is
          have HS8 := Lib.hid S8; have HF8 := Lib.hid F8
          have q0 := (H6.out.2.1.later hx8).c0; have q1 := (H6.out.2.1.later hx8).c1; have q2 := (H6.out.2.1.later hx8).c2
          clear S8 F8
          by_cases hre : rstE J1.l J1.C.idx (qx, qy, qz) safe = 0
          rotate_left
          · have hnz : (rstE J1.l J1.C.idx (qx, qy, qz) safe == 0) = false := by simp [hre]
            have hbr : J1.broken s a j safe = (rstE J1.l J1.C.idx (qx, qy, qz) safe, J1) := by rw [HBR.out, if_neg hre]
            have HR1 : Hid (R = (rstE J1.l J1.C.idx (qx, qy, qz) safe, [])) := Lib.hid (by rw [HR.out, from_step HD0.out hk1, ← HJW.out, HEQ.out, evs_bad hat (by rw [HEV.out, hbr]; exact hre), HEV.out, hbr]; simp [hre])
            clear hbr
            generalize rstE J1.l J1.C.idx (qx, qy, qz) safe = ec at *
            go_wp2_with fail
            go_ret2
            rw [HR1.out]
            exact ⟨_, rfl, nilSlM _, H6.out.2.2.1.trans hx8, capNil⟩
          have HRE := Lib.hid hre
          rw [hre]
          clear hre
          by_cases hck : chk (rstL J1.l J1.C.idx (qx, qy, qz) safe) s a j = 0
          rotate_left
          · have hnz : (chk (rstL J1.l J1.C.idx (qx, qy, qz) safe) s a j == 0) = false := by simp [hck]
            have hbr : J1.broken s a j safe = (chk (rstL J1.l J1.C.idx (qx, qy, qz) safe) s a j, J1) := by rw [HBR.out, if_pos HRE.out, if_neg hck]
            have HR1 : Hid (R = (chk (rstL J1.l J1.C.idx (qx, qy, qz) safe) s a j, [])) := Lib.hid (by rw [HR.out, from_step HD0.out hk1, ← HJW.out, HEQ.out, evs_bad hat (by rw [HEV.out, hbr]; exact hck), HEV.out, hbr]; simp [hck])
            clear hbr
            have KN := Lib.hid (new_err _ _ s a j w8 HS8.out HLR.out HWF.out hck)
            clear hck
            generalize chk (rstL J1.l J1.C.idx (qx, qy, qz) safe) s a j = ec at *
            generalize rstL J1.l J1.C.idx (qx, qy, qz) safe = rL at *
            go_wp2_with ((go_at_call 33; with_reducible refine (KN.out).mono ?_); rintro e w9 ⟨rfl, hx9⟩)
            go_ret2
            rw [HR1.out]
            exact ⟨_, rfl, nilSlM _, (H6.out.2.2.1.trans hx8).trans hx9, capNil⟩
          have hbr : J1.broken s a j safe = (0, { l := rstL J1.l J1.C.idx (qx, qy, qz) safe, C := Ctl.new (rstL J1.l J1.C.idx (qx, qy, qz) safe) s a j, ps := J1.ps ++ J1.C.brkC.doneL, held := false, till := J1.till }) := by rw [HBR.out, if_pos HRE.out, if_pos hck]
          have HEQ2 : Hid (JobS.evs s a j safe k es JW = JobS.evs s a j safe k er (J1.broken s a j safe).2) := Lib.hid (by rw [HEQ.out, evs_ok hat (by rw [HEV.out, hbr]), HEV.out])
          have HOK2 : Hid ((J1.broken s a j safe).2.Ok (2 * k + 2 * (20 - (er.length + 1)) + 2) (800000 + 4 * (20 - (er.length + 1)) + 4)) := Lib.hid (by have := HOKE'.out (by rw [HEV.out, hbr]); rw [HEV.out] at this; exact this)
          rw [hbr] at HEQ2 HOK2
          have KN := Lib.hid (new_in _ _ s a j w8 HS8.out HLR.out HWF.out hck)
          clear hck hbr HBR HEV
          generalize rstL J1.l J1.C.idx (qx, qy, qz) safe = rL at *
          generalize hCN : Ctl.new rL s a j = CN at *
          have HCN := Lib.hid hCN; clear hCN
          go_wp2_with ((go_at_call 33; with_reducible refine (KN.out).mono ?_); rintro e w9 ⟨N9, rfl, hC9, hx9⟩)
          have H9 : LInv w0 w0.heap.size w8.heap.size w9 s a j { l := rL, C := CN, ps := J1.ps ++ J1.C.brkC.doneL, held := false, till := J1.till } (.slice x8 rL.length c8) v6 N9 := by
            have z1 := H6.out.2.1.lt
            have z2 := hx8.size
            refine ⟨(H6.out.2.1.later hx8).later hx9, HI1.out.base, by omega, HS8.out.later hx9, HF8.out.1, fun hl b hb => HS8.out.below hl hb, HOWN6.out.later (hx8.trans hx9), fun b hb => ?_, fun hl b hb e => ?_, hC9, (H6.out.2.2.1.trans hx8).trans hx9⟩
            · have := H6.out.2.2.2 b hb
              exact ⟨by omega, this.2⟩
            · have z3 := HF8.out.2 b hb
              have z4 := (H6.out.2.2.2 b e).1
              omega
          go_roundw
          case rel => exact ⟨er, ({ l := rL, C := CN, ps := J1.ps ++ J1.C.brkC.doneL, held := false, till := J1.till } : JobS), w8.heap.size, N9, _, _, HS3.out, rfl, rfl, rfl, rfl, rfl, Lib.hid H9, Lib.hid (HOK2.out.mono (by omega) (by omega)), Lib.hid HEO1.out.tail, HEQ2, by omega⟩
          case measure => obtain ⟨xx, cc, e⟩ := slE_is HS3.out; rw [e]; simp [lenOf]
    · have hwk : J.wake k = J := by unfold JobS.wake; rw [if_neg hw]
      cases hh : J.held
      · have HJ7 : Hid (LInv w0 w0.heap.size B wr s a j (J.wake k) (.slice xm J.l.length cm) vps N) := Lib.hid (by rw [hwk]; exact HI.out)
        have HHW : Hid ((J.wake k).held = false) := Lib.hid (by rw [hwk]; exact hh)
        have HTW : Hid ((J.wake k).till = J.till) := Lib.hid (by rw [hwk])
        clear hwk hw
        go_wp2_with ((go_at_call 34; with_reducible refine (KI.out).mono ?_); rintro e wz ⟨rfl, rfl⟩)
        have hlt2 : decide (J.C.idx < J.l.length) = true := by simp; omega
        simp only [hlt2]
        clear hh KI HI hlt2
        have HOKw : Hid ((J.wake k).Ok (2 * k + 2 * (20 - es.length)) (800000 + 4 * (20 - es.length))) := Lib.hid (HOK.out.wake k)
        obtain ⟨JW, hJW⟩ : ∃ X, X = J.wake k := ⟨_, rfl⟩
        rw [← hJW] at HJ7 HOKw HHW HTW
        have HJW := Lib.hid hJW; clear hJW HOK hlt hix hil hkb
        obtain ⟨wo, rfl⟩ : ∃ wo : World, wo = wr := ⟨_, rfl⟩
        go_wp2_with fail
        go_loopw [0, 2, 10, 12, 13, 14] (fun t0 t2 t10 t12 t13 t14 wr => ∃ (es1 : List (Int × Int)) (J1 : JobS) (B1 N1 : Nat) (vm1 vps1 : Value), SlE w0 t2 es1 ∧ vm1 = t0 ∧ t10 = .pointer (some ⟨N1, 0, none⟩) ∧ vps1 = t12 ∧ t13 = .bool J1.held ∧ t14 = .int .i64 J1.till ∧ Hid (LInv w0 w0.heap.size B1 wr s a j J1 vm1 vps1 N1) ∧ Hid (J1.Ok (2 * k + 2 * (20 - es1.length)) (800000 + 4 * (20 - es1.length))) ∧ Hid (EvOk es1) ∧ Hid (JobS.evs s a j safe k es JW = JobS.evs s a j safe k es1 J1) ∧ es1.length ≤ 20) (fun _ t2 _ _ _ _ _ => lenOf t2)
        case atStart => exact ⟨es, JW, B, N, _, _, HSL.out, rfl, rfl, rfl, by rw [HHW.out], by rw [HTW.out], HJ7, HOKw, HEO, Lib.hid rfl, hle⟩
        case round =>
          clear HOKw HJ7 HSL HEO HHW HTW
          obtain ⟨es1, J1, B1, N1, vm1, vps1, hsl, rfl, rfl, rfl, rfl, rfl, HI1, HOK1, HEO1, HEQ, hle1⟩ := hrel
          have HSL1 := Lib.hid hsl
          clear hsl
          obtain ⟨xm1, cm1, hvm1⟩ := HI1.out.sm.is
          subst hvm1
          have hil1 : J1.C.idx ≤ J1.l.length := by have := HOK1.out.ok.posOk.le; rw [HOK1.out.ms] at this; exact this
          cases es1 with
          | nil =>
            obtain ⟨x1, c1, rfl⟩ := slE_is HSL1.out
            simp only [List.length_nil] at *
            have HEV : Hid (JobS.evs s a j safe k es (J.wake k) = (0, J1, [])) := Lib.hid (by rw [← HJW.out, HEQ.out, evs_nil])
            clear HEQ HJW
            have KI1 := Lib.hid (index_in HI1.out.ctl)
            cases hd1 : J1.doneB
            · have hix1 : J1.C.idx ≠ J1.l.length := fun e => by rw [show J1.doneB = true from decide_eq_true e] at hd1; cases hd1
              have hq1 : ((J1.C.idx : Int) == (J1.l.length : Int)) = false := by simp; omega
              have HR1 : Hid (R = JobS.from_ s a j safe (k + 1) J1.tick []) := Lib.hid (by rw [HR.out, from_step HD0.out hk1, HEV.out]; simp [hd1])
              have KT := Lib.hid (tick_in HI1.out.ctl (by have := HOK1.out.ps; omega))
              clear hix1 hd1
              go_wp2_with ((go_at_call 34; with_reducible refine (KI1.out).mono ?_); rintro e wz ⟨rfl, rfl⟩)
              refine KT.out.mono ?_
              rintro e w6 ⟨rfl, hC6, hO6⟩
              have HJ6 := Lib.hid (HI1.out.work hC6 hO6)
              clear KT hC6 hO6
              go_wp2
              go_roundw
              case rel => exact ⟨k + 1, [], J1.tick, B1, N1, _, _, by omega, by go_num, HSL1.out, rfl, rfl, rfl, rfl, rfl, HJ6, Lib.hid (HOK1.out.tick.mono (by simp only [List.length_nil]; omega) (by simp only [List.length_nil]; omega)), HEO1, HR1, by simp only [List.length_nil]; omega⟩
              case measure => simp [intOf]; omega
            · have hix1 : J1.C.idx = J1.l.length := of_decide_eq_true hd1
              have hq1 : ((J1.C.idx : Int) == (J1.l.length : Int)) = true := by simp; omega
              have HRX : Hid (R = (0, J1.out)) := Lib.hid (by rw [HR.out, from_step HD0.out hk1, HEV.out]; simp [hd1])
              obtain ⟨HOKX, KIX⟩ := And.intro HOK1 KI1
              clear HOK1 KI1 HR HEV hix1 hd1
              have HPS : Hid (J1.C.ps.length ≤ 999999999) := Lib.hid (by have := HOKX.out.ps; omega)
              have HLN : Hid (J1.ps.length + J1.C.doneL.length ≤ 1000000000) := Lib.hid (by have := HOKX.out.ps; have := doneL_len J1.C; omega)
              have HD := Lib.hid (done_in HI1.out.ctl HPS.out)
              go_wp2_with ((go_at_call 34; with_reducible refine (KIX.out).mono ?_); rintro e wz ⟨rfl, rfl⟩)
              refine HD.out.mono ?_
              rintro e w5 ⟨v5, rfl, own5, hx5⟩
              have HQ4 := Lib.hid (HI1.out.sp.later hx5); have HS4 := Lib.hid own5.sl; have HB4 : Hid (w0.heap.size ≤ w5.heap.size) := Lib.hid (HI1.out.ext.trans hx5).size
              clear own5 HD
              go_wp2_with ((at_builtin; refine appM_at rfl _ _ rfl w0.heap.size _ _ J1.ps J1.C.doneL rfl rfl HQ4.out HS4.out HLN.out HB4.out ?_; intro v6 w6 own6 hg6 hloc6))
              have hO6 := (Only.of_ext (D := fun k => _ = some k) hx5).trans (Only.of_grown hg6)
              have E6 : Ext w0 w6 := HI1.out.ext.only hO6 (fun i hi e => by have := HI1.out.sp.base e; omega)
              go_ret2
              rw [HRX.out]
              exact ⟨_, rfl, own6.sl, E6, own6.cap⟩
          | cons e1 er =>
            obtain ⟨x1, c1, rfl⟩ := slE_is HSL1.out
            simp only [List.length_cons] at *
            obtain ⟨b1, o1, rfl, hc1, hc2⟩ := slE_head (HSL1.out.later HI1.out.ext)
            obtain ⟨a3, n3, c3, hsl3, hs3⟩ := sliceER_at HSL1.out
            have HS3 := Lib.hid hs3; clear hs3
            have hg0 : decide (((er.length + 1 : Nat) : Int) > 0) = true := by simp
            by_cases hat : e1.1 ≤ k
            rotate_left
            · have hat' : decide (e1.1 ≤ (k : Int)) = false := by simpa using hat
              have HEV : Hid (JobS.evs s a j safe k es (J.wake k) = (0, J1, e1 :: er)) := Lib.hid (by rw [← HJW.out, HEQ.out, evs_later hat])
              clear HEQ HJW hsl3 HS3
              have KI1 := Lib.hid (index_in HI1.out.ctl)
              cases hd1 : J1.doneB
              · have hix1 : J1.C.idx ≠ J1.l.length := fun e => by rw [show J1.doneB = true from decide_eq_true e] at hd1; cases hd1
                have hq1 : ((J1.C.idx : Int) == (J1.l.length : Int)) = false := by simp; omega
                have HR1 : Hid (R = JobS.from_ s a j safe (k + 1) J1.tick (e1 :: er)) := Lib.hid (by rw [HR.out, from_step HD0.out hk1, HEV.out]; simp [hd1])
                have KT := Lib.hid (tick_in HI1.out.ctl (by have := HOK1.out.ps; omega))
                clear hix1 hd1
                go_wp2_with ((go_at_call 34; with_reducible refine (KI1.out).mono ?_); rintro e wz ⟨rfl, rfl⟩)
                refine KT.out.mono ?_
                rintro e w6 ⟨rfl, hC6, hO6⟩
                have HJ6 := Lib.hid (HI1.out.work hC6 hO6)
                clear KT hC6 hO6
                go_wp2
                go_roundw
                case rel => exact ⟨k + 1, (e1 :: er), J1.tick, B1, N1, _, _, by omega, by go_num, HSL1.out, rfl, rfl, rfl, rfl, rfl, HJ6, Lib.hid (HOK1.out.tick.mono (by simp only [List.length_cons]; omega) (by simp only [List.length_cons]; omega)), HEO1, HR1, by simp only [List.length_cons]; omega⟩
                case measure => simp [intOf]; omega
              · have hix1 : J1.C.idx = J1.l.length := of_decide_eq_true hd1
                have hq1 : ((J1.C.idx : Int) == (J1.l.length : Int)) = true := by simp; omega
                have HRX : Hid (R = (0, J1.out)) := Lib.hid (by rw [HR.out, from_step HD0.out hk1, HEV.out]; simp [hd1])
                obtain ⟨HOKX, KIX⟩ := And.intro HOK1 KI1
                clear HOK1 KI1 HR HEV hix1 hd1
                have HPS : Hid (J1.C.ps.length ≤ 999999999) := Lib.hid (by have := HOKX.out.ps; omega)
                have HLN : Hid (J1.ps.length + J1.C.doneL.length ≤ 1000000000) := Lib.hid (by have := HOKX.out.ps; have := doneL_len J1.C; omega)
                have HD := Lib.hid (done_in HI1.out.ctl HPS.out)
                go_wp2_with ((go_at_call 34; with_reducible refine (KIX.out).mono ?_); rintro e wz ⟨rfl, rfl⟩)
                refine HD.out.mono ?_
                rintro e w5 ⟨v5, rfl, own5, hx5⟩
                have HQ4 := Lib.hid (HI1.out.sp.later hx5); have HS4 := Lib.hid own5.sl; have HB4 : Hid (w0.heap.size ≤ w5.heap.size) := Lib.hid (HI1.out.ext.trans hx5).size
                clear own5 HD
                go_wp2_with ((at_builtin; refine appM_at rfl _ _ rfl w0.heap.size _ _ J1.ps J1.C.doneL rfl rfl HQ4.out HS4.out HLN.out HB4.out ?_; intro v6 w6 own6 hg6 hloc6))
                have hO6 := (Only.of_ext (D := fun k => _ = some k) hx5).trans (Only.of_grown hg6)
                have E6 : Ext w0 w6 := HI1.out.ext.only hO6 (fun i hi e => by have := HI1.out.sp.base e; omega)
                go_ret2
                rw [HRX.out]
                exact ⟨_, rfl, own6.sl, E6, own6.cap⟩
            have hat' : decide (e1.1 ≤ (k : Int)) = true := by simpa using hat
            have HX := HEO1.out.head
            obtain ⟨hx1, hx2, hx3, hx4⟩ := HX
            have HOKE := fun hcode => HOK1.out.ev HSF.out (t := (k : Int)) (s := s) (a := a) (j := j) (x := e1) hcode
            have HOKE' := Lib.hid HOKE; clear HOKE
            by_cases hz : e1.2 = 0
            rotate_left
            · have hpos : decide (e1.2 > 0) = true := by simp; omega
              have hev : J1.ev s a j safe k e1 = (0, J1.hold e1.2 k) := by unfold JobS.ev; rw [if_neg hz]
              have HEQ2 : Hid (JobS.evs s a j safe k es JW = JobS.evs s a j safe k er (J1.hold e1.2 k)) := Lib.hid (by rw [HEQ.out, evs_ok hat (by rw [hev]), hev])
              have HOK2 : Hid ((J1.hold e1.2 k).Ok (2 * k + 2 * (20 - (er.length + 1)) + 2) (800000 + 4 * (20 - (er.length + 1)) + 4)) := Lib.hid (by have := HOKE'.out (by rw [hev]); rw [hev] at this; exact this)
              have KH := Lib.hid (hold_in HI1.out.ctl (by have := HOK1.out.ps; omega))
              clear hev HOKE' HEQ
              cases hh : J1.held
              · have hT : (J1.hold e1.2 k).till = k + e1.2 := by unfold JobS.hold; simp [hh]
                have hF : ({ ({ J1 with C := J1.C.holdC } : JobS) with held := true, till := k + e1.2 } : JobS) = J1.hold e1.2 k := by unfold JobS.hold; simp [hh]
                have HH1 := Lib.hid hh
                clear hh
                go_wp2_with fail
                refine KH.out.mono ?_
                rintro e w8 ⟨rfl, hC8, hO8⟩
                have H8 := (HI1.out.work hC8 hO8).bits true (k + e1.2)
                rw [hF] at H8
                go_wp2
                go_roundw
                case rel => exact ⟨er, J1.hold e1.2 k, B1, N1, _, _, HS3.out, rfl, rfl, rfl, rfl, by rw [hT], Lib.hid H8, Lib.hid (HOK2.out.mono (by omega) (by omega)), Lib.hid HEO1.out.tail, HEQ2, by omega⟩
                case measure => obtain ⟨xx, cc, e⟩ := slE_is HS3.out; rw [e]; simp [lenOf]
              · by_cases hq : J1.till < k + e1.2
                · have hT : (J1.hold e1.2 k).till = k + e1.2 := by unfold JobS.hold; simp [hh, hq]
                  have hF : ({ ({ J1 with C := J1.C.holdC } : JobS) with held := true, till := k + e1.2 } : JobS) = J1.hold e1.2 k := by unfold JobS.hold; simp [hh, hq]
                  have hqd : decide ((k : Int) + e1.2 > J1.till) = true := by simpa using hq
                  have HH1 := Lib.hid hh
                  clear hh
                  go_wp2_with fail
                  refine KH.out.mono ?_
                  rintro e w8 ⟨rfl, hC8, hO8⟩
                  have H8 := (HI1.out.work hC8 hO8).bits true (k + e1.2)
                  rw [hF] at H8
                  go_wp2
                  go_roundw
                  case rel => exact ⟨er, J1.hold e1.2 k, B1, N1, _, _, HS3.out, rfl, rfl, rfl, rfl, by rw [hT], Lib.hid H8, Lib.hid (HOK2.out.mono (by omega) (by omega)), Lib.hid HEO1.out.tail, HEQ2, by omega⟩
                  case measure => obtain ⟨xx, cc, e⟩ := slE_is HS3.out; rw [e]; simp [lenOf]
                · have hT : (J1.hold e1.2 k).till = J1.till := by unfold JobS.hold; simp [hh, hq]
                  have hF : ({ ({ J1 with C := J1.C.holdC } : JobS) with held := true, till := J1.till } : JobS) = J1.hold e1.2 k := by unfold JobS.hold; simp [hh, hq]
                  have hqd : decide ((k : Int) + e1.2 > J1.till) = false := by simpa using hq
                  have HH1 := Lib.hid hh
                  clear hh
                  go_wp2_with fail
                  refine KH.out.mono ?_
                  rintro e w8 ⟨rfl, hC8, hO8⟩
                  have H8 := (HI1.out.work hC8 hO8).bits true (J1.till)
                  rw [hF] at H8
                  go_wp2
                  go_roundw
                  case rel => exact ⟨er, J1.hold e1.2 k, B1, N1, _, _, HS3.out, rfl, rfl, rfl, rfl, by rw [hT], Lib.hid H8, Lib.hid (HOK2.out.mono (by omega) (by omega)), Lib.hid HEO1.out.tail, HEQ2, by omega⟩
                  case measure => obtain ⟨xx, cc, e⟩ := slE_is HS3.out; rw [e]; simp [lenOf]
            have hpos : decide (e1.2 > 0) = false := by simp; omega
            have hev : J1.ev s a j safe k e1 = J1.broken s a j safe := by unfold JobS.ev; rw [if_pos hz]
            have HEV := Lib.hid hev; clear hev
            have HLL : Hid (J1.l.length ≤ 1000000) := Lib.hid (by have := HOK1.out.ln; omega)
            have HLR : Hid ((rstL J1.l J1.C.idx J1.C.at3 safe).length ≤ 1000000000) := Lib.hid (by have := rstL_length J1.l J1.C.idx J1.C.at3 safe; have := HOK1.out.ln; omega)
            have HWF : Hid (WfL (rstL J1.l J1.C.idx J1.C.at3 safe)) := Lib.hid (rstL_wf HOK1.out.wf HOK1.out.ok.at3_in HSF.out)
            have HPS : Hid (J1.C.ps.length ≤ 999999999) := Lib.hid (by have := HOK1.out.ps; omega)
            have HPB : Hid (J1.C.brkC.ps.length ≤ 999999999) := Lib.hid (by have := HOK1.out.ps; have := brkC_ps J1.C; omega)
            have HLN : Hid (J1.ps.length + J1.C.brkC.doneL.length ≤ 1000000000) := Lib.hid (by have := HOK1.out.ps; have := brkC_ps J1.C; have := doneL_len J1.C.brkC; omega)
            have KP := Lib.hid (pos_in HI1.out.ctl)
            have hBR : J1.broken s a j safe = J1.broken s a j safe := rfl
            conv at hBR => rhs; unfold JobS.broken
            generalize hat3 : J1.C.at3 = p3 at *
            obtain ⟨qx, qy, qz⟩ := p3
            have HBR := Lib.hid hBR
            clear hBR hat3
            go_wp2_with fail
            refine KP.out.mono ?_
            rintro e V1 ⟨rfl, hy1⟩
            have KI1 := Lib.hid (index_in (HI1.out.ctl.later hy1))
            go_wp2_with ((go_at_call 34; with_reducible refine (KI1.out).mono ?_); rintro e wz ⟨rfl, rfl⟩)
            obtain ⟨V2, hV2, bA, hy2⟩ := P3Box.mk' V1 qx qy qz
            rw [hV2]; clear hV2
            have hA1 : wr.heap.size ≤ V1.heap.size := hy1.size
            generalize V1.heap.size = A at *
            have hy := hy1.trans hy2
            clear hy1 hy2 KI1 KP
            refine (break_up HI1.out.ctl hy HPS.out).mono ?_
            rintro e w3 ⟨rfl, hC3, hO3⟩
            have H3 := Lib.hid ((HI1.out.later hy).work hC3 (hO3.mono (fun _ _ h => h.1)))
            have bP3 := Lib.hid (bA.only hO3 (by omega))
            have hBw : B1 ≤ wr.heap.size := by have := HI1.out.ctl.lt; omega
            clear hC3 hO3 bA hy
            clear V2
            have HD := Lib.hid (done_in H3.out.ctl HPB.out)
            go_wp2_with fail
            refine HD.out.mono ?_
            rintro e w5 ⟨v5, rfl, own5, hx5⟩
            have HQ4 := Lib.hid (H3.out.sp.later hx5); have HS4 := Lib.hid own5.sl; have HB4 : Hid (w0.heap.size ≤ w5.heap.size) := Lib.hid (H3.out.ext.trans hx5).size
            clear own5 HD
            have nA : ¬ (vps1.ownBlock = some A) := fun e => by have := (H3.out.lp _ e).1; omega
            have nX : ¬ (vps1.ownBlock = some w0.heap.size) := fun e => (H3.out.lp _ e).2 rfl
            have kr : ∀ w6 v6, OwnM w0.heap.size w6 v6 (J1.ps ++ J1.C.brkC.doneL) → w5.grownBy w6 vps1.ownBlock → (v6.ownBlock = vps1.ownBlock ∨ v6.ownBlock = some w5.heap.size) → P3Box w6 A qx qy qz ∧ Hid (SlM w6 (.slice xm1 J1.l.length cm1) J1.l ∧ B3 w6 w0.heap.size (.int .i64 s) (.int .i64 a) (.int .i64 j) ∧ Ext w0 w6 ∧ (∀ b, v6.ownBlock = some b → b < w6.heap.size ∧ b ≠ w0.heap.size)) := by
              intro w6 v6 own6 hg6 hloc6
              have hO6 : Only (fun k => vps1.ownBlock = some k) w3 w6 := (Only.of_ext hx5).trans (Only.of_grown hg6)
              refine ⟨bP3.out.only hO6 nA, Lib.hid ⟨H3.out.sm.only' hO6 (fun hl b hb e => H3.out.mp hl b hb e), H3.out.box.only hO6 nX, H3.out.ext.only hO6 (fun i hi e => by have := H3.out.sp.base e; omega), fun b hb => ⟨own6.lt hb, ?_⟩⟩⟩
              intro e
              rw [e] at hb
              rcases hloc6 with e | e
              · exact nX (by rw [← e, hb])
              · rw [hb] at e
                have h1 := H3.out.box.lt
                have h2 := hx5.size
                have := Option.some.inj e
                omega
            have KR := Lib.hid kr; clear kr
            go_wp2_with ((at_builtin; refine appM_at rfl _ _ rfl w0.heap.size _ _ J1.ps J1.C.brkC.doneL rfl rfl HQ4.out HS4.out HLN.out HB4.out ?_; intro v6 w6 own6 hg6 hloc6; obtain ⟨bP6, H6⟩ := KR.out w6 v6 own6 hg6 hloc6; obtain ⟨p0, p1, p2, -, -, -⟩ := bP6.at; have HOWN6 := Lib.hid own6; clear own6 hg6 hloc6))
            clear p0 p1 p2 bP6 KR
            refine (crestart_any _ J1.l J1.C.idx qx qy qz safe w6 H6.out.1 HI1.out.cap hil1 HLL.out).mono ?_
            rintro e w8 ⟨v8, rfl, S8, F8, hx8⟩
            obtain ⟨x8, c8, rfl⟩ := S8.is
            have HS8 := Lib.hid S8; have HF8 := Lib.hid F8
            have q0 := (H6.out.2.1.later hx8).c0; have q1 := (H6.out.2.1.later hx8).c1; have q2 := (H6.out.2.1.later hx8).c2
            clear S8 F8
            by_cases hre : rstE J1.l J1.C.idx (qx, qy, qz) safe = 0
            rotate_left
            · have hnz : (rstE J1.l J1.C.idx (qx, qy, qz) safe == 0) = false := by simp [hre]
              have hbr : J1.broken s a j safe = (rstE J1.l J1.C.idx (qx, qy, qz) safe, J1) := by rw [HBR.out, if_neg hre]
              have HR1 : Hid (R = (rstE J1.l J1.C.idx (qx, qy, qz) safe, [])) := Lib.hid (by rw [HR.out, from_step HD0.out hk1, ← HJW.out, HEQ.out, evs_bad hat (by rw [HEV.out, hbr]; exact hre), HEV.out, hbr]; simp [hre])
              clear hbr
              generalize rstE J1.l J1.C.idx (qx, qy, qz) safe = ec at *
              go_wp2_with fail
              go_ret2
              rw [HR1.out]
              exact ⟨_, rfl, nilSlM _, H6.out.2.2.1.trans hx8, capNil⟩
            have HRE := Lib.hid hre
            rw [hre]
            clear hre
            by_cases hck : chk (rstL J1.l J1.C.idx (qx, qy, qz) safe) s a j = 0
            rotate_left
            · have hnz : (chk (rstL J1.l J1.C.idx (qx, qy, qz) safe) s a j == 0) = false := by simp [hck]
              have hbr : J1.broken s a j safe = (chk (rstL J1.l J1.C.idx (qx, qy, qz) safe) s a j, J1) := by rw [HBR.out, if_pos HRE.out, if_neg hck]
              have HR1 : Hid (R = (chk (rstL J1.l J1.C.idx (qx, qy, qz) safe) s a j, [])) := Lib.hid (by rw [HR.out, from_step HD0.out hk1, ← HJW.out, HEQ.out, evs_bad hat (by rw [HEV.out, hbr]; exact hck), HEV.out, hbr]; simp [hck])
              clear hbr
              have KN := Lib.hid (new_err _ _ s a j w8 HS8.out HLR.out HWF.out hck)
              clear hck
              generalize chk (rstL J1.l J1.C.idx (qx, qy, qz) safe) s a j = ec at *
              generalize rstL J1.l J1.C.idx (qx, qy, qz) safe = rL at *
              go_wp2_with ((go_at_call 33; with_reducible refine (KN.out).mono ?_); rintro e w9 ⟨rfl, hx9⟩)
              go_ret2
              rw [HR1.out]
              exact ⟨_, rfl, nilSlM _, (H6.out.2.2.1.trans hx8).trans hx9, capNil⟩
            have hbr : J1.broken s a j safe = (0, { l := rstL J1.l J1.C.idx (qx, qy, qz) safe, C := Ctl.new (rstL J1.l J1.C.idx (qx, qy, qz) safe) s a j, ps := J1.ps ++ J1.C.brkC.doneL, held := false, till := J1.till }) := by rw [HBR.out, if_pos HRE.out, if_pos hck]
            have HEQ2 : Hid (JobS.evs s a j safe k es JW = JobS.evs s a j safe k er (J1.broken s a j safe).2) := Lib.hid (by rw [HEQ.out, evs_ok hat (by rw [HEV.out, hbr]), HEV.out])
            have HOK2 : Hid ((J1.broken s a j safe).2.Ok (2 * k + 2 * (20 - (er.length + 1)) + 2) (800000 + 4 * (20 - (er.length + 1)) + 4)) := Lib.hid (by have := HOKE'.out (by rw [HEV.out, hbr]); rw [HEV.out] at this; exact this)
            rw [hbr] at HEQ2 HOK2
            have KN := Lib.hid (new_in _ _ s a j w8 HS8.out HLR.out HWF.out hck)
            clear hck hbr HBR HEV
            generalize rstL J1.l J1.C.idx (qx, qy, qz) safe = rL at *
            generalize hCN : Ctl.new rL s a j = CN at *
            have HCN := Lib.hid hCN; clear hCN
            go_wp2_with ((go_at_call 33; with_reducible refine (KN.out).mono ?_); rintro e w9 ⟨N9, rfl, hC9, hx9⟩)
            have H9 : LInv w0 w0.heap.size w8.heap.size w9 s a j { l := rL, C := CN, ps := J1.ps ++ J1.C.brkC.doneL, held := false, till := J1.till } (.slice x8 rL.length c8) v6 N9 := by
              have z1 := H6.out.2.1.lt
              have z2 := hx8.size
              refine ⟨(H6.out.2.1.later hx8).later hx9, HI1.out.base, by omega, HS8.out.later hx9, HF8.out.1, fun hl b hb => HS8.out.below hl hb, HOWN6.out.later (hx8.trans hx9), fun b hb => ?_, fun hl b hb e => ?_, hC9, (H6.out.2.2.1.trans hx8).trans hx9⟩
              · have := H6.out.2.2.2 b hb
                exact ⟨by omega, this.2⟩
              · have z3 := HF8.out.2 b hb
                have z4 := (H6.out.2.2.2 b e).1
                omega
            go_roundw
            case rel => exact ⟨er, ({ l := rL, C := CN, ps := J1.ps ++ J1.C.brkC.doneL, held := false, till := J1.till } : JobS), w8.heap.size, N9, _, _, HS3.out, rfl, rfl, rfl, rfl, rfl, Lib.hid H9, Lib.hid (HOK2.out.mono (by omega) (by omega)), Lib.hid HEO1.out.tail, HEQ2, by omega⟩
            case measure => obtain ⟨xx, cc, e⟩ := slE_is HS3.out; rw [e]; simp [lenOf]
      · have hnt : ¬ J.till ≤ (k : Int) := fun h => hw ⟨hh, h⟩
        have htl : decide ((k : Int) ≥ J.till) = false := by simp; omega
        clear hnt
        have HJ7 : Hid (LInv w0 w0.heap.size B wr s a j (J.wake k) (.slice xm J.l.length cm) vps N) := Lib.hid (by rw [hwk]; exact HI.out)
        have HHW : Hid ((J.wake k).held = true) := Lib.hid (by rw [hwk]; exact hh)
        have HTW : Hid ((J.wake k).till = J.till) := Lib.hid (by rw [hwk])
        clear hwk hw
        go_wp2_with ((go_at_call 34; with_reducible refine (KI.out).mono ?_); rintro e wz ⟨rfl, rfl⟩)
        have hlt2 : decide (J.C.idx < J.l.length) = true := by simp; omega
        simp only [hlt2]
        clear hh htl KI HI hlt2
        have HOKw : Hid ((J.wake k).Ok (2 * k + 2 * (20 - es.length)) (800000 + 4 * (20 - es.length))) := Lib.hid (HOK.out.wake k)
        obtain ⟨JW, hJW⟩ : ∃ X, X = J.wake k := ⟨_, rfl⟩
        rw [← hJW] at HJ7 HOKw HHW HTW
        have HJW := Lib.hid hJW; clear hJW HOK hlt hix hil hkb
        obtain ⟨wo, rfl⟩ : ∃ wo : World, wo = wr := ⟨_, rfl⟩
        go_wp2_with fail
        go_loopw [0, 2, 10, 12, 13, 14] (fun t0 t2 t10 t12 t13 t14 wr => ∃ (es1 : List (Int × Int)) (J1 : JobS) (B1 N1 : Nat) (vm1 vps1 : Value), SlE w0 t2 es1 ∧ vm1 = t0 ∧ t10 = .pointer (some ⟨N1, 0, none⟩) ∧ vps1 = t12 ∧ t13 = .bool J1.held ∧ t14 = .int .i64 J1.till ∧ Hid (LInv w0 w0.heap.size B1 wr s a j J1 vm1 vps1 N1) ∧ Hid (J1.Ok (2 * k + 2 * (20 - es1.length)) (800000 + 4 * (20 - es1.length))) ∧ Hid (EvOk es1) ∧ Hid (JobS.evs s a j safe k es JW = JobS.evs s a j safe k es1 J1) ∧ es1.length ≤ 20) (fun _ t2 _ _ _ _ _ => lenOf t2)
        case atStart => exact ⟨es, JW, B, N, _, _, HSL.out, rfl, rfl, rfl, by rw [HHW.out], by rw [HTW.out], HJ7, HOKw, HEO, Lib.hid rfl, hle⟩
        case round =>
          clear HOKw HJ7 HSL HEO HHW HTW
          obtain ⟨es1, J1, B1, N1, vm1, vps1, hsl, rfl, rfl, rfl, rfl, rfl, HI1, HOK1, HEO1, HEQ, hle1⟩ := hrel
          have HSL1 := Lib.hid hsl
          clear hsl
          obtain ⟨xm1, cm1, hvm1⟩ := HI1.out.sm.is
          subst hvm1
          have hil1 : J1.C.idx ≤ J1.l.length := by have := HOK1.out.ok.posOk.le; rw [HOK1.out.ms] at this; exact this
          cases es1 with
          | nil =>
            obtain ⟨x1, c1, rfl⟩ := slE_is HSL1.out
            simp only [List.length_nil] at *
            have HEV : Hid (JobS.evs s a j safe k es (J.wake k) = (0, J1, [])) := Lib.hid (by rw [← HJW.out, HEQ.out, evs_nil])
            clear HEQ HJW
            have KI1 := Lib.hid (index_in HI1.out.ctl)
            cases hd1 : J1.doneB
            · have hix1 : J1.C.idx ≠ J1.l.length := fun e => by rw [show J1.doneB = true from decide_eq_true e] at hd1; cases hd1
              have hq1 : ((J1.C.idx : Int) == (J1.l.length : Int)) = false := by simp; omega
              have HR1 : Hid (R = JobS.from_ s a j safe (k + 1) J1.tick []) := Lib.hid (by rw [HR.out, from_step HD0.out hk1, HEV.out]; simp [hd1])
              have KT := Lib.hid (tick_in HI1.out.ctl (by have := HOK1.out.ps; omega))
              clear hix1 hd1
              go_wp2_with ((go_at_call 34; with_reducible refine (KI1.out).mono ?_); rintro e wz ⟨rfl, rfl⟩)
              refine KT.out.mono ?_
              rintro e w6 ⟨rfl, hC6, hO6⟩
              have HJ6 := Lib.hid (HI1.out.work hC6 hO6)
              clear KT hC6 hO6
              go_wp2
              go_roundw
              case rel => exact ⟨k + 1, [], J1.tick, B1, N1, _, _, by omega, by go_num, HSL1.out, rfl, rfl, rfl, rfl, rfl, HJ6, Lib.hid (HOK1.out.tick.mono (by simp only [List.length_nil]; omega) (by simp only [List.length_nil]; omega)), HEO1, HR1, by simp only [List.length_nil]; omega⟩
              case measure => simp [intOf]; omega
            · have hix1 : J1.C.idx = J1.l.length := of_decide_eq_true hd1
              have hq1 : ((J1.C.idx : Int) == (J1.l.length : Int)) = true := by simp; omega
              have HRX : Hid (R = (0, J1.out)) := Lib.hid (by rw [HR.out, from_step HD0.out hk1, HEV.out]; simp [hd1])
              obtain ⟨HOKX, KIX⟩ := And.intro HOK1 KI1
              clear HOK1 KI1 HR HEV hix1 hd1
              have HPS : Hid (J1.C.ps.length ≤ 999999999) := Lib.hid (by have := HOKX.out.ps; omega)
              have HLN : Hid (J1.ps.length + J1.C.doneL.length ≤ 1000000000) := Lib.hid (by have := HOKX.out.ps; have := doneL_len J1.C; omega)
              have HD := Lib.hid (done_in HI1.out.ctl HPS.out)
              go_wp2_with ((go_at_call 34; with_reducible refine (KIX.out).mono ?_); rintro e wz ⟨rfl, rfl⟩)
              refine HD.out.mono ?_
              rintro e w5 ⟨v5, rfl, own5, hx5⟩
              have HQ4 := Lib.hid (HI1.out.sp.later hx5); have HS4 := Lib.hid own5.sl; have HB4 : Hid (w0.heap.size ≤ w5.heap.size) := Lib.hid (HI1.out.ext.trans hx5).size
              clear own5 HD
              go_wp2_with ((at_builtin; refine appM_at rfl _ _ rfl w0.heap.size _ _ J1.ps J1.C.doneL rfl rfl HQ4.out HS4.out HLN.out HB4.out ?_; intro v6 w6 own6 hg6 hloc6))
              have hO6 := (Only.of_ext (D := fun k => _ = some k) hx5).trans (Only.of_grown hg6)
              have E6 : Ext w0 w6 := HI1.out.ext.only hO6 (fun i hi e => by have := HI1.out.sp.base e; omega)
              go_ret2
              rw [HRX.out]
              exact ⟨_, rfl, own6.sl, E6, own6.cap⟩
          | cons e1 er =>
            obtain ⟨x1, c1, rfl⟩ := slE_is HSL1.out
            simp only [List.length_cons] at *
            obtain ⟨b1, o1, rfl, hc1, hc2⟩ := slE_head (HSL1.out.later HI1.out.ext)
            obtain ⟨a3, n3, c3, hsl3, hs3⟩ := sliceER_at HSL1.out
            have HS3 := Lib.hid hs3; clear hs3
            have hg0 : decide (((er.length + 1 : Nat) : Int) > 0) = true := by simp
            by_cases hat : e1.1 ≤ k
            rotate_left
            · have hat' : decide (e1.1 ≤ (k : Int)) = false := by simpa using hat
              have HEV : Hid (JobS.evs s a j safe k es (J.wake k) = (0, J1, e1 :: er)) := Lib.hid (by rw [← HJW.out, HEQ.out, evs_later hat])
              clear HEQ HJW hsl3 HS3
              have KI1 := Lib.hid (index_in HI1.out.ctl)
              cases hd1 : J1.doneB
              · have hix1 : J1.C.idx ≠ J1.l.length := fun e => by rw [show J1.doneB = true from decide_eq_true e] at hd1; cases hd1
                have hq1 : ((J1.C.idx : Int) == (J1.l.length : Int)) = false := by simp; omega
                have HR1 : Hid (R = JobS.from_ s a j safe (k + 1) J1.tick (e1 :: er)) := Lib.hid (by rw [HR.out, from_step HD0.out hk1, HEV.out]; simp [hd1])
                have KT := Lib.hid (tick_in HI1.out.ctl (by have := HOK1.out.ps; omega))
                clear hix1 hd1
                go_wp2_with ((go_at_call 34; with_reducible refine (KI1.out).mono ?_); rintro e wz ⟨rfl, rfl⟩)
                refine KT.out.mono ?_
                rintro e w6 ⟨rfl, hC6, hO6⟩
                have HJ6 := Lib.hid (HI1.out.work hC6 hO6)
                clear KT hC6 hO6
                go_wp2
                go_roundw
                case rel => exact ⟨k + 1, (e1 :: er), J1.tick, B1, N1, _, _, by omega, by go_num, HSL1.out, rfl, rfl, rfl, rfl, rfl, HJ6, Lib.hid (HOK1.out.tick.mono (by simp only [List.length_cons]; omega) (by simp only [List.length_cons]; omega)), HEO1, HR1, by simp only [List.length_cons]; omega⟩
                case measure => simp [intOf]; omega
              · have hix1 : J1.C.idx = J1.l.length := of_decide_eq_true hd1
                have hq1 : ((J1.C.idx : Int) == (J1.l.length : Int)) = true := by simp; omega
                have HRX : Hid (R = (0, J1.out)) := Lib.hid (by rw [HR.out, from_step HD0.out hk1, HEV.out]; simp [hd1])
                obtain ⟨HOKX, KIX⟩ := And.intro HOK1 KI1
                clear HOK1 KI1 HR HEV hix1 hd1
                have HPS : Hid (J1.C.ps.length ≤ 999999999) := Lib.hid (by have := HOKX.out.ps; omega)
                have HLN : Hid (J1.ps.length + J1.C.doneL.length ≤ 1000000000) := Lib.hid (by have := HOKX.out.ps; have := doneL_len J1.C; omega)
                have HD := Lib.hid (done_in HI1.out.ctl HPS.out)
                go_wp2_with ((go_at_call 34; with_reducible refine (KIX.out).mono ?_); rintro e wz ⟨rfl, rfl⟩)
                refine HD.out.mono ?_
                rintro e w5 ⟨v5, rfl, own5, hx5⟩
                have HQ4 := Lib.hid (HI1.out.sp.later hx5); have HS4 := Lib.hid own5.sl; have HB4 : Hid (w0.heap.size ≤ w5.heap.size) := Lib.hid (HI1.out.ext.trans hx5).size
                clear own5 HD
                go_wp2_with ((at_builtin; refine appM_at rfl _ _ rfl w0.heap.size _ _ J1.ps J1.C.doneL rfl rfl HQ4.out HS4.out HLN.out HB4.out ?_; intro v6 w6 own6 hg6 hloc6))
                have hO6 := (Only.of_ext (D := fun k => _ = some k) hx5).trans (Only.of_grown hg6)
                have E6 : Ext w0 w6 := HI1.out.ext.only hO6 (fun i hi e => by have := HI1.out.sp.base e; omega)
                go_ret2
                rw [HRX.out]
                exact ⟨_, rfl, own6.sl, E6, own6.cap⟩
            have hat' : decide (e1.1 ≤ (k : Int)) = true := by simpa using hat
            have HX := HEO1.out.head
            obtain ⟨hx1, hx2, hx3, hx4⟩ := HX
            have HOKE := fun hcode => HOK1.out.ev HSF.out (t := (k : Int)) (s := s) (a := a) (j := j) (x := e1) hcode
            have HOKE' := Lib.hid HOKE; clear HOKE
            by_cases hz : e1.2 = 0
            rotate_left
            · have hpos : decide (e1.2 > 0) = true := by simp; omega
              have hev : J1.ev s a j safe k e1 = (0, J1.hold e1.2 k) := by unfold JobS.ev; rw [if_neg hz]
              have HEQ2 : Hid (JobS.evs s a j safe k es JW = JobS.evs s a j safe k er (J1.hold e1.2 k)) := Lib.hid (by rw [HEQ.out, evs_ok hat (by rw [hev]), hev])
              have HOK2 : Hid ((J1.hold e1.2 k).Ok (2 * k + 2 * (20 - (er.length + 1)) + 2) (800000 + 4 * (20 - (er.length + 1)) + 4)) := Lib.hid (by have := HOKE'.out (by rw [hev]); rw [hev] at this; exact this)
              have KH := Lib.hid (hold_in HI1.out.ctl (by have := HOK1.out.ps; omega))
              clear hev HOKE' HEQ
              cases hh : J1.held
              · have hT : (J1.hold e1.2 k).till = k + e1.2 := by unfold JobS.hold; simp [hh]
                have hF : ({ ({ J1 with C := J1.C.holdC } : JobS) with held := true, till := k + e1.2 } : JobS) = J1.hold e1.2 k := by unfold JobS.hold; simp [hh]
                have HH1 := Lib.hid hh
                clear hh
                go_wp2_with fail
                refine KH.out.mono ?_
                rintro e w8 ⟨rfl, hC8, hO8⟩
                have H8 := (HI1.out.work hC8 hO8).bits true (k + e1.2)
                rw [hF] at H8
                go_wp2
                go_roundw
                case rel => exact ⟨er, J1.hold e1.2 k, B1, N1, _, _, HS3.out, rfl, rfl, rfl, rfl, by rw [hT], Lib.hid H8, Lib.hid (HOK2.out.mono (by omega) (by omega)), Lib.hid HEO1.out.tail, HEQ2, by omega⟩
                case measure => obtain ⟨xx, cc, e⟩ := slE_is HS3.out; rw [e]; simp [lenOf]
              · by_cases hq : J1.till < k + e1.2
                · have hT : (J1.hold e1.2 k).till = k + e1.2 := by unfold JobS.hold; simp [hh, hq]
                  have hF : ({ ({ J1 with C := J1.C.holdC } : JobS) with held := true, till := k + e1.2 } : JobS) = J1.hold e1.2 k := by unfold JobS.hold; simp [hh, hq]
                  have hqd : decide ((k : Int) + e1.2 > J1.till) = true := by simpa using hq
                  have HH1 := Lib.hid hh
                  clear hh
                  go_wp2_with fail
                  refine KH.out.mono ?_
                  rintro e w8 ⟨rfl, hC8, hO8⟩
                  have H8 := (HI1.out.work hC8 hO8).bits true (k + e1.2)
                  rw [hF] at H8
                  go_wp2
                  go_roundw
                  case rel => exact ⟨er, J1.hold e1.2 k, B1, N1, _, _, HS3.out, rfl, rfl, rfl, rfl, by rw [hT], Lib.hid H8, Lib.hid (HOK2.out.mono (by omega) (by omega)), Lib.hid HEO1.out.tail, HEQ2, by omega⟩
                  case measure => obtain ⟨xx, cc, e⟩ := slE_is HS3.out; rw [e]; simp [lenOf]
                · have hT : (J1.hold e1.2 k).till = J1.till := by unfold JobS.hold; simp [hh, hq]
                  have hF : ({ ({ J1 with C := J1.C.holdC } : JobS) with held := true, till := J1.till } : JobS) = J1.hold e1.2 k := by unfold JobS.hold; simp [hh, hq]
                  have hqd : decide ((k : Int) + e1.2 > J1.till) = false := by simpa using hq
                  have HH1 := Lib.hid hh
                  clear hh
                  go_wp2_with fail
                  refine KH.out.mono ?_
                  rintro e w8 ⟨rfl, hC8, hO8⟩
                  have H8 := (HI1.out.work hC8 hO8).bits true (J1.till)
                  rw [hF] at H8
                  go_wp2
                  go_roundw
                  case rel => exact ⟨er, J1.hold e1.2 k, B1, N1, _, _, HS3.out, rfl, rfl, rfl, rfl, by rw [hT], Lib.hid H8, Lib.hid (HOK2.out.mono (by omega) (by omega)), Lib.hid HEO1.out.tail, HEQ2, by omega⟩
                  case measure => obtain ⟨xx, cc, e⟩ := slE_is HS3.out; rw [e]; simp [lenOf]
            have hpos : decide (e1.2 > 0) = false := by simp; omega
            have hev : J1.ev s a j safe k e1 = J1.broken s a j safe := by unfold JobS.ev; rw [if_pos hz]
            have HEV := Lib.hid hev; clear hev
            have HLL : Hid (J1.l.length ≤ 1000000) := Lib.hid (by have := HOK1.out.ln; omega)
            have HLR : Hid ((rstL J1.l J1.C.idx J1.C.at3 safe).length ≤ 1000000000) := Lib.hid (by have := rstL_length J1.l J1.C.idx J1.C.at3 safe; have := HOK1.out.ln; omega)
            have HWF : Hid (WfL (rstL J1.l J1.C.idx J1.C.at3 safe)) := Lib.hid (rstL_wf HOK1.out.wf HOK1.out.ok.at3_in HSF.out)
            have HPS : Hid (J1.C.ps.length ≤ 999999999) := Lib.hid (by have := HOK1.out.ps; omega)
            have HPB : Hid (J1.C.brkC.ps.length ≤ 999999999) := Lib.hid (by have := HOK1.out.ps; have := brkC_ps J1.C; omega)
            have HLN : Hid (J1.ps.length + J1.C.brkC.doneL.length ≤ 1000000000) := Lib.hid (by have := HOK1.out.ps; have := brkC_ps J1.C; have := doneL_len J1.C.brkC; omega)
            have KP := Lib.hid (pos_in HI1.out.ctl)
            have hBR : J1.broken s a j safe = J1.broken s a j safe := rfl
            conv at hBR => rhs; unfold JobS.broken
            generalize hat3 : J1.C.at3 = p3 at *
            obtain ⟨qx, qy, qz⟩ := p3
            have HBR := Lib.hid hBR
            clear hBR hat3
            go_wp2_with fail
            refine KP.out.mono ?_
            rintro e V1 ⟨rfl, hy1⟩
            have KI1 := Lib.hid (index_in (HI1.out.ctl.later hy1))
            go_wp2_with ((go_at_call 34; with_reducible refine (KI1.out).mono ?_); rintro e wz ⟨rfl, rfl⟩)
            obtain ⟨V2, hV2, bA, hy2⟩ := P3Box.mk' V1 qx qy qz
            rw [hV2]; clear hV2
            have hA1 : wr.heap.size ≤ V1.heap.size := hy1.size
            generalize V1.heap.size = A at *
            have hy := hy1.trans hy2
            clear hy1 hy2 KI1 KP
            refine (break_up HI1.out.ctl hy HPS.out).mono ?_
            rintro e w3 ⟨rfl, hC3, hO3⟩
            have H3 := Lib.hid ((HI1.out.later hy).work hC3 (hO3.mono (fun _ _ h => h.1)))
            have bP3 := Lib.hid (bA.only hO3 (by omega))
            have hBw : B1 ≤ wr.heap.size := by have := HI1.out.ctl.lt; omega
            clear hC3 hO3 bA hy
            clear V2
            have HD := Lib.hid (done_in H3.out.ctl HPB.out)
            go_wp2_with fail
            refine HD.out.mono ?_
            rintro e w5 ⟨v5, rfl, own5, hx5⟩
            have HQ4 := Lib.hid (H3.out.sp.later hx5); have HS4 := Lib.hid own5.sl; have HB4 : Hid (w0.heap.size ≤ w5.heap.size) := Lib.hid (H3.out.ext.trans hx5).size
            clear own5 HD
            have nA : ¬ (vps1.ownBlock = some A) := fun e => by have := (H3.out.lp _ e).1; omega
            have nX : ¬ (vps1.ownBlock = some w0.heap.size) := fun e => (H3.out.lp _ e).2 rfl
            have kr : ∀ w6 v6, OwnM w0.heap.size w6 v6 (J1.ps ++ J1.C.brkC.doneL) → w5.grownBy w6 vps1.ownBlock → (v6.ownBlock = vps1.ownBlock ∨ v6.ownBlock = some w5.heap.size) → P3Box w6 A qx qy qz ∧ Hid (SlM w6 (.slice xm1 J1.l.length cm1) J1.l ∧ B3 w6 w0.heap.size (.int .i64 s) (.int .i64 a) (.int .i64 j) ∧ Ext w0 w6 ∧ (∀ b, v6.ownBlock = some b → b < w6.heap.size ∧ b ≠ w0.heap.size)) := by
              intro w6 v6 own6 hg6 hloc6
              have hO6 : Only (fun k => vps1.ownBlock = some k) w3 w6 := (Only.of_ext hx5).trans (Only.of_grown hg6)
              refine ⟨bP3.out.only hO6 nA, Lib.hid ⟨H3.out.sm.only' hO6 (fun hl b hb e => H3.out.mp hl b hb e), H3.out.box.only hO6 nX, H3.out.ext.only hO6 (fun i hi e => by have := H3.out.sp.base e; omega), fun b hb => ⟨own6.lt hb, ?_⟩⟩⟩
              intro e
              rw [e] at hb
              rcases hloc6 with e | e
              · exact nX (by rw [← e, hb])
              · rw [hb] at e
                have h1 := H3.out.box.lt
                have h2 := hx5.size
                have := Option.some.inj e
                omega
            have KR := Lib.hid kr; clear kr
            go_wp2_with ((at_builtin; refine appM_at rfl _ _ rfl w0.heap.size _ _ J1.ps J1.C.brkC.doneL rfl rfl HQ4.out HS4.out HLN.out HB4.out ?_; intro v6 w6 own6 hg6 hloc6; obtain ⟨bP6, H6⟩ := KR.out w6 v6 own6 hg6 hloc6; obtain ⟨p0, p1, p2, -, -, -⟩ := bP6.at; have HOWN6 := Lib.hid own6; clear own6 hg6 hloc6))
            clear p0 p1 p2 bP6 KR
            refine (crestart_any _ J1.l J1.C.idx qx qy qz safe w6 H6.out.1 HI1.out.cap hil1 HLL.out).mono ?_
            rintro e w8 ⟨v8, rfl, S8, F8, hx8⟩
            obtain ⟨x8, c8, rfl⟩ := S8.is
            have HS8 := Lib.hid S8; have HF8 := Lib.hid F8
            have q0 := (H6.out.2.1.later hx8).c0; have q1 := (H6.out.2.1.later hx8).c1; have q2 := (H6.out.2.1.later hx8).c2
            clear S8 F8
            by_cases hre : rstE J1.l J1.C.idx (qx, qy, qz) safe = 0
            rotate_left
            · have hnz : (rstE J1.l J1.C.idx (qx, qy, qz) safe == 0) = false := by simp [hre]
              have hbr : J1.broken s a j safe = (rstE J1.l J1.C.idx (qx, qy, qz) safe, J1) := by rw [HBR.out, if_neg hre]
              have HR1 : Hid (R = (rstE J1.l J1.C.idx (qx, qy, qz) safe, [])) := Lib.hid (by rw [HR.out, from_step HD0.out hk1, ← HJW.out, HEQ.out, evs_bad hat (by rw [HEV.out, hbr]; exact hre), HEV.out, hbr]; simp [hre])
              clear hbr
              generalize rstE J1.l J1.C.idx (qx, qy, qz) safe = ec at *
              go_wp2_with fail
              go_ret2
              rw [HR1.out]
              exact ⟨_, rfl, nilSlM _, H6.out.2.2.1.trans hx8, capNil⟩
            have HRE := Lib.hid hre
            rw [hre]
            clear hre
            by_cases hck : chk (rstL J1.l J1.C.idx (qx, qy, qz) safe) s a j = 0
            rotate_left
            · have hnz : (chk (rstL J1.l J1.C.idx (qx, qy, qz) safe) s a j == 0) = false := by simp [hck]
              have hbr : J1.broken s a j safe = (chk (rstL J1.l J1.C.idx (qx, qy, qz) safe) s a j, J1) := by rw [HBR.out, if_pos HRE.out, if_neg hck]
              have HR1 : Hid (R = (chk (rstL J1.l J1.C.idx (qx, qy, qz) safe) s a j, [])) := Lib.hid (by rw [HR.out, from_step HD0.out hk1, ← HJW.out, HEQ.out, evs_bad hat (by rw [HEV.out, hbr]; exact hck), HEV.out, hbr]; simp [hck])
              clear hbr
              have KN := Lib.hid (new_err _ _ s a j w8 HS8.out HLR.out HWF.out hck)
              clear hck
              generalize chk (rstL J1.l J1.C.idx (qx, qy, qz) safe) s a j = ec at *
              generalize rstL J1.l J1.C.idx (qx, qy, qz) safe = rL at *
              go_wp2_with ((go_at_call 33; with_reducible refine (KN.out).mono ?_); rintro e w9 ⟨rfl, hx9⟩)
              go_ret2
              rw [HR1.out]
              exact ⟨_, rfl, nilSlM _, (H6.out.2.2.1.trans hx8).trans hx9, capNil⟩
            have hbr : J1.broken s a j safe = (0, { l := rstL J1.l J1.C.idx (qx, qy, qz) safe, C := Ctl.new (rstL J1.l J1.C.idx (qx, qy, qz) safe) s a j, ps := J1.ps ++ J1.C.brkC.doneL, held := false, till := J1.till }) := by rw [HBR.out, if_pos HRE.out, if_pos hck]
            have HEQ2 : Hid (JobS.evs s a j safe k es JW = JobS.evs s a j safe k er (J1.broken s a j safe).2) := Lib.hid (by rw [HEQ.out, evs_ok hat (by rw [HEV.out, hbr]), HEV.out])
            have HOK2 : Hid ((J1.broken s a j safe).2.Ok (2 * k + 2 * (20 - (er.length + 1)) + 2) (800000 + 4 * (20 - (er.length + 1)) + 4)) := Lib.hid (by have := HOKE'.out (by rw [HEV.out, hbr]); rw [HEV.out] at this; exact this)
            rw [hbr] at HEQ2 HOK2
            have KN := Lib.hid (new_in _ _ s a j w8 HS8.out HLR.out HWF.out hck)
            clear hck hbr HBR HEV
            generalize rstL J1.l J1.C.idx (qx, qy, qz) safe = rL at *
            generalize hCN : Ctl.new rL s a j = CN at *
            have HCN := Lib.hid hCN; clear hCN
            go_wp2_with ((go_at_call 33; with_reducible refine (KN.out).mono ?_); rintro e w9 ⟨N9, rfl, hC9, hx9⟩)
            have H9 : LInv w0 w0.heap.size w8.heap.size w9 s a j { l := rL, C := CN, ps := J1.ps ++ J1.C.brkC.doneL, held := false, till := J1.till } (.slice x8 rL.length c8) v6 N9 := by
              have z1 := H6.out.2.1.lt
              have z2 := hx8.size
              refine ⟨(H6.out.2.1.later hx8).later hx9, HI1.out.base, by omega, HS8.out.later hx9, HF8.out.1, fun hl b hb => HS8.out.below hl hb, HOWN6.out.later (hx8.trans hx9), fun b hb => ?_, fun hl b hb e => ?_, hC9, (H6.out.2.2.1.trans hx8).trans hx9⟩
              · have := H6.out.2.2.2 b hb
                exact ⟨by omega, this.2⟩
              · have z3 := HF8.out.2 b hb
                have z4 := (H6.out.2.2.2 b e).1
                omega
            go_roundw
            case rel => exact ⟨er, ({ l := rL, C := CN, ps := J1.ps ++ J1.C.brkC.doneL, held := false, till := J1.till } : JobS), w8.heap.size, N9, _, _, HS3.out, rfl, rfl, rfl, rfl, rfl, Lib.hid H9, Lib.hid (HOK2.out.mono (by omega) (by omega)), Lib.hid HEO1.out.tail, HEQ2, by omega⟩
            case measure => obtain ⟨xx, cc, e⟩ := slE_is HS3.out; rw [e]; simp [lenOf]
set_option maxHeartbeats 2000000 in
theorem ldist_chk (v ve : Value) (l : List Mot) (s a j safe : Int) (w0 : World) (h : SlM w0 v l) (hn : l.length ≤ 800000) (hwf : WfL l) (hc : chk l s a j ≠ 0) :
    Calls Tryz.prog 12 #[v, Lm s a j, ve, .int .i64 safe] w0 (RetDist w0 (chk l s a j, [])) := by
  obtain ⟨W1, hW1, L1, hE1⟩ := B3.mk' w0 (.int .i64 s) (.int .i64 a) (.int .i64 j) 32
  have KN := Lib.hid (new_err v l s a j W1 (h.later hE1) (by omega) hwf hc)
  obtain ⟨xv, cv, hvv⟩ := h.is
  have hnz : (chk l s a j == 0) = false := by simp [hc]
  have l0 := L1.c0; have l1 := L1.c1; have l2 := L1.c2
  clear hc hwf h L1
  subst hvv
  generalize chk l s a j = ec at *
  go_enter Tryz.func12, Tryz.ntmps12
  go_wp2_with fail
  clear hW1
  refine KN.out.mono ?_
  rintro e w2 ⟨rfl, hx2⟩
  go_wp2
  go_ret2
  exact ⟨_, rfl, nilSlM _, hE1.trans hx2, capNil⟩

theorem ldist_any (v ve : Value) (l : List Mot) (es0 : List (Int × Int)) (s a j safe : Int) (w0 : World) (h : SlM w0 v l) (hcap : CapV v) (he : SlE w0 ve es0) (hn : l.length ≤ 800000) (hwf : WfL l) (hsf : in64 safe) (hv : validE es0 = true) :
    Calls Tryz.prog 12 #[v, Lm s a j, ve, .int .i64 safe] w0 (RetDist w0 (dist l s a j safe es0)) := by
  by_cases hc : chk l s a j = 0
  · exact ldist_run v ve l es0 s a j safe w0 h hcap he hn hwf hsf hv hc
  · have e : dist l s a j safe es0 = (chk l s a j, []) := by unfold dist; rw [if_neg hc]
    rw [e]
    exact ldist_chk v ve l s a j safe w0 h hn hwf hc

end Go.Proofs.YtjibcnnbclcboaaGreatDoor
