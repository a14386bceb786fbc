/-
  Walks: perform of the law.
  ControllerEvents, walked.
  ControllerEvents: Whatever is done, positions, indices and pieces are as specified: for every input the law returns true. No condition.
-/
import Derived.Test.YtfmjmabaabmgcaaQB19
import Derived.Test.YtfmjmabaabmgcaaQB13
namespace Go.Proofs.Ytfmjmabaabmgcaa
open Go.RowKit
set_option maxRecDepth 100000

set_option maxHeartbeats 8000000 in
theorem perform_any {w0 w : World} {N G : Nat} {vm vl : Value} {C0 : Ctl} {M0 : Mdl} {l : List Mot} (vo : Value) (os : List Nat) (hD0 : Duo w0.heap.size w N vm G vl C0 M0) (hF0 : Few l 0 C0) (hE0 : Ext w0 w) (hos : SlB w0 vo os) (h60 : os.length ≤ 60) :
    Calls Try.prog 31 #[.pointer (some ⟨N, 0, none⟩), .pointer (some ⟨G, 0, none⟩), vo] w fun e w' => e = .returned (.bool true) ∧ Ext w0 w' := by
  have HOS := Lib.hid hos; clear hos
  obtain ⟨ao, no, co, bo, oo, hvo, hno1, -⟩ := HOS.out
  subst hvo
  have hno2 : no ≤ 60 := by omega
  clear hno1 h60
  go_enter Try.func31, Try.ntmps31
  go_wp2_with fail
  go_loopw [12] (fun t wr => ∃ (i : Nat) (C : Ctl) (M : Mdl), i ≤ no ∧ t = .int .i64 i ∧ Duo w0.heap.size wr N vm G vl C M ∧ Few l (10 * i) C ∧ Ext w0 wr) (fun t _ => no - (intOf t).toNat)
  case atStart => exact ⟨0, C0, M0, by omega, rfl, hD0, hF0, hE0⟩
  case round =>
    clear hD0 hF0 hE0
    obtain ⟨i, C, M, hi, rfl, hD, hF, hE⟩ := hrel
    by_cases hlt2 : i < no
    · obtain ⟨a1, n1, c1, b1, o1, hv1, hn1, h31, h41⟩ := HOS.out.later hE
      cases hv1
      obtain ⟨hb1, hy, hcell⟩ := h41 i hlt2
      obtain rfl : ao = some ⟨b1, o1, none⟩ := h31.resolve_left (by omega)
      clear h31 h41 hn1
      generalize os.getD i 0 = y at *
      by_cases h2 : y % 8 = 2
      · have t2 : ((y : Int) % 8 == 2) = true := by simp; omega
        obtain ⟨vp, vq, vg, vd, hP, hcap, hS, hRs⟩ := hD
        have hfp := hF.ps
        have HOK := Lib.hid hP.c.ok
        have hdn : M.dn.length ≤ 999999990 := by rw [hS.dn]; omega
        have kt := hold_any hP.c (by omega)
        have HP := Lib.hid hP; have HSM := Lib.hid hS; have HRS := Lib.hid hRs; have HCP := Lib.hid hcap; have HFW := Lib.hid hF
        clear hP hS hRs hcap hF
        go_wp2_with fail
        refine kt.mono ?_
        rintro e w6 ⟨rfl, vp6, vq6, hA6, hO6, hq6, hp6⟩
        have hP6 := HP.out.cmove hA6 hO6 hq6 hp6
        have hE6 := HP.out.extC hE hO6
        clear kt hA6 hO6 hq6 hp6 HP hE
        have km := mhold_any hP6.g HCP.out hP6.gp HSM.out HOK.out hdn
        have HP6 := Lib.hid hP6
        clear hP6
        go_wp2_with fail
        refine km.mono ?_
        rintro e w7 ⟨rfl, vg7, vd7, hI7, hcap7, hO7, hd7, hp7⟩
        have hP7 := HP6.out.gmove hI7 (HSM.out.hold_ms HOK.out) hO7 hd7 hp7
        have hE1 := HP6.out.extG hE6 hO7
        have hD1 : Duo w0.heap.size w7 N vm G vl _ _ := ⟨_, _, _, _, hP7, hcap7, HSM.out.hold HOK.out, hold_rst HOK.out HRS.out⟩
        have hF1 : Few l (10 * i + 1 + 0) _ := HFW.out.hold
        clear km hI7 hO7 hd7 hp7 HP6 hE6 hP7 hcap7 HOK HSM HRS HCP HFW hdn
        go_wp2_with fail
        go_loopw [42] (fun t wr => ∃ (k : Nat) (C : Ctl) (M : Mdl), k ≤ 0 ∧ t = .int .i64 k ∧ Duo w0.heap.size wr N vm G vl C M ∧ Few l (10 * i + 1 + k) C ∧ Ext w0 wr) (fun t _ => 0 - (intOf t).toNat)
        case atStart => exact ⟨0, _, _, by omega, rfl, hD1, hF1, hE1⟩
        case round =>
          clear hD1 hF1 hE1
          obtain ⟨k, C, M, hk, rfl, hD, hF, hE⟩ := hrel
          obtain ⟨vp, vq, vg, vd, hP, hcap, hS, hRs⟩ := hD
          have hfp := hF.ps
          have HOK := Lib.hid hP.c.ok
          have hdn : M.dn.length ≤ 999999990 := by rw [hS.dn]; omega
          have hke : ¬ (k : Int) < 0 := by omega
          have ks := same_any hP hS
          have hsd := hS.done HOK.out
          have hpk := hS.posOk HOK.out
          have hpi : M.plan ≠ [] → M.idx < M.ms.length := fun hp => by
            have hn : C.plan ≠ [] := fun e => hp (by rw [hS.plan, e]; simp)
            rw [hS.idx, hS.ms]
            exact (HOK.out.run hn).1
          have hdl : C.doneL.length ≤ 1000000000000 := by have := doneL_len C; omega
          have HP := Lib.hid hP; have HSM := Lib.hid hS; have HRS := Lib.hid hRs; have HCP := Lib.hid hcap; have HFW := Lib.hid hF; have KS := Lib.hid ks; have HSD := Lib.hid hsd; have HPK := Lib.hid hpk; have HPI := Lib.hid hpi
          clear hP hS hRs hcap hF ks hsd hpk hpi
          go_wp2_with fail
          refine KS.out.mono ?_
          rintro e w8 ⟨rfl, hP8, hO8⟩
          have hE8 := HP.out.extG hE hO8
          have kd := done_any hP8.c.inv HOK.out.posOk (by omega)
          have HP8 := Lib.hid hP8; have KD := Lib.hid kd
          clear KS HP hE hO8 hP8 kd
          go_wp2_with fail
          refine KD.out.mono ?_
          rintro e w9 ⟨v9, rfl, own9, hx9⟩
          have hP9 := HP8.out.later hx9
          have hE9 := hE8.trans hx9
          have hvG : v9.ownBlock ≠ some G := fun e => by have h1 := own9.base e; have h2 := HP8.out.g.box.lt; omega
          have hs9 := own9.sl
          have kp := mpieces_any hP9.g HPK.out (by omega) HPI.out
          have HP9 := Lib.hid hP9; have KP := Lib.hid kp; have HS9 := Lib.hid hs9; have HVG := Lib.hid hvG
          clear KD HP8 hE8 hx9 hP9 kp own9 hs9 hvG
          go_wp2_with fail
          refine KP.out.mono ?_
          rintro e w10 ⟨v10, rfl, hs10, hG10, hO10, hl10⟩
          have hP10 : Pair w0.heap.size w10 N vm vp vq C G vl vg vd M := HP9.out.gmove ⟨hG10, HP9.out.g.sl.only0 hO10 (fun hl => off_one (HP9.out.g.nl hl)), HP9.out.g.sp.only hO10 (off_one HP9.out.g.np), HP9.out.g.sd.only hO10 (off_one HP9.out.g.nd), HP9.out.g.nl, HP9.out.g.np, HP9.out.g.nd⟩ rfl hO10 (fun b hb => .inl hb) (fun b hb => .inl hb)
          have hE10 := HP9.out.extG hE9 hO10
          have kss := rsame_any v9 v10 C.doneL M.piecesL w10 (HS9.out.only hO10 (off_one HVG.out)) hs10 hdl (by rw [HSD.out]; exact hdl)
          have ed : decide (C.doneL = M.piecesL) = true := decide_eq_true HSD.out.symm
          rw [ed] at kss
          have KSS := Lib.hid kss; have HP10 := Lib.hid hP10
          clear ed kss hP10 KP HP9 hE9 hs10 hG10 hO10 hl10 HS9 HVG
          go_wp2_with fail
          refine KSS.out.mono ?_
          rintro e w11 ⟨rfl, hx11⟩
          have hD11 : Duo w0.heap.size w11 N vm G vl C M := ⟨_, _, _, _, HP10.out.later hx11, HCP.out, HSM.out, HRS.out⟩
          have hF11 : Few l (10 * (i + 1)) C := HFW.out.mono (by omega)
          have hE11 := hE10.trans hx11
          clear KSS HP10 hE10 hx11
          go_wp2
          go_roundw
          case rel => exact ⟨i + 1, C, M, by omega, by go_num, hD11, hF11, hE11⟩
          case measure => simp [intOf]; omega
      have t2 : ((y : Int) % 8 == 2) = false := by simp; omega
      by_cases h3 : y % 8 = 3
      · have t3 : ((y : Int) % 8 == 3) = true := by simp; omega
        obtain ⟨vp, vq, vg, vd, hP, hcap, hS, hRs⟩ := hD
        have hfp := hF.ps
        have HOK := Lib.hid hP.c.ok
        have hdn : M.dn.length ≤ 999999990 := by rw [hS.dn]; omega
        have kt := resume_at hP.c
        have HP := Lib.hid hP; have HSM := Lib.hid hS; have HRS := Lib.hid hRs; have HCP := Lib.hid hcap; have HFW := Lib.hid hF
        clear hP hS hRs hcap hF
        go_wp2_with fail
        refine kt.mono ?_
        rintro e w6 ⟨rfl, vp6, vq6, hA6, hO6, hq6, hp6⟩
        have hP6 := HP.out.cmove hA6 hO6 hq6 hp6
        have hE6 := HP.out.extC hE hO6
        clear kt hA6 hO6 hq6 hp6 HP hE
        have k9 := hP6.g.box.c9; have f9 := hP6.g.box.fr 9
        have hO7 : Only (fun k => k = G) w6 (w6.setCell ⟨G, 9, none⟩ (.bool false)) := (Only.refl (fun k => k = G) w6).set (.inl rfl) _
        have hP7 := hP6.gmove (hP6.g.set_hd false) rfl hO7 (fun b hb => .inl hb) (fun b hb => .inl hb)
        have hE1 := hP6.extG hE6 hO7
        have hD1 : Duo w0.heap.size _ N vm G vl _ _ := ⟨_, _, _, _, hP7, HCP.out, HSM.out.resume, resume_rst HRS.out⟩
        have hF1 : Few l (10 * i + 1 + 0) _ := HFW.out.resume
        have HD1 := Lib.hid hD1
        clear hO7 hP6 hE6 hP7 HOK HSM HRS HCP HFW hdn hD1
        go_wp2_with fail
        go_loopw [42] (fun t wr => ∃ (k : Nat) (C : Ctl) (M : Mdl), k ≤ 0 ∧ t = .int .i64 k ∧ Duo w0.heap.size wr N vm G vl C M ∧ Few l (10 * i + 1 + k) C ∧ Ext w0 wr) (fun t _ => 0 - (intOf t).toNat)
        case atStart => exact ⟨0, _, _, by omega, rfl, HD1.out, hF1, hE1⟩
        case round =>
          clear HD1 hF1 hE1 k9 f9
          obtain ⟨k, C, M, hk, rfl, hD, hF, hE⟩ := hrel
          obtain ⟨vp, vq, vg, vd, hP, hcap, hS, hRs⟩ := hD
          have hfp := hF.ps
          have HOK := Lib.hid hP.c.ok
          have hdn : M.dn.length ≤ 999999990 := by rw [hS.dn]; omega
          have hke : ¬ (k : Int) < 0 := by omega
          have ks := same_any hP hS
          have hsd := hS.done HOK.out
          have hpk := hS.posOk HOK.out
          have hpi : M.plan ≠ [] → M.idx < M.ms.length := fun hp => by
            have hn : C.plan ≠ [] := fun e => hp (by rw [hS.plan, e]; simp)
            rw [hS.idx, hS.ms]
            exact (HOK.out.run hn).1
          have hdl : C.doneL.length ≤ 1000000000000 := by have := doneL_len C; omega
          have HP := Lib.hid hP; have HSM := Lib.hid hS; have HRS := Lib.hid hRs; have HCP := Lib.hid hcap; have HFW := Lib.hid hF; have KS := Lib.hid ks; have HSD := Lib.hid hsd; have HPK := Lib.hid hpk; have HPI := Lib.hid hpi
          clear hP hS hRs hcap hF ks hsd hpk hpi
          go_wp2_with fail
          refine KS.out.mono ?_
          rintro e w8 ⟨rfl, hP8, hO8⟩
          have hE8 := HP.out.extG hE hO8
          have kd := done_any hP8.c.inv HOK.out.posOk (by omega)
          have HP8 := Lib.hid hP8; have KD := Lib.hid kd
          clear KS HP hE hO8 hP8 kd
          go_wp2_with fail
          refine KD.out.mono ?_
          rintro e w9 ⟨v9, rfl, own9, hx9⟩
          have hP9 := HP8.out.later hx9
          have hE9 := hE8.trans hx9
          have hvG : v9.ownBlock ≠ some G := fun e => by have h1 := own9.base e; have h2 := HP8.out.g.box.lt; omega
          have hs9 := own9.sl
          have kp := mpieces_any hP9.g HPK.out (by omega) HPI.out
          have HP9 := Lib.hid hP9; have KP := Lib.hid kp; have HS9 := Lib.hid hs9; have HVG := Lib.hid hvG
          clear KD HP8 hE8 hx9 hP9 kp own9 hs9 hvG
          go_wp2_with fail
          refine KP.out.mono ?_
          rintro e w10 ⟨v10, rfl, hs10, hG10, hO10, hl10⟩
          have hP10 : Pair w0.heap.size w10 N vm vp vq C G vl vg vd M := HP9.out.gmove ⟨hG10, HP9.out.g.sl.only0 hO10 (fun hl => off_one (HP9.out.g.nl hl)), HP9.out.g.sp.only hO10 (off_one HP9.out.g.np), HP9.out.g.sd.only hO10 (off_one HP9.out.g.nd), HP9.out.g.nl, HP9.out.g.np, HP9.out.g.nd⟩ rfl hO10 (fun b hb => .inl hb) (fun b hb => .inl hb)
          have hE10 := HP9.out.extG hE9 hO10
          have kss := rsame_any v9 v10 C.doneL M.piecesL w10 (HS9.out.only hO10 (off_one HVG.out)) hs10 hdl (by rw [HSD.out]; exact hdl)
          have ed : decide (C.doneL = M.piecesL) = true := decide_eq_true HSD.out.symm
          rw [ed] at kss
          have KSS := Lib.hid kss; have HP10 := Lib.hid hP10
          clear ed kss hP10 KP HP9 hE9 hs10 hG10 hO10 hl10 HS9 HVG
          go_wp2_with fail
          refine KSS.out.mono ?_
          rintro e w11 ⟨rfl, hx11⟩
          have hD11 : Duo w0.heap.size w11 N vm G vl C M := ⟨_, _, _, _, HP10.out.later hx11, HCP.out, HSM.out, HRS.out⟩
          have hF11 : Few l (10 * (i + 1)) C := HFW.out.mono (by omega)
          have hE11 := hE10.trans hx11
          clear KSS HP10 hE10 hx11
          go_wp2
          go_roundw
          case rel => exact ⟨i + 1, C, M, by omega, by go_num, hD11, hF11, hE11⟩
          case measure => simp [intOf]; omega
      have t3 : ((y : Int) % 8 == 3) = false := by simp; omega
      by_cases h4 : y % 8 = 4
      · have t4 : ((y : Int) % 8 == 4) = true := by simp; omega
        obtain ⟨vp, vq, vg, vd, hP, hcap, hS, hRs⟩ := hD
        have hfp := hF.ps
        have HOK := Lib.hid hP.c.ok
        have hdn : M.dn.length ≤ 999999990 := by rw [hS.dn]; omega
        have kt := break_any hP.c (by omega)
        have HP := Lib.hid hP; have HSM := Lib.hid hS; have HRS := Lib.hid hRs; have HCP := Lib.hid hcap; have HFW := Lib.hid hF
        clear hP hS hRs hcap hF
        go_wp2_with fail
        refine kt.mono ?_
        rintro e w6 ⟨rfl, vp6, vq6, hA6, hO6, hq6, hp6⟩
        have hP6 := HP.out.cmove hA6 hO6 hq6 hp6
        have hE6 := HP.out.extC hE hO6
        clear kt hA6 hO6 hq6 hp6 HP hE
        have km := mstopped_any hP6.g HCP.out hP6.gp HSM.out HOK.out hdn
        have HP6 := Lib.hid hP6
        clear hP6
        go_wp2_with fail
        refine km.mono ?_
        rintro e w7 ⟨rfl, vg7, vd7, hI7, hcap7, hO7, hd7, hp7⟩
        have hP7 := HP6.out.gmove hI7 (HSM.out.brk_ms HOK.out HRS.out) hO7 hd7 hp7
        have hE1 := HP6.out.extG hE6 hO7
        have hD1 : Duo w0.heap.size w7 N vm G vl _ _ := ⟨_, _, _, _, hP7, hcap7, HSM.out.brk HOK.out HRS.out, brk_rst HRS.out⟩
        have hF1 : Few l (10 * i + 1 + 0) _ := HFW.out.brk
        clear km hI7 hO7 hd7 hp7 HP6 hE6 hP7 hcap7 HOK HSM HRS HCP HFW hdn
        go_wp2_with fail
        go_loopw [42] (fun t wr => ∃ (k : Nat) (C : Ctl) (M : Mdl), k ≤ 0 ∧ t = .int .i64 k ∧ Duo w0.heap.size wr N vm G vl C M ∧ Few l (10 * i + 1 + k) C ∧ Ext w0 wr) (fun t _ => 0 - (intOf t).toNat)
        case atStart => exact ⟨0, _, _, by omega, rfl, hD1, hF1, hE1⟩
        case round =>
          clear hD1 hF1 hE1
          obtain ⟨k, C, M, hk, rfl, hD, hF, hE⟩ := hrel
          obtain ⟨vp, vq, vg, vd, hP, hcap, hS, hRs⟩ := hD
          have hfp := hF.ps
          have HOK := Lib.hid hP.c.ok
          have hdn : M.dn.length ≤ 999999990 := by rw [hS.dn]; omega
          have hke : ¬ (k : Int) < 0 := by omega
          have ks := same_any hP hS
          have hsd := hS.done HOK.out
          have hpk := hS.posOk HOK.out
          have hpi : M.plan ≠ [] → M.idx < M.ms.length := fun hp => by
            have hn : C.plan ≠ [] := fun e => hp (by rw [hS.plan, e]; simp)
            rw [hS.idx, hS.ms]
            exact (HOK.out.run hn).1
          have hdl : C.doneL.length ≤ 1000000000000 := by have := doneL_len C; omega
          have HP := Lib.hid hP; have HSM := Lib.hid hS; have HRS := Lib.hid hRs; have HCP := Lib.hid hcap; have HFW := Lib.hid hF; have KS := Lib.hid ks; have HSD := Lib.hid hsd; have HPK := Lib.hid hpk; have HPI := Lib.hid hpi
          clear hP hS hRs hcap hF ks hsd hpk hpi
          go_wp2_with fail
          refine KS.out.mono ?_
          rintro e w8 ⟨rfl, hP8, hO8⟩
          have hE8 := HP.out.extG hE hO8
          have kd := done_any hP8.c.inv HOK.out.posOk (by omega)
          have HP8 := Lib.hid hP8; have KD := Lib.hid kd
          clear KS HP hE hO8 hP8 kd
          go_wp2_with fail
          refine KD.out.mono ?_
          rintro e w9 ⟨v9, rfl, own9, hx9⟩
          have hP9 := HP8.out.later hx9
          have hE9 := hE8.trans hx9
          have hvG : v9.ownBlock ≠ some G := fun e => by have h1 := own9.base e; have h2 := HP8.out.g.box.lt; omega
          have hs9 := own9.sl
          have kp := mpieces_any hP9.g HPK.out (by omega) HPI.out
          have HP9 := Lib.hid hP9; have KP := Lib.hid kp; have HS9 := Lib.hid hs9; have HVG := Lib.hid hvG
          clear KD HP8 hE8 hx9 hP9 kp own9 hs9 hvG
          go_wp2_with fail
          refine KP.out.mono ?_
          rintro e w10 ⟨v10, rfl, hs10, hG10, hO10, hl10⟩
          have hP10 : Pair w0.heap.size w10 N vm vp vq C G vl vg vd M := HP9.out.gmove ⟨hG10, HP9.out.g.sl.only0 hO10 (fun hl => off_one (HP9.out.g.nl hl)), HP9.out.g.sp.only hO10 (off_one HP9.out.g.np), HP9.out.g.sd.only hO10 (off_one HP9.out.g.nd), HP9.out.g.nl, HP9.out.g.np, HP9.out.g.nd⟩ rfl hO10 (fun b hb => .inl hb) (fun b hb => .inl hb)
          have hE10 := HP9.out.extG hE9 hO10
          have kss := rsame_any v9 v10 C.doneL M.piecesL w10 (HS9.out.only hO10 (off_one HVG.out)) hs10 hdl (by rw [HSD.out]; exact hdl)
          have ed : decide (C.doneL = M.piecesL) = true := decide_eq_true HSD.out.symm
          rw [ed] at kss
          have KSS := Lib.hid kss; have HP10 := Lib.hid hP10
          clear ed kss hP10 KP HP9 hE9 hs10 hG10 hO10 hl10 HS9 HVG
          go_wp2_with fail
          refine KSS.out.mono ?_
          rintro e w11 ⟨rfl, hx11⟩
          have hD11 : Duo w0.heap.size w11 N vm G vl C M := ⟨_, _, _, _, HP10.out.later hx11, HCP.out, HSM.out, HRS.out⟩
          have hF11 : Few l (10 * (i + 1)) C := HFW.out.mono (by omega)
          have hE11 := hE10.trans hx11
          clear KSS HP10 hE10 hx11
          go_wp2
          go_roundw
          case rel => exact ⟨i + 1, C, M, by omega, by go_num, hD11, hF11, hE11⟩
          case measure => simp [intOf]; omega
      have t4 : ((y : Int) % 8 == 4) = false := by simp; omega
      by_cases h5 : y % 8 = 5
      · have t5 : ((y : Int) % 8 == 5) = true := by simp; omega
        have hD1 := hD; have hF1 : Few l (10 * i + 0 + 0) C := hF; have hE1 := hE
        clear hD hF hE
        go_wp2_with fail
        go_loopw [42] (fun t wr => ∃ (k : Nat) (C : Ctl) (M : Mdl), k ≤ 10 ∧ t = .int .i64 k ∧ Duo w0.heap.size wr N vm G vl C M ∧ Few l (10 * i + 0 + k) C ∧ Ext w0 wr) (fun t _ => 10 - (intOf t).toNat)
        case atStart => exact ⟨0, _, _, by omega, rfl, hD1, hF1, hE1⟩
        case round =>
          clear hD1 hF1 hE1
          obtain ⟨k, C, M, hk, rfl, hD, hF, hE⟩ := hrel
          obtain ⟨vp, vq, vg, vd, hP, hcap, hS, hRs⟩ := hD
          have hfp := hF.ps
          have HOK := Lib.hid hP.c.ok
          have hdn : M.dn.length ≤ 999999990 := by rw [hS.dn]; omega
          by_cases hkl : (k : Int) < 10
          · have kt := tick_any hP.c (by omega)
            have HP := Lib.hid hP; have HSM := Lib.hid hS; have HRS := Lib.hid hRs; have HCP := Lib.hid hcap; have HFW := Lib.hid hF
            clear hP hS hRs hcap hF
            go_wp2_with fail
            refine kt.mono ?_
            rintro e w6 ⟨rfl, vp6, vq6, hA6, hO6, hq6, hp6⟩
            have hP6 := HP.out.cmove hA6 hO6 hq6 hp6
            have hE6 := HP.out.extC hE hO6
            clear kt hA6 hO6 hq6 hp6 HP hE
            have km := mtick_any hP6.g HCP.out hP6.gp HSM.out HOK.out hdn
            rw [HSM.out.tickB HOK.out] at km
            have HP6 := Lib.hid hP6
            clear hP6
            go_wp2_with fail
            refine km.mono ?_
            rintro e w7 ⟨rfl, vg7, vd7, hI7, hcap7, hO7, hd7, hp7⟩
            have hP7 := HP6.out.gmove hI7 (HSM.out.tick_ms HOK.out) hO7 hd7 hp7
            have hE7 := HP6.out.extG hE6 hO7
            have hD7 : Duo w0.heap.size w7 N vm G vl C.tickC M.tickM := ⟨_, _, _, _, hP7, hcap7, HSM.out.tick HOK.out, tick_rst HOK.out HRS.out⟩
            have hF7 := HFW.out.tick
            clear km hI7 hO7 hd7 hp7 HP6 hE6 hP7 hcap7
            cases htb : C.tickB
            · go_wp2
              go_roundw
              case rel => exact ⟨k + 1, _, _, by omega, by go_num, hD7, hF7, hE7⟩
              case measure => simp [intOf]; omega
            · go_wp2
              go_roundw
              case rel => exact ⟨k + 1, _, _, by omega, by go_num, hD7, hF7, hE7⟩
              case measure => simp [intOf]; omega
          · have hke : ¬ (k : Int) < 10 := by omega
            have ks := same_any hP hS
            have hsd := hS.done HOK.out
            have hpk := hS.posOk HOK.out
            have hpi : M.plan ≠ [] → M.idx < M.ms.length := fun hp => by
              have hn : C.plan ≠ [] := fun e => hp (by rw [hS.plan, e]; simp)
              rw [hS.idx, hS.ms]
              exact (HOK.out.run hn).1
            have hdl : C.doneL.length ≤ 1000000000000 := by have := doneL_len C; omega
            have HP := Lib.hid hP; have HSM := Lib.hid hS; have HRS := Lib.hid hRs; have HCP := Lib.hid hcap; have HFW := Lib.hid hF; have KS := Lib.hid ks; have HSD := Lib.hid hsd; have HPK := Lib.hid hpk; have HPI := Lib.hid hpi
            clear hP hS hRs hcap hF ks hsd hpk hpi
            go_wp2_with fail
            refine KS.out.mono ?_
            rintro e w8 ⟨rfl, hP8, hO8⟩
            have hE8 := HP.out.extG hE hO8
            have kd := done_any hP8.c.inv HOK.out.posOk (by omega)
            have HP8 := Lib.hid hP8; have KD := Lib.hid kd
            clear KS HP hE hO8 hP8 kd
            go_wp2_with fail
            refine KD.out.mono ?_
            rintro e w9 ⟨v9, rfl, own9, hx9⟩
            have hP9 := HP8.out.later hx9
            have hE9 := hE8.trans hx9
            have hvG : v9.ownBlock ≠ some G := fun e => by have h1 := own9.base e; have h2 := HP8.out.g.box.lt; omega
            have hs9 := own9.sl
            have kp := mpieces_any hP9.g HPK.out (by omega) HPI.out
            have HP9 := Lib.hid hP9; have KP := Lib.hid kp; have HS9 := Lib.hid hs9; have HVG := Lib.hid hvG
            clear KD HP8 hE8 hx9 hP9 kp own9 hs9 hvG
            go_wp2_with fail
            refine KP.out.mono ?_
            rintro e w10 ⟨v10, rfl, hs10, hG10, hO10, hl10⟩
            have hP10 : Pair w0.heap.size w10 N vm vp vq C G vl vg vd M := HP9.out.gmove ⟨hG10, HP9.out.g.sl.only0 hO10 (fun hl => off_one (HP9.out.g.nl hl)), HP9.out.g.sp.only hO10 (off_one HP9.out.g.np), HP9.out.g.sd.only hO10 (off_one HP9.out.g.nd), HP9.out.g.nl, HP9.out.g.np, HP9.out.g.nd⟩ rfl hO10 (fun b hb => .inl hb) (fun b hb => .inl hb)
            have hE10 := HP9.out.extG hE9 hO10
            have kss := rsame_any v9 v10 C.doneL M.piecesL w10 (HS9.out.only hO10 (off_one HVG.out)) hs10 hdl (by rw [HSD.out]; exact hdl)
            have ed : decide (C.doneL = M.piecesL) = true := decide_eq_true HSD.out.symm
            rw [ed] at kss
            have KSS := Lib.hid kss; have HP10 := Lib.hid hP10
            clear ed kss hP10 KP HP9 hE9 hs10 hG10 hO10 hl10 HS9 HVG
            go_wp2_with fail
            refine KSS.out.mono ?_
            rintro e w11 ⟨rfl, hx11⟩
            have hD11 : Duo w0.heap.size w11 N vm G vl C M := ⟨_, _, _, _, HP10.out.later hx11, HCP.out, HSM.out, HRS.out⟩
            have hF11 : Few l (10 * (i + 1)) C := HFW.out.mono (by omega)
            have hE11 := hE10.trans hx11
            clear KSS HP10 hE10 hx11
            go_wp2
            go_roundw
            case rel => exact ⟨i + 1, C, M, by omega, by go_num, hD11, hF11, hE11⟩
            case measure => simp [intOf]; omega
      have t5 : ((y : Int) % 8 == 5) = false := by simp; omega
      by_cases h6 : y % 8 = 6
      · have t6 : ((y : Int) % 8 == 6) = true := by simp; omega
        have hD1 := hD; have hF1 : Few l (10 * i + 0 + 0) C := hF; have hE1 := hE
        clear hD hF hE
        go_wp2_with fail
        go_loopw [42] (fun t wr => ∃ (k : Nat) (C : Ctl) (M : Mdl), k ≤ 10 ∧ t = .int .i64 k ∧ Duo w0.heap.size wr N vm G vl C M ∧ Few l (10 * i + 0 + k) C ∧ Ext w0 wr) (fun t _ => 10 - (intOf t).toNat)
        case atStart => exact ⟨0, _, _, by omega, rfl, hD1, hF1, hE1⟩
        case round =>
          clear hD1 hF1 hE1
          obtain ⟨k, C, M, hk, rfl, hD, hF, hE⟩ := hrel
          obtain ⟨vp, vq, vg, vd, hP, hcap, hS, hRs⟩ := hD
          have hfp := hF.ps
          have HOK := Lib.hid hP.c.ok
          have hdn : M.dn.length ≤ 999999990 := by rw [hS.dn]; omega
          by_cases hkl : (k : Int) < 10
          · have kt := tick_any hP.c (by omega)
            have HP := Lib.hid hP; have HSM := Lib.hid hS; have HRS := Lib.hid hRs; have HCP := Lib.hid hcap; have HFW := Lib.hid hF
            clear hP hS hRs hcap hF
            go_wp2_with fail
            refine kt.mono ?_
            rintro e w6 ⟨rfl, vp6, vq6, hA6, hO6, hq6, hp6⟩
            have hP6 := HP.out.cmove hA6 hO6 hq6 hp6
            have hE6 := HP.out.extC hE hO6
            clear kt hA6 hO6 hq6 hp6 HP hE
            have km := mtick_any hP6.g HCP.out hP6.gp HSM.out HOK.out hdn
            rw [HSM.out.tickB HOK.out] at km
            have HP6 := Lib.hid hP6
            clear hP6
            go_wp2_with fail
            refine km.mono ?_
            rintro e w7 ⟨rfl, vg7, vd7, hI7, hcap7, hO7, hd7, hp7⟩
            have hP7 := HP6.out.gmove hI7 (HSM.out.tick_ms HOK.out) hO7 hd7 hp7
            have hE7 := HP6.out.extG hE6 hO7
            have hD7 : Duo w0.heap.size w7 N vm G vl C.tickC M.tickM := ⟨_, _, _, _, hP7, hcap7, HSM.out.tick HOK.out, tick_rst HOK.out HRS.out⟩
            have hF7 := HFW.out.tick
            clear km hI7 hO7 hd7 hp7 HP6 hE6 hP7 hcap7
            cases htb : C.tickB
            · go_wp2
              go_roundw
              case rel => exact ⟨k + 1, _, _, by omega, by go_num, hD7, hF7, hE7⟩
              case measure => simp [intOf]; omega
            · go_wp2
              go_roundw
              case rel => exact ⟨k + 1, _, _, by omega, by go_num, hD7, hF7, hE7⟩
              case measure => simp [intOf]; omega
          · have hke : ¬ (k : Int) < 10 := by omega
            have ks := same_any hP hS
            have hsd := hS.done HOK.out
            have hpk := hS.posOk HOK.out
            have hpi : M.plan ≠ [] → M.idx < M.ms.length := fun hp => by
              have hn : C.plan ≠ [] := fun e => hp (by rw [hS.plan, e]; simp)
              rw [hS.idx, hS.ms]
              exact (HOK.out.run hn).1
            have hdl : C.doneL.length ≤ 1000000000000 := by have := doneL_len C; omega
            have HP := Lib.hid hP; have HSM := Lib.hid hS; have HRS := Lib.hid hRs; have HCP := Lib.hid hcap; have HFW := Lib.hid hF; have KS := Lib.hid ks; have HSD := Lib.hid hsd; have HPK := Lib.hid hpk; have HPI := Lib.hid hpi
            clear hP hS hRs hcap hF ks hsd hpk hpi
            go_wp2_with fail
            refine KS.out.mono ?_
            rintro e w8 ⟨rfl, hP8, hO8⟩
            have hE8 := HP.out.extG hE hO8
            have kd := done_any hP8.c.inv HOK.out.posOk (by omega)
            have HP8 := Lib.hid hP8; have KD := Lib.hid kd
            clear KS HP hE hO8 hP8 kd
            go_wp2_with fail
            refine KD.out.mono ?_
            rintro e w9 ⟨v9, rfl, own9, hx9⟩
            have hP9 := HP8.out.later hx9
            have hE9 := hE8.trans hx9
            have hvG : v9.ownBlock ≠ some G := fun e => by have h1 := own9.base e; have h2 := HP8.out.g.box.lt; omega
            have hs9 := own9.sl
            have kp := mpieces_any hP9.g HPK.out (by omega) HPI.out
            have HP9 := Lib.hid hP9; have KP := Lib.hid kp; have HS9 := Lib.hid hs9; have HVG := Lib.hid hvG
            clear KD HP8 hE8 hx9 hP9 kp own9 hs9 hvG
            go_wp2_with fail
            refine KP.out.mono ?_
            rintro e w10 ⟨v10, rfl, hs10, hG10, hO10, hl10⟩
            have hP10 : Pair w0.heap.size w10 N vm vp vq C G vl vg vd M := HP9.out.gmove ⟨hG10, HP9.out.g.sl.only0 hO10 (fun hl => off_one (HP9.out.g.nl hl)), HP9.out.g.sp.only hO10 (off_one HP9.out.g.np), HP9.out.g.sd.only hO10 (off_one HP9.out.g.nd), HP9.out.g.nl, HP9.out.g.np, HP9.out.g.nd⟩ rfl hO10 (fun b hb => .inl hb) (fun b hb => .inl hb)
            have hE10 := HP9.out.extG hE9 hO10
            have kss := rsame_any v9 v10 C.doneL M.piecesL w10 (HS9.out.only hO10 (off_one HVG.out)) hs10 hdl (by rw [HSD.out]; exact hdl)
            have ed : decide (C.doneL = M.piecesL) = true := decide_eq_true HSD.out.symm
            rw [ed] at kss
            have KSS := Lib.hid kss; have HP10 := Lib.hid hP10
            clear ed kss hP10 KP HP9 hE9 hs10 hG10 hO10 hl10 HS9 HVG
            go_wp2_with fail
            refine KSS.out.mono ?_
            rintro e w11 ⟨rfl, hx11⟩
            have hD11 : Duo w0.heap.size w11 N vm G vl C M := ⟨_, _, _, _, HP10.out.later hx11, HCP.out, HSM.out, HRS.out⟩
            have hF11 : Few l (10 * (i + 1)) C := HFW.out.mono (by omega)
            have hE11 := hE10.trans hx11
            clear KSS HP10 hE10 hx11
            go_wp2
            go_roundw
            case rel => exact ⟨i + 1, C, M, by omega, by go_num, hD11, hF11, hE11⟩
            case measure => simp [intOf]; omega
      have t6 : ((y : Int) % 8 == 6) = false := by simp; omega
      by_cases h7 : y % 8 = 7
      · have t7 : ((y : Int) % 8 == 7) = true := by simp; omega
        have hD1 := hD; have hF1 : Few l (10 * i + 0 + 0) C := hF; have hE1 := hE
        clear hD hF hE
        go_wp2_with fail
        go_loopw [42] (fun t wr => ∃ (k : Nat) (C : Ctl) (M : Mdl), k ≤ 10 ∧ t = .int .i64 k ∧ Duo w0.heap.size wr N vm G vl C M ∧ Few l (10 * i + 0 + k) C ∧ Ext w0 wr) (fun t _ => 10 - (intOf t).toNat)
        case atStart => exact ⟨0, _, _, by omega, rfl, hD1, hF1, hE1⟩
        case round =>
          clear hD1 hF1 hE1
          obtain ⟨k, C, M, hk, rfl, hD, hF, hE⟩ := hrel
          obtain ⟨vp, vq, vg, vd, hP, hcap, hS, hRs⟩ := hD
          have hfp := hF.ps
          have HOK := Lib.hid hP.c.ok
          have hdn : M.dn.length ≤ 999999990 := by rw [hS.dn]; omega
          by_cases hkl : (k : Int) < 10
          · have kt := tick_any hP.c (by omega)
            have HP := Lib.hid hP; have HSM := Lib.hid hS; have HRS := Lib.hid hRs; have HCP := Lib.hid hcap; have HFW := Lib.hid hF
            clear hP hS hRs hcap hF
            go_wp2_with fail
            refine kt.mono ?_
            rintro e w6 ⟨rfl, vp6, vq6, hA6, hO6, hq6, hp6⟩
            have hP6 := HP.out.cmove hA6 hO6 hq6 hp6
            have hE6 := HP.out.extC hE hO6
            clear kt hA6 hO6 hq6 hp6 HP hE
            have km := mtick_any hP6.g HCP.out hP6.gp HSM.out HOK.out hdn
            rw [HSM.out.tickB HOK.out] at km
            have HP6 := Lib.hid hP6
            clear hP6
            go_wp2_with fail
            refine km.mono ?_
            rintro e w7 ⟨rfl, vg7, vd7, hI7, hcap7, hO7, hd7, hp7⟩
            have hP7 := HP6.out.gmove hI7 (HSM.out.tick_ms HOK.out) hO7 hd7 hp7
            have hE7 := HP6.out.extG hE6 hO7
            have hD7 : Duo w0.heap.size w7 N vm G vl C.tickC M.tickM := ⟨_, _, _, _, hP7, hcap7, HSM.out.tick HOK.out, tick_rst HOK.out HRS.out⟩
            have hF7 := HFW.out.tick
            clear km hI7 hO7 hd7 hp7 HP6 hE6 hP7 hcap7
            cases htb : C.tickB
            · go_wp2
              go_roundw
              case rel => exact ⟨k + 1, _, _, by omega, by go_num, hD7, hF7, hE7⟩
              case measure => simp [intOf]; omega
            · go_wp2
              go_roundw
              case rel => exact ⟨k + 1, _, _, by omega, by go_num, hD7, hF7, hE7⟩
              case measure => simp [intOf]; omega
          · have hke : ¬ (k : Int) < 10 := by omega
            have ks := same_any hP hS
            have hsd := hS.done HOK.out
            have hpk := hS.posOk HOK.out
            have hpi : M.plan ≠ [] → M.idx < M.ms.length := fun hp => by
              have hn : C.plan ≠ [] := fun e => hp (by rw [hS.plan, e]; simp)
              rw [hS.idx, hS.ms]
              exact (HOK.out.run hn).1
            have hdl : C.doneL.length ≤ 1000000000000 := by have := doneL_len C; omega
            have HP := Lib.hid hP; have HSM := Lib.hid hS; have HRS := Lib.hid hRs; have HCP := Lib.hid hcap; have HFW := Lib.hid hF; have KS := Lib.hid ks; have HSD := Lib.hid hsd; have HPK := Lib.hid hpk; have HPI := Lib.hid hpi
            clear hP hS hRs hcap hF ks hsd hpk hpi
            go_wp2_with fail
            refine KS.out.mono ?_
            rintro e w8 ⟨rfl, hP8, hO8⟩
            have hE8 := HP.out.extG hE hO8
            have kd := done_any hP8.c.inv HOK.out.posOk (by omega)
            have HP8 := Lib.hid hP8; have KD := Lib.hid kd
            clear KS HP hE hO8 hP8 kd
            go_wp2_with fail
            refine KD.out.mono ?_
            rintro e w9 ⟨v9, rfl, own9, hx9⟩
            have hP9 := HP8.out.later hx9
            have hE9 := hE8.trans hx9
            have hvG : v9.ownBlock ≠ some G := fun e => by have h1 := own9.base e; have h2 := HP8.out.g.box.lt; omega
            have hs9 := own9.sl
            have kp := mpieces_any hP9.g HPK.out (by omega) HPI.out
            have HP9 := Lib.hid hP9; have KP := Lib.hid kp; have HS9 := Lib.hid hs9; have HVG := Lib.hid hvG
            clear KD HP8 hE8 hx9 hP9 kp own9 hs9 hvG
            go_wp2_with fail
            refine KP.out.mono ?_
            rintro e w10 ⟨v10, rfl, hs10, hG10, hO10, hl10⟩
            have hP10 : Pair w0.heap.size w10 N vm vp vq C G vl vg vd M := HP9.out.gmove ⟨hG10, HP9.out.g.sl.only0 hO10 (fun hl => off_one (HP9.out.g.nl hl)), HP9.out.g.sp.only hO10 (off_one HP9.out.g.np), HP9.out.g.sd.only hO10 (off_one HP9.out.g.nd), HP9.out.g.nl, HP9.out.g.np, HP9.out.g.nd⟩ rfl hO10 (fun b hb => .inl hb) (fun b hb => .inl hb)
            have hE10 := HP9.out.extG hE9 hO10
            have kss := rsame_any v9 v10 C.doneL M.piecesL w10 (HS9.out.only hO10 (off_one HVG.out)) hs10 hdl (by rw [HSD.out]; exact hdl)
            have ed : decide (C.doneL = M.piecesL) = true := decide_eq_true HSD.out.symm
            rw [ed] at kss
            have KSS := Lib.hid kss; have HP10 := Lib.hid hP10
            clear ed kss hP10 KP HP9 hE9 hs10 hG10 hO10 hl10 HS9 HVG
            go_wp2_with fail
            refine KSS.out.mono ?_
            rintro e w11 ⟨rfl, hx11⟩
            have hD11 : Duo w0.heap.size w11 N vm G vl C M := ⟨_, _, _, _, HP10.out.later hx11, HCP.out, HSM.out, HRS.out⟩
            have hF11 : Few l (10 * (i + 1)) C := HFW.out.mono (by omega)
            have hE11 := hE10.trans hx11
            clear KSS HP10 hE10 hx11
            go_wp2
            go_roundw
            case rel => exact ⟨i + 1, C, M, by omega, by go_num, hD11, hF11, hE11⟩
            case measure => simp [intOf]; omega
      have t7 : ((y : Int) % 8 == 7) = false := by simp; omega
      have hD1 := hD; have hF1 : Few l (10 * i + 0 + 0) C := hF; have hE1 := hE
      clear hD hF hE
      go_wp2_with fail
      go_loopw [42] (fun t wr => ∃ (k : Nat) (C : Ctl) (M : Mdl), k ≤ 1 ∧ t = .int .i64 k ∧ Duo w0.heap.size wr N vm G vl C M ∧ Few l (10 * i + 0 + k) C ∧ Ext w0 wr) (fun t _ => 1 - (intOf t).toNat)
      case atStart => exact ⟨0, _, _, by omega, rfl, hD1, hF1, hE1⟩
      case round =>
        clear hD1 hF1 hE1
        obtain ⟨k, C, M, hk, rfl, hD, hF, hE⟩ := hrel
        obtain ⟨vp, vq, vg, vd, hP, hcap, hS, hRs⟩ := hD
        have hfp := hF.ps
        have HOK := Lib.hid hP.c.ok
        have hdn : M.dn.length ≤ 999999990 := by rw [hS.dn]; omega
        by_cases hkl : (k : Int) < 1
        · have kt := tick_any hP.c (by omega)
          have HP := Lib.hid hP; have HSM := Lib.hid hS; have HRS := Lib.hid hRs; have HCP := Lib.hid hcap; have HFW := Lib.hid hF
          clear hP hS hRs hcap hF
          go_wp2_with fail
          refine kt.mono ?_
          rintro e w6 ⟨rfl, vp6, vq6, hA6, hO6, hq6, hp6⟩
          have hP6 := HP.out.cmove hA6 hO6 hq6 hp6
          have hE6 := HP.out.extC hE hO6
          clear kt hA6 hO6 hq6 hp6 HP hE
          have km := mtick_any hP6.g HCP.out hP6.gp HSM.out HOK.out hdn
          rw [HSM.out.tickB HOK.out] at km
          have HP6 := Lib.hid hP6
          clear hP6
          go_wp2_with fail
          refine km.mono ?_
          rintro e w7 ⟨rfl, vg7, vd7, hI7, hcap7, hO7, hd7, hp7⟩
          have hP7 := HP6.out.gmove hI7 (HSM.out.tick_ms HOK.out) hO7 hd7 hp7
          have hE7 := HP6.out.extG hE6 hO7
          have hD7 : Duo w0.heap.size w7 N vm G vl C.tickC M.tickM := ⟨_, _, _, _, hP7, hcap7, HSM.out.tick HOK.out, tick_rst HOK.out HRS.out⟩
          have hF7 := HFW.out.tick
          clear km hI7 hO7 hd7 hp7 HP6 hE6 hP7 hcap7
          cases htb : C.tickB
          · go_wp2
            go_roundw
            case rel => exact ⟨k + 1, _, _, by omega, by go_num, hD7, hF7, hE7⟩
            case measure => simp [intOf]; omega
          · go_wp2
            go_roundw
            case rel => exact ⟨k + 1, _, _, by omega, by go_num, hD7, hF7, hE7⟩
            case measure => simp [intOf]; omega
        · have hke : ¬ (k : Int) < 1 := by omega
          have ks := same_any hP hS
          have hsd := hS.done HOK.out
          have hpk := hS.posOk HOK.out
          have hpi : M.plan ≠ [] → M.idx < M.ms.length := fun hp => by
            have hn : C.plan ≠ [] := fun e => hp (by rw [hS.plan, e]; simp)
            rw [hS.idx, hS.ms]
            exact (HOK.out.run hn).1
          have hdl : C.doneL.length ≤ 1000000000000 := by have := doneL_len C; omega
          have HP := Lib.hid hP; have HSM := Lib.hid hS; have HRS := Lib.hid hRs; have HCP := Lib.hid hcap; have HFW := Lib.hid hF; have KS := Lib.hid ks; have HSD := Lib.hid hsd; have HPK := Lib.hid hpk; have HPI := Lib.hid hpi
          clear hP hS hRs hcap hF ks hsd hpk hpi
          go_wp2_with fail
          refine KS.out.mono ?_
          rintro e w8 ⟨rfl, hP8, hO8⟩
          have hE8 := HP.out.extG hE hO8
          have kd := done_any hP8.c.inv HOK.out.posOk (by omega)
          have HP8 := Lib.hid hP8; have KD := Lib.hid kd
          clear KS HP hE hO8 hP8 kd
          go_wp2_with fail
          refine KD.out.mono ?_
          rintro e w9 ⟨v9, rfl, own9, hx9⟩
          have hP9 := HP8.out.later hx9
          have hE9 := hE8.trans hx9
          have hvG : v9.ownBlock ≠ some G := fun e => by have h1 := own9.base e; have h2 := HP8.out.g.box.lt; omega
          have hs9 := own9.sl
          have kp := mpieces_any hP9.g HPK.out (by omega) HPI.out
          have HP9 := Lib.hid hP9; have KP := Lib.hid kp; have HS9 := Lib.hid hs9; have HVG := Lib.hid hvG
          clear KD HP8 hE8 hx9 hP9 kp own9 hs9 hvG
          go_wp2_with fail
          refine KP.out.mono ?_
          rintro e w10 ⟨v10, rfl, hs10, hG10, hO10, hl10⟩
          have hP10 : Pair w0.heap.size w10 N vm vp vq C G vl vg vd M := HP9.out.gmove ⟨hG10, HP9.out.g.sl.only0 hO10 (fun hl => off_one (HP9.out.g.nl hl)), HP9.out.g.sp.only hO10 (off_one HP9.out.g.np), HP9.out.g.sd.only hO10 (off_one HP9.out.g.nd), HP9.out.g.nl, HP9.out.g.np, HP9.out.g.nd⟩ rfl hO10 (fun b hb => .inl hb) (fun b hb => .inl hb)
          have hE10 := HP9.out.extG hE9 hO10
          have kss := rsame_any v9 v10 C.doneL M.piecesL w10 (HS9.out.only hO10 (off_one HVG.out)) hs10 hdl (by rw [HSD.out]; exact hdl)
          have ed : decide (C.doneL = M.piecesL) = true := decide_eq_true HSD.out.symm
          rw [ed] at kss
          have KSS := Lib.hid kss; have HP10 := Lib.hid hP10
          clear ed kss hP10 KP HP9 hE9 hs10 hG10 hO10 hl10 HS9 HVG
          go_wp2_with fail
          refine KSS.out.mono ?_
          rintro e w11 ⟨rfl, hx11⟩
          have hD11 : Duo w0.heap.size w11 N vm G vl C M := ⟨_, _, _, _, HP10.out.later hx11, HCP.out, HSM.out, HRS.out⟩
          have hF11 : Few l (10 * (i + 1)) C := HFW.out.mono (by omega)
          have hE11 := hE10.trans hx11
          clear KSS HP10 hE10 hx11
          go_wp2
          go_roundw
          case rel => exact ⟨i + 1, C, M, by omega, by go_num, hD11, hF11, hE11⟩
          case measure => simp [intOf]; omega
    · go_wp2_with fail
      go_ret
      exact ⟨rfl, hE⟩

end Go.Proofs.Ytfmjmabaabmgcaa

namespace Go.Proofs.Ytfmjmabaabmgcaa
open Go.RowKit
set_option maxRecDepth 100000

set_option maxHeartbeats 8000000 in
theorem lawEvents (v : Value) (l : List Mot) (s a j : Int) (vo : Value) (os : List Nat) (w : World) (h : SlM w v l) (hw : ∀ i, i < l.length → (l.getD i Mot.zero).wf) (hn : l.length ≤ 9223372036854775807) (hos : SlB w vo os) (hno : os.length ≤ 9223372036854775807) :
    Calls Try.prog 8 #[v, Lm s a j, vo] w fun e w' => e = .returned (.bool true) ∧ Ext w w' := by
  have kr := right_any v l s a j _ (h.later ((Ext.refl w).alloc (.cells #[.int .i64 s, .int .i64 a, .int .i64 j] 23))) hn hw
  have KR := Lib.hid kr; clear kr
  have HS := Lib.hid h; have HW := Lib.hid hw; have HOS := Lib.hid hos
  clear h hw hos
  obtain ⟨ao, no, co, bo, oo, hvo, hno1, -⟩ := HOS.out
  subst hvo
  have hno2 : no ≤ 9223372036854775807 := by omega
  cases hR : rightB l s a j
  · rw [hR] at KR
    clear hR hno1
    go_enter Try.func8, Try.ntmps8
    go_wp2_with fail
    refine KR.out.mono ?_
    rintro e w1 ⟨rfl, hx1⟩
    have hE1 := ((Ext.refl w).alloc (.cells #[.int .i64 s, .int .i64 a, .int .i64 j] 23)).trans hx1
    clear hx1 KR
    go_wp2_with fail
    obtain ⟨W2, hW2, L2, hx2⟩ := B3.mk' w1 (.int .i64 s) (.int .i64 a) (.int .i64 j) 25
    rw [hW2]; clear hW2
    have hE2 := hE1.trans hx2
    generalize w1.heap.size = M at *
    clear hx2 hE1
    refine (awake_any W2).mono ?_
    rintro e w3 ⟨rfl, hx3⟩
    have L3 := L2.later hx3
    have hE3 := hE2.trans hx3
    clear hx3 L2 hE2
    go_wp2_with fail
    refine (awake_any _).mono ?_
    rintro e w4 ⟨rfl, hx4⟩
    go_wp2
    go_ret
    exact ⟨rfl, hE3.trans hx4⟩
  · have RT := Lib.hid (rt_of hR)
    have hcn : conn l = 0 := by unfold rightB at hR; simp only [Bool.and_eq_true, decide_eq_true_eq] at hR; exact hR.1.2
    have HCN := Lib.hid hcn; clear hcn
    rw [hR] at KR
    clear hR
    by_cases h60 : 60 < no
    · have h60' : decide ((no : Int) > 60) = true := by simp; omega
      go_enter Try.func8, Try.ntmps8
      go_wp2_with fail
      refine KR.out.mono ?_
      rintro e w1 ⟨rfl, hx1⟩
      have hE1 := ((Ext.refl w).alloc (.cells #[.int .i64 s, .int .i64 a, .int .i64 j] 23)).trans hx1
      clear hx1 KR
      go_wp2_with fail
      obtain ⟨W2, hW2, L2, hx2⟩ := B3.mk' w1 (.int .i64 s) (.int .i64 a) (.int .i64 j) 25
      rw [hW2]; clear hW2
      have hE2 := hE1.trans hx2
      generalize w1.heap.size = M at *
      clear hx2 hE1
      refine (awake_any W2).mono ?_
      rintro e w3 ⟨rfl, hx3⟩
      have L3 := L2.later hx3
      have hE3 := hE2.trans hx3
      clear hx3 L2 hE2
      go_wp2_with fail
      refine (awake_any _).mono ?_
      rintro e w4 ⟨rfl, hx4⟩
      go_wp2
      go_ret
      exact ⟨rfl, hE3.trans hx4⟩
    · have h60' : decide ((no : Int) > 60) = false := by simp; omega
      have HNO := Lib.hid hno1; clear hno1
      go_enter Try.func8, Try.ntmps8
      go_wp2_with fail
      refine KR.out.mono ?_
      rintro e w1 ⟨rfl, hx1⟩
      have hE1 := ((Ext.refl w).alloc (.cells #[.int .i64 s, .int .i64 a, .int .i64 j] 23)).trans hx1
      clear hx1 KR
      go_wp2_with fail
      obtain ⟨W2, hW2, L2, hx2⟩ := B3.mk' w1 (.int .i64 s) (.int .i64 a) (.int .i64 j) 25
      rw [hW2]; clear hW2
      have hE2 := hE1.trans hx2
      generalize w1.heap.size = M at *
      clear hx2 hE1
      refine (awake_any W2).mono ?_
      rintro e w3 ⟨rfl, hx3⟩
      have L3 := L2.later hx3
      have hE3 := hE2.trans hx3
      clear hx3 L2 hE2
      have l0 := L3.c0; have l1 := L3.c1; have l2 := L3.c2
      go_wp2_with fail
      refine (new_ok v l s a j w3 (HS.out.later hE3) (by have := RT.out.n; omega) HW.out RT.out.rng RT.out.chk).mono ?_
      rintro e w4 ⟨N, vm, rfl, hI4, hE4, hlm⟩
      have hA4 : CAt w3.heap.size w4 N vm (.slice none 0 0) (.slice none 0 0) (Ctl.new l s a j) := ⟨hI4, (fun b hb => by cases hb), fun b hb => (hlm b hb).2, new_Ok RT.out.chk HW.out⟩
      have HA4 := Lib.hid hA4
      clear l0 l1 l2 hI4 hlm hA4
      have L4 := L3.later hE4
      have l0 := L4.c0; have l1 := L4.c1; have l2 := L4.c2
      go_wp2_with fail
      refine (start_any v l s a j w4 (HS.out.later (hE3.trans hE4)) (by have := RT.out.n; omega) RT.out.rng).mono ?_
      rintro e w5 ⟨G, rfl, hI5, hE5, hG5⟩
      have hP5 := Pair.start HA4.out hI5 hE5 hE4 hG5 (fun hl b hb => Nat.lt_of_lt_of_le (HS.out.lt hl hb) hE3.size)
      have hD5 : Duo w3.heap.size w5 N vm G v (Ctl.new l s a j) (Mdl.new l s a j) := ⟨_, _, _, _, hP5, (SlI.cap_nil hI5.sp), Sim.new l s a j, new_rst (conn_of HCN.out) RT.out.rng⟩
      have hF5 : Few l 0 (Ctl.new l s a j) := ⟨rfl, Nat.le_refl _⟩
      have kp := perform_any _ os hD5 hF5 (hE4.trans hE5) (HOS.out.later hE3) (by have := HNO.out; omega)
      have KP := Lib.hid kp
      clear l0 l1 l2 hI5 hP5 L3 L4 hD5 hF5 kp
      go_wp2_with fail
      refine KP.out.mono ?_
      rintro e w6 ⟨rfl, hx6⟩
      go_wp2
      go_ret
      exact ⟨rfl, hE3.trans hx6⟩

end Go.Proofs.Ytfmjmabaabmgcaa

namespace Go.Proofs.Ytfmjmabaabmgcaa
open Go.ChangeShapes Go.WideShapes Go.ChangeAt Go.RowKit Go.Joins

set_option maxRecDepth 100000 in
theorem liftControllerEvents (os : Os) (started : os.Started) (H : Type) (enc : TypeId × Value → H) :
    ReturnsInHanded {} Try.checked os 8 .any (Rows.controllerEventsSpec.pre6 enc Try.prog Try.f8 Rows.controllerEventsRow.domain false) (Rows.controllerEventsSpec.post enc Try.prog Try.f8 false true false false) := by
  refine returnsInHanded_of_change (C := Try.checked) Try.own started (by kernel_rfl) Try.func8
    (ChangeSpec.witness6 (enc := enc) (C := Try.checked) false ⟨#[], #[.slice none 0 0, .agg #[.int .i64 0, .int .i64 0, .int .i64 0], .slice none 0 0], []⟩ 8 (by kernel_rfl) (by kernel_rfl) (by kernel_rfl) (by kernel_rfl)) ?_
  intro W base args ds gs before hval0 hW hcnd _
  have hval : ∀ (j : Nat) t v, Try.f8.params[j]? = some t → args[j]? = some v → Value.okWide Try.prog W .any base t v := hval0
  have hW' := hW
  obtain ⟨p, q, hA0, hV, rfl, hfz, hnd⟩ := hW
  have hA : DataW.TrodAll enc Try.prog W 0 (fun _ => true) true Try.f8.params.toList args.toList ds p := hA0
  rw [Try.params8] at hA hval
  obtain ⟨v0, vs0, d0, ds0, p0, q0, hargs, rfl, rfl, h0, r0⟩ := trodAll_cons hA
  obtain ⟨v1, vs1, d1, ds1, p1, q1, rfl, rfl, rfl, h1, r1⟩ := trodAll_cons r0
  obtain ⟨v2, vs2, d2, ds2, p2, q2, rfl, rfl, rfl, h2, r2⟩ := trodAll_cons r1
  obtain ⟨rfl, rfl, rfl⟩ := trodAll_nil r2
  obtain rfl : args = #[v0, v1, v2] := by cases args; simp_all
  obtain ⟨rfl, rfl⟩ := trodVars_none hV
  have lt0 : ∀ x ∈ p0, x.block < W.heap.size := by obtain ⟨m, hm⟩ := h0; exact DataW.trod_lt m _ _ _ hm
  have lt1 : ∀ x ∈ p1, x.block < W.heap.size := by obtain ⟨m, hm⟩ := h1; exact DataW.trod_lt m _ _ _ hm
  have lt2 : ∀ x ∈ p2, x.block < W.heap.size := by obtain ⟨m, hm⟩ := h2; exact DataW.trod_lt m _ _ _ hm
  obtain ⟨l0, a0, w0, n0⟩ := argM_of (hval 0 22 v0 rfl rfl) h0
  obtain ⟨x1, y1, z1, e1⟩ := arr3_of Try.underlying23 (by kernel_rfl) (hval 1 23 v1 rfl rfl) h1
  subst e1
  obtain ⟨l2, a2, n2⟩ := argB_of (hval 2 57 v2 rfl rfl) h2
  clear hA0 hval0
  refine (lawEvents v0 l0 x1 y1 z1 v2 l2 W a0 w0 n0 a2 n2).mono fun e W' ⟨he, bel⟩ => ?_
  subst he
  exact ⟨_, rfl, _, _, _, [], _, [], hW', trodAll_mk1 (shut_bool Try.underlying4 _), (trodAll_cons_mk (Below.trod Try.laidOut (by kernel_rfl) (of_decide_eq_true (by kernel_rfl)) h0 bel.out lt0) (trodAll_cons_mk (Below.trod Try.laidOut (by kernel_rfl) (of_decide_eq_true (by kernel_rfl)) h1 bel.out lt1) (trodAll_cons_mk (Below.trod Try.laidOut (by kernel_rfl) (of_decide_eq_true (by kernel_rfl)) h2 bel.out lt2) trodAll_mk0))), rfl, bel.out.frame _, fun h => by cases h⟩

/-- The statement. -/
theorem cevents_holds : Rows.ControllerEventsSaid :=
  OpenClaim.holds_of_wide 8 Try.f8 rfl rfl rfl rfl rfl rfl rfl ⟨rfl, rfl, rfl, rfl, rfl⟩ rfl rfl rfl rfl rfl (by kernel_rfl) Try.func8 (by kernel_rfl)
    (of_decide_eq_true (by kernel_rfl)) (by unfold Func.isWrapper; first | (rw [if_pos (by decide +kernel)]; kernel_rfl) | (rw [if_neg (by decide +kernel)]; exact ⟨rfl, rfl⟩))
    (fun os started H enc _ => liftControllerEvents os started H enc)

#print axioms cevents_holds
end Go.Proofs.Ytfmjmabaabmgcaa
