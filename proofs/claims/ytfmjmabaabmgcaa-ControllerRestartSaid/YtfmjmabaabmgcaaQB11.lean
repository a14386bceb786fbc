/-
  Walks: the example of layer 50.
  Walks: Connected of the reference, small.
  Walks: small, Short, right.
  Walks: Break of the controller.
  Plain laws of Hold and Break.
-/
import Derived.Test.YtfmjmabaabmgcaaQB10
namespace Go.Proofs.Ytfmjmabaabmgcaa
open Go.RowKit
set_option maxRecDepth 8000

set_option maxHeartbeats 4000000 in
theorem awake_any (w : World) : Calls Try.prog 11 #[] w fun e w' => e = .returned (.bool true) ∧ Ext w w' := by
  go_enter Try.func11, Try.ntmps11
  go_wp2_with fail
  obtain ⟨W0, hW0⟩ : ∃ W0 : World, w.alloc (.cells #[.int .i64 0, .int .i64 0, .int .i64 0, .int .i64 30, .int .i64 0, .int .i64 0, .int .i64 100000, .int .i64 0, .int .i64 0, .int .i64 30, .int .i64 0, .int .i64 0, .int .i64 30, .int .i64 40, .int .i64 0, .int .i64 0, .int .i64 1, .int .i64 0] 38) = W0 := ⟨_, rfl⟩
  have hE0 : Ext w W0 := by rw [← hW0]; exact (Ext.refl w).alloc _
  have hs0 : SlM W0 (.slice (some ⟨w.heap.size, 0, none⟩) 2 2) aL := by
    refine ⟨_, 2, 2, w.heap.size, 0, rfl, rfl, .inr rfl, fun h => (by cases h), fun i hi => ⟨by rw [← hW0]; simp, ?_⟩⟩
    have : i = 0 ∨ i = 1 := by omega
    rcases this with rfl | rfl <;> rw [← hW0] <;> constructor <;> simp [go_sem, aL]
  rw [hW0]; clear hW0
  have HS := Lib.hid hs0
  refine (new_ok _ aL 10 10 10 W0 hs0 (by decide) aL_wf aL_rng aL_chk).mono ?_
  rintro e w1 ⟨N, vm, rfl, hI1, hE1, hlm⟩
  clear hs0
  have hA1 : CAt W0.heap.size w1 N vm (.slice none 0 0) (.slice none 0 0) aC := ⟨hI1, (fun b hb => by cases hb), fun b hb => (hlm b hb).2, aC_Ok⟩
  clear hlm
  clear hI1
  go_wp2_with fail
  have kp := cpos_any hA1.inv.box hA1.inv.sm aC_Ok.posOk
  rw [aC_start] at kp
  refine kp.mono ?_
  rintro e w2 ⟨rfl, hx2⟩
  clear kp
  have hA2 := hA1.later hx2
  have hE2 := hE1.trans hx2
  clear hA1 hE1 hx2
  simp only [P3]
  go_wp2_with fail
  go_loopw [4] (fun t wr => ∃ (k : Nat) (vp vq : Value), k ≤ 7 ∧ t = .int .i64 k ∧ CAt W0.heap.size wr N vm vp vq (iterC k aC) ∧ Ext W0 wr) (fun t _ => 7 - (intOf t).toNat)
  case atStart => exact ⟨0, _, _, by omega, rfl, hA2, hE2⟩
  case round =>
    clear hA2 hE2
    obtain ⟨k, vp, vq, hk, rfl, hA, hE⟩ := hrel
    have kt := tick_any hA (Nat.le_trans (aC_ps k (by omega)) (by decide))
    by_cases hlt : k < 7
    · rw [aC_ticks k hlt] at kt
      have KT := Lib.hid kt; clear kt
      go_wp2_with ((go_at_call 21; with_reducible refine KT.out.mono ?_); rintro e w3 ⟨rfl, vp', vq', hA3, hO3, _, _⟩)
      have hE3 := hA.ext hE hO3
      clear KT hA hO3
      go_roundw
      case rel => exact ⟨k + 1, vp', vq', by omega, by go_num, hA3, hE3⟩
      case measure => simp [intOf]; omega
    · obtain rfl : k = 7 := by omega
      rw [aC_end] at kt
      have KT := Lib.hid kt; clear kt
      go_wp2_with ((go_at_call 21; with_reducible refine KT.out.mono ?_); rintro e w3 ⟨rfl, vp', vq', hA3, hO3, _, _⟩)
      have hE3 := hA.ext hE hO3
      clear KT hA hO3
      have e7 : (iterC 7 aC).tickC = iterC 7 aC := by unfold Ctl.tickC; rw [aC_end]; rfl
      rw [e7] at hA3
      clear e7
      have hs3 := HS.out.later hE3
      have HS3 := Lib.hid hs3
      obtain ⟨ad, n, cap, b, off, hv, hn, h3, -, h4⟩ := hs3
      cases hv
      obtain ⟨hb1, hb2⟩ := h4 1 (by decide)
      have hbb := h3.resolve_left (by decide)
      injection hbb with hbb
      injection hbb with e1 e2
      subst e1 e2
      have d3 := Later.cell hb2.c3; have d4 := Later.cell hb2.c4; have d5 := Later.cell hb2.c5
      have g1 : aL.getD 1 Mot.zero = ⟨30, 0, 0, 30, 40, 0, 0, 1, 0⟩ := rfl
      rw [g1] at d3 d4 d5
      simp only [Nat.zero_add, Nat.one_mul, Nat.reduceAdd] at d3 d4 d5
      clear g1 h3 h4 hb1 hb2 hn
      have ki : ∀ w', Ext w3 w' → Calls Try.prog 23 #[.pointer (some ⟨N, 0, none⟩)] w' fun e w'' => e = .returned (.int .i64 2) ∧ w' = w'' := fun w' he => by
        have := index_any (hA3.later he).inv.box
        rw [aC_idx] at this
        exact this
      have KI := Lib.hid ki; clear ki
      have kp : ∀ w', Ext w3 w' → Calls Try.prog 30 #[.pointer (some ⟨N, 0, none⟩)] w' fun e w'' => e = .returned (Ps 30 40 0) ∧ Ext w' w'' := fun w' he => by
        have := cpos_any (hA3.later he).inv.box (hA3.later he).inv.sm (hA3.later he).ok.posOk
        rw [aC_at3] at this
        exact this
      have KP := Lib.hid kp; clear kp
      have kd : ∀ w', Ext w3 w' → Calls Try.prog 19 #[.pointer (some ⟨N, 0, none⟩)] w' (RetMots w' aL) := fun w' he => by
        have := done_any (hA3.later he).inv (hA3.later he).ok.posOk (Nat.le_trans (aC_ps 7 (by omega)) (by decide))
        rw [aC_done] at this
        exact this
      have KD := Lib.hid kd; clear kd
      clear hA3
      have hE4 := hE0.trans hE3
      clear hE hE0
      go_wp2_with fail
      refine wp_region_tree (fun w' => ∃ y : Later w3, w' = y.w) 27 (.one [0, 1, 2, 3, 4, 5, 6, 7] 8 (.one [9, 10, 11, 12, 14, 15, 16, 17] 13 (.one [18, 19, 20, 21, 23] 22 (.one [] 24 (.leaf [25, 26]))))) (by kernel_rfl) (by kernel_rfl) (by kernel_rfl) ⟨⟨_, (Ext.refl w3).drew⟩, rfl⟩ ?_
      simp only [List.take_succ_cons, List.take_zero]
      refine tree_one fun K hK => ?_
      simp only [List.map_cons, List.map_nil, pickOp, List.getElem?_cons_zero, List.getElem?_cons_succ, Option.getD_some]
      repeat (go_big_quiet_step (fail))
      refine wpQuiet_nil ?_
      go_wp2_with ((go_at_call 23; with_reducible refine (KI.out _ (Ext.refl w3).drew).mono ?_); rintro e w4 ⟨rfl, hx4⟩)
      subst hx4
      refine onlyK_normal (hK _ _ ⟨⟨_, (Ext.refl w3).drew⟩, rfl⟩ ?_); clear hK K
      refine tree_one fun K hK => ?_
      simp only [List.map_cons, List.map_nil, pickOp, List.getElem?_cons_zero, List.getElem?_cons_succ, Option.getD_some]
      repeat (go_big_quiet_step (fail))
      refine wpQuiet_nil ?_
      go_wp2_with ((go_at_call 30; with_reducible refine (KP.out _ (Ext.refl w3).drew).mono ?_); rintro e w5 ⟨rfl, hx5⟩)
      have hx5' := (Ext.refl w3).drew.trans hx5
      clear hx5
      refine onlyK_normal (hK _ _ ⟨⟨_, hx5'⟩, rfl⟩ ?_); clear hK K
      refine tree_one fun K hK => ?_
      simp only [List.map_cons, List.map_nil, pickOp, List.getElem?_cons_zero, List.getElem?_cons_succ, Option.getD_some]
      repeat (go_big_quiet_step (fail))
      refine wpQuiet_nil ?_
      go_wp2_with ((go_at_call 19; with_reducible refine (KD.out _ hx5').mono ?_); rintro e w6 ⟨v6, rfl, own6, hx6⟩)
      have hx6' := hx5'.trans hx6
      clear hx6
      refine onlyK_normal (hK _ _ ⟨⟨_, hx6'⟩, rfl⟩ ?_); clear hK K
      refine tree_one0 fun K hK => ?_
      simp only [pickOp, List.getElem?_cons_zero, List.getElem?_cons_succ, Option.getD_some]
      have ks := rsame_any v6 _ aL aL w6 own6.sl (HS3.out.later hx6') (by decide) (by decide)
      have ed : decide (aL = aL) = true := by decide +kernel
      rw [ed] at ks
      have KS := Lib.hid ks
      clear ks ed
      go_wp2_with ((go_at_call 24; with_reducible refine KS.out.mono ?_); rintro e w7 ⟨rfl, hx7⟩)
      have hx7' := hx6'.trans hx7
      clear hx7
      refine onlyK_normal (hK _ _ ⟨⟨_, hx7'⟩, rfl⟩ ?_); clear hK K
      refine tree_leaf ?_
      simp only [List.map_cons, List.map_nil, pickOp, List.getElem?_cons_zero, List.getElem?_cons_succ, Option.getD_some, List.drop_succ_cons, List.drop_zero]
      repeat (go_big_quiet_step (fail))
      refine wpQuiet_nil ?_
      go_wp2
      go_ret
      exact ⟨rfl, hE4.trans hx7'⟩

end Go.Proofs.Ytfmjmabaabmgcaa

namespace Go.Proofs.Ytfmjmabaabmgcaa
open Go.RowKit
set_option maxRecDepth 8000

theorem conn_bad {l : List Mot} {k : Nat} (hk : k < l.length) (h : goodAt l k = false) : conn l = 1 := by
  have := goodTo_false h l.length hk
  simp [conn, this]
theorem conn_far {l : List Mot} {k : Nat} (hk : k < l.length) (hg : goodTo l l.length = true) (h : rngAt l k = false) : conn l = 11 := by
  have := rngTo_false h l.length hk
  simp [conn, this, hg]
theorem eqP_symm (a b c d e f : Int) : eqP a b c d e f = eqP d e f a b c := by
  unfold eqP
  rw [decide_eq_decide]
  omega

set_option maxHeartbeats 4000000 in
theorem connected_core (ad : Option Addr) (cap b off : Nat) (l : List Mot) (w : World) (hn : l.length ≤ 9223372036854775807) (had : l.length = 0 ∨ ad = some ⟨b, off, none⟩) (hc : ∀ i, i < l.length → b < w.heap.size ∧ CellsM w b (off + i * 9) (l.getD i Mot.zero)) (hw : ∀ i, i < l.length → (l.getD i Mot.zero).wf) :
    Calls Try.prog 13 #[.slice ad l.length cap] w fun e w' => e = .returned (.int .i64 (conn l)) ∧ Ext w w' := by
  have HC := Lib.hid hc; clear hc
  have HAD := Lib.hid had; clear had
  have HW := Lib.hid hw; clear hw
  generalize hN : l.length = n at *
  have HN := Lib.hid hN; clear hN
  go_enter Try.func13, Try.ntmps13
  go_wp2
  go_loopw [3] (fun t wr => ∃ (k : Nat) (x : Later w), k ≤ n ∧ t = .int .i64 k ∧ wr = x.w ∧ goodTo l k = true) (fun t _ => n - (intOf t).toNat)
  case atStart => exact ⟨0, Later.self w, by omega, rfl, rfl, rfl⟩
  case round =>
    obtain ⟨k, x, hk, rfl, rfl, hall⟩ := hrel
    have HA := Lib.hid hall; clear hall
    by_cases hlt : k < n
    · obtain ⟨hb1, hb2⟩ := HC.out k hlt
      obtain rfl : ad = some ⟨b, off, none⟩ := (HAD.out).resolve_left (by omega)
      have hE := x.ext
      have hb3 := hb2.later hb1 x.ext
      have c0 := Later.cell hb3.c0; have c1 := Later.cell hb3.c1; have c2 := Later.cell hb3.c2; have c6 := Later.cell hb3.c6
      clear hb3 hb2
      generalize x.w = wx at *
      clear x
      cases hr : decide ((l.getD k Mot.zero).rate < 0)
      · rcases Nat.eq_zero_or_pos k with hk0 | hk0
        · have hg : goodAt l k = true := by simp [goodAt, hk0]; simpa [hk0] using hr
          have HG := Lib.hid (goodTo_succ HA.out hg)
          clear hg
          subst hk0
          simp only [Nat.zero_mul, Nat.add_zero] at c0 c1 c2 c6
          generalize l.getD 0 Mot.zero = p at *
          go_wp2_with fail
          refine wp_region_later (by kernel_rfl) (by kernel_rfl) ?_
          repeat (go_big_quiet_step (fail))
          refine wpQuiet_nil ?_
          rintro _ ⟨x2, rfl⟩
          go_wp2
          go_roundw
          case rel => exact ⟨0 + 1, ⟨x2.w, hE.trans x2.ext⟩, by omega, by go_num, rfl, HG.out⟩
          case measure => simp [intOf]; omega
        · obtain ⟨k, rfl⟩ : ∃ i, k = i + 1 := ⟨k - 1, by omega⟩
          obtain ⟨hqb, hq⟩ := HC.out k (by omega)
          have hq3 := hq.later hqb hE
          have r3 := Later.cell hq3.c3; have r4 := Later.cell hq3.c4; have r5 := Later.cell hq3.c5
          clear hq hq3
          have hd1 : decide (((k + 1 : Nat) : Int) > 0) = true := by simp
          have hne := fun w => Try.neq_pos (l.getD (k + 1) Mot.zero).fx (l.getD (k + 1) Mot.zero).fy (l.getD (k + 1) Mot.zero).fz (l.getD k Mot.zero).tx (l.getD k Mot.zero).ty (l.getD k Mot.zero).tz w
          have hsy := eqP_symm (l.getD (k + 1) Mot.zero).fx (l.getD (k + 1) Mot.zero).fy (l.getD (k + 1) Mot.zero).fz (l.getD k Mot.zero).tx (l.getD k Mot.zero).ty (l.getD k Mot.zero).tz
          have e1 : (((k + 1 : Nat) : Int) - 1).toNat = k := by omega
          cases he : eqP (l.getD k Mot.zero).tx (l.getD k Mot.zero).ty (l.getD k Mot.zero).tz (l.getD (k + 1) Mot.zero).fx (l.getD (k + 1) Mot.zero).fy (l.getD (k + 1) Mot.zero).fz
          · have hf := conn_bad (l := l) (k := k + 1) (by rw [HN.out]; exact hlt) (by simp only [goodAt, hr, Nat.add_sub_cancel, he]; simp)
            have HF := Lib.hid hf
            rw [hsy, he] at hne
            clear hf he hsy
            generalize l.getD (k + 1) Mot.zero = p at *
            generalize l.getD k Mot.zero = q at *
            go_wp2_with fail
            refine wp_region_later (by kernel_rfl) (by kernel_rfl) ?_
            repeat (go_big_quiet_step (fail))
            refine wpQuiet_nil ?_
            rintro _ ⟨x2, rfl⟩
            go_wp2
            go_ret
            exact ⟨ret_int HF.out.symm, hE.trans x2.ext⟩
          · have hg : goodAt l (k + 1) = true := by simp only [goodAt, hr, Nat.add_sub_cancel, he]; simp
            have HG := Lib.hid (goodTo_succ HA.out hg)
            rw [hsy, he] at hne
            clear hg he hsy
            generalize l.getD (k + 1) Mot.zero = p at *
            generalize l.getD k Mot.zero = q at *
            go_wp2_with fail
            refine wp_region_later (by kernel_rfl) (by kernel_rfl) ?_
            repeat (go_big_quiet_step (fail))
            refine wpQuiet_nil ?_
            rintro _ ⟨x2, rfl⟩
            go_wp2
            go_roundw
            case rel => exact ⟨k + 1 + 1, ⟨x2.w, hE.trans x2.ext⟩, by omega, by go_num, rfl, HG.out⟩
            case measure => simp [intOf]; omega
      · have hf := conn_bad (l := l) (k := k) (by rw [HN.out]; exact hlt) (by simp only [goodAt, hr]; simp)
        have HF := Lib.hid hf
        clear hf
        generalize l.getD k Mot.zero = p at *
        go_wp2_with fail
        refine wp_region_later (by kernel_rfl) (by kernel_rfl) ?_
        repeat (go_big_quiet_step (fail))
        refine wpQuiet_nil ?_
        rintro _ ⟨x2, rfl⟩
        go_wp2
        go_ret
        exact ⟨ret_int HF.out.symm, hE.trans x2.ext⟩
    · have hkn : k = n := by omega
      have hg0 := HA.out
      rw [hkn, ← HN.out] at hg0
      have HG0 := Lib.hid hg0
      clear hkn hg0 HA
      have hEx := x.ext
      obtain ⟨wx, hwx⟩ : ∃ wx, x.w = wx := ⟨_, rfl⟩
      rw [hwx] at hEx ⊢
      clear hwx x
      go_wp2
      clear hlt hk
      go_loopw [4] (fun t wr => ∃ (k : Nat) (x : Later wx), k ≤ n ∧ t = .int .i64 k ∧ wr = x.w ∧ rngTo l k = true) (fun t _ => n - (intOf t).toNat)
      case atStart => exact ⟨0, Later.self wx, by omega, rfl, rfl, rfl⟩
      case round =>
        obtain ⟨k, x, hk, rfl, rfl, hall⟩ := hrel
        have HA := Lib.hid hall; clear hall
        by_cases hlt : k < n
        · obtain ⟨hb1, hb2⟩ := HC.out k hlt
          obtain rfl : ad = some ⟨b, off, none⟩ := (HAD.out).resolve_left (by omega)
          have hb3 := (hb2.later hb1 hEx).later (Nat.lt_of_lt_of_le hb1 hEx.size) x.ext
          have hR : rngAt l k = (decide (inP (l.getD k Mot.zero).fx (l.getD k Mot.zero).fy (l.getD k Mot.zero).fz) && decide (inP (l.getD k Mot.zero).tx (l.getD k Mot.zero).ty (l.getD k Mot.zero).tz)) := by
            simp [rngAt, Mot.rng, inP]
          have hX := conn_far (l := l) (k := k) (by rw [HN.out]; exact hlt) HG0.out
          have HX := Lib.hid hX; have HR := Lib.hid hR
          clear hX hR
          obtain ⟨a0, a1, a2, a3, a4, a5, a6⟩ := HW.out k hlt
          have hE := hEx.trans x.ext
          have hxx := x.ext
          clear hb2
          generalize x.w = wy at *
          clear x
          generalize l.getD k Mot.zero = p at *
          have kf := fun w => rfar_any p.fx p.fy p.fz w a0.1 a0.2 a1.1 a1.2 a2.1 a2.2
          have kt := fun w => rfar_any p.tx p.ty p.tz w a3.1 a3.2 a4.1 a4.2 a5.1 a5.2
          have KF := Lib.hid kf; have KT := Lib.hid kt
          clear kf kt a0 a1 a2 a3 a4 a5 a6
          cases hF : decide (inP p.fx p.fy p.fz)
          · have HF := Lib.hid (HX.out (by rw [HR.out, hF]; rfl))
            rw [hF] at KF
            clear hF HX HR KT
            have c0 := hb3.c0; have c1 := hb3.c1; have c2 := hb3.c2
            go_wp2_with ((go_at_call 37; with_reducible refine (KF.out _).mono ?_); rintro e w' ⟨rfl, hx'⟩)
            go_ret
            exact ⟨ret_int HF.out.symm, hE.trans hx'⟩
          · rw [hF] at KF
            have c0 := hb3.c0; have c1 := hb3.c1; have c2 := hb3.c2
            cases hT : decide (inP p.tx p.ty p.tz)
            · have HF := Lib.hid (HX.out (by rw [HR.out, hF, hT]; rfl))
              rw [hT] at KT
              clear hF hT HX HR
              go_wp2_with fail
              refine (KF.out _).mono ?_
              rintro e w' ⟨rfl, hx'⟩
              have hb4 := hb3.later (Nat.lt_of_lt_of_le hb1 hE.size) hx'
              clear c0 c1 c2 hb3
              have c3 := hb4.c3; have c4 := hb4.c4; have c5 := hb4.c5
              go_wp2_with fail
              refine (KT.out _).mono ?_
              rintro e w'' ⟨rfl, hx''⟩
              clear c3 c4 c5 hb4
              go_wp2
              go_ret
              exact ⟨ret_int HF.out.symm, hE.trans (hx'.trans hx'')⟩
            · have HG := Lib.hid (rngTo_succ HA.out (by rw [HR.out, hF, hT]; rfl))
              rw [hT] at KT
              clear hF hT HX HR
              go_wp2_with fail
              refine (KF.out _).mono ?_
              rintro e w' ⟨rfl, hx'⟩
              have hb4 := hb3.later (Nat.lt_of_lt_of_le hb1 hE.size) hx'
              clear c0 c1 c2 hb3
              have c3 := hb4.c3; have c4 := hb4.c4; have c5 := hb4.c5
              go_wp2_with fail
              refine (KT.out _).mono ?_
              rintro e w'' ⟨rfl, hx''⟩
              clear c3 c4 c5 hb4
              go_wp2
              go_roundw
              case rel => exact ⟨k + 1, ⟨w'', hxx.trans (hx'.trans hx'')⟩, by omega, by go_num, rfl, HG.out⟩
              case measure => simp [intOf]; omega
        · have hkn : k = n := by omega
          have hr0 := HA.out
          rw [hkn, ← HN.out] at hr0
          have hF : conn l = if 20000 < n then 3 else 0 := by
            unfold conn
            rw [HG0.out, hr0, HN.out]
            rfl
          have HF := Lib.hid hF
          clear hF hr0 hkn HA HG0
          have hE := hEx.trans x.ext
          by_cases hbig : 20000 < n
          · go_wp2
            go_ret
            exact ⟨ret_int (by rw [HF.out, if_pos hbig]), hE⟩
          · go_wp2
            go_ret
            exact ⟨ret_int (by rw [HF.out, if_neg hbig]), hE⟩

theorem connected_any (v : Value) (l : List Mot) (w : World) (h : SlM w v l) (hn : l.length ≤ 9223372036854775807) (hw : ∀ i, i < l.length → (l.getD i Mot.zero).wf) :
    Calls Try.prog 13 #[v] w fun e w' => e = .returned (.int .i64 (conn l)) ∧ Ext w w' := by
  obtain ⟨ad, n, cap, b, off, rfl, rfl, h3, -, h4⟩ := h
  exact connected_core ad cap b off l w hn h3 h4 hw

end Go.Proofs.Ytfmjmabaabmgcaa

namespace Go.Proofs.Ytfmjmabaabmgcaa
open Go.RowKit
set_option maxRecDepth 8000

/-- A world with three cells more, which hold these values. -/
structure B3 (W : World) (N : Nat) (x y z : Value) : Prop where
  c0 : W.cell? ⟨N, 0, none⟩ = some x
  c1 : W.cell? ⟨N, 1, none⟩ = some y
  c2 : W.cell? ⟨N, 2, none⟩ = some z
  f0 : W.frozen? ⟨N, 0, none⟩ = false
  f1 : W.frozen? ⟨N, 1, none⟩ = false
  f2 : W.frozen? ⟨N, 2, none⟩ = false
  lt : N < W.heap.size
theorem B3.mk' (w : World) (x y z : Value) (t : TypeId) : ∃ W : World, w.alloc (.cells #[x, y, z] t) = W ∧ B3 W w.heap.size x y z ∧ Ext w W := by
  refine ⟨_, rfl, ?_, (Ext.refl w).alloc _⟩
  constructor <;> simp [go_sem]
theorem B3.only {D : Nat → Prop} {W W' : World} {N : Nat} {x y z : Value} (h : B3 W N x y z) (k : Only D W W') (hd : ¬ D N) : B3 W' N x y z :=
  ⟨by rw [k.cell h.lt hd]; exact h.c0, by rw [k.cell h.lt hd]; exact h.c1, by rw [k.cell h.lt hd]; exact h.c2, by rw [k.frozen h.lt hd]; exact h.f0, by rw [k.frozen h.lt hd]; exact h.f1, by rw [k.frozen h.lt hd]; exact h.f2, Nat.lt_of_lt_of_le h.lt k.size⟩
theorem B3.later {W W' : World} {N : Nat} {x y z : Value} (h : B3 W N x y z) (k : Ext W W') : B3 W' N x y z := h.only (D := fun _ => False) (Only.of_ext k) (fun h => h)

set_option maxHeartbeats 2000000 in
theorem small_any (s a j : Int) (w : World) :
    Calls Try.prog 10 #[Lm s a j] w fun e w' => e = .returned (.tuple #[Lm s a j, .bool (vld s a j)]) ∧ Ext w w' := by
  have kv := fun w => valid_any s a j w
  have hc : (vcode s a j == 0) = vld s a j := by unfold vcode; cases vld s a j <;> rfl
  have KV := Lib.hid kv; clear kv
  generalize vld s a j = bv at *
  generalize vcode s a j = cv at *
  go_enter Try.func10, Try.ntmps10
  go_wp2_with fail
  obtain ⟨W0, hW0⟩ : ∃ W0 : World, w.alloc (.cells #[.int .i64 s, .int .i64 a, .int .i64 j] 23) = W0 := ⟨_, rfl⟩
  have hz0 : W0.heap.size = w.heap.size + 1 := by rw [← hW0]; simp
  have hE0 : Ext w W0 := by rw [← hW0]; exact (Ext.refl w).alloc _
  rw [hW0]; clear hW0
  obtain ⟨W1, hW1, Z1, hE1⟩ := B3.mk' W0 (.int .i64 0) (.int .i64 0) (.int .i64 0) 25
  have hz1 : W1.heap.size = w.heap.size + 1 + 1 := by rw [← hW1]; simp [hz0]
  rw [hW1]; clear hW1
  obtain ⟨W2, hW2, L2, hE2⟩ := B3.mk' W1 (.int .i64 s) (.int .i64 a) (.int .i64 j) 25
  rw [hW2]; clear hW2
  have Z2 := Z1.later hE2
  rw [hz0] at Z2
  rw [hz1] at L2
  have hE3 := hE0.trans (hE1.trans hE2)
  clear hE0 hE1 hE2 Z1 hz0 hz1
  clear W0 W1
  have d0 := Chg.cell (D := fun k => k = w.heap.size + 1) L2.c0 (by simp); have d1 := Chg.cell (D := fun k => k = w.heap.size + 1) L2.c1 (by simp); have d2 := Chg.cell (D := fun k => k = w.heap.size + 1) L2.c2 (by simp)
  refine wp_region_tree (fun w' => ∃ y : Chg (fun k => k = w.heap.size + 1) W2, w' = y.w) 6 (.one [0, 1] 2 (.one [3] 4 (.leaf [5]))) (by kernel_rfl) (by kernel_rfl) (by kernel_rfl) ⟨⟨_, (Only.refl _ W2).drew⟩, rfl⟩ ?_
  simp only [List.take_succ_cons, List.take_zero]
  refine tree_one fun K hK => ?_
  simp only [List.map_cons, List.map_nil, pickOp, List.getElem?_cons_zero, List.getElem?_cons_succ, Option.getD_some]
  repeat (go_big_quiet_step (fail))
  refine wpQuiet_nil ?_
  go_wp2_with ((go_at_call 33; with_reducible refine (KV.out _).mono ?_); rintro e w3 ⟨rfl, hx3⟩)
  have hO3 : Only (fun k => k = w.heap.size + 1) W2 w3 := (Only.refl _ W2).drew.trans (Only.of_ext hx3)
  have Z3 := Z2.later ((Ext.refl W2).drew.trans hx3)
  have hE4 := hE3.drew.trans hx3
  clear hx3 Z2
  refine onlyK_normal (hK _ _ ⟨⟨_, hO3⟩, rfl⟩ ?_); clear hK K
  refine tree_one fun K hK => ?_
  simp only [List.map_cons, List.map_nil, pickOp, List.getElem?_cons_zero, List.getElem?_cons_succ, Option.getD_some]
  repeat (go_big_quiet_step (fail))
  refine wpQuiet_nil ?_
  have z0 := Z3.c0; have z1 := Z3.c1; have z2 := Z3.c2; have y0 := Z3.f0; have y1 := Z3.f1; have y2 := Z3.f2
  go_wp2_with fail
  have hO4 := hO3.set3 (.inl rfl) (.int .i64 s) (.int .i64 a) (.int .i64 j)
  refine onlyK_normal (hK _ _ ⟨⟨_, hO4⟩, rfl⟩ ?_); clear hK K
  refine tree_leaf ?_
  simp only [List.map_cons, List.map_nil, pickOp, List.getElem?_cons_zero, List.getElem?_cons_succ, Option.getD_some, List.drop_succ_cons, List.drop_zero]
  repeat (go_big_quiet_step (fail))
  refine wpQuiet_nil ?_
  go_wp2
  refine bodyPost_ret (v := .tuple #[Lm s a j, .bool bv]) (by simp [results, Try.results10, go_sem, z0, z1, z2]) rfl ⟨rfl, ?_⟩
  exact Ext.of_only ((Only.of_ext hE4).set3 (.inr (Nat.le_succ _)) _ _ _)

/-- The sum of the first lengths. -/
def lsum (l : List Mot) : Nat → Int
  | 0 => 0
  | k + 1 => lsum l k + (l.getD k Mot.zero).len
/-- Motions are few, and short. -/
def shrt (l : List Mot) : Bool := decide (l.length ≤ 8) && decide (lsum l l.length ≤ 2000)

set_option maxHeartbeats 4000000 in
theorem short_any (v : Value) (l : List Mot) (w : World) (h : SlM w v l) (hn : l.length ≤ 9223372036854775807) (hw : ∀ i, i < l.length → (l.getD i Mot.zero).wf) (hr : ∀ i, i < l.length → (l.getD i Mot.zero).rng) :
    Calls Try.prog 47 #[v] w fun e w' => e = .returned (.bool (shrt l)) ∧ Ext w w' := by
  obtain ⟨ad, n, cap, b, off, rfl, hN, h3, -, h4⟩ := h
  by_cases h8 : l.length ≤ 8
  · have HR := Lib.hid hr; have HW := Lib.hid hw; have HC := Lib.hid h4; have HAD := Lib.hid h3
    clear hr hw h4 h3
    rw [← hN] at h8 hn
    have hF : shrt l = decide (lsum l n ≤ 2000) := by unfold shrt; rw [← hN]; simp [h8]
    have HF := Lib.hid hF
    have HN := Lib.hid hN
    clear hN hF hn
    have h8' : decide ((n : Int) ≤ 8) = true := by simp; omega
    go_enter Try.func47, Try.ntmps47
    go_wp2
    go_loopw [3, 4] (fun u t wr => ∃ (k : Nat) (x : Later w), k ≤ n ∧ t = .int .i64 k ∧ u = .int .i64 (lsum l k) ∧ wr = x.w ∧ 0 ≤ lsum l k ∧ lsum l k ≤ 40000000 * k) (fun _ t _ => n - (intOf t).toNat)
    case atStart => exact ⟨0, Later.self w, by omega, rfl, rfl, rfl, by simp [lsum], by simp [lsum]⟩
    case round =>
      obtain ⟨k, x, hk, rfl, rfl, rfl, hs0, hs1⟩ := hrel
      by_cases hlt : k < n
      · obtain ⟨hb1, hb2⟩ := HC.out k hlt
        obtain rfl : ad = some ⟨b, off, none⟩ := (HAD.out).resolve_left (by omega)
        have hE := x.ext
        have hb3 := hb2.later hb1 x.ext
        clear hb2
        generalize x.w = wx at *
        clear x
        have hl : k < l.length := by rw [← HN.out]; exact hlt
        obtain ⟨a0, a1, a2, a3, a4, a5, a6⟩ := HW.out k hl
        have hrr := HR.out k hl
        have hlb := Mot.len_bounds hrr
        have HS : Hid (lsum l (k + 1) = lsum l k + (l.getD k Mot.zero).len) := Lib.hid rfl
        generalize l.getD k Mot.zero = p at *
        generalize lsum l k = S at *
        have eF : decide (inP p.fx p.fy p.fz) = true := decide_eq_true (show inP p.fx p.fy p.fz from hrr.1)
        have eT : decide (inP p.tx p.ty p.tz) = true := decide_eq_true (show inP p.tx p.ty p.tz from hrr.2)
        have kf := fun w => rfar_any p.fx p.fy p.fz w a0.1 a0.2 a1.1 a1.2 a2.1 a2.2
        have kt := fun w => rfar_any p.tx p.ty p.tz w a3.1 a3.2 a4.1 a4.2 a5.1 a5.2
        rw [eF] at kf
        rw [eT] at kt
        have kl := fun w => rlength_any p w hrr
        have KF := Lib.hid kf; have KT := Lib.hid kt; have KL := Lib.hid kl
        clear kf kt kl a0 a1 a2 a3 a4 a5 a6 eF eT hrr hl
        have hb : b < wx.heap.size := Nat.lt_of_lt_of_le hb1 hE.size
        have c0 := hb3.c0; have c1 := hb3.c1; have c2 := hb3.c2
        go_wp2_with fail
        refine (KF.out _).mono ?_
        rintro e w1 ⟨rfl, hx1⟩
        have hb4 := hb3.later hb hx1
        clear c0 c1 c2 hb3
        have c3 := hb4.c3; have c4 := hb4.c4; have c5 := hb4.c5
        go_wp2_with fail
        refine (KT.out _).mono ?_
        rintro e w2 ⟨rfl, hx2⟩
        have hb5 := hb4.later (Nat.lt_of_lt_of_le hb hx1.size) hx2
        clear c3 c4 c5 hb4
        have c0 := hb5.c0; have c1 := hb5.c1; have c2 := hb5.c2; have c3 := hb5.c3; have c4 := hb5.c4; have c5 := hb5.c5; have c6 := hb5.c6; have c7 := hb5.c7; have c8 := hb5.c8
        go_wp2_with fail
        refine (KL.out _).mono ?_
        rintro e w3 ⟨rfl, hx3⟩
        clear c0 c1 c2 c3 c4 c5 c6 c7 c8 hb5
        generalize p.len = L at *
        go_wp2
        go_roundw
        case rel => exact ⟨k + 1, ⟨w3, hE.trans (hx1.trans (hx2.trans hx3))⟩, by omega, by go_num, by rw [HS.out], rfl, by rw [HS.out]; omega, by rw [HS.out]; omega⟩
        case measure => simp [intOf]; omega
      · obtain rfl : k = n := by omega
        have hE := x.ext
        generalize lsum l k = S at *
        by_cases hS : S ≤ 2000
        · go_wp2
          go_ret
          exact ⟨ret_bool (by rw [HF.out]; simp [hS]), hE⟩
        · go_wp2
          go_ret
          exact ⟨ret_bool (by rw [HF.out]; simp [hS]), hE⟩
  · have hF : shrt l = false := by unfold shrt; simp [h8]
    rw [hF]
    rw [← hN] at h8 hn
    clear hF h3 h4 hr hw hN
    have h8' : decide ((n : Int) ≤ 8) = false := by simp; omega
    have hn0 : decide ((0 : Int) < (n : Int)) = true := by simp; omega
    go_enter Try.func47, Try.ntmps47
    go_wp2
    go_loopw [3, 4] (fun u t wr => u = .int .i64 0 ∧ t = .int .i64 0 ∧ wr = w) (fun _ _ _ => 0)
    case atStart => exact ⟨rfl, rfl, rfl⟩
    case round =>
      obtain ⟨rfl, rfl, rfl⟩ := hrel
      go_wp2
      go_ret
      exact ⟨rfl, Ext.refl _⟩

/-- Motions are valid, short and not slow. -/
def rightB (l : List Mot) (s a j : Int) : Bool := vld s a j && decide (conn l = 0) && shrt l

set_option maxHeartbeats 4000000 in
theorem right_any (v : Value) (l : List Mot) (s a j : Int) (w : World) (h : SlM w v l) (hn : l.length ≤ 9223372036854775807) (hw : ∀ i, i < l.length → (l.getD i Mot.zero).wf) :
    Calls Try.prog 20 #[v, Lm s a j] w fun e w' => e = .returned (.tuple #[Lm s a j, .bool (rightB l s a j)]) ∧ Ext w w' := by
  have kc : ∀ w', Ext w w' → Calls Try.prog 13 #[v] w' fun e w'' => e = .returned (.int .i64 (conn l)) ∧ Ext w' w'' := fun w' he => connected_any v l w' (h.later he) hn hw
  have ks : conn l = 0 → ∀ w', Ext w w' → Calls Try.prog 47 #[v] w' fun e w'' => e = .returned (.bool (shrt l)) ∧ Ext w' w'' := fun hc w' he => short_any v l w' (h.later he) hn hw (fun i hi => rngTo_at (conn_zero hc).2.1 i hi)
  obtain ⟨ad, n, cap, b, off, hv, -⟩ := h
  subst hv
  have KC := Lib.hid kc; have KS := Lib.hid ks
  clear kc ks hw
  have hF : rightB l s a j = (vld s a j && decide (conn l = 0) && shrt l) := rfl
  have ksm := fun w => small_any s a j w
  have KM := Lib.hid ksm; clear ksm
  generalize rightB l s a j = R at *
  generalize vld s a j = bv at *
  go_enter Try.func20, Try.ntmps20
  go_wp2_with fail
  obtain ⟨W0, hW0⟩ : ∃ W0 : World, w.alloc (.cells #[.int .i64 s, .int .i64 a, .int .i64 j] 23) = W0 := ⟨_, rfl⟩
  have hz0 : W0.heap.size = w.heap.size + 1 := by rw [← hW0]; simp
  have hE0 : Ext w W0 := by rw [← hW0]; exact (Ext.refl w).alloc _
  rw [hW0]; clear hW0
  obtain ⟨W1, hW1, Z1, hE1⟩ := B3.mk' W0 (.int .i64 0) (.int .i64 0) (.int .i64 0) 25
  rw [hW1]; clear hW1
  refine (KM.out _).mono ?_
  rintro e w2 ⟨rfl, hx2⟩
  rw [hz0] at Z1
  have Z2 := Z1.later hx2
  have hE2 := (hE0.trans hE1).trans hx2
  clear Z1 hE0 hE1 hz0
  clear W0
  go_wp2_with fail
  obtain ⟨W3, hW3, L3, hE3⟩ := B3.mk' w2 (.int .i64 s) (.int .i64 a) (.int .i64 j) 25
  rw [hW3]; clear hW3
  have Z3 := Z2.later hE3
  have hE4 := hE2.trans hE3
  have hM : w.heap.size + 1 < w2.heap.size := Z2.lt
  generalize w2.heap.size = M at *
  clear Z2 hE3 hE2 hx2
  have hne : ¬ M = w.heap.size + 1 := by omega
  have d0 := Chg.cell (D := fun k => k = w.heap.size + 1) L3.c0 hne; have d1 := Chg.cell (D := fun k => k = w.heap.size + 1) L3.c1 hne; have d2 := Chg.cell (D := fun k => k = w.heap.size + 1) L3.c2 hne
  clear L3
  cases bv
  · have HR : Hid (R = false) := Lib.hid (by rw [hF]; rfl)
    clear hF KC KS
    refine wp_region_tree (fun w' => ∃ y : Chg (fun k => k = w.heap.size + 1) W3, w' = y.w) 13 (.one [0, 1, 2, 3] 4 (.one [5, 6, 7, 8] 9 (.one [10] 11 (.leaf [12])))) (by kernel_rfl) (by kernel_rfl) (by kernel_rfl) ⟨⟨_, (Only.refl _ W3).drew⟩, rfl⟩ ?_
    simp only [List.take_succ_cons, List.take_zero]
    refine tree_one fun K hK => ?_
    simp only [List.map_cons, List.map_nil, pickOp, List.getElem?_cons_zero, List.getElem?_cons_succ, Option.getD_some]
    repeat (go_big_quiet_step (fail))
    refine wpQuiet_nil ?_
    go_wp2_with fail
    have hx4 := (Ext.refl W3).drew
    refine onlyK_normal (hK _ _ ⟨⟨_, Only.of_ext hx4⟩, rfl⟩ ?_); clear hK K
    refine tree_one fun K hK => ?_
    simp only [List.map_cons, List.map_nil, pickOp, List.getElem?_cons_zero, List.getElem?_cons_succ, Option.getD_some]
    repeat (go_big_quiet_step (fail))
    refine wpQuiet_nil ?_
    go_wp2_with fail
    have hx5 := hx4
    refine onlyK_normal (hK _ _ ⟨⟨_, Only.of_ext hx5⟩, rfl⟩ ?_); clear hK K
    refine tree_one fun K hK => ?_
    simp only [List.map_cons, List.map_nil, pickOp, List.getElem?_cons_zero, List.getElem?_cons_succ, Option.getD_some]
    repeat (go_big_quiet_step (fail))
    refine wpQuiet_nil ?_
    have Z5 := Z3
    have z0 := Z5.c0; have z1 := Z5.c1; have z2 := Z5.c2; have y0 := Z5.f0; have y1 := Z5.f1; have y2 := Z5.f2
    go_wp2_with fail
    have hO6 := ((Only.of_ext (D := fun k => k = w.heap.size + 1) (Ext.refl W3)).set3 (.inl rfl) (.int .i64 s) (.int .i64 a) (.int .i64 j)).drew
    refine onlyK_normal (hK _ _ ⟨⟨_, hO6⟩, rfl⟩ ?_); clear hK K
    refine tree_leaf ?_
    simp only [List.map_cons, List.map_nil, pickOp, List.getElem?_cons_zero, List.getElem?_cons_succ, Option.getD_some, List.drop_succ_cons, List.drop_zero]
    repeat (go_big_quiet_step (fail))
    refine wpQuiet_nil ?_
    go_wp2
    refine bodyPost_ret (v := .tuple #[Lm s a j, .bool R]) (by simp [results, Try.results20, go_sem, z0, z1, z2, HR.out]) rfl ⟨rfl, ?_⟩
    exact Ext.of_only (((Only.of_ext hE4).set3 (.inr (Nat.le_succ _)) _ _ _).drew)
  · by_cases hc : conn l = 0
    · have HR : Hid (R = shrt l) := Lib.hid (by rw [hF]; simp [hc])
      have KS := Lib.hid (KS.out hc)
      rw [hc] at KC
      clear hF hc
      generalize shrt l = bs at *
      refine wp_region_tree (fun w' => ∃ y : Chg (fun k => k = w.heap.size + 1) W3, w' = y.w) 13 (.one [0, 1, 2, 3] 4 (.one [5, 6, 7, 8] 9 (.one [10] 11 (.leaf [12])))) (by kernel_rfl) (by kernel_rfl) (by kernel_rfl) ⟨⟨_, (Only.refl _ W3).drew⟩, rfl⟩ ?_
      simp only [List.take_succ_cons, List.take_zero]
      refine tree_one fun K hK => ?_
      simp only [List.map_cons, List.map_nil, pickOp, List.getElem?_cons_zero, List.getElem?_cons_succ, Option.getD_some]
      repeat (go_big_quiet_step (fail))
      refine wpQuiet_nil ?_
      go_wp2_with ((go_at_call 13; with_reducible refine (KC.out _ hE4.drew).mono ?_); rintro e w4 ⟨rfl, hx4'⟩)
      have hx4 := (Ext.refl W3).drew.trans hx4'
      refine onlyK_normal (hK _ _ ⟨⟨_, Only.of_ext hx4⟩, rfl⟩ ?_); clear hK K
      refine tree_one fun K hK => ?_
      simp only [List.map_cons, List.map_nil, pickOp, List.getElem?_cons_zero, List.getElem?_cons_succ, Option.getD_some]
      repeat (go_big_quiet_step (fail))
      refine wpQuiet_nil ?_
      go_wp2_with ((go_at_call 47; with_reducible refine (KS.out _ (hE4.trans hx4)).mono ?_); rintro e w5 ⟨rfl, hx5'⟩)
      have hx5 := hx4.trans hx5'
      refine onlyK_normal (hK _ _ ⟨⟨_, Only.of_ext hx5⟩, rfl⟩ ?_); clear hK K
      refine tree_one fun K hK => ?_
      simp only [List.map_cons, List.map_nil, pickOp, List.getElem?_cons_zero, List.getElem?_cons_succ, Option.getD_some]
      repeat (go_big_quiet_step (fail))
      refine wpQuiet_nil ?_
      have Z5 := Z3.later hx5
      have z0 := Z5.c0; have z1 := Z5.c1; have z2 := Z5.c2; have y0 := Z5.f0; have y1 := Z5.f1; have y2 := Z5.f2
      go_wp2_with fail
      have hO6 := (Only.of_ext (D := fun k => k = w.heap.size + 1) hx5).set3 (.inl rfl) (.int .i64 s) (.int .i64 a) (.int .i64 j)
      refine onlyK_normal (hK _ _ ⟨⟨_, hO6⟩, rfl⟩ ?_); clear hK K
      refine tree_leaf ?_
      simp only [List.map_cons, List.map_nil, pickOp, List.getElem?_cons_zero, List.getElem?_cons_succ, Option.getD_some, List.drop_succ_cons, List.drop_zero]
      repeat (go_big_quiet_step (fail))
      refine wpQuiet_nil ?_
      go_wp2
      refine bodyPost_ret (v := .tuple #[Lm s a j, .bool R]) (by simp [results, Try.results20, go_sem, z0, z1, z2, HR.out]) rfl ⟨rfl, ?_⟩
      exact Ext.of_only ((Only.of_ext (hE4.trans hx5)).set3 (.inr (Nat.le_succ _)) _ _ _)
    · have HR : Hid (R = false) := Lib.hid (by rw [hF]; simp [hc])
      clear hF KS
      generalize conn l = cn at *
      have hc0 : (cn == 0) = false := by simpa using hc
      refine wp_region_tree (fun w' => ∃ y : Chg (fun k => k = w.heap.size + 1) W3, w' = y.w) 13 (.one [0, 1, 2, 3] 4 (.one [5, 6, 7, 8] 9 (.one [10] 11 (.leaf [12])))) (by kernel_rfl) (by kernel_rfl) (by kernel_rfl) ⟨⟨_, (Only.refl _ W3).drew⟩, rfl⟩ ?_
      simp only [List.take_succ_cons, List.take_zero]
      refine tree_one fun K hK => ?_
      simp only [List.map_cons, List.map_nil, pickOp, List.getElem?_cons_zero, List.getElem?_cons_succ, Option.getD_some]
      repeat (go_big_quiet_step (fail))
      refine wpQuiet_nil ?_
      go_wp2_with ((go_at_call 13; with_reducible refine (KC.out _ hE4.drew).mono ?_); rintro e w4 ⟨rfl, hx4'⟩)
      have hx4 := (Ext.refl W3).drew.trans hx4'
      refine onlyK_normal (hK _ _ ⟨⟨_, Only.of_ext hx4⟩, rfl⟩ ?_); clear hK K
      refine tree_one fun K hK => ?_
      simp only [List.map_cons, List.map_nil, pickOp, List.getElem?_cons_zero, List.getElem?_cons_succ, Option.getD_some]
      repeat (go_big_quiet_step (fail))
      refine wpQuiet_nil ?_
      go_wp2_with fail
      have hx5 := hx4
      refine onlyK_normal (hK _ _ ⟨⟨_, Only.of_ext hx5⟩, rfl⟩ ?_); clear hK K
      refine tree_one fun K hK => ?_
      simp only [List.map_cons, List.map_nil, pickOp, List.getElem?_cons_zero, List.getElem?_cons_succ, Option.getD_some]
      repeat (go_big_quiet_step (fail))
      refine wpQuiet_nil ?_
      have Z5 := Z3.later hx5
      have z0 := Z5.c0; have z1 := Z5.c1; have z2 := Z5.c2; have y0 := Z5.f0; have y1 := Z5.f1; have y2 := Z5.f2
      go_wp2_with fail
      have hO6 := (Only.of_ext (D := fun k => k = w.heap.size + 1) hx5).set3 (.inl rfl) (.int .i64 s) (.int .i64 a) (.int .i64 j)
      refine onlyK_normal (hK _ _ ⟨⟨_, hO6⟩, rfl⟩ ?_); clear hK K
      refine tree_leaf ?_
      simp only [List.map_cons, List.map_nil, pickOp, List.getElem?_cons_zero, List.getElem?_cons_succ, Option.getD_some, List.drop_succ_cons, List.drop_zero]
      repeat (go_big_quiet_step (fail))
      refine wpQuiet_nil ?_
      go_wp2
      refine bodyPost_ret (v := .tuple #[Lm s a j, .bool R]) (by simp [results, Try.results20, go_sem, z0, z1, z2, HR.out]) rfl ⟨rfl, ?_⟩
      exact Ext.of_only ((Only.of_ext (hE4.trans hx5)).set3 (.inr (Nat.le_succ _)) _ _ _)

end Go.Proofs.Ytfmjmabaabmgcaa

namespace Go.Proofs.Ytfmjmabaabmgcaa
open Go.RowKit
set_option maxRecDepth 8000

/-- The pieces, with the one up to the present position, if there is one. -/
def Ctl.psAll (C : Ctl) : List Mot := if C.pieceB = true then C.ps ++ [C.pieceM] else C.ps
/-- What Break does. -/
def Ctl.brkC (C : Ctl) : Ctl :=
  if C.bk = true then C else { C with ps := C.psAll, lx := C.at3.1, ly := C.at3.2.1, lz := C.at3.2.2, plan := [], pos := 0, br := false, hd := false, bk := true }

set_option maxHeartbeats 1000000 in
theorem break_bk {w : World} {N : Nat} {vm vp vq : Value} {C : Ctl} (h : CBox w N vm vp vq C) (hbk : C.bk = true) :
    Calls Try.prog 32 #[.pointer (some ⟨N, 0, none⟩)] w fun e w' => e = .returned (.tuple #[]) ∧ Ext w w' := by
  have c10 := h.c10
  rw [hbk] at c10
  clear h hbk
  go_enter Try.func32, Try.ntmps32
  go_wp2
  refine bodyPost_ret (v := .tuple #[]) (by simp [results, Try.results32, go_sem]) rfl ⟨rfl, Ext.refl _⟩

set_option maxHeartbeats 4000000 in
theorem break_run {B : Nat} {w : World} {N : Nat} {vm vp vq : Value} {C : Ctl} (h : CInv B w N vm vp vq C) (hbk : C.bk = false) (k : C.posOk) (hv0 : ∀ b, vm.ownBlock = some b → b < w.heap.size) (hq : C.ps.length ≤ 999999999) :
    Calls Try.prog 32 #[.pointer (some ⟨N, 0, none⟩)] w (CPost B w N vm vp vq C.brkC (.tuple #[])) := by
  have hst : C.brkC = { C with ps := C.psAll, lx := C.at3.1, ly := C.at3.2.1, lz := C.at3.2.2, plan := [], pos := 0, br := false, hd := false, bk := true } := by unfold Ctl.brkC; rw [hbk]; rfl
  rw [hst]
  clear hst
  have HH := Lib.hid h
  have HK := Lib.hid k; clear k
  have HV0 := Lib.hid hv0; clear hv0
  have hN := h.box.lt
  have c10 := h.box.c10
  rw [hbk] at c10
  clear h hbk
  have HP1 := Lib.hid (piece_any HH.out.box HH.out.sm HK.out)
  have hps : C.psAll = if C.pieceB = true then C.ps ++ [C.pieceM] else C.ps := rfl
  have HPS := Lib.hid hps
  clear hps
  generalize C.psAll = ps6 at *
  generalize C.pieceB = bv at *
  generalize C.pieceM = pm at *
  have hat : ∀ (w' : World) (vq' : Value) (l : List Mot), CBox w' N vm vp vq' { C with ps := l } → SlM w' vm C.ms → Calls Try.prog 30 #[.pointer (some ⟨N, 0, none⟩)] w' fun e w'' => e = .returned (P3 C.at3) ∧ Ext w' w'' := fun w' vq' l hb hm => cpos_any (C := { C with ps := l }) hb hm ⟨HK.out.le, HK.out.n, HK.out.rng, HK.out.p0, HK.out.p1, HK.out.p2⟩
  have HAT := Lib.hid hat
  clear hat
  generalize C.at3 = q at *
  obtain ⟨qx, qy, qz⟩ := q
  simp only [P3] at HAT
  simp only
  go_enter Try.func32, Try.ntmps32
  go_wp2_with fail
  refine HP1.out.mono ?_
  rintro e w2 ⟨rfl, hx2⟩
  clear HP1 c10
  have hB2 := HH.out.box.later hx2; have hm2 := HH.out.sm.later hx2; have hq2 := HH.out.sq.later hx2
  have hO2 : Only (Foot N vq) w w2 := Only.of_ext hx2
  clear hx2
  cases bv
  · go_wp2_with fail
    obtain ⟨W3, hW3, B3, hE3⟩ := M9Box.mk' w2 pm
    rw [hW3]; clear hW3
    have hB6 := hB2.later hE3; have hm6 := hm2.later hE3; have hq6 := hq2.later hE3
    have hO6 := hO2.trans (Only.of_ext hE3)
    clear hB2 hm2 hq2 hO2 hE3 B3
    have nq6 := HH.out.nq
    have mq6 := HH.out.mq
    have hloc6 : ∀ b, vq.ownBlock = some b → vq.ownBlock = some b ∨ w.heap.size ≤ b := fun b hb => .inl hb
    have HPS6 : Hid (ps6 = C.ps) := Lib.hid (by rw [HPS.out]; rfl)
    clear HPS
    obtain ⟨l6, hl6⟩ : ∃ l6, l6 = C.ps := ⟨_, rfl⟩
    have hB6 : CBox W3 N vm vp vq { C with ps := l6 } := by rw [hl6]; exact hB6
    rw [← hl6] at HPS6 hq6
    clear hl6
    obtain ⟨vq6, hvq6⟩ : ∃ vq6, vq6 = vq := ⟨_, rfl⟩
    rw [← hvq6] at hB6 hq6 nq6 mq6
    have hloc6 : ∀ b, vq6.ownBlock = some b → vq.ownBlock = some b ∨ w.heap.size ≤ b := by rw [hvq6]; exact hloc6
    clear hvq6
    refine (HAT.out _ _ _ hB6 hm6).mono ?_
    rintro e w7 ⟨rfl, hx7⟩
    have hB7 := hB6.later hx7; have hm7 := hm6.later hx7; have hq7 := hq6.later hx7
    have hO7 := hO6.trans (Only.of_ext hx7)
    clear hB6 hm6 hq6 hO6 hx7
    have c12 := hB7.c12; have c13 := hB7.c13; have c14 := hB7.c14; have f12 := hB7.fr 12; have f13 := hB7.fr 13; have f14 := hB7.fr 14
    have c6 := hB7.c6; have c7 := hB7.c7; have c8 := hB7.c8; have f6 := hB7.fr 6; have f7 := hB7.fr 7; have f8 := hB7.fr 8
    have c9 := hB7.c9; have c10 := hB7.c10; have f9 := hB7.fr 9; have f10 := hB7.fr 10
    go_wp2
    obtain ⟨W8, hW8⟩ : ∃ W8 : World, (((((((w7.setCell ⟨N, 12, none⟩ (.int .i64 qx)).setCell ⟨N, 13, none⟩ (.int .i64 qy)).setCell ⟨N, 14, none⟩ (.int .i64 qz)).setCell ⟨N, 6, none⟩ (.slice none 0 0)).setCell ⟨N, 7, none⟩ (.int .i64 0)).setCell ⟨N, 8, none⟩ (.bool false)).setCell ⟨N, 9, none⟩ (.bool false)).setCell ⟨N, 10, none⟩ (.bool true) = W8 := ⟨_, rfl⟩
    have hB8 : CBox W8 N vm (.slice none 0 0) vq6 { C with ps := l6, lx := qx, ly := qy, lz := qz, plan := [], pos := 0, br := false, hd := false, bk := true } := by
      rw [← hW8]
      simpa using (((((((hB7.set_lx qx).set_ly qy).set_lz qz).set_vp (.slice none 0 0) []).set_pos 0).set_br false).set_hd false).set_bk true
    have hO8 : Only (Foot N vq) w W8 := by rw [← hW8]; exact (((((((hO7.set (.inl (.inl rfl)) _).set (.inl (.inl rfl)) _).set (.inl (.inl rfl)) _).set (.inl (.inl rfl)) _).set (.inl (.inl rfl)) _).set (.inl (.inl rfl)) _).set (.inl (.inl rfl)) _).set (.inl (.inl rfl)) _
    have hO8' : Only (fun k => k = N) w7 W8 := by rw [← hW8]; exact ((((((((Only.refl (fun k => k = N) w7).set (.inl rfl) _).set (.inl rfl) _).set (.inl rfl) _).set (.inl rfl) _).set (.inl rfl) _).set (.inl rfl) _).set (.inl rfl) _).set (.inl rfl) _
    rw [hW8]; clear hW8
    have hm8 := hm7.only hO8' (fun b hb e => HH.out.nm (by rw [hb, e]))
    have hq8 := hq7.only hO8' (fun b hb e => nq6 (by rw [hb, e]))
    have fin : CInv B W8 N vm (.slice none 0 0) vq6 { C with ps := ps6, lx := qx, ly := qy, lz := qz, plan := [], pos := 0, br := false, hd := false, bk := true } := by
      rw [HPS6.out]
      exact ⟨hB8, hm8, ⟨none, 0, 0, 0, 0, rfl, rfl, .inl rfl, fun i hi => by omega⟩, hq8, HH.out.nm, (by intro h; cases h), nq6, mq6, .inl rfl, HH.out.base⟩
    go_end0
    exact ⟨rfl, _, vq6, fin, hO8, hloc6, fun b hb => by cases hb⟩
  · go_wp2_with fail
    obtain ⟨W3, hW3, B3, hE3⟩ := M9Box.mk' w2 pm
    rw [hW3]; clear hW3
    have hB3 := hB2.later hE3; have hm3 := hm2.later hE3; have hq3 := hq2.later hE3
    have hO3 := hO2.trans (Only.of_ext hE3)
    have hd1 : ¬ vq.ownBlock = some N := HH.out.nq
    have hd2 : ¬ vq.ownBlock = some w2.heap.size := fun e => by have := hq2.lt e; omega
    have e0 := Chg.cell (D := fun k => vq.ownBlock = some k) B3.c0 hd2; have e1 := Chg.cell (D := fun k => vq.ownBlock = some k) B3.c1 hd2; have e2 := Chg.cell (D := fun k => vq.ownBlock = some k) B3.c2 hd2; have e3 := Chg.cell (D := fun k => vq.ownBlock = some k) B3.c3 hd2; have e4 := Chg.cell (D := fun k => vq.ownBlock = some k) B3.c4 hd2; have e5 := Chg.cell (D := fun k => vq.ownBlock = some k) B3.c5 hd2; have e6 := Chg.cell (D := fun k => vq.ownBlock = some k) B3.c6 hd2; have e7 := Chg.cell (D := fun k => vq.ownBlock = some k) B3.c7 hd2; have e8 := Chg.cell (D := fun k => vq.ownBlock = some k) B3.c8 hd2
    have e11 := Chg.cell (D := fun k => vq.ownBlock = some k) hB3.c11 hd1
    have H1 := Lib.hid hd1; have H2 := Lib.hid hd2
    clear hd1 hd2
    refine wp_region_tree (fun w' => ∃ y : Chg (fun k => vq.ownBlock = some k) W3, w' = y.w) 8 (.one [0, 1, 2, 3, 4, 5] 6 (.one [] 7 (.leaf []))) (by kernel_rfl) (by kernel_rfl) (by kernel_rfl) ⟨⟨_, (Only.refl _ W3).drew⟩, rfl⟩ ?_
    simp only [List.take_succ_cons, List.take_zero]
    refine tree_one fun K hK => ?_
    simp only [List.map_cons, List.map_nil, pickOp, List.getElem?_cons_zero, List.getElem?_cons_succ, Option.getD_some]
    repeat (go_big_quiet_step (fail))
    refine wpQuiet_nil ?_
    clear e0 e1 e2 e3 e4 e5 e6 e7 e8 e11
    go_wp2_with fail
    obtain ⟨W4, hW4, B4, hE4⟩ := M9Box.mk' W3 pm
    rw [hW4]; clear hW4
    refine onlyK_normal (hK _ _ ⟨⟨_, (Only.of_ext hE4).drew⟩, rfl⟩ ?_); clear hK K
    refine tree_one0 fun K hK => ?_
    simp only [pickOp, List.getElem?_cons_zero, List.getElem?_cons_succ, Option.getD_some]
    have hs4 := B4.sl1.later (Ext.refl W4).drew
    have hq4 := hq3.later hE4.drew
    have hl4 : C.ps.length + [pm].length ≤ 1000000000 := by simp; omega
    have hb4 : B ≤ W4.drew.heap.size := by have := HH.out.base; have := hO3.size; have := hE4.size; simp; omega
    have HS4 := Lib.hid hs4; have HQ4 := Lib.hid hq4; have HL4 := Lib.hid hl4; have HB4 := Lib.hid hb4
    clear hs4 hq4 hl4 hb4
    go_wp2_with ((at_builtin; refine appM_at rfl _ _ rfl B _ _ C.ps [pm] rfl rfl HQ4.out HS4.out HL4.out HB4.out ?_; intro v5 w5 own5 hg5 hloc5))
    have hg5 : W4.drew.grownBy w5 vq.ownBlock := hg5
    have hloc5 : v5.ownBlock = vq.ownBlock ∨ v5.ownBlock = some W4.drew.heap.size := hloc5
    have hO5 := (Only.of_ext (D := fun k => vq.ownBlock = some k) hE4).drew.trans (Only.of_grown hg5)
    refine onlyK_normal (hK _ _ ⟨⟨_, hO5⟩, rfl⟩ ?_); clear hK K
    have hB5 := hB3.only hO5 H1.out
    have hm5 := hm3.only hO5 (fun b hb e => HH.out.offm b hb (.inr e))
    have hO5' := hO3.trans (hO5.mono (D' := Foot N vq) (fun k _ e => .inr e))
    have hsz : w.heap.size ≤ W4.drew.heap.size := by have := hO3.size; have := hE4.size; simp; omega
    have nq6 : v5.ownBlock ≠ some N := by
      rcases hloc5 with h | h
      · rw [h]; exact H1.out
      · rw [h]; intro e; injection e with e; omega
    have mq6 : vm.ownBlock = none ∨ vm.ownBlock ≠ v5.ownBlock := by
      rcases hloc5 with h | h
      · rw [h]; exact HH.out.mq
      · right; rw [h]; intro e
        have := HV0.out _ e
        omega
    have hloc6 : ∀ b, v5.ownBlock = some b → vq.ownBlock = some b ∨ w.heap.size ≤ b := fun b hb => by
      rcases hloc5 with h | h
      · left; rw [← h]; exact hb
      · right; rw [h] at hb; injection hb with hb; omega
    obtain ⟨a5, n5, k5, hv5⟩ := own5.form
    subst hv5
    clear hloc5 hg5 hO5 hO3 HB4 HL4 HQ4 HS4 H1 H2 B4 hE4 B3 hE3 hB3 hm3 hq3 hB2 hm2 hq2 hO2
    refine tree_leaf0 ?_
    simp only [List.drop_succ_cons, List.drop_zero]
    have c11 := hB5.c11; have f11 := hB5.fr 11
    go_wp2_with fail
    have hB6 : CBox (w5.setCell ⟨N, 11, none⟩ (.slice a5 n5 k5)) N vm vp (.slice a5 n5 k5) { C with ps := C.ps ++ [pm] } := hB5.set_vq (.slice a5 n5 k5) _
    have hO6 : Only (Foot N vq) w (w5.setCell ⟨N, 11, none⟩ (.slice a5 n5 k5)) := hO5'.set (.inl (.inl rfl)) _
    have hO6' : Only (fun k => k = N) w5 (w5.setCell ⟨N, 11, none⟩ (.slice a5 n5 k5)) := (Only.refl (fun k => k = N) w5).set (.inl rfl) _
    have hm6 := hm5.only hO6' (fun b hb e => HH.out.nm (by rw [hb, e]))
    have hq6 := own5.only hO6' (fun b hb e => nq6 (by rw [hb, e]))
    clear hO6' hm5 hB5 hO5' own5 c11 f11
    have HPS6 : Hid (ps6 = C.ps ++ [pm]) := Lib.hid (by rw [HPS.out]; rfl)
    clear HPS
    generalize w5.setCell ⟨N, 11, none⟩ (.slice a5 n5 k5) = W6 at *
    generalize C.ps ++ [pm] = l6 at *
    obtain ⟨vq6, hvq6⟩ : ∃ vq6 : Value, vq6 = .slice a5 n5 k5 := ⟨_, rfl⟩
    rw [← hvq6] at hB6 hq6 nq6 mq6 hloc6
    clear hvq6
    refine (HAT.out _ _ _ hB6 hm6).mono ?_
    rintro e w7 ⟨rfl, hx7⟩
    have hB7 := hB6.later hx7; have hm7 := hm6.later hx7; have hq7 := hq6.later hx7
    have hO7 := hO6.trans (Only.of_ext hx7)
    clear hB6 hm6 hq6 hO6 hx7
    have c12 := hB7.c12; have c13 := hB7.c13; have c14 := hB7.c14; have f12 := hB7.fr 12; have f13 := hB7.fr 13; have f14 := hB7.fr 14
    have c6 := hB7.c6; have c7 := hB7.c7; have c8 := hB7.c8; have f6 := hB7.fr 6; have f7 := hB7.fr 7; have f8 := hB7.fr 8
    have c9 := hB7.c9; have c10 := hB7.c10; have f9 := hB7.fr 9; have f10 := hB7.fr 10
    go_wp2
    obtain ⟨W8, hW8⟩ : ∃ W8 : World, (((((((w7.setCell ⟨N, 12, none⟩ (.int .i64 qx)).setCell ⟨N, 13, none⟩ (.int .i64 qy)).setCell ⟨N, 14, none⟩ (.int .i64 qz)).setCell ⟨N, 6, none⟩ (.slice none 0 0)).setCell ⟨N, 7, none⟩ (.int .i64 0)).setCell ⟨N, 8, none⟩ (.bool false)).setCell ⟨N, 9, none⟩ (.bool false)).setCell ⟨N, 10, none⟩ (.bool true) = W8 := ⟨_, rfl⟩
    have hB8 : CBox W8 N vm (.slice none 0 0) vq6 { C with ps := l6, lx := qx, ly := qy, lz := qz, plan := [], pos := 0, br := false, hd := false, bk := true } := by
      rw [← hW8]
      simpa using (((((((hB7.set_lx qx).set_ly qy).set_lz qz).set_vp (.slice none 0 0) []).set_pos 0).set_br false).set_hd false).set_bk true
    have hO8 : Only (Foot N vq) w W8 := by rw [← hW8]; exact (((((((hO7.set (.inl (.inl rfl)) _).set (.inl (.inl rfl)) _).set (.inl (.inl rfl)) _).set (.inl (.inl rfl)) _).set (.inl (.inl rfl)) _).set (.inl (.inl rfl)) _).set (.inl (.inl rfl)) _).set (.inl (.inl rfl)) _
    have hO8' : Only (fun k => k = N) w7 W8 := by rw [← hW8]; exact ((((((((Only.refl (fun k => k = N) w7).set (.inl rfl) _).set (.inl rfl) _).set (.inl rfl) _).set (.inl rfl) _).set (.inl rfl) _).set (.inl rfl) _).set (.inl rfl) _).set (.inl rfl) _
    rw [hW8]; clear hW8
    have hm8 := hm7.only hO8' (fun b hb e => HH.out.nm (by rw [hb, e]))
    have hq8 := hq7.only hO8' (fun b hb e => nq6 (by rw [hb, e]))
    have fin : CInv B W8 N vm (.slice none 0 0) vq6 { C with ps := ps6, lx := qx, ly := qy, lz := qz, plan := [], pos := 0, br := false, hd := false, bk := true } := by
      rw [HPS6.out]
      exact ⟨hB8, hm8, ⟨none, 0, 0, 0, 0, rfl, rfl, .inl rfl, fun i hi => by omega⟩, hq8, HH.out.nm, (by intro h; cases h), nq6, mq6, .inl rfl, HH.out.base⟩
    go_end0
    exact ⟨rfl, _, vq6, fin, hO8, hloc6, fun b hb => by cases hb⟩

end Go.Proofs.Ytfmjmabaabmgcaa

namespace Go.Proofs.Ytfmjmabaabmgcaa
open Go.RowKit

/-- The last two distances of the plan. -/
def Ctl.dLast (C : Ctl) : Int := C.plan.getD (C.pos - 1) 0
def Ctl.dBefore (C : Ctl) : Int := if 1 < C.pos then C.plan.getD (C.pos - 2) 0 else 0
def Ctl.needed (C : Ctl) : Int := dsum (C.cur.spd C.s) C.a C.j C.dLast (C.dLast - C.dBefore)
def Ctl.stopL (C : Ctl) : List Int := stops (C.cur.spd C.s) C.a C.j C.dLast (C.dLast - C.dBefore)

/-- What Hold does. -/
def Ctl.holdC (C : Ctl) : Ctl :=
  if C.bk = true then C
  else if C.pos = C.plan.length ∨ C.br = true then { C with hd := true }
  else if C.needed ≤ C.cur.len - C.part then
    (if C.stopL = [] then Ctl.stopd { C with hd := true, plan := [], pos := 0, br := true } else { C with hd := true, plan := C.stopL, pos := 0, br := true })
  else { C with hd := true }

theorem smGo_at (s a j : Int) : ∀ (l : List Int) (k : Nat) (v b : Int), 0 ≤ v → v ≤ s → -a ≤ b → b ≤ a → smGo s a j v b (l ++ [0, 0]) = true → k < l.length →
    ∃ p, p = (if k = 0 then v else l.getD (k - 1) 0) ∧ 0 ≤ p ∧ p ≤ s ∧ 0 ≤ l.getD k 0 ∧ l.getD k 0 ≤ s ∧ -a ≤ l.getD k 0 - p ∧ l.getD k 0 - p ≤ a ∧ smGo s a j (l.getD k 0) (l.getD k 0 - p) (l.drop (k + 1) ++ [0, 0]) = true
  | [], k, v, b, _, _, _, _, _, hk => by simp at hk
  | x :: l, 0, v, b, h1, h2, h3, h4, h, hk => by
    simp only [List.cons_append, smGo, Bool.and_eq_true, inR_iff] at h
    obtain ⟨⟨⟨⟨x1, x2⟩, y1, y2⟩, _⟩, hr⟩ := h
    exact ⟨v, by simp, h1, h2, by simpa using x1, by simpa using x2, by simpa using y1, by simpa using y2, by simpa using hr⟩
  | x :: l, k + 1, v, b, h1, h2, h3, h4, h, hk => by
    simp only [List.cons_append, smGo, Bool.and_eq_true, inR_iff] at h
    obtain ⟨⟨⟨⟨x1, x2⟩, y1, y2⟩, _⟩, hr⟩ := h
    obtain ⟨p, hp, q⟩ := smGo_at s a j l k x (x - v) x1 x2 y1 y2 hr (by simpa using hk)
    refine ⟨p, ?_, by simpa using q⟩
    rw [hp]
    cases k with
    | zero => simp
    | succ k => simp

theorem Ctl.Ok.mvg {C : Ctl} (h : C.Ok) (hp : C.pos ≠ C.plan.length) (hb : C.br = false) : Go.Proofs.Ytfmjmabaabmgcaa.mvg (C.cur.spd C.s) C.a C.j C.dBefore C.dLast = true := by
  have hn : C.plan ≠ [] := fun e => hp (by rw [h.rest e, e]; rfl)
  obtain ⟨f1, f2, f3⟩ := h.full hn hb
  obtain ⟨r1, r2⟩ := h.run hn
  have hv := spd_vld (m := C.cur) h.vl
  obtain ⟨⟨s1, s2⟩, ⟨a1, a2⟩, ⟨j1, j2⟩⟩ := (vld_iff _ _ _).1 hv
  unfold smth at f2
  rw [hv, Bool.true_and] at f2
  obtain ⟨p, hp1, p0, p1, q0, q1, d1, d2, hs⟩ := smGo_at (C.cur.spd C.s) C.a C.j C.plan (C.pos - 1) 0 0 (by omega) (by omega) (by omega) (by omega) f2 (by omega)
  have e1 : C.dBefore = p := by
    rw [hp1]; unfold Ctl.dBefore
    by_cases h1 : 1 < C.pos
    · rw [if_pos h1, if_neg (by omega)]; rfl
    · rw [if_neg h1, if_pos (by omega)]
  have e2 : C.dLast = C.plan.getD (C.pos - 1) 0 := rfl
  rw [← e2] at q0 q1 d1 d2 hs
  rw [← e1] at p0 p1 d1 d2 hs
  rw [mvg_iff]
  exact ⟨hv, ⟨p0, p1⟩, ⟨q0, q1⟩, smooth_safe _ _ _ j1 _ _ _ q0 q1 d1 d2 hs⟩

theorem Ctl.Ok.stop_props {C : Ctl} (h : C.Ok) (hp : C.pos ≠ C.plan.length) (hb : C.br = false) : (∀ x ∈ C.stopL, 0 < x) ∧ C.stopL.sum = C.needed := by
  obtain ⟨hv, _, _, hs⟩ := (mvg_iff _ _ _ _ _).1 (h.mvg hp hb)
  exact ⟨fun x hx => (stops_pos _ _ _ _ _ hv hs x hx).1, stops_sum _ _ _ _ _ hv hs⟩

theorem Ctl.Ok.hold {C : Ctl} (h : C.Ok) : C.holdC.Ok := by
  unfold Ctl.holdC
  split
  · exact h
  · split
    · exact ⟨⟨h.vl, h.n, h.rng, h.rate, h.stp⟩, h.le, h.p0, h.p1, h.rest, h.run, h.pos, h.ln, h.sum, h.full⟩
    · rename_i hc
      have hp : C.pos ≠ C.plan.length := fun e => hc (.inl e)
      have hb : C.br = false := by simpa using fun e => hc (.inr e)
      have hn : C.plan ≠ [] := fun e => hp (by rw [h.rest e, e]; rfl)
      obtain ⟨r1, r2⟩ := h.run hn
      obtain ⟨t1, t2⟩ := h.stop_props hp hb
      have q0 := h.p0 r1
      have q1 := h.p1 r1
      have hl := (Mot.len_bounds (h.rng C.idx r1)).2
      have hl2 : C.cur.len ≤ 40000000 := hl
      split
      · rename_i hneed
        split
        · exact stopd_ok ⟨h.vl, h.n, h.rng, h.rate, h.stp⟩ r1 q0 (Int.le_of_lt q1)
        · rename_i hne
          have t3 := sum_len t1
          refine ⟨⟨h.vl, h.n, h.rng, h.rate, h.stp⟩, h.le, h.p0, h.p1, fun e => absurd e hne, fun _ => ⟨r1, ?_⟩, t1, ?_, fun _ => ?_, fun _ hb' => by cases hb'⟩
          · show 0 < C.stopL.length
            exact List.length_pos_iff.2 hne
          · show C.stopL.length ≤ 40000000; omega
          · show C.part + (C.stopL.drop 0).sum ≤ C.cur.len
            rw [List.drop_zero]; omega
      · exact ⟨⟨h.vl, h.n, h.rng, h.rate, h.stp⟩, h.le, h.p0, h.p1, h.rest, h.run, h.pos, h.ln, h.sum, h.full⟩

theorem Ctl.Ok.brk {C : Ctl} (h : C.Ok) : C.brkC.Ok := by
  unfold Ctl.brkC
  split
  · exact h
  · exact ⟨⟨h.vl, h.n, h.rng, h.rate, h.stp⟩, h.le, h.p0, h.p1, fun _ => rfl, fun e => absurd rfl e, (fun x hx => by cases hx), Nat.zero_le _, fun e => absurd rfl e, fun e => absurd rfl e⟩
theorem Ctl.Ok.resume {C : Ctl} (h : C.Ok) : Ctl.Ok { C with hd := false } :=
  ⟨⟨h.vl, h.n, h.rng, h.rate, h.stp⟩, h.le, h.p0, h.p1, h.rest, h.run, h.pos, h.ln, h.sum, h.full⟩

theorem holdC_ps (C : Ctl) : C.holdC.ps.length ≤ C.ps.length + 1 := by
  unfold Ctl.holdC
  split
  · omega
  · split
    · show C.ps.length ≤ _; omega
    · split
      · split
        · exact stopd_ps _
        · show C.ps.length ≤ _; omega
      · show C.ps.length ≤ _; omega
theorem brkC_ps (C : Ctl) : C.brkC.ps.length ≤ C.ps.length + 1 := by
  unfold Ctl.brkC
  split
  · omega
  · show C.psAll.length ≤ _
    unfold Ctl.psAll
    split
    · simp
    · omega

end Go.Proofs.Ytfmjmabaabmgcaa
