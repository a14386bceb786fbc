/-
  job.Disturbed: all cases in one contract.
  The examples of the chapter, reckoned by the plain model.
-/
import Derived.Test.YtjibcnnbclcboaaGreatDoorQB29
namespace Go.Proofs.YtjibcnnbclcboaaGreatDoor
open Go.RowKit
set_option maxRecDepth 8000

set_option maxHeartbeats 2000000 in
theorem jdist_inv (v ve : Value) (es0 : List (Int × Int)) (s a j safe : Int) (w0 : World) (he : SlE w0 ve es0) (hne : es0.length ≤ 9223372036854775807) (hv : validE es0 = false) :
    Calls Tryz.prog 9 #[v, Lm s a j, ve, .int .i64 safe] w0 (RetDist w0 (1, [])) := by
  obtain ⟨W1, hW1, L1, hE1⟩ := B3.mk' w0 (.int .i64 s) (.int .i64 a) (.int .i64 j) 32
  have kv := jvalid_any ve es0 W1 (he.later hE1) hne
  rw [hv] at kv
  have KV := Lib.hid kv
  obtain ⟨x0, c0, hve⟩ := slE_is he
  clear kv hv he
  subst hve
  go_enter Tryz.func9, Tryz.ntmps9
  go_wp2_with fail
  clear hW1
  refine KV.out.mono ?_
  rintro e w2 ⟨rfl, hx2⟩
  go_wp2
  go_ret2
  exact ⟨_, rfl, nilSlM _, hE1.trans hx2, capNil⟩

set_option maxHeartbeats 2000000 in
theorem jdist_chk (v ve : Value) (l : List Mot) (es0 : List (Int × Int)) (s a j safe : Int) (w0 : World) (h : SlM w0 v l) (he : SlE w0 ve es0) (hn : l.length ≤ 800000) (hne : es0.length ≤ 9223372036854775807) (hwf : WfL l) (hv : validE es0 = true) (hc : chk l s a j ≠ 0) :
    Calls Tryz.prog 9 #[v, Lm s a j, ve, .int .i64 safe] w0 (RetDist w0 (chk l s a j, [])) := by
  have HCK := Lib.hid hc; have HWF := Lib.hid hwf
  obtain ⟨W1, hW1, L1, hE1⟩ := B3.mk' w0 (.int .i64 s) (.int .i64 a) (.int .i64 j) 32
  have kv := jvalid_any ve es0 W1 (he.later hE1) hne
  rw [hv] at kv
  have KV := Lib.hid kv
  have HS := Lib.hid h
  obtain ⟨x0, c0, hve⟩ := slE_is he
  obtain ⟨xv, cv, hvv⟩ := h.is
  have hnz : (chk l s a j == 0) = false := by simp [hc]
  clear kv hv hc hwf h he
  have HL1 := Lib.hid L1; clear L1
  subst hve hvv
  go_enter Tryz.func9, Tryz.ntmps9
  go_wp2_with fail
  clear hW1
  refine KV.out.mono ?_
  rintro e w2 ⟨rfl, hx2⟩
  have L2 := HL1.out.later hx2
  have l0 := L2.c0; have l1 := L2.c1; have l2 := L2.c2
  have hE2 := hE1.trans hx2
  clear KV HL1 hx2 hE1
  go_wp2_with fail
  obtain ⟨W3, hW3, J3, hx3⟩ := JBox.mk0 w2 s a j safe
  rw [hW3]; clear hW3
  have hE3 := hE2.trans hx3
  have hGw : w0.heap.size ≤ w2.heap.size := hE2.size
  generalize w2.heap.size = G at *
  clear l0 l1 l2 L2 hx3 hE2
  refine (clone_any _ l W3 (HS.out.later hE3) (by omega)).mono ?_
  rintro e w4 ⟨v4, rfl, own4, hx4⟩
  have J4 := J3.later hx4
  have hE4 := hE3.trans hx4
  have S4 := own4.sl
  clear J3 hx4 hE3 own4
  go_wp2_with fail
  refine (mstart_bad J4 S4 (by omega) HWF.out HCK.out).mono ?_
  rintro e w5 ⟨rfl, hx5⟩
  clear J4 S4
  go_wp2
  go_ret2
  exact ⟨_, rfl, nilSlM _, hE4.trans hx5, capNil⟩

/-- What job.Disturbed answers. -/
def distE (l : List Mot) (s a j safe : Int) (es : List (Int × Int)) : Int × List Mot := if validE es = true then dist l s a j safe es else (1, [])

theorem jdist_any (v ve : Value) (l : List Mot) (es0 : List (Int × Int)) (s a j safe : Int) (w0 : World) (h : SlM w0 v l) (he : SlE w0 ve es0) (hn : l.length ≤ 800000) (hne : es0.length ≤ 9223372036854775807) (hwf : WfL l) (hsf : in64 safe) :
    Calls Tryz.prog 9 #[v, Lm s a j, ve, .int .i64 safe] w0 (RetDist w0 (distE l s a j safe es0)) := by
  unfold distE
  by_cases hv : validE es0 = true
  · rw [if_pos hv]
    by_cases hc : chk l s a j = 0
    · exact jdist_run v ve l es0 s a j safe w0 h he hn hne hwf hsf hv hc
    · have e : dist l s a j safe es0 = (chk l s a j, []) := by unfold dist; rw [if_neg hc]
      rw [e]
      exact jdist_chk v ve l es0 s a j safe w0 h he hn hne hwf hv hc
  · rw [if_neg hv]
    exact jdist_inv v ve es0 s a j safe w0 he hne (by simpa using hv)

end Go.Proofs.YtjibcnnbclcboaaGreatDoor

namespace Go.Proofs.YtjibcnnbclcboaaGreatDoor
open Go.RowKit

def awL : List Mot := [⟨0, 0, 0, 1000, 0, 0, 1000000, 0, 0⟩]
def awM : List Mot := [⟨0, 0, 0, 300, 0, 0, 1000000, 0, 0⟩, ⟨300, 0, 0, 1000, 0, 0, 1000000, 0, 0⟩]
def awN : List Mot := [⟨0, 0, 0, 300, 0, 0, 1000000, 0, 0⟩, ⟨300, 0, 0, 300, 0, 5000, 0, 0, 0⟩, ⟨300, 0, 5000, 0, 0, 5000, 0, 0, 0⟩, ⟨0, 0, 5000, 0, 0, 1000, 0, 0, 0⟩, ⟨0, 0, 1000, 0, 0, 0, 1000000, 0, 0⟩, ⟨0, 0, 0, 1000, 0, 0, 1000000, 0, 0⟩]
theorem aw1 : distE awL 100 100 100 5000 [(3, 5)] = (0, awM) := by kernel_rfl
theorem aw2 : distE awL 100 100 100 5000 [(3, 0)] = (0, awN) := by kernel_rfl
theorem aw_wf : WfL awL := by
  intro i hi
  have h : i = 0 := by have : awL.length = 1 := rfl
                       omega
  subst h
  constructor <;> decide

end Go.Proofs.YtjibcnnbclcboaaGreatDoor
