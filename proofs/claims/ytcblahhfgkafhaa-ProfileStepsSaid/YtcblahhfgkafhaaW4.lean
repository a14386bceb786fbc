/-
  Walks: moving, Needed, Stop, Ticks of layer 49.
-/
import Derived.Test.YtcblahhfgkafhaaW3
namespace Go.Proofs.Ytcblahhfgkafhaa
open Go.RowKit

theorem vcode_yes {s a j : Int} (h : vld s a j = true) : vcode s a j = 0 := by simp [vcode, h]
theorem vcode_no {s a j : Int} (h : vld s a j = false) : vcode s a j = 1 := by simp [vcode, h]

set_option maxHeartbeats 1000000 in
theorem moving_any (s a j p q : Int) (w : World) :
    Calls Try.prog 34 #[Lm s a j, .int .i64 p, .int .i64 q] w fun e w' => e = .returned (.bool (mvg s a j p q)) ∧ Ext w w' := by
  cases hv : vld s a j
  · have e : mvg s a j p q = false := by simp [mvg, hv]
    rw [e]; clear e
    go_enter Try.func34, Try.ntmps34
    go_wp2_with fail
    refine (valid_no s a j _ hv).mono ?_
    rintro e w1 ⟨rfl, he⟩
    go_wp2
    go_ret
    exact ⟨rfl, ((Ext.refl w).alloc _).trans he⟩
  · have hs := (vld_iff s a j).1 hv
    have HV := Lib.hid hv
    have HX := Lib.hid hs
    have k : ∀ w1, Ext (w.alloc (.cells #[.int .i64 s, .int .i64 a, .int .i64 j] 28)) w1 → w1.cell? ⟨w.heap.size, 0, none⟩ = some (.int .i64 s) ∧ w1.cell? ⟨w.heap.size, 1, none⟩ = some (.int .i64 a) ∧ w1.cell? ⟨w.heap.size, 2, none⟩ = some (.int .i64 j) := by
      intro w1 he
      refine ⟨?_, ?_, ?_⟩ <;> (rw [he.cell (by simp)]; simp [go_sem])
    have HK := Lib.hid k
    clear k hs
    cases hp : inR p 0 s
    · have e : mvg s a j p q = false := by simp [mvg, hv, hp]
      rw [e]; clear e hv
      go_enter Try.func34, Try.ntmps34
      go_wp2_with fail
      refine (valid_yes s a j _ HV.out).mono ?_
      rintro e w1 ⟨rfl, he⟩
      obtain ⟨k0, k1, k2⟩ := HK.out w1 he
      go_wp2_with ((go_at_call 32; refine (within_any _ _ _ _).mono ?_; rintro e w' ⟨rfl, rfl⟩))
      go_ret
      exact ⟨rfl, ((Ext.refl w).alloc _).trans he⟩
    · cases hq : inR q 0 s
      · have e : mvg s a j p q = false := by simp [mvg, hv, hp, hq]
        rw [e]; clear e hv
        go_enter Try.func34, Try.ntmps34
        go_wp2_with fail
        refine (valid_yes s a j _ HV.out).mono ?_
        rintro e w1 ⟨rfl, he⟩
        obtain ⟨k0, k1, k2⟩ := HK.out w1 he
        go_wp2_with ((go_at_call 32; refine (within_any _ _ _ _).mono ?_; rintro e w' ⟨rfl, rfl⟩))
        go_ret
        exact ⟨rfl, ((Ext.refl w).alloc _).trans he⟩
      · have e : mvg s a j p q = saf s a j q (q - p) := by simp [mvg, hv, hp, hq]
        rw [e]; clear e hv
        obtain ⟨p1, p2⟩ := (inR_iff _ _ _).1 hp
        obtain ⟨q1, q2⟩ := (inR_iff _ _ _).1 hq
        obtain ⟨⟨s1, s2⟩, -, -⟩ := HX.out
        go_enter Try.func34, Try.ntmps34
        go_wp2_with fail
        refine (valid_yes s a j _ HV.out).mono ?_
        rintro e w1 ⟨rfl, he⟩
        obtain ⟨k0, k1, k2⟩ := HK.out w1 he
        go_wp2_with (first | (go_at_call 32; refine (within_any _ _ _ _).mono ?_; rintro e w' ⟨rfl, rfl⟩) | (go_at_call 43; refine (safe_any _ _ _ _ _ _ HV.out).mono ?_; rintro e w2 ⟨rfl, he2⟩))
        go_ret
        exact ⟨rfl, (((Ext.refl w).alloc _).trans he).trans he2⟩

end Go.Proofs.Ytcblahhfgkafhaa
