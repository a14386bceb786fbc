/-
  Walks: Needed, Ticks, Stop of layer 49.
-/
import Derived.Test.YtcblahhfgkafhaaW4
namespace Go.Proofs.Ytcblahhfgkafhaa
open Go.RowKit

theorem ret_tup2 {k k' : IntKind} {a b c d : Int} (h : a = b) (h' : c = d) : Ending.returned (.tuple #[.int k a, .int k' c]) = .returned (.tuple #[.int k b, .int k' d]) := by rw [h, h']

theorem smp_j {s a j : Int} (h : j / 2 < if a < s then a else s) : smp s a j = j / 2 := by unfold smp; split at h <;> omega
theorem smp_a {s a j : Int} (h : (if a < s then a else s) ≤ j / 2) (h2 : a < s) : smp s a j = a := by unfold smp; split at h <;> omega
theorem smp_s {s a j : Int} (h : (if a < s then a else s) ≤ j / 2) (h2 : s ≤ a) : smp s a j = s := by unfold smp; split at h <;> omega

/-- One box of limits, in all worlds that extend it. -/
theorem box_cells {w w1 : World} {s a j : Int} {t : TypeId} (he : Ext (w.alloc (.cells #[.int .i64 s, .int .i64 a, .int .i64 j] t)) w1) :
    w1.cell? ⟨w.heap.size, 0, none⟩ = some (.int .i64 s) ∧ w1.cell? ⟨w.heap.size, 1, none⟩ = some (.int .i64 a) ∧ w1.cell? ⟨w.heap.size, 2, none⟩ = some (.int .i64 j) := by
  refine ⟨?_, ?_, ?_⟩ <;> (rw [he.cell (by simp)]; simp [go_sem])

set_option maxHeartbeats 1000000 in
theorem needed_no (s a j p q : Int) (w : World) (h : mvg s a j p q = false) :
    Calls Try.prog 21 #[.int .i64 p, .int .i64 q, Lm s a j] w fun e w' => e = .returned (.tuple #[.int .i64 0, .int .i64 1]) ∧ Ext w w' := by
  go_enter Try.func21, Try.ntmps21
  go_wp2_with fail
  refine (moving_any s a j p q _).mono ?_
  rintro e w1 ⟨rfl, he⟩
  go_wp2
  go_ret2
  exact ⟨rfl, ((Ext.refl w).alloc _).trans he⟩

set_option maxHeartbeats 1000000 in
theorem needed_yes (s a j p q : Int) (w : World) (h : mvg s a j p q = true) :
    Calls Try.prog 21 #[.int .i64 p, .int .i64 q, Lm s a j] w fun e w' => e = .returned (.tuple #[.int .i64 (dsum s a j q (q - p)), .int .i64 0]) ∧ Ext w w' := by
  obtain ⟨hv, ⟨p1, p2⟩, ⟨q1, q2⟩, hs⟩ := (mvg_iff _ _ _ _ _).1 h
  obtain ⟨⟨s1, s2⟩, -, -⟩ := (vld_iff _ _ _).1 hv
  have HV := Lib.hid hv; clear hv
  have HS := Lib.hid hs; clear hs
  go_enter Try.func21, Try.ntmps21
  go_wp2_with fail
  refine (moving_any s a j p q _).mono ?_
  rintro e w1 ⟨rfl, he⟩
  obtain ⟨k0, k1, k2⟩ := box_cells he
  go_wp2_with fail
  refine (distance_any s a j q (q - p) _ HV.out HS.out).mono ?_
  rintro e w2 ⟨rfl, he2⟩
  go_wp2
  go_ret2
  exact ⟨rfl, (((Ext.refl w).alloc _).trans he).trans he2⟩

/-- What Ticks returns. -/
def tickN (n s a j : Int) : Int := if vld s a j = false ∨ n < 0 ∨ 1000000000000 < n then 0 else (n + smp s a j - 1) / smp s a j
def tickE (n s a j : Int) : Int := if vld s a j = false ∨ n < 0 then 1 else if 1000000000000 < n then 3 else 0

set_option maxHeartbeats 1000000 in
theorem ticks_any (n s a j : Int) (w : World) :
    Calls Try.prog 12 #[.int .i64 n, Lm s a j] w fun e w' => e = .returned (.tuple #[.int .i64 (tickN n s a j), .int .i64 (tickE n s a j)]) ∧ Ext w w' := by
  cases hv : vld s a j
  · have e1 : tickN n s a j = 0 := by simp [tickN, hv]
    have e2 : tickE n s a j = 1 := by simp [tickE, hv]
    rw [e1, e2]; clear e1 e2
    go_enter Try.func12, Try.ntmps12
    go_wp2_with fail
    refine (valid_no s a j _ hv).mono ?_
    rintro e w1 ⟨rfl, he⟩
    go_wp2
    go_ret2
    exact ⟨rfl, ((Ext.refl w).alloc _).trans he⟩
  · have hs := (vld_iff s a j).1 hv
    have HV := Lib.hid hv
    by_cases hn : n < 0
    · have e1 : tickN n s a j = 0 := by simp [tickN, hn]
      have e2 : tickE n s a j = 1 := by simp [tickE, hn]
      rw [e1, e2]; clear e1 e2 hv hs
      go_enter Try.func12, Try.ntmps12
      go_wp2_with fail
      refine (valid_yes s a j _ HV.out).mono ?_
      rintro e w1 ⟨rfl, he⟩
      go_wp2
      go_ret2
      exact ⟨rfl, ((Ext.refl w).alloc _).trans he⟩
    · have hn' : decide (n < 0) = false := by simpa using hn
      by_cases hb : 1000000000000 < n
      · have e1 : tickN n s a j = 0 := by simp [tickN, hb]
        have e2 : tickE n s a j = 3 := by simp [tickE, hv, hn, hb]
        rw [e1, e2]; clear e1 e2 hv hs
        go_enter Try.func12, Try.ntmps12
        go_wp2_with fail
        refine (valid_yes s a j _ HV.out).mono ?_
        rintro e w1 ⟨rfl, he⟩
        go_wp2
        go_ret2
        exact ⟨rfl, ((Ext.refl w).alloc _).trans he⟩
      · have e1 : tickN n s a j = (n + smp s a j - 1) / smp s a j := by simp [tickN, hv, hn, hb]
        have e2 : tickE n s a j = 0 := by simp [tickE, hv, hn, hb]
        obtain ⟨⟨s1, s2⟩, ⟨a1, a2⟩, ⟨j1, j2⟩⟩ := hs
        obtain ⟨u1, u2, u3, u4⟩ := smp_bounds s a j s1 a1 j1
        rw [e1, e2]; clear e1 e2 hv
        go_enter Try.func12, Try.ntmps12
        go_wp2_with fail
        refine (valid_yes s a j _ HV.out).mono ?_
        rintro e w1 ⟨rfl, he⟩
        obtain ⟨k0, k1, k2⟩ := box_cells he
        go_wp2_with fail
        refine (simple_any s a j _ j1 j2).mono ?_
        rintro e w2 ⟨rfl, he2⟩
        go_wp2
        go_ret2
        exact ⟨rfl, (((Ext.refl w).alloc _).trans he).trans he2⟩

set_option maxHeartbeats 1000000 in
theorem rticks_any (n s a j : Int) (w : World) :
    Calls Try.prog 14 #[.int .i64 n, Lm s a j] w fun e w' => e = .returned (.tuple #[.int .i64 (tickN n s a j), .int .i64 (tickE n s a j)]) ∧ Ext w w' := by
  cases hv : vld s a j
  · have e1 : tickN n s a j = 0 := by simp [tickN, hv]
    have e2 : tickE n s a j = 1 := by simp [tickE, hv]
    rw [e1, e2]; clear e1 e2
    go_enter Try.func14, Try.ntmps14
    go_wp2_with fail
    refine (rvalid_no s a j _ hv).mono ?_
    rintro e w1 ⟨rfl, he⟩
    go_wp2
    go_ret2
    exact ⟨rfl, ((Ext.refl w).alloc _).trans he⟩
  · have hs := (vld_iff s a j).1 hv
    have HV := Lib.hid hv
    by_cases hn : n < 0
    · have e1 : tickN n s a j = 0 := by simp [tickN, hn]
      have e2 : tickE n s a j = 1 := by simp [tickE, hn]
      rw [e1, e2]; clear e1 e2 hv hs
      go_enter Try.func14, Try.ntmps14
      go_wp2_with fail
      refine (rvalid_yes s a j _ HV.out).mono ?_
      rintro e w1 ⟨rfl, he⟩
      go_wp2
      go_ret2
      exact ⟨rfl, ((Ext.refl w).alloc _).trans he⟩
    · have hn' : decide (n < 0) = false := by simpa using hn
      by_cases hb : 1000000000000 < n
      · have e1 : tickN n s a j = 0 := by simp [tickN, hb]
        have e2 : tickE n s a j = 3 := by simp [tickE, hv, hn, hb]
        rw [e1, e2]; clear e1 e2 hv hs
        go_enter Try.func14, Try.ntmps14
        go_wp2_with fail
        refine (rvalid_yes s a j _ HV.out).mono ?_
        rintro e w1 ⟨rfl, he⟩
        go_wp2
        go_ret2
        exact ⟨rfl, ((Ext.refl w).alloc _).trans he⟩
      · have e1 : tickN n s a j = (n + smp s a j - 1) / smp s a j := by simp [tickN, hv, hn, hb]
        have e2 : tickE n s a j = 0 := by simp [tickE, hv, hn, hb]
        obtain ⟨⟨s1, s2⟩, ⟨a1, a2⟩, ⟨j1, j2⟩⟩ := hs
        obtain ⟨u1, u2, u3, u4⟩ := smp_bounds s a j s1 a1 j1
        rw [e1, e2]; clear e1 e2 hv
        go_enter Try.func14, Try.ntmps14
        go_wp2_with fail
        refine (rvalid_yes s a j _ HV.out).mono ?_
        rintro e w1 ⟨rfl, he⟩
        obtain ⟨k0, k1, k2⟩ := box_cells he
        go_wp2
        all_goals go_ret2
        all_goals refine ⟨?_, ((Ext.refl w).alloc _).trans he⟩
        · exact ret_tup2 (by rw [smp_j (by assumption)]) rfl
        · exact ret_tup2 (by rw [smp_a (by assumption) (by assumption)]) rfl
        · exact ret_tup2 (by rw [smp_s (by assumption) (by assumption)]) rfl

end Go.Proofs.Ytcblahhfgkafhaa
