/-
  Walks: next of layer 49.
-/
import Derived.Test.YtcblahhfgkafhaaW4
import Derived.Test.YtcblahhfgkafhaaTail
import Derived.Test.YtcblahhfgkafhaaMath6
namespace Go.Proofs.Ytcblahhfgkafhaa
open Go.RowKit

/-- The boxes of next: limits (N), a state (N + 1), the rest (N + 2). -/
structure NBox (W : World) (N : Nat) (s a j v b rest : Int) : Prop where
  lt : N + 2 < W.heap.size
  l0 : W.cell? ⟨N, 0, none⟩ = some (.int .i64 s)
  l1 : W.cell? ⟨N, 1, none⟩ = some (.int .i64 a)
  l2 : W.cell? ⟨N, 2, none⟩ = some (.int .i64 j)
  s0 : W.cell? ⟨N + 1, 0, none⟩ = some (.int .i64 v)
  s1 : W.cell? ⟨N + 1, 1, none⟩ = some (.int .i64 b)
  r : W.cell? ⟨N + 1 + 1, 0, none⟩ = some (.int .i64 rest)
theorem NBox.later {w w1 : World} {N : Nat} {s a j v b rest : Int} (h : NBox w N s a j v b rest) (he : Ext w w1) : NBox w1 N s a j v b rest where
  lt := Nat.lt_of_lt_of_le h.lt he.size
  l0 := by rw [he.cell (by have := h.lt; simp; omega)]; exact h.l0
  l1 := by rw [he.cell (by have := h.lt; simp; omega)]; exact h.l1
  l2 := by rw [he.cell (by have := h.lt; simp; omega)]; exact h.l2
  s0 := by rw [he.cell (by have := h.lt; simp; omega)]; exact h.s0
  s1 := by rw [he.cell (by have := h.lt; simp; omega)]; exact h.s1
  r := by rw [he.cell (by have := h.lt; simp; omega)]; exact h.r

set_option maxHeartbeats 1000000 in
theorem fits_any (N : Nat) (s a j v b rest x : Int) (w : World) (hv : vld s a j = true) (B : NBox w N s a j v b rest) (v1 : 0 ≤ v) (v2 : v ≤ 100000) (x1 : -1000000 ≤ x) (x2 : x ≤ 1000000) (r1 : -1000000000000 ≤ rest) (r2 : rest ≤ 1000000000000) :
    Calls Try.prog 46 #[.int .i64 x, .pointer (some ⟨N + 1, 0, none⟩), .pointer (some ⟨N + 1 + 1, 0, none⟩), .pointer (some ⟨N, 0, none⟩)] w fun e w' => e = .returned (.bool (fitsB s a j v rest x)) ∧ Ext w w' := by
  have HV := Lib.hid hv; clear hv
  have s0 := B.s0
  have l1 : N < w.heap.size := by have := B.lt; omega
  have l2 : N + 1 + 1 < w.heap.size := by have := B.lt; omega
  have B' := B.later ((Ext.refl w).alloc (.cells #[.int .i64 (v + x), .int .i64 x] 59))
  obtain ⟨W, hW⟩ : ∃ W, w.alloc (.cells #[.int .i64 (v + x), .int .i64 x] 59) = W := ⟨_, rfl⟩
  have hE : Ext w W := by rw [← hW]; exact (Ext.refl w).alloc _
  have t0 : ∀ y : Later W, y.w.cell? ⟨w.heap.size, 0, none⟩ = some (.int .i64 (v + x)) := Later.cell (by rw [← hW]; simp [go_sem])
  have t1 : ∀ y : Later W, y.w.cell? ⟨w.heap.size, 1, none⟩ = some (.int .i64 x) := Later.cell (by rw [← hW]; simp [go_sem])
  rw [hW] at B'
  have k0 := Later.cell B'.l0; have k1 := Later.cell B'.l1; have k2 := Later.cell B'.l2; have kr := Later.cell B'.r
  have HW := Lib.hid hW; clear hW
  by_cases h1 : v + x ≤ rest
  · cases h2 : saf s a j (v + x) x
    · have e : fitsB s a j v rest x = false := by simp [fitsB, h2]
      rw [e]; clear e
      go_enter Try.func46, Try.ntmps46
      go_wp2
      rw [HW.out]
      refine wp_region_later (by kernel_rfl) (by kernel_rfl) ?_
      repeat (go_big_quiet_step ((go_at_call 43; exact Calls.later (safe_any _ _ _ _ _ _ HV.out))))
      refine wpQuiet_nil ?_
      rintro _ ⟨y, rfl⟩
      go_wp2
      go_ret
      exact ⟨rfl, hE.trans y.ext⟩
    · have e : fitsB s a j v rest x = decide (dsum s a j (v + x) x ≤ rest - (v + x)) := by simp [fitsB, h1, h2]
      rw [e]; clear e
      have HS := Lib.hid h2
      go_enter Try.func46, Try.ntmps46
      go_wp2
      rw [HW.out]
      refine wp_region_later (by kernel_rfl) (by kernel_rfl) ?_
      repeat (go_big_quiet_step (first | (go_at_call 43; exact Calls.later (safe_any _ _ _ _ _ _ HV.out)) | (go_at_call 36; exact Calls.later (distance_any _ _ _ _ _ _ HV.out HS.out))))
      refine wpQuiet_nil ?_
      rintro _ ⟨y, rfl⟩
      go_wp2
      go_ret
      exact ⟨rfl, hE.trans y.ext⟩
  · have e : fitsB s a j v rest x = false := by simp [fitsB, h1]
    rw [e]; clear e
    have h1' : decide (v + x ≤ rest) = false := by simpa using h1
    go_enter Try.func46, Try.ntmps46
    go_wp2
    rw [HW.out]
    refine wp_region_later (by kernel_rfl) (by kernel_rfl) ?_
    repeat (go_big_quiet_step (fail))
    refine wpQuiet_nil ?_
    rintro _ ⟨y, rfl⟩
    go_wp2
    go_ret
    exact ⟨rfl, hE.trans y.ext⟩

end Go.Proofs.Ytcblahhfgkafhaa
