/-
  Walks: Position of the reference of layer 49.
-/
import Derived.Test.YtcblahhfgkafhaaW11
namespace Go.Proofs.Ytcblahhfgkafhaa
open Go.RowKit

set_option maxHeartbeats 1000000 in
theorem rpos_bad (ax ay az bx cy bz p n : Int) (w : World) (h : n < 1 ∨ p < 0 ∨ n < p) :
    Calls Try.prog 27 #[Ps ax ay az, Ps bx cy bz, .int .i64 p, .int .i64 n] w fun e w' => e = .returned (.tuple #[Ps 0 0 0, .int .i64 1]) ∧ Ext w w' := by
  rcases (show n < 1 ∨ (¬ n < 1 ∧ p < 0) ∨ (¬ n < 1 ∧ ¬ p < 0 ∧ n < p) by omega) with h1 | ⟨h1, h2⟩ | ⟨h1, h2, h3⟩
  · clear h
    go_enter Try.func27, Try.ntmps27
    go_wp2
    refine bodyPost_ret (v := .tuple #[Ps 0 0 0, .int .i64 1]) (by simp [results, Try.results27, go_sem]) rfl ⟨rfl, ?_⟩
    exact (((Ext.refl w).alloc _).alloc _).alloc _
  · have h1' : decide (n < 1) = false := by simpa using h1
    clear h
    go_enter Try.func27, Try.ntmps27
    go_wp2
    refine bodyPost_ret (v := .tuple #[Ps 0 0 0, .int .i64 1]) (by simp [results, Try.results27, go_sem]) rfl ⟨rfl, ?_⟩
    exact (((Ext.refl w).alloc _).alloc _).alloc _
  · have h1' : decide (n < 1) = false := by simpa using h1
    have h2' : decide (p < 0) = false := by simpa using h2
    clear h
    go_enter Try.func27, Try.ntmps27
    go_wp2
    refine bodyPost_ret (v := .tuple #[Ps 0 0 0, .int .i64 1]) (by simp [results, Try.results27, go_sem]) rfl ⟨rfl, ?_⟩
    exact (((Ext.refl w).alloc _).alloc _).alloc _

/-- The boxes of the reference's Position. -/
structure QBox (w W : World) (ax ay az bx cy bz : Int) : Prop where
  ext : Ext w W
  a0 : ∀ x : Later W, x.w.cell? ⟨w.heap.size, 0, none⟩ = some (.int .i64 ax)
  a1 : ∀ x : Later W, x.w.cell? ⟨w.heap.size, 1, none⟩ = some (.int .i64 ay)
  a2 : ∀ x : Later W, x.w.cell? ⟨w.heap.size, 2, none⟩ = some (.int .i64 az)
  b0 : ∀ x : Later W, x.w.cell? ⟨w.heap.size + 1, 0, none⟩ = some (.int .i64 bx)
  b1 : ∀ x : Later W, x.w.cell? ⟨w.heap.size + 1, 1, none⟩ = some (.int .i64 cy)
  b2 : ∀ x : Later W, x.w.cell? ⟨w.heap.size + 1, 2, none⟩ = some (.int .i64 bz)
  r0 : ∀ x : Later W, x.w.cell? ⟨w.heap.size + 1 + 1, 0, none⟩ = some (.int .i64 0)
  r1 : ∀ x : Later W, x.w.cell? ⟨w.heap.size + 1 + 1, 1, none⟩ = some (.int .i64 0)
  r2 : ∀ x : Later W, x.w.cell? ⟨w.heap.size + 1 + 1, 2, none⟩ = some (.int .i64 0)
  f0 : ∀ x : Later W, x.w.frozen? ⟨w.heap.size + 1 + 1, 0, none⟩ = false
  f1 : ∀ x : Later W, x.w.frozen? ⟨w.heap.size + 1 + 1, 1, none⟩ = false
  f2 : ∀ x : Later W, x.w.frozen? ⟨w.heap.size + 1 + 1, 2, none⟩ = false

theorem rpos_boxes {w : World} (ax ay az bx cy bz : Int) (t : TypeId) : ∃ W : World, ((w.alloc (.cells #[.int .i64 ax, .int .i64 ay, .int .i64 az] t)).alloc (.cells #[.int .i64 bx, .int .i64 cy, .int .i64 bz] t)).alloc (.cells #[.int .i64 0, .int .i64 0, .int .i64 0] t) = W ∧ QBox w W ax ay az bx cy bz := by
  refine ⟨_, rfl, ?_⟩
  exact {
    ext := (((Ext.refl w).alloc _).alloc _).alloc _
    a0 := Later.cell (by simp [go_sem])
    a1 := Later.cell (by simp [go_sem])
    a2 := Later.cell (by simp [go_sem])
    b0 := Later.cell (by simp [go_sem])
    b1 := Later.cell (by simp [go_sem])
    b2 := Later.cell (by simp [go_sem])
    r0 := Later.cell (by simp [go_sem])
    r1 := Later.cell (by simp [go_sem])
    r2 := Later.cell (by simp [go_sem])
    f0 := Later.frozen (by simp) (by simp [go_sem])
    f1 := Later.frozen (by simp) (by simp [go_sem])
    f2 := Later.frozen (by simp) (by simp [go_sem]) }

set_option maxHeartbeats 1000000 in
theorem rpos_far0 (ax ay az bx cy bz p n : Int) (w : World) (h1 : ¬ n < 1) (h2 : ¬ p < 0) (h3 : ¬ n < p)  (m0 : near n = false) :
    Calls Try.prog 27 #[Ps ax ay az, Ps bx cy bz, .int .i64 p, .int .i64 n] w fun e w' => e = .returned (.tuple #[Ps 0 0 0, .int .i64 11]) ∧ Ext w w' := by
  have h1' : decide (n < 1) = false := by simpa using h1
  have h2' : decide (p < 0) = false := by simpa using h2
  have h3' : decide (n < p) = false := by simpa using h3
  go_enter Try.func27, Try.ntmps27
  go_wp2_with ((go_at_call 40; refine (far_any _ _).mono ?_; rintro e w' ⟨rfl, rfl⟩))
  refine bodyPost_ret (v := .tuple #[Ps 0 0 0, .int .i64 11]) (by simp [results, Try.results27, go_sem]) rfl ⟨rfl, ?_⟩
  exact (((Ext.refl w).alloc _).alloc _).alloc _

set_option maxHeartbeats 1000000 in
theorem rpos_far1 (ax ay az bx cy bz p n : Int) (w : World) (h1 : ¬ n < 1) (h2 : ¬ p < 0) (h3 : ¬ n < p) (m0 : near n = true) (m1 : near ax = false) :
    Calls Try.prog 27 #[Ps ax ay az, Ps bx cy bz, .int .i64 p, .int .i64 n] w fun e w' => e = .returned (.tuple #[Ps 0 0 0, .int .i64 11]) ∧ Ext w w' := by
  have h1' : decide (n < 1) = false := by simpa using h1
  have h2' : decide (p < 0) = false := by simpa using h2
  have h3' : decide (n < p) = false := by simpa using h3
  go_enter Try.func27, Try.ntmps27
  go_wp2_with ((go_at_call 40; refine (far_any _ _).mono ?_; rintro e w' ⟨rfl, rfl⟩))
  refine bodyPost_ret (v := .tuple #[Ps 0 0 0, .int .i64 11]) (by simp [results, Try.results27, go_sem]) rfl ⟨rfl, ?_⟩
  exact (((Ext.refl w).alloc _).alloc _).alloc _

set_option maxHeartbeats 1000000 in
theorem rpos_far2 (ax ay az bx cy bz p n : Int) (w : World) (h1 : ¬ n < 1) (h2 : ¬ p < 0) (h3 : ¬ n < p) (m0 : near n = true) (m1 : near ax = true) (m2 : near ay = false) :
    Calls Try.prog 27 #[Ps ax ay az, Ps bx cy bz, .int .i64 p, .int .i64 n] w fun e w' => e = .returned (.tuple #[Ps 0 0 0, .int .i64 11]) ∧ Ext w w' := by
  have h1' : decide (n < 1) = false := by simpa using h1
  have h2' : decide (p < 0) = false := by simpa using h2
  have h3' : decide (n < p) = false := by simpa using h3
  go_enter Try.func27, Try.ntmps27
  go_wp2_with ((go_at_call 40; refine (far_any _ _).mono ?_; rintro e w' ⟨rfl, rfl⟩))
  refine bodyPost_ret (v := .tuple #[Ps 0 0 0, .int .i64 11]) (by simp [results, Try.results27, go_sem]) rfl ⟨rfl, ?_⟩
  exact (((Ext.refl w).alloc _).alloc _).alloc _

set_option maxHeartbeats 1000000 in
theorem rpos_far3 (ax ay az bx cy bz p n : Int) (w : World) (h1 : ¬ n < 1) (h2 : ¬ p < 0) (h3 : ¬ n < p) (m0 : near n = true) (m1 : near ax = true) (m2 : near ay = true) (m3 : near az = false) :
    Calls Try.prog 27 #[Ps ax ay az, Ps bx cy bz, .int .i64 p, .int .i64 n] w fun e w' => e = .returned (.tuple #[Ps 0 0 0, .int .i64 11]) ∧ Ext w w' := by
  have h1' : decide (n < 1) = false := by simpa using h1
  have h2' : decide (p < 0) = false := by simpa using h2
  have h3' : decide (n < p) = false := by simpa using h3
  go_enter Try.func27, Try.ntmps27
  go_wp2_with ((go_at_call 40; refine (far_any _ _).mono ?_; rintro e w' ⟨rfl, rfl⟩))
  refine bodyPost_ret (v := .tuple #[Ps 0 0 0, .int .i64 11]) (by simp [results, Try.results27, go_sem]) rfl ⟨rfl, ?_⟩
  exact (((Ext.refl w).alloc _).alloc _).alloc _

set_option maxHeartbeats 1000000 in
theorem rpos_far4 (ax ay az bx cy bz p n : Int) (w : World) (h1 : ¬ n < 1) (h2 : ¬ p < 0) (h3 : ¬ n < p) (m0 : near n = true) (m1 : near ax = true) (m2 : near ay = true) (m3 : near az = true) (m4 : near bx = false) :
    Calls Try.prog 27 #[Ps ax ay az, Ps bx cy bz, .int .i64 p, .int .i64 n] w fun e w' => e = .returned (.tuple #[Ps 0 0 0, .int .i64 11]) ∧ Ext w w' := by
  have h1' : decide (n < 1) = false := by simpa using h1
  have h2' : decide (p < 0) = false := by simpa using h2
  have h3' : decide (n < p) = false := by simpa using h3
  go_enter Try.func27, Try.ntmps27
  go_wp2_with ((go_at_call 40; refine (far_any _ _).mono ?_; rintro e w' ⟨rfl, rfl⟩))
  refine bodyPost_ret (v := .tuple #[Ps 0 0 0, .int .i64 11]) (by simp [results, Try.results27, go_sem]) rfl ⟨rfl, ?_⟩
  exact (((Ext.refl w).alloc _).alloc _).alloc _

set_option maxHeartbeats 1000000 in
theorem rpos_far5 (ax ay az bx cy bz p n : Int) (w : World) (h1 : ¬ n < 1) (h2 : ¬ p < 0) (h3 : ¬ n < p) (m0 : near n = true) (m1 : near ax = true) (m2 : near ay = true) (m3 : near az = true) (m4 : near bx = true) (m5 : near cy = false) :
    Calls Try.prog 27 #[Ps ax ay az, Ps bx cy bz, .int .i64 p, .int .i64 n] w fun e w' => e = .returned (.tuple #[Ps 0 0 0, .int .i64 11]) ∧ Ext w w' := by
  have h1' : decide (n < 1) = false := by simpa using h1
  have h2' : decide (p < 0) = false := by simpa using h2
  have h3' : decide (n < p) = false := by simpa using h3
  go_enter Try.func27, Try.ntmps27
  go_wp2_with ((go_at_call 40; refine (far_any _ _).mono ?_; rintro e w' ⟨rfl, rfl⟩))
  refine bodyPost_ret (v := .tuple #[Ps 0 0 0, .int .i64 11]) (by simp [results, Try.results27, go_sem]) rfl ⟨rfl, ?_⟩
  exact (((Ext.refl w).alloc _).alloc _).alloc _

set_option maxHeartbeats 1000000 in
theorem rpos_far6 (ax ay az bx cy bz p n : Int) (w : World) (h1 : ¬ n < 1) (h2 : ¬ p < 0) (h3 : ¬ n < p) (m0 : near n = true) (m1 : near ax = true) (m2 : near ay = true) (m3 : near az = true) (m4 : near bx = true) (m5 : near cy = true) (m6 : near bz = false) :
    Calls Try.prog 27 #[Ps ax ay az, Ps bx cy bz, .int .i64 p, .int .i64 n] w fun e w' => e = .returned (.tuple #[Ps 0 0 0, .int .i64 11]) ∧ Ext w w' := by
  have h1' : decide (n < 1) = false := by simpa using h1
  have h2' : decide (p < 0) = false := by simpa using h2
  have h3' : decide (n < p) = false := by simpa using h3
  go_enter Try.func27, Try.ntmps27
  go_wp2_with ((go_at_call 40; refine (far_any _ _).mono ?_; rintro e w' ⟨rfl, rfl⟩))
  refine bodyPost_ret (v := .tuple #[Ps 0 0 0, .int .i64 11]) (by simp [results, Try.results27, go_sem]) rfl ⟨rfl, ?_⟩
  exact (((Ext.refl w).alloc _).alloc _).alloc _


set_option maxHeartbeats 2000000 in
theorem rpos_near (ax ay az bx cy bz p n : Int) (w : World) (h1 : ¬ n < 1) (h2 : ¬ p < 0) (h3 : ¬ n < p) (m0 : near n = true) (m1 : near ax = true) (m2 : near ay = true) (m3 : near az = true) (m4 : near bx = true) (m5 : near cy = true) (m6 : near bz = true) :
    Calls Try.prog 27 #[Ps ax ay az, Ps bx cy bz, .int .i64 p, .int .i64 n] w fun e w' => e = .returned (.tuple #[Ps (btw ax bx p n) (btw ay cy p n) (btw az bz p n), .int .i64 0]) ∧ Ext w w' := by
  have h1' : decide (n < 1) = false := by simpa using h1
  have h2' : decide (p < 0) = false := by simpa using h2
  have h3' : decide (n < p) = false := by simpa using h3
  obtain ⟨n1, n2⟩ := (inR_iff _ _ _).1 m0
  obtain ⟨ax1, ax2⟩ := (inR_iff _ _ _).1 m1
  obtain ⟨ay1, ay2⟩ := (inR_iff _ _ _).1 m2
  obtain ⟨az1, az2⟩ := (inR_iff _ _ _).1 m3
  obtain ⟨bx1, bx2⟩ := (inR_iff _ _ _).1 m4
  obtain ⟨cy1, cy2⟩ := (inR_iff _ _ _).1 m5
  obtain ⟨bz1, bz2⟩ := (inR_iff _ _ _).1 m6
  go_enter Try.func27, Try.ntmps27
  go_wp2_with ((go_at_call 40; refine (far_any _ _).mono ?_; rintro e w' ⟨rfl, rfl⟩))
  obtain ⟨W, hW, B⟩ := rpos_boxes (w := w) ax ay az bx cy bz 47
  rw [hW]; clear hW
  have a0 := B.a0; have a1 := B.a1; have a2 := B.a2; have b0 := B.b0; have b1 := B.b1; have b2 := B.b2
  refine wp_region_tail 22 (by kernel_rfl) (by kernel_rfl) (by kernel_rfl) ?_
  simp only [List.take_succ_cons, List.take_zero, List.drop_succ_cons, List.drop_zero]
  repeat (go_big_quiet_step ((go_at_call 41; exact Calls.later_same (rbetween_any _ _ p n _ (by omega) (by omega) (by omega) (by omega) (by omega) (by omega) (by omega) (by omega)))))
  refine wpQuiet_nil ?_
  rintro _ ⟨x, rfl⟩
  have r0 := B.r0; have r1 := B.r1; have r2 := B.r2; have f0 := B.f0; have f1 := B.f1; have f2 := B.f2
  go_wp2
  refine bodyPost_ret (v := .tuple #[Ps (btw ax bx p n) (btw ay cy p n) (btw az bz p n), .int .i64 0]) (by simp [results, Try.results27, go_sem, r0, r1, r2]) rfl ⟨rfl, ?_⟩
  exact (((B.ext.trans x.ext).setCell (by simp; omega) _).setCell (by simp; omega) _).setCell (by simp; omega) _

/-- What Position returns. -/
def posR (ax ay az bx cy bz p n : Int) : Value := if n < 1 ∨ p < 0 ∨ n < p then .tuple #[Ps 0 0 0, .int .i64 1] else posV ax ay az bx cy bz p n

theorem pos_any (ax ay az bx cy bz p n : Int) (w : World) :
    Calls Try.prog 26 #[Ps ax ay az, Ps bx cy bz, .int .i64 p, .int .i64 n] w fun e w' => e = .returned (posR ax ay az bx cy bz p n) ∧ Ext w w' := by
  by_cases h : n < 1 ∨ p < 0 ∨ n < p
  · rw [show posR ax ay az bx cy bz p n = _ from if_pos h]; exact pos_bad ax ay az bx cy bz p n w h
  · rw [show posR ax ay az bx cy bz p n = _ from if_neg h]; exact pos_walk ax ay az bx cy bz p n w (by omega) (by omega) (by omega)

theorem rpos_any (ax ay az bx cy bz p n : Int) (w : World) :
    Calls Try.prog 27 #[Ps ax ay az, Ps bx cy bz, .int .i64 p, .int .i64 n] w fun e w' => e = .returned (posR ax ay az bx cy bz p n) ∧ Ext w w' := by
  by_cases h : n < 1 ∨ p < 0 ∨ n < p
  · rw [show posR ax ay az bx cy bz p n = _ from if_pos h]; exact rpos_bad ax ay az bx cy bz p n w h
  · rw [show posR ax ay az bx cy bz p n = _ from if_neg h]
    have g1 : ¬ n < 1 := by omega
    have g2 : ¬ p < 0 := by omega
    have g3 : ¬ n < p := by omega
    cases m0 : near n
    · rw [posV_far (by simp [lookAt, m0])]; exact rpos_far0 ax ay az bx cy bz p n w g1 g2 g3 m0
    cases m1 : near ax
    · rw [posV_far (by simp [lookAt, m1])]; exact rpos_far1 ax ay az bx cy bz p n w g1 g2 g3 m0 m1
    cases m2 : near ay
    · rw [posV_far (by simp [lookAt, m2])]; exact rpos_far2 ax ay az bx cy bz p n w g1 g2 g3 m0 m1 m2
    cases m3 : near az
    · rw [posV_far (by simp [lookAt, m3])]; exact rpos_far3 ax ay az bx cy bz p n w g1 g2 g3 m0 m1 m2 m3
    cases m4 : near bx
    · rw [posV_far (by simp [lookAt, m4])]; exact rpos_far4 ax ay az bx cy bz p n w g1 g2 g3 m0 m1 m2 m3 m4
    cases m5 : near cy
    · rw [posV_far (by simp [lookAt, m5])]; exact rpos_far5 ax ay az bx cy bz p n w g1 g2 g3 m0 m1 m2 m3 m4 m5
    cases m6 : near bz
    · rw [posV_far (by simp [lookAt, m6])]; exact rpos_far6 ax ay az bx cy bz p n w g1 g2 g3 m0 m1 m2 m3 m4 m5 m6
    rw [posV_near (by simp [lookAt, m0, m1, m2, m3, m4, m5, m6])]; exact rpos_near ax ay az bx cy bz p n w g1 g2 g3 m0 m1 m2 m3 m4 m5 m6

end Go.Proofs.Ytcblahhfgkafhaa
