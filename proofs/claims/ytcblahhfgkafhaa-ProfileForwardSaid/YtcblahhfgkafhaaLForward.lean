/-
  ProfileForward, walked.
-/
import Derived.Test.YtcblahhfgkafhaaLPosition
import Derived.Test.YtcblahhfgkafhaaPlan
namespace Go.Proofs.Ytcblahhfgkafhaa
open Go.RowKit

set_option maxHeartbeats 400000 in
theorem between_up (a b c : Int) (w : World) (h1 : a ≤ b) (h2 : b ≤ c) :
    Calls Try.prog 28 #[.int .i64 a, .int .i64 b, .int .i64 c] w fun e w' => e = .returned (.bool true) ∧ w = w' := by
  by_cases h : a = c
  · obtain rfl : b = a := by omega
    subst h
    go_enter Try.func28, Try.ntmps28
    go_wp2
    go_ret
    exact ⟨rfl, rfl⟩
  · have h3 : a < c := by omega
    go_enter Try.func28, Try.ntmps28
    go_wp2
    go_ret
    exact ⟨rfl, rfl⟩
set_option maxHeartbeats 400000 in
theorem between_down (a b c : Int) (w : World) (h1 : c ≤ b) (h2 : b ≤ a) :
    Calls Try.prog 28 #[.int .i64 a, .int .i64 b, .int .i64 c] w fun e w' => e = .returned (.bool true) ∧ w = w' := by
  by_cases h : a = c
  · obtain rfl : b = a := by omega
    subst h
    go_enter Try.func28, Try.ntmps28
    go_wp2
    go_ret
    exact ⟨rfl, rfl⟩
  · have h3 : c < a := by omega
    go_enter Try.func28, Try.ntmps28
    go_wp2
    go_ret
    exact ⟨rfl, rfl⟩
theorem between_yes (a b c : Int) (w : World) (h : (a ≤ b ∧ b ≤ c) ∨ (c ≤ b ∧ b ≤ a)) :
    Calls Try.prog 28 #[.int .i64 a, .int .i64 b, .int .i64 c] w fun e w' => e = .returned (.bool true) ∧ w = w' := by
  rcases h with ⟨h1, h2⟩ | ⟨h1, h2⟩
  · exact between_up a b c w h1 h2
  · exact between_down a b c w h1 h2

/-- May a part be asked for? -/
def askOk (ax ay az bx cy bz p n : Int) : Prop := 1 ≤ n ∧ 0 ≤ p ∧ p ≤ n ∧ (lookAt ax ay az bx cy bz n).all near = true
theorem posR_ok {ax ay az bx cy bz p n : Int} (h : askOk ax ay az bx cy bz p n) : posR ax ay az bx cy bz p n = .tuple #[Ps (btw ax bx p n) (btw ay cy p n) (btw az bz p n), .int .i64 0] := by
  obtain ⟨h1, h2, h3, h4⟩ := h
  unfold posR
  rw [if_neg (by omega), posV_near h4]
theorem posR_err {ax ay az bx cy bz p n : Int} (h : ¬ askOk ax ay az bx cy bz p n) : ∃ c : Int, (c != 0) = true ∧ posR ax ay az bx cy bz p n = .tuple #[Ps 0 0 0, .int .i64 c] := by
  unfold posR
  by_cases h1 : n < 1 ∨ p < 0 ∨ n < p
  · rw [if_pos h1]; exact ⟨1, rfl, rfl⟩
  · rw [if_neg h1]
    cases h2 : (lookAt ax ay az bx cy bz n).all near
    · rw [posV_far h2]; exact ⟨11, rfl, rfl⟩
    · exact absurd ⟨by omega, by omega, by omega, h2⟩ h

theorem half_zero (n : Int) (h : 1 ≤ n) : n / (2 * n) = 0 := Int.ediv_eq_zero_of_lt (by omega) (by omega)
theorem btw_zero (a b n : Int) (h : 1 ≤ n) : btw a b 0 n = a := by
  unfold btw; rw [Int.mul_zero, Int.zero_add, half_zero n h]; omega
theorem btw_full (a b n : Int) (h : 1 ≤ n) : btw a b n n = b := by
  unfold btw
  have : 2 * (b - a) * n + n = n + (b - a) * (2 * n) := by rw [Int.mul_comm 2 (b - a), Int.mul_assoc]; omega
  rw [this, Int.add_mul_ediv_right _ _ (by omega), half_zero n h]; omega
theorem btw_up (a b p q n : Int) (h : 1 ≤ n) (hb : 0 ≤ b - a) (hp : p ≤ q) : btw a b p n ≤ btw a b q n := by
  unfold btw
  have h1 : 2 * (b - a) * p ≤ 2 * (b - a) * q := Int.mul_le_mul_of_nonneg_left hp (by omega)
  have := Int.ediv_le_ediv (show 0 < 2 * n by omega) (show 2 * (b - a) * p + n ≤ 2 * (b - a) * q + n by omega)
  omega
theorem btw_down (a b p q n : Int) (h : 1 ≤ n) (hb : b - a ≤ 0) (hp : p ≤ q) : btw a b q n ≤ btw a b p n := by
  unfold btw
  have h1 : -(2 * (b - a)) * p ≤ -(2 * (b - a)) * q := Int.mul_le_mul_of_nonneg_left hp (by omega)
  rw [Int.neg_mul, Int.neg_mul] at h1
  have := Int.ediv_le_ediv (show 0 < 2 * n by omega) (show 2 * (b - a) * q + n ≤ 2 * (b - a) * p + n by omega)
  omega
/-- In between, and forward. -/
theorem btw_order (a b p q n : Int) (h : 1 ≤ n) (p0 : 0 ≤ p) (pq : p ≤ q) (qn : q ≤ n) :
    ((a ≤ btw a b p n ∧ btw a b p n ≤ btw a b q n) ∨ (btw a b q n ≤ btw a b p n ∧ btw a b p n ≤ a)) ∧ ((btw a b p n ≤ btw a b q n ∧ btw a b q n ≤ b) ∨ (b ≤ btw a b q n ∧ btw a b q n ≤ btw a b p n)) := by
  by_cases hb : 0 ≤ b - a
  · have h1 := btw_up a b 0 p n h hb p0
    have h2 := btw_up a b p q n h hb pq
    have h3 := btw_up a b q n n h hb qn
    rw [btw_zero a b n h] at h1
    rw [btw_full a b n h] at h3
    exact ⟨.inl ⟨h1, h2⟩, .inl ⟨h2, h3⟩⟩
  · have h1 := btw_down a b 0 p n h (by omega) p0
    have h2 := btw_down a b p q n h (by omega) pq
    have h3 := btw_down a b q n n h (by omega) qn
    rw [btw_zero a b n h] at h1
    rw [btw_full a b n h] at h3
    exact ⟨.inr ⟨h2, h1⟩, .inr ⟨h3, h2⟩⟩


set_option maxHeartbeats 1000000 in
theorem lawForward1 (ax ay az bx cy bz x y n : Int) (w : World) (hxy : x < y) :
    Calls Try.prog 9 #[Ps ax ay az, Ps bx cy bz, .agg #[.int .i64 x, .int .i64 y, .int .i64 n]] w fun e w' => e = .returned (.bool true) ∧ Ext w w' := by
  go_enter Try.func9, Try.ntmps9
  go_wp2_with fail
  refine (awake_any _).mono ?_
  rintro e w1 ⟨rfl, he1⟩
  have b1 := TBox.of3 he1
  clear he1
  have c0 := Later.cell (b1.c 0 (by simp)); have c1 := Later.cell (b1.c 1 (by simp)); have c2 := Later.cell (b1.c 2 (by simp))
  simp only [List.getD_cons_zero, List.getD_cons_succ] at c0 c1 c2
  go_wp2_with fail
  refine wp_region_later (by kernel_rfl) (by kernel_rfl) ?_
  repeat (go_big_quiet_step (fail))
  refine wpQuiet_nil ?_
  rintro _ ⟨x2, rfl⟩
  have b2 := b1.later x2.ext
  clear b1 c0 c1 c2
  generalize x2.w = w2 at b2 ⊢
  clear x2 w1
  have a0 := b2.a0; have a1 := b2.a1; have a2 := b2.a2; have b0 := b2.b0; have b1' := b2.b1; have b2' := b2.b2
  go_wp2_with fail
  refine (pos_any ax ay az bx cy bz x n _).mono ?_
  by_cases hp : askOk ax ay az bx cy bz x n
  · rw [posR_ok hp]
    rintro e w3 ⟨rfl, he3⟩
    have b3 := b2.later he3
    clear b2 he3 a0 a1 a2 b0 b1' b2'
    have a0 := b3.a0; have a1 := b3.a1; have a2 := b3.a2; have b0 := b3.b0; have b1' := b3.b1; have b2' := b3.b2
    have lt3 := b3.lt
    have l0 : w.heap.size < w3.heap.size := by omega
    have l1 : w.heap.size + 1 < w3.heap.size := by omega
    have E3 := b3.ext
    go_wp2_with fail
    refine (pos_any ax ay az bx cy bz y n _).mono ?_
    by_cases hq : askOk ax ay az bx cy bz y n
    · rw [posR_ok hq]
      obtain ⟨n1, p0, pn, hnear⟩ := hp
      obtain ⟨-, q0, qn, -⟩ := hq
      have ex := btw_order ax bx x y n n1 p0 (by omega) qn
      have ey := btw_order ay cy x y n n1 p0 (by omega) qn
      have ez := btw_order az bz x y n n1 p0 (by omega) qn
      have EX := Lib.hid ex; have EY := Lib.hid ey; have EZ := Lib.hid ez
      clear ex ey ez
      have s0 : posR ax ay az bx cy bz 0 n = .tuple #[Ps ax ay az, .int .i64 0] := by
        rw [posR_ok ⟨n1, by omega, by omega, hnear⟩, btw_zero _ _ _ n1, btw_zero _ _ _ n1, btw_zero _ _ _ n1]
      have s1 : posR ax ay az bx cy bz n n = .tuple #[Ps bx cy bz, .int .i64 0] := by
        rw [posR_ok ⟨n1, by omega, by omega, hnear⟩, btw_full _ _ _ n1, btw_full _ _ _ n1, btw_full _ _ _ n1]
      have S0 := Lib.hid s0; have S1 := Lib.hid s1
      clear s0 s1 hnear
      generalize btw ax bx x n = px at *
      generalize btw ay cy x n = py at *
      generalize btw az bz x n = pz at *
      generalize btw ax bx y n = qx at *
      generalize btw ay cy y n = qy at *
      generalize btw az bz y n = qz at *
      rintro e w4 ⟨rfl, he4⟩
      have b4 := b3.later (((Ext.refl w3).alloc _).trans he4)
      have p4 := VBox.of he4
      clear b3 he4 a0 a1 a2 b0 b1' b2' l0 l1 lt3
      have a0 := b4.a0; have a1 := b4.a1; have a2 := b4.a2; have b0 := b4.b0; have b1' := b4.b1; have b2' := b4.b2
      have lt4 := b4.lt
      have l0 : w.heap.size < w4.heap.size := by omega
      have l1 : w.heap.size + 1 < w4.heap.size := by omega
      go_wp2_with fail
      refine (pos_any ax ay az bx cy bz 0 n _).mono ?_
      rw [S0.out]
      rintro e w5 ⟨rfl, he5⟩
      have b5 := b4.later (((Ext.refl w4).alloc _).trans he5)
      have p5 := p4.later (((Ext.refl w4).alloc _).trans he5)
      have q5 := VBox.of he5
      clear b4 p4 he5 a0 a1 a2 b0 b1' b2' l0 l1 lt4
      have a0 := b5.a0; have a1 := b5.a1; have a2 := b5.a2; have b0 := b5.b0; have b1' := b5.b1; have b2' := b5.b2
      have lt5 := b5.lt
      have l0 : w.heap.size < w5.heap.size := by omega
      have l1 : w.heap.size + 1 < w5.heap.size := by omega
      go_wp2_with fail
      refine (pos_any ax ay az bx cy bz n n _).mono ?_
      rw [S1.out]
      rintro e w6 ⟨rfl, he6⟩
      have b6 := b5.later (((Ext.refl w5).alloc _).trans he6)
      have p6 := p5.later (((Ext.refl w5).alloc _).trans he6)
      have q6 := q5.later (((Ext.refl w5).alloc _).trans he6)
      have s6 := VBox.of he6
      have o35 : w3.heap.size < w5.heap.size := p5.lt
      have o45 : w4.heap.size < w5.heap.size := q5.lt
      clear b5 p5 q5 he6 a0 a1 a2 b0 b1' b2' l0 l1 lt5
      have a0 := b6.a0; have a1 := b6.a1; have a2 := b6.a2; have b0 := b6.b0; have b1' := b6.b1; have b2' := b6.b2
      have lt6 := b6.lt
      have l0 : w.heap.size < w6.heap.size := by omega
      have l1 : w.heap.size + 1 < w6.heap.size := by omega
      have l3 := p6.lt; have l4 := q6.lt; have l5 := s6.lt
      have p0' := p6.c0; have p1' := p6.c1; have p2' := p6.c2
      have q0' := q6.c0; have q1' := q6.c1; have q2' := q6.c2
      have t0' := s6.c0; have t1' := s6.c1; have t2' := s6.c2
      have hE := b6.ext
      go_wp2_with fail
      ((with_reducible refine (between_yes ax px qx _ EX.out.1).mono ?_); rintro e w' ⟨rfl, rfl⟩)
      go_wp2_with fail
      ((with_reducible refine (between_yes px qx bx _ EX.out.2).mono ?_); rintro e w' ⟨rfl, rfl⟩)
      go_wp2_with fail
      ((with_reducible refine (between_yes ay py qy _ EY.out.1).mono ?_); rintro e w' ⟨rfl, rfl⟩)
      go_wp2_with fail
      ((with_reducible refine (between_yes py qy cy _ EY.out.2).mono ?_); rintro e w' ⟨rfl, rfl⟩)
      go_wp2_with fail
      ((with_reducible refine (between_yes az pz qz _ EZ.out.1).mono ?_); rintro e w' ⟨rfl, rfl⟩)
      go_wp2_with fail
      ((with_reducible refine (between_yes pz qz bz _ EZ.out.2).mono ?_); rintro e w' ⟨rfl, rfl⟩)
      go_wp2
      go_ret
      exact ⟨rfl, hE.alloc _⟩
    · obtain ⟨c, hc, hr⟩ := posR_err hq
      rw [hr]
      clear hp hq hr
      rintro e w4 ⟨rfl, he4⟩
      go_wp2
      go_ret
      exact ⟨rfl, ((E3.alloc _).trans he4).alloc _⟩
  · obtain ⟨c, hc, hr⟩ := posR_err hp
    rw [hr]
    clear hp hr
    rintro e w3 ⟨rfl, he3⟩
    have b3 := b2.later he3
    clear b2 he3 a0 a1 a2 b0 b1' b2'
    have a0 := b3.a0; have a1 := b3.a1; have a2 := b3.a2; have b0 := b3.b0; have b1' := b3.b1; have b2' := b3.b2
    have lt3 := b3.lt
    have l0 : w.heap.size < w3.heap.size := by omega
    have l1 : w.heap.size + 1 < w3.heap.size := by omega
    have E3 := b3.ext
    obtain ⟨u, v, t, c', hR⟩ := posR_form ax ay az bx cy bz y n
    have HR := Lib.hid hR; clear hR
    go_wp2_with fail
    refine (pos_any ax ay az bx cy bz y n _).mono ?_
    rw [HR.out]
    rintro e w4 ⟨rfl, he4⟩
    go_wp2
    go_ret
    exact ⟨rfl, ((E3.alloc _).trans he4).alloc _⟩

set_option maxHeartbeats 1000000 in
theorem lawForward3 (ax ay az bx cy bz x y n : Int) (w : World) (hxy : x = y) :
    Calls Try.prog 9 #[Ps ax ay az, Ps bx cy bz, .agg #[.int .i64 x, .int .i64 y, .int .i64 n]] w fun e w' => e = .returned (.bool true) ∧ Ext w w' := by
  subst hxy
  go_enter Try.func9, Try.ntmps9
  go_wp2_with fail
  refine (awake_any _).mono ?_
  rintro e w1 ⟨rfl, he1⟩
  have b1 := TBox.of3 he1
  clear he1
  have c0 := Later.cell (b1.c 0 (by simp)); have c1 := Later.cell (b1.c 1 (by simp)); have c2 := Later.cell (b1.c 2 (by simp))
  simp only [List.getD_cons_zero, List.getD_cons_succ] at c0 c1 c2
  go_wp2_with fail
  refine wp_region_later (by kernel_rfl) (by kernel_rfl) ?_
  repeat (go_big_quiet_step (fail))
  refine wpQuiet_nil ?_
  rintro _ ⟨x2, rfl⟩
  have b2 := b1.later x2.ext
  clear b1 c0 c1 c2
  generalize x2.w = w2 at b2 ⊢
  clear x2 w1
  have a0 := b2.a0; have a1 := b2.a1; have a2 := b2.a2; have b0 := b2.b0; have b1' := b2.b1; have b2' := b2.b2
  go_wp2_with fail
  refine (pos_any ax ay az bx cy bz x n _).mono ?_
  by_cases hp : askOk ax ay az bx cy bz x n
  · rw [posR_ok hp]
    rintro e w3 ⟨rfl, he3⟩
    have b3 := b2.later he3
    clear b2 he3 a0 a1 a2 b0 b1' b2'
    have a0 := b3.a0; have a1 := b3.a1; have a2 := b3.a2; have b0 := b3.b0; have b1' := b3.b1; have b2' := b3.b2
    have lt3 := b3.lt
    have l0 : w.heap.size < w3.heap.size := by omega
    have l1 : w.heap.size + 1 < w3.heap.size := by omega
    have E3 := b3.ext
    go_wp2_with fail
    refine (pos_any ax ay az bx cy bz x n _).mono ?_
    by_cases hq : askOk ax ay az bx cy bz x n
    · rw [posR_ok hq]
      obtain ⟨n1, p0, pn, hnear⟩ := hp
      obtain ⟨-, q0, qn, -⟩ := hq
      have ex := btw_order ax bx x x n n1 p0 (by omega) qn
      have ey := btw_order ay cy x x n n1 p0 (by omega) qn
      have ez := btw_order az bz x x n n1 p0 (by omega) qn
      have EX := Lib.hid ex; have EY := Lib.hid ey; have EZ := Lib.hid ez
      clear ex ey ez
      have s0 : posR ax ay az bx cy bz 0 n = .tuple #[Ps ax ay az, .int .i64 0] := by
        rw [posR_ok ⟨n1, by omega, by omega, hnear⟩, btw_zero _ _ _ n1, btw_zero _ _ _ n1, btw_zero _ _ _ n1]
      have s1 : posR ax ay az bx cy bz n n = .tuple #[Ps bx cy bz, .int .i64 0] := by
        rw [posR_ok ⟨n1, by omega, by omega, hnear⟩, btw_full _ _ _ n1, btw_full _ _ _ n1, btw_full _ _ _ n1]
      have S0 := Lib.hid s0; have S1 := Lib.hid s1
      clear s0 s1 hnear
      generalize btw ax bx x n = px at *
      generalize btw ay cy x n = py at *
      generalize btw az bz x n = pz at *
      rintro e w4 ⟨rfl, he4⟩
      have b4 := b3.later (((Ext.refl w3).alloc _).trans he4)
      have p4 := VBox.of he4
      clear b3 he4 a0 a1 a2 b0 b1' b2' l0 l1 lt3
      have a0 := b4.a0; have a1 := b4.a1; have a2 := b4.a2; have b0 := b4.b0; have b1' := b4.b1; have b2' := b4.b2
      have lt4 := b4.lt
      have l0 : w.heap.size < w4.heap.size := by omega
      have l1 : w.heap.size + 1 < w4.heap.size := by omega
      go_wp2_with fail
      refine (pos_any ax ay az bx cy bz 0 n _).mono ?_
      rw [S0.out]
      rintro e w5 ⟨rfl, he5⟩
      have b5 := b4.later (((Ext.refl w4).alloc _).trans he5)
      have p5 := p4.later (((Ext.refl w4).alloc _).trans he5)
      have q5 := VBox.of he5
      clear b4 p4 he5 a0 a1 a2 b0 b1' b2' l0 l1 lt4
      have a0 := b5.a0; have a1 := b5.a1; have a2 := b5.a2; have b0 := b5.b0; have b1' := b5.b1; have b2' := b5.b2
      have lt5 := b5.lt
      have l0 : w.heap.size < w5.heap.size := by omega
      have l1 : w.heap.size + 1 < w5.heap.size := by omega
      go_wp2_with fail
      refine (pos_any ax ay az bx cy bz n n _).mono ?_
      rw [S1.out]
      rintro e w6 ⟨rfl, he6⟩
      have b6 := b5.later (((Ext.refl w5).alloc _).trans he6)
      have p6 := p5.later (((Ext.refl w5).alloc _).trans he6)
      have q6 := q5.later (((Ext.refl w5).alloc _).trans he6)
      have s6 := VBox.of he6
      have o35 : w3.heap.size < w5.heap.size := p5.lt
      have o45 : w4.heap.size < w5.heap.size := q5.lt
      clear b5 p5 q5 he6 a0 a1 a2 b0 b1' b2' l0 l1 lt5
      have a0 := b6.a0; have a1 := b6.a1; have a2 := b6.a2; have b0 := b6.b0; have b1' := b6.b1; have b2' := b6.b2
      have lt6 := b6.lt
      have l0 : w.heap.size < w6.heap.size := by omega
      have l1 : w.heap.size + 1 < w6.heap.size := by omega
      have l3 := p6.lt; have l4 := q6.lt; have l5 := s6.lt
      have p0' := p6.c0; have p1' := p6.c1; have p2' := p6.c2
      have q0' := q6.c0; have q1' := q6.c1; have q2' := q6.c2
      have t0' := s6.c0; have t1' := s6.c1; have t2' := s6.c2
      have hE := b6.ext
      go_wp2_with fail
      ((with_reducible refine (between_yes ax px px _ EX.out.1).mono ?_); rintro e w' ⟨rfl, rfl⟩)
      go_wp2_with fail
      ((with_reducible refine (between_yes px px bx _ EX.out.2).mono ?_); rintro e w' ⟨rfl, rfl⟩)
      go_wp2_with fail
      ((with_reducible refine (between_yes ay py py _ EY.out.1).mono ?_); rintro e w' ⟨rfl, rfl⟩)
      go_wp2_with fail
      ((with_reducible refine (between_yes py py cy _ EY.out.2).mono ?_); rintro e w' ⟨rfl, rfl⟩)
      go_wp2_with fail
      ((with_reducible refine (between_yes az pz pz _ EZ.out.1).mono ?_); rintro e w' ⟨rfl, rfl⟩)
      go_wp2_with fail
      ((with_reducible refine (between_yes pz pz bz _ EZ.out.2).mono ?_); rintro e w' ⟨rfl, rfl⟩)
      go_wp2
      go_ret
      exact ⟨rfl, hE.alloc _⟩
    · obtain ⟨c, hc, hr⟩ := posR_err hq
      rw [hr]
      clear hp hq hr
      rintro e w4 ⟨rfl, he4⟩
      go_wp2
      go_ret
      exact ⟨rfl, ((E3.alloc _).trans he4).alloc _⟩
  · obtain ⟨c, hc, hr⟩ := posR_err hp
    rw [hr]
    clear hp hr
    rintro e w3 ⟨rfl, he3⟩
    have b3 := b2.later he3
    clear b2 he3 a0 a1 a2 b0 b1' b2'
    have a0 := b3.a0; have a1 := b3.a1; have a2 := b3.a2; have b0 := b3.b0; have b1' := b3.b1; have b2' := b3.b2
    have lt3 := b3.lt
    have l0 : w.heap.size < w3.heap.size := by omega
    have l1 : w.heap.size + 1 < w3.heap.size := by omega
    have E3 := b3.ext
    obtain ⟨u, v, t, c', hR⟩ := posR_form ax ay az bx cy bz x n
    have HR := Lib.hid hR; clear hR
    go_wp2_with fail
    refine (pos_any ax ay az bx cy bz x n _).mono ?_
    rw [HR.out]
    rintro e w4 ⟨rfl, he4⟩
    go_wp2
    go_ret
    exact ⟨rfl, ((E3.alloc _).trans he4).alloc _⟩

set_option maxHeartbeats 1000000 in
theorem lawForward2 (ax ay az bx cy bz x y n : Int) (w : World) (hxy : y < x) :
    Calls Try.prog 9 #[Ps ax ay az, Ps bx cy bz, .agg #[.int .i64 x, .int .i64 y, .int .i64 n]] w fun e w' => e = .returned (.bool true) ∧ Ext w w' := by
  go_enter Try.func9, Try.ntmps9
  go_wp2_with fail
  refine (awake_any _).mono ?_
  rintro e w1 ⟨rfl, he1⟩
  have b1 := TBox.of3 he1
  clear he1
  have c0 := Later.cell (b1.c 0 (by simp)); have c1 := Later.cell (b1.c 1 (by simp)); have c2 := Later.cell (b1.c 2 (by simp))
  simp only [List.getD_cons_zero, List.getD_cons_succ] at c0 c1 c2
  go_wp2_with fail
  refine wp_region_later (by kernel_rfl) (by kernel_rfl) ?_
  repeat (go_big_quiet_step (fail))
  refine wpQuiet_nil ?_
  rintro _ ⟨x2, rfl⟩
  have b2 := b1.later x2.ext
  clear b1 c0 c1 c2
  generalize x2.w = w2 at b2 ⊢
  clear x2 w1
  have a0 := b2.a0; have a1 := b2.a1; have a2 := b2.a2; have b0 := b2.b0; have b1' := b2.b1; have b2' := b2.b2
  go_wp2_with fail
  refine (pos_any ax ay az bx cy bz y n _).mono ?_
  by_cases hp : askOk ax ay az bx cy bz y n
  · rw [posR_ok hp]
    rintro e w3 ⟨rfl, he3⟩
    have b3 := b2.later he3
    clear b2 he3 a0 a1 a2 b0 b1' b2'
    have a0 := b3.a0; have a1 := b3.a1; have a2 := b3.a2; have b0 := b3.b0; have b1' := b3.b1; have b2' := b3.b2
    have lt3 := b3.lt
    have l0 : w.heap.size < w3.heap.size := by omega
    have l1 : w.heap.size + 1 < w3.heap.size := by omega
    have E3 := b3.ext
    go_wp2_with fail
    refine (pos_any ax ay az bx cy bz x n _).mono ?_
    by_cases hq : askOk ax ay az bx cy bz x n
    · rw [posR_ok hq]
      obtain ⟨n1, p0, pn, hnear⟩ := hp
      obtain ⟨-, q0, qn, -⟩ := hq
      have ex := btw_order ax bx y x n n1 p0 (by omega) qn
      have ey := btw_order ay cy y x n n1 p0 (by omega) qn
      have ez := btw_order az bz y x n n1 p0 (by omega) qn
      have EX := Lib.hid ex; have EY := Lib.hid ey; have EZ := Lib.hid ez
      clear ex ey ez
      have s0 : posR ax ay az bx cy bz 0 n = .tuple #[Ps ax ay az, .int .i64 0] := by
        rw [posR_ok ⟨n1, by omega, by omega, hnear⟩, btw_zero _ _ _ n1, btw_zero _ _ _ n1, btw_zero _ _ _ n1]
      have s1 : posR ax ay az bx cy bz n n = .tuple #[Ps bx cy bz, .int .i64 0] := by
        rw [posR_ok ⟨n1, by omega, by omega, hnear⟩, btw_full _ _ _ n1, btw_full _ _ _ n1, btw_full _ _ _ n1]
      have S0 := Lib.hid s0; have S1 := Lib.hid s1
      clear s0 s1 hnear
      generalize btw ax bx y n = px at *
      generalize btw ay cy y n = py at *
      generalize btw az bz y n = pz at *
      generalize btw ax bx x n = qx at *
      generalize btw ay cy x n = qy at *
      generalize btw az bz x n = qz at *
      rintro e w4 ⟨rfl, he4⟩
      have b4 := b3.later (((Ext.refl w3).alloc _).trans he4)
      have p4 := VBox.of he4
      clear b3 he4 a0 a1 a2 b0 b1' b2' l0 l1 lt3
      have a0 := b4.a0; have a1 := b4.a1; have a2 := b4.a2; have b0 := b4.b0; have b1' := b4.b1; have b2' := b4.b2
      have lt4 := b4.lt
      have l0 : w.heap.size < w4.heap.size := by omega
      have l1 : w.heap.size + 1 < w4.heap.size := by omega
      go_wp2_with fail
      refine (pos_any ax ay az bx cy bz 0 n _).mono ?_
      rw [S0.out]
      rintro e w5 ⟨rfl, he5⟩
      have b5 := b4.later (((Ext.refl w4).alloc _).trans he5)
      have p5 := p4.later (((Ext.refl w4).alloc _).trans he5)
      have q5 := VBox.of he5
      clear b4 p4 he5 a0 a1 a2 b0 b1' b2' l0 l1 lt4
      have a0 := b5.a0; have a1 := b5.a1; have a2 := b5.a2; have b0 := b5.b0; have b1' := b5.b1; have b2' := b5.b2
      have lt5 := b5.lt
      have l0 : w.heap.size < w5.heap.size := by omega
      have l1 : w.heap.size + 1 < w5.heap.size := by omega
      go_wp2_with fail
      refine (pos_any ax ay az bx cy bz n n _).mono ?_
      rw [S1.out]
      rintro e w6 ⟨rfl, he6⟩
      have b6 := b5.later (((Ext.refl w5).alloc _).trans he6)
      have p6 := p5.later (((Ext.refl w5).alloc _).trans he6)
      have q6 := q5.later (((Ext.refl w5).alloc _).trans he6)
      have s6 := VBox.of he6
      have o35 : w3.heap.size < w5.heap.size := p5.lt
      have o45 : w4.heap.size < w5.heap.size := q5.lt
      clear b5 p5 q5 he6 a0 a1 a2 b0 b1' b2' l0 l1 lt5
      have a0 := b6.a0; have a1 := b6.a1; have a2 := b6.a2; have b0 := b6.b0; have b1' := b6.b1; have b2' := b6.b2
      have lt6 := b6.lt
      have l0 : w.heap.size < w6.heap.size := by omega
      have l1 : w.heap.size + 1 < w6.heap.size := by omega
      have l3 := p6.lt; have l4 := q6.lt; have l5 := s6.lt
      have p0' := p6.c0; have p1' := p6.c1; have p2' := p6.c2
      have q0' := q6.c0; have q1' := q6.c1; have q2' := q6.c2
      have t0' := s6.c0; have t1' := s6.c1; have t2' := s6.c2
      have hE := b6.ext
      go_wp2_with fail
      ((with_reducible refine (between_yes ax px qx _ EX.out.1).mono ?_); rintro e w' ⟨rfl, rfl⟩)
      go_wp2_with fail
      ((with_reducible refine (between_yes px qx bx _ EX.out.2).mono ?_); rintro e w' ⟨rfl, rfl⟩)
      go_wp2_with fail
      ((with_reducible refine (between_yes ay py qy _ EY.out.1).mono ?_); rintro e w' ⟨rfl, rfl⟩)
      go_wp2_with fail
      ((with_reducible refine (between_yes py qy cy _ EY.out.2).mono ?_); rintro e w' ⟨rfl, rfl⟩)
      go_wp2_with fail
      ((with_reducible refine (between_yes az pz qz _ EZ.out.1).mono ?_); rintro e w' ⟨rfl, rfl⟩)
      go_wp2_with fail
      ((with_reducible refine (between_yes pz qz bz _ EZ.out.2).mono ?_); rintro e w' ⟨rfl, rfl⟩)
      go_wp2
      go_ret
      exact ⟨rfl, hE.alloc _⟩
    · obtain ⟨c, hc, hr⟩ := posR_err hq
      rw [hr]
      clear hp hq hr
      rintro e w4 ⟨rfl, he4⟩
      go_wp2
      go_ret
      exact ⟨rfl, ((E3.alloc _).trans he4).alloc _⟩
  · obtain ⟨c, hc, hr⟩ := posR_err hp
    rw [hr]
    clear hp hr
    rintro e w3 ⟨rfl, he3⟩
    have b3 := b2.later he3
    clear b2 he3 a0 a1 a2 b0 b1' b2'
    have a0 := b3.a0; have a1 := b3.a1; have a2 := b3.a2; have b0 := b3.b0; have b1' := b3.b1; have b2' := b3.b2
    have lt3 := b3.lt
    have l0 : w.heap.size < w3.heap.size := by omega
    have l1 : w.heap.size + 1 < w3.heap.size := by omega
    have E3 := b3.ext
    obtain ⟨u, v, t, c', hR⟩ := posR_form ax ay az bx cy bz x n
    have HR := Lib.hid hR; clear hR
    go_wp2_with fail
    refine (pos_any ax ay az bx cy bz x n _).mono ?_
    rw [HR.out]
    rintro e w4 ⟨rfl, he4⟩
    go_wp2
    go_ret
    exact ⟨rfl, ((E3.alloc _).trans he4).alloc _⟩

theorem lawForward (ax ay az bx cy bz x y n : Int) (w : World) :
    Calls Try.prog 9 #[Ps ax ay az, Ps bx cy bz, .agg #[.int .i64 x, .int .i64 y, .int .i64 n]] w fun e w' => e = .returned (.bool true) ∧ Ext w w' := by
  by_cases h : x < y
  · exact lawForward1 ax ay az bx cy bz x y n w h
  · by_cases h2 : x = y
    · exact lawForward3 ax ay az bx cy bz x y n w h2
    · exact lawForward2 ax ay az bx cy bz x y n w (by omega)

end Go.Proofs.Ytcblahhfgkafhaa
