/-
  Walks: simple, Ticks, safe, floor, brake of layer 49.
-/
import Derived.Test.YtcblahhfgkafhaaW1
namespace Go.Proofs.Ytcblahhfgkafhaa
open Go.RowKit

theorem fad_le (j n : Int) (hj : 2 ≤ j) (hn : n ≤ 100000) : fad j n ≤ 5000000000 ∧ -5000100000 ≤ fad j n := by
  unfold fad
  split
  · omega
  · rename_i h
    obtain ⟨b1, b2, b3⟩ := fad_bounds j n hj hn h
    have c1 : 0 ≤ (n - 1) / j * n := Int.mul_nonneg b1 (by omega)
    have c2 : (n - 1) / j * n ≤ 50000 * 100000 := Int.mul_le_mul b2 hn (by omega) (by omega)
    have c3 : 0 ≤ j * ((n - 1) / j) := Int.mul_nonneg (by omega) b1
    have c4 : 0 ≤ j * ((n - 1) / j) * ((n - 1) / j + 1) := Int.mul_nonneg c3 (by omega)
    have c5 : j * ((n - 1) / j) * ((n - 1) / j + 1) ≤ 100000 * 50001 := Int.mul_le_mul (by omega) (by omega) (by omega) (by omega)
    omega


theorem smp_bounds (s a j : Int) (hs : 1 ≤ s) (ha : 1 ≤ a) (hj : 2 ≤ j) : 1 ≤ smp s a j ∧ smp s a j ≤ s ∧ smp s a j ≤ a ∧ 2 * smp s a j ≤ j := by
  unfold smp; omega

set_option maxHeartbeats 400000 in
theorem simple_any (s a j : Int) (w : World) (hj : 2 ≤ j) (hj' : j ≤ 100000) :
    Calls Try.prog 31 #[Lm s a j] w fun e w' => e = .returned (.int .i64 (smp s a j)) ∧ Ext w w' := by
  go_enter Try.func31, Try.ntmps31
  go_wp2
  all_goals go_ret
  all_goals refine ⟨ret_int ?_, (Ext.refl w).alloc _⟩
  all_goals (unfold smp; split at * <;> omega)

theorem tdiv_neg_floor (a b : Int) (hb : 0 < b) (ha : a < 0) : (a.tmod b < 0 → a.tdiv b - 1 = a / b) ∧ (¬ a.tmod b < 0 → a.tdiv b = a / b) := by
  have h1 : a.tdiv b = -((-a) / b) := by
    rw [← Int.tdiv_eq_ediv_of_nonneg (by omega), Int.neg_tdiv]; omega
  have h2 : a.tmod b = -((-a) % b) := by
    rw [← Int.tmod_eq_emod_of_nonneg (by omega), Int.neg_tmod]; omega
  have h3 := Int.mul_ediv_add_emod (-a) b
  have h4 := Int.emod_nonneg (-a) (show b ≠ 0 by omega)
  have h5 := Int.emod_lt_of_pos (-a) hb
  have key : ∀ q : Int, b * q ≤ a → a < b * q + b → a / b = q := by
    intro q hq1 hq2
    have : a / b = (a - b * q + b * q) / b := by congr 1; omega
    rw [this, Int.add_mul_ediv_left _ _ (by omega), Int.ediv_eq_zero_of_lt (by omega) (by omega)]; omega
  constructor
  · intro h
    rw [key (-((-a) / b) - 1) (by rw [Int.mul_sub, Int.mul_neg]; omega) (by rw [Int.mul_sub, Int.mul_neg]; omega)]; omega
  · intro h
    rw [key (-((-a) / b)) (by rw [Int.mul_neg]; omega) (by rw [Int.mul_neg]; omega)]; omega

set_option maxHeartbeats 400000 in
theorem floor_pos (a b : Int) (w : World) (hb : 0 < b) (ha : 0 ≤ a) (ha' : a ≤ 4611686018427387904) (hb' : b ≤ 4611686018427387904) :
    Calls Try.prog 39 #[.int .i64 a, .int .i64 b] w fun e w' => e = .returned (.int .i64 (a / b)) ∧ w = w' := by
  have h1 := Int.emod_nonneg a (show b ≠ 0 by omega)
  go_enter Try.func39, Try.ntmps39
  go_wp2
  go_ret
  exact ⟨rfl, rfl⟩


theorem tdiv_neg_bounds (a b : Int) (hb : 0 < b) (ha : a < 0) : a ≤ a.tdiv b ∧ a.tdiv b ≤ 0 := by
  have h1 : a.tdiv b = -((-a) / b) := by
    rw [← Int.tdiv_eq_ediv_of_nonneg (by omega), Int.neg_tdiv]; omega
  have h2 := Int.ediv_le_self (a := -a) b (by omega)
  have h3 : 0 ≤ (-a) / b := Int.ediv_nonneg (by omega) (by omega)
  omega

set_option maxHeartbeats 400000 in
theorem floor_neg (a b : Int) (w : World) (hb : 0 < b) (ha : a < 0) (ha' : -4611686018427387904 ≤ a) (hb' : b ≤ 4611686018427387904) :
    Calls Try.prog 39 #[.int .i64 a, .int .i64 b] w fun e w' => e = .returned (.int .i64 (a / b)) ∧ w = w' := by
  obtain ⟨h1, h2⟩ := tdiv_neg_bounds a b hb ha
  go_enter Try.func39, Try.ntmps39
  go_wp2
  · go_ret
    exact ⟨ret_int ((tdiv_neg_floor a b hb ha).1 (by assumption)), rfl⟩
  · go_ret
    exact ⟨ret_int ((tdiv_neg_floor a b hb ha).2 (by omega)), rfl⟩

theorem floor_any (a b : Int) (w : World) (hb : 0 < b) (ha : -4611686018427387904 ≤ a) (ha' : a ≤ 4611686018427387904) (hb' : b ≤ 4611686018427387904) :
    Calls Try.prog 39 #[.int .i64 a, .int .i64 b] w fun e w' => e = .returned (.int .i64 (a / b)) ∧ w = w' := by
  by_cases h : a < 0
  · exact floor_neg a b w hb h ha hb'
  · exact floor_pos a b w hb (by omega) ha' hb'


/-- The boxes of limits and a state, and their cells in all later worlds. -/
theorem two_boxes {w : World} (s a j v b : Int) (t1 t2 : TypeId) : ∃ W : World, (w.alloc (.cells #[.int .i64 s, .int .i64 a, .int .i64 j] t1)).alloc (.cells #[.int .i64 v, .int .i64 b] t2) = W ∧ Ext w W ∧ W.heap.size = w.heap.size + 2 ∧
    (∀ x : Later W, x.w.cell? ⟨w.heap.size, 0, none⟩ = some (.int .i64 s)) ∧ (∀ x : Later W, x.w.cell? ⟨w.heap.size, 1, none⟩ = some (.int .i64 a)) ∧ (∀ x : Later W, x.w.cell? ⟨w.heap.size, 2, none⟩ = some (.int .i64 j)) ∧
    (∀ x : Later W, x.w.cell? ⟨w.heap.size + 1, 0, none⟩ = some (.int .i64 v)) ∧ (∀ x : Later W, x.w.cell? ⟨w.heap.size + 1, 1, none⟩ = some (.int .i64 b)) :=
  ⟨_, rfl, ((Ext.refl w).alloc _).alloc _, by simp, Later.cell (by simp [go_sem]), Later.cell (by simp [go_sem]), Later.cell (by simp [go_sem]), Later.cell (by simp [go_sem]), Later.cell (by simp [go_sem])⟩

set_option maxHeartbeats 1000000 in
theorem safe_any (s a j v b : Int) (w : World) (hv : vld s a j = true) :
    Calls Try.prog 43 #[Lm s a j, .agg #[.int .i64 v, .int .i64 b]] w fun e w' => e = .returned (.bool (saf s a j v b)) ∧ Ext w w' := by
  obtain ⟨⟨s1, s2⟩, ⟨a1, a2⟩, ⟨j1, j2⟩⟩ := (vld_iff s a j).1 hv
  clear hv
  by_cases h1 : inR v 0 s = true
  · obtain ⟨v1, v2⟩ := (inR_iff _ _ _).1 h1
    by_cases h2 : inR b (-a) a = true
    · obtain ⟨b1, b2⟩ := (inR_iff _ _ _).1 h2
      by_cases h3 : 0 < b
      · have e : saf s a j v b = decide (v + fad j b ≤ s) := by simp [saf, h1, h2, h3]
        rw [e]; clear e
        obtain ⟨f1, f2⟩ := fad_le j b j1 (by omega)
        go_enter Try.func43, Try.ntmps43
        go_wp2_with ((go_at_call 32; refine (within_any _ _ _ _).mono ?_; rintro e w' ⟨rfl, rfl⟩))
        obtain ⟨W, hW, hE, hz, k1, k2, k3, k4, k5⟩ := two_boxes (w := w) s a j v b 28 59
        rw [hW]; clear hW
        refine wp_region_later (by kernel_rfl) (by kernel_rfl) ?_
        repeat (go_big_quiet_step ((go_at_call 44; exact Calls.later (fading_any _ _ _ _ _ (by omega) (by omega) (by omega)))))
        refine wpQuiet_nil ?_
        rintro _ ⟨x, rfl⟩
        go_wp2
        go_ret
        exact ⟨rfl, hE.trans x.ext⟩
      · have e : saf s a j v b = decide (fad j (-b) ≤ v) := by simp [saf, h1, h2, h3]
        rw [e]; clear e
        obtain ⟨f1, f2⟩ := fad_le j (-b) j1 (by omega)
        go_enter Try.func43, Try.ntmps43
        go_wp2_with ((go_at_call 32; refine (within_any _ _ _ _).mono ?_; rintro e w' ⟨rfl, rfl⟩))
        obtain ⟨W, hW, hE, hz, k1, k2, k3, k4, k5⟩ := two_boxes (w := w) s a j v b 28 59
        rw [hW]; clear hW
        refine wp_region_later (by kernel_rfl) (by kernel_rfl) ?_
        repeat (go_big_quiet_step ((go_at_call 44; exact Calls.later (fading_any _ _ _ _ _ (by omega) (by omega) (by omega)))))
        refine wpQuiet_nil ?_
        rintro _ ⟨x, rfl⟩
        go_wp2
        go_ret
        exact ⟨rfl, hE.trans x.ext⟩
    · have h2' : inR b (-a) a = false := by simpa using h2
      have e : saf s a j v b = false := by simp [saf, h2']
      rw [e]; clear e h2
      go_enter Try.func43, Try.ntmps43
      go_wp2_with ((go_at_call 32; refine (within_any _ _ _ _).mono ?_; rintro e w' ⟨rfl, rfl⟩))
      go_ret
      exact ⟨rfl, ((Ext.refl w).alloc _).alloc _⟩
  · have h1' : inR v 0 s = false := by simpa using h1
    have e : saf s a j v b = false := by simp [saf, h1']
    rw [e]; clear e h1
    go_enter Try.func43, Try.ntmps43
    go_wp2_with ((go_at_call 32; refine (within_any _ _ _ _).mono ?_; rintro e w' ⟨rfl, rfl⟩))
    go_ret
    exact ⟨rfl, ((Ext.refl w).alloc _).alloc _⟩

end Go.Proofs.Ytcblahhfgkafhaa
