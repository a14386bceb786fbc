/-
  Walks: the small functions of layer 49.
-/
import Derived.Test.YtcblahhfgkafhaaRows
import Derived.Test.YtcblahhfgkafhaaBase
import Derived.Test.YtcblahhfgkafhaaMath
namespace Go.Proofs.Ytcblahhfgkafhaa
open Go.RowKit

theorem ret_bool {a b : Bool} (h : a = b) : Ending.returned (.bool a) = .returned (.bool b) := by rw [h]
theorem ret_int {k : IntKind} {a b : Int} (h : a = b) : Ending.returned (.int k a) = .returned (.int k b) := by rw [h]

set_option maxHeartbeats 400000 in
theorem within_any (n lo hi : Int) (w : World) :
    Calls Try.prog 32 #[.int .i64 n, .int .i64 lo, .int .i64 hi] w fun e w' => e = .returned (.bool (inR n lo hi)) ∧ w = w' := by
  by_cases h1 : lo ≤ n
  · by_cases h2 : n ≤ hi
    · have e : inR n lo hi = true := by simp [inR, h1, h2]
      have E := Lib.hid e; clear e
      go_enter Try.func32, Try.ntmps32
      go_wp2
      go_ret
      exact ⟨ret_bool (by simp [E.out]), rfl⟩
    · have e : inR n lo hi = false := by simp [inR, h2]
      have E := Lib.hid e; clear e
      have h2' : decide (n ≤ hi) = false := by simpa using h2
      go_enter Try.func32, Try.ntmps32
      go_wp2
      go_ret
      exact ⟨ret_bool (by simp [E.out]), rfl⟩
  · have e : inR n lo hi = false := by simp [inR, h1]
    have E := Lib.hid e; clear e
    have h1' : decide (lo ≤ n) = false := by simpa using h1
    go_enter Try.func32, Try.ntmps32
    go_wp2
    go_ret
    exact ⟨ret_bool (by simp [E.out]), rfl⟩


set_option maxHeartbeats 400000 in
theorem within_ref (n lo hi : Int) (w : World) :
    Calls Try.prog 33 #[.int .i64 n, .int .i64 lo, .int .i64 hi] w fun e w' => e = .returned (.bool (inR n lo hi)) ∧ w = w' := by
  by_cases h1 : lo ≤ n
  · by_cases h2 : n ≤ hi
    · have e : inR n lo hi = true := by simp [inR, h1, h2]
      have E := Lib.hid e; clear e
      go_enter Try.func33, Try.ntmps33
      go_wp2
      go_ret
      exact ⟨ret_bool (by simp [E.out]), rfl⟩
    · have e : inR n lo hi = false := by simp [inR, h2]
      have E := Lib.hid e; clear e
      have h2' : decide (n ≤ hi) = false := by simpa using h2
      go_enter Try.func33, Try.ntmps33
      go_wp2
      go_ret
      exact ⟨ret_bool (by simp [E.out]), rfl⟩
  · have e : inR n lo hi = false := by simp [inR, h1]
    have E := Lib.hid e; clear e
    have h1' : decide (lo ≤ n) = false := by simpa using h1
    go_enter Try.func33, Try.ntmps33
    go_wp2
    go_ret
    exact ⟨ret_bool (by simp [E.out]), rfl⟩

/-- The limits as a value. -/
abbrev Lm (s a j : Int) : Value := .agg #[.int .i64 s, .int .i64 a, .int .i64 j]

set_option maxHeartbeats 400000 in
theorem valid_yes (s a j : Int) (w : World) (h : vld s a j = true) :
    Calls Try.prog 15 #[Lm s a j] w fun e w' => e = .returned (.int .i64 0) ∧ Ext w w' := by
  simp only [vld, Bool.and_eq_true] at h
  obtain ⟨⟨h1, h2⟩, h3⟩ := h
  go_enter Try.func15, Try.ntmps15
  go_wp2_with ((go_at_call 32; refine (within_any _ _ _ _).mono ?_; rintro e w' ⟨rfl, rfl⟩))
  go_ret
  exact ⟨rfl, (Ext.refl w).alloc _⟩

set_option maxHeartbeats 400000 in
theorem valid_no (s a j : Int) (w : World) (h : vld s a j = false) :
    Calls Try.prog 15 #[Lm s a j] w fun e w' => e = .returned (.int .i64 1) ∧ Ext w w' := by
  simp only [vld] at h
  by_cases h1 : inR s 1 100000 = true
  · by_cases h2 : inR a 1 100000 = true
    · have h3 : inR j 2 100000 = false := by simpa [h1, h2] using h
      clear h
      go_enter Try.func15, Try.ntmps15
      go_wp2_with ((go_at_call 32; refine (within_any _ _ _ _).mono ?_; rintro e w' ⟨rfl, rfl⟩))
      go_ret
      exact ⟨rfl, (Ext.refl w).alloc _⟩
    · have h2' : inR a 1 100000 = false := by simpa using h2
      clear h h2
      go_enter Try.func15, Try.ntmps15
      go_wp2_with ((go_at_call 32; refine (within_any _ _ _ _).mono ?_; rintro e w' ⟨rfl, rfl⟩))
      go_ret
      exact ⟨rfl, (Ext.refl w).alloc _⟩
  · have h1' : inR s 1 100000 = false := by simpa using h1
    clear h h1
    go_enter Try.func15, Try.ntmps15
    go_wp2_with ((go_at_call 32; refine (within_any _ _ _ _).mono ?_; rintro e w' ⟨rfl, rfl⟩))
    go_ret
    exact ⟨rfl, (Ext.refl w).alloc _⟩

set_option maxHeartbeats 400000 in
theorem rvalid_yes (s a j : Int) (w : World) (h : vld s a j = true) :
    Calls Try.prog 16 #[Lm s a j] w fun e w' => e = .returned (.int .i64 0) ∧ Ext w w' := by
  simp only [vld, Bool.and_eq_true] at h
  obtain ⟨⟨h1, h2⟩, h3⟩ := h
  go_enter Try.func16, Try.ntmps16
  go_wp2_with ((go_at_call 33; refine (within_ref _ _ _ _).mono ?_; rintro e w' ⟨rfl, rfl⟩))
  go_ret
  exact ⟨rfl, (Ext.refl w).alloc _⟩

set_option maxHeartbeats 400000 in
theorem rvalid_no (s a j : Int) (w : World) (h : vld s a j = false) :
    Calls Try.prog 16 #[Lm s a j] w fun e w' => e = .returned (.int .i64 1) ∧ Ext w w' := by
  simp only [vld] at h
  by_cases h1 : inR s 1 100000 = true
  · by_cases h2 : inR a 1 100000 = true
    · have h3 : inR j 2 100000 = false := by simpa [h1, h2] using h
      clear h
      go_enter Try.func16, Try.ntmps16
      go_wp2_with ((go_at_call 33; refine (within_ref _ _ _ _).mono ?_; rintro e w' ⟨rfl, rfl⟩))
      go_ret
      exact ⟨rfl, (Ext.refl w).alloc _⟩
    · have h2' : inR a 1 100000 = false := by simpa using h2
      clear h h2
      go_enter Try.func16, Try.ntmps16
      go_wp2_with ((go_at_call 33; refine (within_ref _ _ _ _).mono ?_; rintro e w' ⟨rfl, rfl⟩))
      go_ret
      exact ⟨rfl, (Ext.refl w).alloc _⟩
  · have h1' : inR s 1 100000 = false := by simpa using h1
    clear h h1
    go_enter Try.func16, Try.ntmps16
    go_wp2_with ((go_at_call 33; refine (within_ref _ _ _ _).mono ?_; rintro e w' ⟨rfl, rfl⟩))
    go_ret
    exact ⟨rfl, (Ext.refl w).alloc _⟩

/-- What Valid returns. -/
def vcode (s a j : Int) : Int := if vld s a j then 0 else 1
theorem valid_any (s a j : Int) (w : World) :
    Calls Try.prog 15 #[Lm s a j] w fun e w' => e = .returned (.int .i64 (vcode s a j)) ∧ Ext w w' := by
  cases h : vld s a j
  · have := valid_no s a j w h; simpa [vcode, h] using this
  · have := valid_yes s a j w h; simpa [vcode, h] using this
theorem rvalid_any (s a j : Int) (w : World) :
    Calls Try.prog 16 #[Lm s a j] w fun e w' => e = .returned (.int .i64 (vcode s a j)) ∧ Ext w w' := by
  cases h : vld s a j
  · have := rvalid_no s a j w h; simpa [vcode, h] using this
  · have := rvalid_yes s a j w h; simpa [vcode, h] using this

set_option maxHeartbeats 400000 in
theorem fading_any (s a j n : Int) (w : World) (hj : 2 ≤ j) (hj' : j ≤ 100000) (hn : n ≤ 100000) :
    Calls Try.prog 44 #[Lm s a j, .int .i64 n] w fun e w' => e = .returned (.int .i64 (fad j n)) ∧ Ext w w' := by
  by_cases h : n ≤ j
  · have e : fad j n = 0 := by simp [fad, h]
    rw [e]; clear e
    go_enter Try.func44, Try.ntmps44
    go_wp2
    go_ret
    exact ⟨rfl, (Ext.refl w).alloc _⟩
  · obtain ⟨b1, b2, b3⟩ := fad_bounds j n hj hn h
    have e : fad j n = (n - 1) / j * n - j * ((n - 1) / j) * ((n - 1) / j + 1) / 2 := by simp [fad, h]
    have E := Lib.hid e; clear e
    have c1 : 0 ≤ (n - 1) / j * n := Int.mul_nonneg b1 (by omega)
    have c2 : (n - 1) / j * n ≤ 50000 * 100000 := Int.mul_le_mul b2 hn (by omega) (by omega)
    have c3 : 0 ≤ j * ((n - 1) / j) := Int.mul_nonneg (by omega) b1
    have c4 : 0 ≤ j * ((n - 1) / j) * ((n - 1) / j + 1) := Int.mul_nonneg c3 (by omega)
    have c5 : j * ((n - 1) / j) * ((n - 1) / j + 1) ≤ 100000 * 50001 := Int.mul_le_mul (by omega) (by omega) (by omega) (by omega)
    go_enter Try.func44, Try.ntmps44
    go_wp2
    go_ret
    exact ⟨ret_int (by rw [E.out]), (Ext.refl w).alloc _⟩

end Go.Proofs.Ytcblahhfgkafhaa
