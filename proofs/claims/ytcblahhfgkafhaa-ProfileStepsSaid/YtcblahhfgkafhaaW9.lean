/-
  Walks: Position of layer 49.
-/
import Derived.Test.YtcblahhfgkafhaaW8
import Derived.Test.YtcblahhfgkafhaaTail
namespace Go.Proofs.Ytcblahhfgkafhaa
open Go.RowKit

/-- A position as a value. -/
abbrev Ps (x y z : Int) : Value := .agg #[.int .i64 x, .int .i64 y, .int .i64 z]
/-- A coordinate between two. -/
def btw (a b p n : Int) : Int := a + (2 * (b - a) * p + n) / (2 * n)
/-- Is a number in range? -/
def near (n : Int) : Bool := inR n (-40000000) 40000000

theorem btw_bounds (a b p n : Int) (a1 : -40000000 ≤ a) (a2 : a ≤ 40000000) (b1 : -40000000 ≤ b) (b2 : b ≤ 40000000) (p0 : 0 ≤ p) (pn : p ≤ n) (n1 : 1 ≤ n) (n2 : n ≤ 40000000) :
    -3200000000000000 ≤ (b - a) * p ∧ (b - a) * p ≤ 3200000000000000 ∧ -40000000 ≤ btw a b p n ∧ btw a b p n ≤ 40000000 := by
  have e1 : -(80000000 * 40000000) ≤ (b - a) * p := by
    have : -((b - a) * p) ≤ 80000000 * 40000000 := by
      rw [← Int.neg_mul]
      by_cases h : 0 ≤ -(b - a)
      · exact Int.mul_le_mul (by omega) (by omega) (by omega) (by omega)
      · have : -(b - a) * p ≤ 0 := by
          have := Int.mul_nonneg (show 0 ≤ b - a by omega) p0
          rw [Int.neg_mul]; omega
        omega
    omega
  have e2 : (b - a) * p ≤ 80000000 * 40000000 := by
    by_cases h : 0 ≤ b - a
    · exact Int.mul_le_mul (by omega) (by omega) (by omega) (by omega)
    · have : (b - a) * p ≤ 0 := by
        have := Int.mul_nonneg (show 0 ≤ -(b - a) by omega) p0
        rw [Int.neg_mul] at this; omega
      omega
  refine ⟨by omega, by omega, ?_⟩
  unfold btw
  have e3 : 2 * (b - a) * p = 2 * ((b - a) * p) := Int.mul_assoc _ _ _
  rw [e3]
  -- |(b - a) p| ≤ |b - a| n
  have key : (0 ≤ b - a → 0 ≤ (b - a) * p ∧ (b - a) * p ≤ (b - a) * n) ∧ (b - a ≤ 0 → (b - a) * n ≤ (b - a) * p ∧ (b - a) * p ≤ 0) := by
    refine ⟨fun h => ⟨Int.mul_nonneg h p0, Int.mul_le_mul_of_nonneg_left pn h⟩, fun h => ?_⟩
    have h1 := Int.mul_nonneg (show 0 ≤ -(b - a) by omega) p0
    have h2 := Int.mul_le_mul_of_nonneg_left pn (show 0 ≤ -(b - a) by omega)
    rw [Int.neg_mul] at h1 h2
    rw [Int.neg_mul] at h2
    omega
  have lo : ∀ q : Int, 2 * ((b - a) * p) + n ≥ q * (2 * n) → q ≤ (2 * ((b - a) * p) + n) / (2 * n) := fun q h => Int.le_ediv_of_mul_le (by omega) h
  have hi : ∀ q : Int, 2 * ((b - a) * p) + n < (q + 1) * (2 * n) → (2 * ((b - a) * p) + n) / (2 * n) ≤ q := fun q h => by
    have := Int.ediv_lt_of_lt_mul (show 0 < 2 * n by omega) h; omega
  by_cases h : 0 ≤ b - a
  · obtain ⟨k1, k2⟩ := key.1 h
    have h1 := lo 0 (by omega)
    have h2 := hi (b - a) (by
      have : (b - a + 1) * (2 * n) = 2 * ((b - a) * n) + 2 * n := by rw [Int.add_mul, Int.mul_left_comm]; omega
      omega)
    omega
  · obtain ⟨k1, k2⟩ := key.2 (by omega)
    have h1 := lo (b - a) (by
      have : (b - a) * (2 * n) = 2 * ((b - a) * n) := Int.mul_left_comm _ _ _
      omega)
    have h2 := hi 0 (by omega)
    omega

set_option maxHeartbeats 1000000 in
theorem at_any (a b p n : Int) (u v : Addr) (w : World) (a1 : -40000000 ≤ a) (a2 : a ≤ 40000000) (b1 : -40000000 ≤ b) (b2 : b ≤ 40000000) (p0 : 0 ≤ p) (pn : p ≤ n) (n1 : 1 ≤ n) (n2 : n ≤ 40000000)
    (hu : w.cell? u = some (.int .i64 p)) (hv : w.cell? v = some (.int .i64 n)) :
    Calls Try.prog 38 #[.int .i64 a, .int .i64 b, .pointer (some u), .pointer (some v)] w fun e w' => e = .returned (.int .i64 (btw a b p n)) ∧ w = w' := by
  obtain ⟨k1, k2, k3, k4⟩ := btw_bounds a b p n a1 a2 b1 b2 p0 pn n1 n2
  have e3 : 2 * (b - a) * p = 2 * ((b - a) * p) := Int.mul_assoc _ _ _
  have E3 := Lib.hid e3; clear e3
  have l1 : -6400000000000000 ≤ 2 * (b - a) * p := by rw [E3.out]; omega
  have l2 : 2 * (b - a) * p ≤ 6400000000000000 := by rw [E3.out]; omega
  unfold btw at *
  go_enter Try.func38, Try.ntmps38
  go_wp2_with ((go_at_call 39; refine (floor_any _ _ _ (by omega) (by omega) (by omega) (by omega)).mono ?_; rintro e w' ⟨rfl, rfl⟩))
  go_ret
  exact ⟨rfl, rfl⟩

end Go.Proofs.Ytcblahhfgkafhaa
