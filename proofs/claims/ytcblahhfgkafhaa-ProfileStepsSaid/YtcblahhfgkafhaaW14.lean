/-
  Walks: slow; Safe and Brakes of the reference of layer 49.
-/
import Derived.Test.YtcblahhfgkafhaaW13
namespace Go.Proofs.Ytcblahhfgkafhaa
open Go.RowKit

/-- Small limits. -/
def slw (s a j : Int) : Bool := decide (s ≤ 300) && decide (a ≤ 300) && decide (j ≤ 300)

set_option maxHeartbeats 400000 in
theorem slow_any (s a j : Int) (w : World) :
    Calls Try.prog 19 #[Lm s a j] w fun e w' => e = .returned (.bool (slw s a j)) ∧ Ext w w' := by
  by_cases h1 : s ≤ 300
  · by_cases h2 : a ≤ 300
    · by_cases h3 : j ≤ 300
      · have e : slw s a j = true := by simp [slw, h1, h2, h3]
        rw [e]; clear e
        go_enter Try.func19, Try.ntmps19
        go_wp2
        go_ret
        exact ⟨ret_bool (by simp), (Ext.refl w).alloc _⟩
      · have e : slw s a j = false := by simp [slw, h3]
        rw [e]; clear e
        have h3' : decide (j ≤ 300) = false := by simpa using h3
        go_enter Try.func19, Try.ntmps19
        go_wp2
        go_ret
        exact ⟨ret_bool (by simp), (Ext.refl w).alloc _⟩
    · have e : slw s a j = false := by simp [slw, h2]
      rw [e]; clear e
      have h2' : decide (a ≤ 300) = false := by simpa using h2
      go_enter Try.func19, Try.ntmps19
      go_wp2
      go_ret
      exact ⟨ret_bool (by simp), (Ext.refl w).alloc _⟩
  · have e : slw s a j = false := by simp [slw, h1]
    rw [e]; clear e
    have h1' : decide (s ≤ 300) = false := by simpa using h1
    go_enter Try.func19, Try.ntmps19
    go_wp2
    go_ret
    exact ⟨ret_bool (by simp), (Ext.refl w).alloc _⟩

set_option maxHeartbeats 1000000 in
theorem rsafe_up (s a j v b : Int) (w : World) (hv : vld s a j = true) (h1 : inR v 0 s = true) (h2 : inR b (-a) a = true) (h3 : 0 < b) :
    Calls Try.prog 37 #[.int .i64 v, .int .i64 b, Lm s a j] w fun e w' => e = .returned (.bool (saf s a j v b)) ∧ Ext w w' := by
  obtain ⟨⟨s1, s2⟩, ⟨a1, a2⟩, ⟨j1, j2⟩⟩ := (vld_iff s a j).1 hv
  clear hv
  obtain ⟨v1, v2⟩ := (inR_iff _ _ _).1 h1
  obtain ⟨b1, b2⟩ := (inR_iff _ _ _).1 h2
  obtain ⟨f1, f2⟩ := fad_le j b j1 (by omega)
  have f0 := fad_nonneg j b j1
  have e : saf s a j v b = inR (v + fad j b) 0 s := by
    have e1 : saf s a j v b = decide (v + fad j b ≤ s) := by simp [saf, h1, h2, h3]
    rw [e1, Bool.eq_iff_iff, inR_iff, decide_eq_true_iff]
    omega
  have E := Lib.hid e; clear e
  go_enter Try.func37, Try.ntmps37
  go_wp2_with ((go_at_call 33; refine (within_ref _ _ _ _).mono ?_; rintro e w' ⟨rfl, rfl⟩))
  go_loop [0, 1] (fun p q => ∃ x y : Int, p = .int .i64 x ∧ q = .int .i64 y ∧ 0 < y ∧ y ≤ b ∧ v ≤ x ∧ x + fad j y = v + fad j b) (fun _ q => (intOf q).toNat)
  case atStart => exact ⟨v, b, rfl, rfl, h3, by omega, by omega, rfl⟩
  case round =>
    obtain ⟨x, y, rfl, rfl, y0, yb, vx, hs⟩ := hrel
    have g0 := fad_nonneg j y j1
    have hx : x ≤ 100000 + 5000000000 := by omega
    by_cases hy : j < y
    · have hr := fad_rec j y j1
      rw [if_neg (by omega)] at hr
      have H := Lib.hid (And.intro hs hr)
      clear hs hr
      go_wp2
      go_round
      case rel =>
        obtain ⟨k1, k2⟩ := H.out
        exact ⟨x + (y - j), y - j, by go_num, by go_num, by omega, by omega, by omega, by omega⟩
      case measure => simp [intOf]; omega
    · have hz := fad_zero j y (by omega)
      rw [hz] at hs
      have HX := Lib.hid (show x = v + fad j b by omega)
      clear hs hz
      go_wp2
      go_loop [0, 1] (fun p q => p = .int .i64 x ∧ q = .int .i64 y) (fun _ _ => 0)
      case atStart => exact ⟨rfl, rfl⟩
      case round =>
        obtain ⟨rfl, rfl⟩ := hrel
        have hy2 : decide (y < -j) = false := by rw [decide_eq_false_iff_not]; omega
        go_wp2_with ((go_at_call 33; refine (within_ref _ _ _ _).mono ?_; rintro e w' ⟨rfl, rfl⟩))
        go_ret
        exact ⟨ret_bool (by rw [E.out, ← HX.out]), (Ext.refl w).alloc _⟩

set_option maxHeartbeats 1000000 in
theorem rsafe_down (s a j v b : Int) (w : World) (hv : vld s a j = true) (h1 : inR v 0 s = true) (h2 : inR b (-a) a = true) (h3 : b ≤ 0) :
    Calls Try.prog 37 #[.int .i64 v, .int .i64 b, Lm s a j] w fun e w' => e = .returned (.bool (saf s a j v b)) ∧ Ext w w' := by
  obtain ⟨⟨s1, s2⟩, ⟨a1, a2⟩, ⟨j1, j2⟩⟩ := (vld_iff s a j).1 hv
  clear hv
  obtain ⟨v1, v2⟩ := (inR_iff _ _ _).1 h1
  obtain ⟨b1, b2⟩ := (inR_iff _ _ _).1 h2
  obtain ⟨f1, f2⟩ := fad_le j (-b) j1 (by omega)
  have f0 := fad_nonneg j (-b) j1
  have e : saf s a j v b = inR (v - fad j (-b)) 0 s := by
    have h3' : ¬ 0 < b := by omega
    have e1 : saf s a j v b = decide (fad j (-b) ≤ v) := by simp [saf, h1, h2, h3']
    rw [e1, Bool.eq_iff_iff, inR_iff, decide_eq_true_iff]
    omega
  have E := Lib.hid e; clear e
  go_enter Try.func37, Try.ntmps37
  go_wp2_with ((go_at_call 33; refine (within_ref _ _ _ _).mono ?_; rintro e w' ⟨rfl, rfl⟩))
  go_loop [0, 1] (fun p q => p = .int .i64 v ∧ q = .int .i64 b) (fun _ _ => 0)
  case atStart => exact ⟨rfl, rfl⟩
  case round =>
    obtain ⟨rfl, rfl⟩ := hrel
    have hy2 : decide (j < b) = false := by rw [decide_eq_false_iff_not]; omega
    go_wp2
    go_loop [0, 1] (fun p q => ∃ x y : Int, p = .int .i64 x ∧ q = .int .i64 y ∧ y ≤ 0 ∧ b ≤ y ∧ x ≤ v ∧ x - fad j (-y) = v - fad j (-b)) (fun _ q => (-(intOf q)).toNat)
    case atStart => exact ⟨v, b, rfl, rfl, h3, by omega, by omega, rfl⟩
    case round =>
      obtain ⟨x, y, rfl, rfl, y0, yb, vx, hs⟩ := hrel
      have g0 := fad_nonneg j (-y) j1
      have hx : -5000000000 ≤ x := by omega
      by_cases hy : y < -j
      · have hr := fad_rec j (-y) j1
        rw [if_neg (by omega)] at hr
        have H := Lib.hid (And.intro hs hr)
        clear hs hr
        go_wp2
        go_round
        case rel =>
          obtain ⟨k1, k2⟩ := H.out
          have e1 : -y - j = -(y + j) := by omega
          rw [e1] at k2
          exact ⟨x + (y + j), y + j, by go_num, by go_num, by omega, by omega, by omega, by omega⟩
        case measure => simp [intOf]; omega
      · have hz := fad_zero j (-y) (by omega)
        rw [hz] at hs
        have HX := Lib.hid (show x = v - fad j (-b) by omega)
        have hy3 : decide (y < -j) = false := by rw [decide_eq_false_iff_not]; omega
        clear hs hz
        go_wp2_with ((go_at_call 33; refine (within_ref _ _ _ _).mono ?_; rintro e w' ⟨rfl, rfl⟩))
        go_ret
        exact ⟨ret_bool (by rw [E.out, ← HX.out]), (Ext.refl w).alloc _⟩

set_option maxHeartbeats 1000000 in
theorem rsafe_any (s a j v b : Int) (w : World) (hv : vld s a j = true) :
    Calls Try.prog 37 #[.int .i64 v, .int .i64 b, Lm s a j] w fun e w' => e = .returned (.bool (saf s a j v b)) ∧ Ext w w' := by
  cases h1 : inR v 0 s
  · have e : saf s a j v b = false := by simp [saf, h1]
    rw [e]; clear e hv
    go_enter Try.func37, Try.ntmps37
    go_wp2_with ((go_at_call 33; refine (within_ref _ _ _ _).mono ?_; rintro e w' ⟨rfl, rfl⟩))
    go_ret
    exact ⟨rfl, (Ext.refl w).alloc _⟩
  · cases h2 : inR b (-a) a
    · have e : saf s a j v b = false := by simp [saf, h2]
      rw [e]; clear e
      obtain ⟨⟨s1, s2⟩, ⟨a1, a2⟩, ⟨j1, j2⟩⟩ := (vld_iff s a j).1 hv
      clear hv
      go_enter Try.func37, Try.ntmps37
      go_wp2_with ((go_at_call 33; refine (within_ref _ _ _ _).mono ?_; rintro e w' ⟨rfl, rfl⟩))
      go_ret
      exact ⟨rfl, (Ext.refl w).alloc _⟩
    · by_cases h3 : 0 < b
      · exact rsafe_up s a j v b w hv h1 h2 h3
      · exact rsafe_down s a j v b w hv h1 h2 (by omega)

/-- The error of Stop. -/
def bcode (s a j p q : Int) : Int := if mvg s a j p q then 0 else 1

set_option maxHeartbeats 1000000 in
theorem rbrakes_any (s a j p q : Int) (w : World) :
    Calls Try.prog 22 #[.int .i64 p, .int .i64 q, Lm s a j] w fun e w' => e = .returned (.int .i64 (bcode s a j p q)) ∧ Ext w w' := by
  cases hv : vld s a j
  · have e : bcode s a j p q = 1 := by simp [bcode, mvg, hv]
    rw [e]; clear e
    go_enter Try.func22, Try.ntmps22
    go_wp2_with fail
    refine (rvalid_no s a j _ hv).mono ?_
    rintro e w1 ⟨rfl, he⟩
    go_wp2
    go_ret
    exact ⟨rfl, ((Ext.refl w).alloc _).trans he⟩
  · have HV := Lib.hid hv
    have hs := (vld_iff s a j).1 hv
    obtain ⟨⟨s1, s2⟩, -, -⟩ := hs
    cases hp : inR p 0 s
    · have e : bcode s a j p q = 1 := by simp [bcode, mvg, hp]
      rw [e]; clear e hv
      go_enter Try.func22, Try.ntmps22
      go_wp2_with fail
      refine (rvalid_yes s a j _ HV.out).mono ?_
      rintro e w1 ⟨rfl, he⟩
      obtain ⟨k0, k1, k2⟩ := box_cells he
      go_wp2_with ((go_at_call 33; refine (within_ref _ _ _ _).mono ?_; rintro e w' ⟨rfl, rfl⟩))
      go_ret
      exact ⟨rfl, ((Ext.refl w).alloc _).trans he⟩
    · cases hq : inR q 0 s
      · have e : bcode s a j p q = 1 := by simp [bcode, mvg, hq]
        rw [e]; clear e hv
        go_enter Try.func22, Try.ntmps22
        go_wp2_with fail
        refine (rvalid_yes s a j _ HV.out).mono ?_
        rintro e w1 ⟨rfl, he⟩
        obtain ⟨k0, k1, k2⟩ := box_cells he
        go_wp2_with ((go_at_call 33; refine (within_ref _ _ _ _).mono ?_; rintro e w' ⟨rfl, rfl⟩))
        go_ret
        exact ⟨rfl, ((Ext.refl w).alloc _).trans he⟩
      · obtain ⟨p1, p2⟩ := (inR_iff _ _ _).1 hp
        obtain ⟨q1, q2⟩ := (inR_iff _ _ _).1 hq
        cases hf : saf s a j q (q - p)
        · have e : bcode s a j p q = 1 := by simp [bcode, mvg, hf]
          rw [e]; clear e hv
          go_enter Try.func22, Try.ntmps22
          go_wp2_with fail
          refine (rvalid_yes s a j _ HV.out).mono ?_
          rintro e w1 ⟨rfl, he⟩
          obtain ⟨k0, k1, k2⟩ := box_cells he
          go_wp2_with (first | (go_at_call 33; refine (within_ref _ _ _ _).mono ?_; rintro e w' ⟨rfl, rfl⟩) | (go_at_call 37; refine (rsafe_any _ _ _ _ _ _ HV.out).mono ?_; rintro e w2 ⟨rfl, he2⟩))
          go_ret
          exact ⟨rfl, (((Ext.refl w).alloc _).trans he).trans he2⟩
        · have e : bcode s a j p q = 0 := by simp [bcode, mvg, hv, hp, hq, hf]
          rw [e]; clear e hv
          go_enter Try.func22, Try.ntmps22
          go_wp2_with fail
          refine (rvalid_yes s a j _ HV.out).mono ?_
          rintro e w1 ⟨rfl, he⟩
          obtain ⟨k0, k1, k2⟩ := box_cells he
          go_wp2_with (first | (go_at_call 33; refine (within_ref _ _ _ _).mono ?_; rintro e w' ⟨rfl, rfl⟩) | (go_at_call 37; refine (rsafe_any _ _ _ _ _ _ HV.out).mono ?_; rintro e w2 ⟨rfl, he2⟩))
          go_ret
          exact ⟨rfl, (((Ext.refl w).alloc _).trans he).trans he2⟩

end Go.Proofs.Ytcblahhfgkafhaa
