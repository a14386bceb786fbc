/-
  Events: valid or not; the code's function and the reference's.
  Slices of events of the call's own; walks: events, slices.Clone.
  Ways in memory; walks: Short of the reference.
  Walks: Route of the reference.
  A trip in memory; walks: motions, fast, limits.
-/
import Derived.Test.YtjibcnnbclcboaaGreatDoorQB25
namespace Go.Proofs.YtjibcnnbclcboaaGreatDoor
open Go.RowKit
set_option maxRecDepth 8000

def evGood (l : List (Int × Int)) (k : Nat) : Bool := !(decide ((l.getD k (0, 0)).1 < 0)) && (!(decide (1000000 < (l.getD k (0, 0)).1)) && (!(decide ((l.getD k (0, 0)).2 < 0)) && (!(decide (1000000 < (l.getD k (0, 0)).2)) && (decide (k = 0) || !(decide ((l.getD k (0, 0)).1 < (l.getD (k - 1) (0, 0)).1))))))
def evTo (l : List (Int × Int)) : Nat → Bool
  | 0 => true
  | k + 1 => evTo l k && evGood l k
/-- Events are valid. -/
def validE (l : List (Int × Int)) : Bool := evTo l l.length && decide (l.length ≤ 20)
theorem evTo_false {l : List (Int × Int)} {k : Nat} (h : evGood l k = false) : ∀ n, k < n → evTo l n = false
  | 0, hn => by omega
  | n + 1, hn => by
    rcases Nat.lt_or_ge k n with h' | h'
    · simp [evTo, evTo_false h n h']
    · obtain rfl : k = n := by omega
      simp [evTo, h]
theorem evTo_at {l : List (Int × Int)} : ∀ {n k : Nat}, evTo l n = true → k < n → evGood l k = true
  | 0, k, _, hk => by omega
  | n + 1, k, h, hk => by
    simp only [evTo, Bool.and_eq_true] at h
    rcases Nat.lt_or_ge k n with h' | h'
    · exact evTo_at h.1 h'
    · obtain rfl : k = n := by omega
      exact h.2
theorem validE_bad {l : List (Int × Int)} {k : Nat} (hk : k < l.length) (h : evGood l k = false) : validE l = false := by
  simp [validE, evTo_false h l.length hk]
theorem evTo_succ {l : List (Int × Int)} {k : Nat} (h : evTo l k = true) (hg : evGood l k = true) : evTo l (k + 1) = true := by simp [evTo, h, hg]
theorem evGood_def (l : List (Int × Int)) (k : Nat) : evGood l k = (!(decide ((l.getD k (0, 0)).1 < 0)) && (!(decide (1000000 < (l.getD k (0, 0)).1)) && (!(decide ((l.getD k (0, 0)).2 < 0)) && (!(decide (1000000 < (l.getD k (0, 0)).2)) && (decide (k = 0) || !(decide ((l.getD k (0, 0)).1 < (l.getD (k - 1) (0, 0)).1))))))) := rfl

/-- A block of two cells. -/
structure B2 (W : World) (N : Nat) (x y : Value) : Prop where
  c0 : W.cell? ⟨N, 0, none⟩ = some x
  c1 : W.cell? ⟨N, 1, none⟩ = some y
  f0 : W.frozen? ⟨N, 0, none⟩ = false
  f1 : W.frozen? ⟨N, 1, none⟩ = false
  lt : N < W.heap.size
theorem B2.mk' (w : World) (x y : Value) (t : TypeId) : ∃ W : World, w.alloc (.cells #[x, y] t) = W ∧ B2 W w.heap.size x y ∧ Ext w W := by
  refine ⟨_, rfl, ?_, (Ext.refl w).alloc _⟩
  constructor <;> simp [go_sem]
theorem B2.only {D : Nat → Prop} {W W' : World} {N : Nat} {x y : Value} (h : B2 W N x y) (k : Only D W W') (hd : ¬ D N) : B2 W' N x y :=
  ⟨by rw [k.cell h.lt hd]; exact h.c0, by rw [k.cell h.lt hd]; exact h.c1, by rw [k.frozen h.lt hd]; exact h.f0, by rw [k.frozen h.lt hd]; exact h.f1, Nat.lt_of_lt_of_le h.lt k.size⟩
theorem B2.later {W W' : World} {N : Nat} {x y : Value} (h : B2 W N x y) (k : Ext W W') : B2 W' N x y := h.only (D := fun _ => False) (Only.of_ext k) (fun h => h)

set_option maxHeartbeats 4000000 in
theorem jvalid_core (ad : Option Addr) (cap b off : Nat) (l : List (Int × Int)) (w : World) (hn : l.length ≤ 9223372036854775807) (had : l.length = 0 ∨ ad = some ⟨b, off, none⟩) (hc : ∀ i, i < l.length → b < w.heap.size ∧ w.cell? ⟨b, off + i * 2, none⟩ = some (.int .i64 (l.getD i (0, 0)).1) ∧ w.cell? ⟨b, off + i * 2 + 1, none⟩ = some (.int .i64 (l.getD i (0, 0)).2)) :
    Calls Tryz.prog 24 #[.slice ad l.length cap] w fun e w' => e = .returned (.bool (validE l)) ∧ Ext w w' := by
  have HC := Lib.hid hc; clear hc
  have HAD := Lib.hid had; clear had
  generalize hN : l.length = n at *
  have HN := Lib.hid hN; clear hN
  go_enter Tryz.func24, Tryz.ntmps24
  go_wp2
  go_loopw [7] (fun t wr => ∃ (k : Nat) (x : Later w), k ≤ n ∧ t = .int .i64 k ∧ wr = x.w ∧ Hid (evTo l k = true)) (fun t _ => n - (intOf t).toNat)
  case atStart => exact ⟨0, Later.self w, by omega, rfl, rfl, Lib.hid rfl⟩
  case round =>
    obtain ⟨k, x, hk, rfl, rfl, HA⟩ := hrel
    by_cases hlt : k < n
    · obtain ⟨hb1, hb2, hb3⟩ := HC.out k hlt
      obtain rfl : ad = some ⟨b, off, none⟩ := (HAD.out).resolve_left (by omega)
      have hE := x.ext
      rw [← hE.cell (p := ⟨b, _, none⟩) hb1] at hb2 hb3
      generalize x.w = wx at *
      clear x
      have hX : evGood l k = false → validE l = false := fun h => validE_bad (by rw [HN.out]; exact hlt) h
      have HX := Lib.hid hX; clear hX
      have hS : evGood l k = true → evTo l (k + 1) = true := fun h => evTo_succ HA.out h
      have HS := Lib.hid hS; clear hS HA
      have hG := evGood_def l k
      have HG := Lib.hid hG; clear hG
      rcases Nat.eq_zero_or_pos k with hk0 | hk0
      · subst hk0
        simp only [Nat.zero_mul, Nat.add_zero] at hb2 hb3
        generalize (l.getD 0 (0, 0)).1 = pa at *
        generalize (l.getD 0 (0, 0)).2 = pn at *
        cases h0 : decide (pa < 0)
        rotate_left
        · have HF := Lib.hid (HX.out (by rw [HG.out]; simp only [h0]; rfl))
          clear HX HS HG
          go_wp2_with fail
          obtain ⟨W2, hW2, B2x, hE2⟩ := B2.mk' wx (.int .i64 pa) (.int .i64 pn) 55
          rw [hW2]; clear hW2
          have d0 := Later.cell B2x.c0; have d1 := Later.cell B2x.c1
          refine wp_region_later (by kernel_rfl) (by kernel_rfl) ?_
          repeat (go_big_quiet_step (fail))
          refine wpQuiet_nil ?_
          rintro _ ⟨x2, rfl⟩
          go_wp2
          go_ret
          exact ⟨ret_bool HF.out.symm, hE.trans (hE2.trans x2.ext)⟩
        cases h1 : decide (1000000 < pa)
        rotate_left
        · have HF := Lib.hid (HX.out (by rw [HG.out]; simp only [h0, h1]; rfl))
          clear HX HS HG
          go_wp2_with fail
          obtain ⟨W2, hW2, B2x, hE2⟩ := B2.mk' wx (.int .i64 pa) (.int .i64 pn) 55
          rw [hW2]; clear hW2
          have d0 := Later.cell B2x.c0; have d1 := Later.cell B2x.c1
          refine wp_region_later (by kernel_rfl) (by kernel_rfl) ?_
          repeat (go_big_quiet_step (fail))
          refine wpQuiet_nil ?_
          rintro _ ⟨x2, rfl⟩
          go_wp2
          go_ret
          exact ⟨ret_bool HF.out.symm, hE.trans (hE2.trans x2.ext)⟩
        cases h2 : decide (pn < 0)
        rotate_left
        · have HF := Lib.hid (HX.out (by rw [HG.out]; simp only [h0, h1, h2]; rfl))
          clear HX HS HG
          go_wp2_with fail
          obtain ⟨W2, hW2, B2x, hE2⟩ := B2.mk' wx (.int .i64 pa) (.int .i64 pn) 55
          rw [hW2]; clear hW2
          have d0 := Later.cell B2x.c0; have d1 := Later.cell B2x.c1
          refine wp_region_later (by kernel_rfl) (by kernel_rfl) ?_
          repeat (go_big_quiet_step (fail))
          refine wpQuiet_nil ?_
          rintro _ ⟨x2, rfl⟩
          go_wp2
          go_ret
          exact ⟨ret_bool HF.out.symm, hE.trans (hE2.trans x2.ext)⟩
        cases h3 : decide (1000000 < pn)
        rotate_left
        · have HF := Lib.hid (HX.out (by rw [HG.out]; simp only [h0, h1, h2, h3]; rfl))
          clear HX HS HG
          go_wp2_with fail
          obtain ⟨W2, hW2, B2x, hE2⟩ := B2.mk' wx (.int .i64 pa) (.int .i64 pn) 55
          rw [hW2]; clear hW2
          have d0 := Later.cell B2x.c0; have d1 := Later.cell B2x.c1
          refine wp_region_later (by kernel_rfl) (by kernel_rfl) ?_
          repeat (go_big_quiet_step (fail))
          refine wpQuiet_nil ?_
          rintro _ ⟨x2, rfl⟩
          go_wp2
          go_ret
          exact ⟨ret_bool HF.out.symm, hE.trans (hE2.trans x2.ext)⟩
        have HF := Lib.hid (HS.out (by rw [HG.out]; simp only [h0, h1, h2, h3]; rfl))
        clear HX HS HG
        go_wp2_with fail
        obtain ⟨W2, hW2, B2x, hE2⟩ := B2.mk' wx (.int .i64 pa) (.int .i64 pn) 55
        rw [hW2]; clear hW2
        have d0 := Later.cell B2x.c0; have d1 := Later.cell B2x.c1
        refine wp_region_later (by kernel_rfl) (by kernel_rfl) ?_
        repeat (go_big_quiet_step (fail))
        refine wpQuiet_nil ?_
        rintro _ ⟨x2, rfl⟩
        go_wp2
        go_roundw
        case rel => exact ⟨0 + 1, ⟨x2.w, hE.trans (hE2.trans x2.ext)⟩, by omega, by go_num, rfl, HF⟩
        case measure => simp [intOf]; omega
      · obtain ⟨k, rfl⟩ : ∃ i, k = i + 1 := ⟨k - 1, by omega⟩
        obtain ⟨_, hq, _⟩ := HC.out k (by omega)
        rw [← hE.cell (p := ⟨b, _, none⟩) hb1] at hq
        have e1 : (((k + 1 : Nat) : Int) - 1).toNat = k := by omega
        have hkp : decide (((k + 1 : Nat) : Int) > 0) = true := by simp
        rw [Nat.add_sub_cancel] at HG
        generalize (l.getD (k + 1) (0, 0)).1 = pa at *
        generalize (l.getD (k + 1) (0, 0)).2 = pn at *
        generalize (l.getD k (0, 0)).1 = pq at *
        cases h0 : decide (pa < 0)
        rotate_left
        · have HF := Lib.hid (HX.out (by rw [HG.out]; simp only [h0]; rfl))
          clear HX HS HG
          go_wp2_with fail
          obtain ⟨W2, hW2, B2x, hE2⟩ := B2.mk' wx (.int .i64 pa) (.int .i64 pn) 55
          rw [hW2]; clear hW2
          have d0 := Later.cell B2x.c0; have d1 := Later.cell B2x.c1
          have r0 := Later.cell ((hE2.cell (p := ⟨b, _, none⟩) (Nat.lt_of_lt_of_le hb1 hE.size)).trans hq)
          refine wp_region_later (by kernel_rfl) (by kernel_rfl) ?_
          repeat (go_big_quiet_step (fail))
          refine wpQuiet_nil ?_
          rintro _ ⟨x2, rfl⟩
          go_wp2
          go_ret
          exact ⟨ret_bool HF.out.symm, hE.trans (hE2.trans x2.ext)⟩
        cases h1 : decide (1000000 < pa)
        rotate_left
        · have HF := Lib.hid (HX.out (by rw [HG.out]; simp only [h0, h1]; rfl))
          clear HX HS HG
          go_wp2_with fail
          obtain ⟨W2, hW2, B2x, hE2⟩ := B2.mk' wx (.int .i64 pa) (.int .i64 pn) 55
          rw [hW2]; clear hW2
          have d0 := Later.cell B2x.c0; have d1 := Later.cell B2x.c1
          have r0 := Later.cell ((hE2.cell (p := ⟨b, _, none⟩) (Nat.lt_of_lt_of_le hb1 hE.size)).trans hq)
          refine wp_region_later (by kernel_rfl) (by kernel_rfl) ?_
          repeat (go_big_quiet_step (fail))
          refine wpQuiet_nil ?_
          rintro _ ⟨x2, rfl⟩
          go_wp2
          go_ret
          exact ⟨ret_bool HF.out.symm, hE.trans (hE2.trans x2.ext)⟩
        cases h2 : decide (pn < 0)
        rotate_left
        · have HF := Lib.hid (HX.out (by rw [HG.out]; simp only [h0, h1, h2]; rfl))
          clear HX HS HG
          go_wp2_with fail
          obtain ⟨W2, hW2, B2x, hE2⟩ := B2.mk' wx (.int .i64 pa) (.int .i64 pn) 55
          rw [hW2]; clear hW2
          have d0 := Later.cell B2x.c0; have d1 := Later.cell B2x.c1
          have r0 := Later.cell ((hE2.cell (p := ⟨b, _, none⟩) (Nat.lt_of_lt_of_le hb1 hE.size)).trans hq)
          refine wp_region_later (by kernel_rfl) (by kernel_rfl) ?_
          repeat (go_big_quiet_step (fail))
          refine wpQuiet_nil ?_
          rintro _ ⟨x2, rfl⟩
          go_wp2
          go_ret
          exact ⟨ret_bool HF.out.symm, hE.trans (hE2.trans x2.ext)⟩
        cases h3 : decide (1000000 < pn)
        rotate_left
        · have HF := Lib.hid (HX.out (by rw [HG.out]; simp only [h0, h1, h2, h3]; rfl))
          clear HX HS HG
          go_wp2_with fail
          obtain ⟨W2, hW2, B2x, hE2⟩ := B2.mk' wx (.int .i64 pa) (.int .i64 pn) 55
          rw [hW2]; clear hW2
          have d0 := Later.cell B2x.c0; have d1 := Later.cell B2x.c1
          have r0 := Later.cell ((hE2.cell (p := ⟨b, _, none⟩) (Nat.lt_of_lt_of_le hb1 hE.size)).trans hq)
          refine wp_region_later (by kernel_rfl) (by kernel_rfl) ?_
          repeat (go_big_quiet_step (fail))
          refine wpQuiet_nil ?_
          rintro _ ⟨x2, rfl⟩
          go_wp2
          go_ret
          exact ⟨ret_bool HF.out.symm, hE.trans (hE2.trans x2.ext)⟩
        cases h4 : decide (pa < pq)
        · have HF := Lib.hid (HS.out (by rw [HG.out]; simp only [h0, h1, h2, h3, h4]; rfl))
          clear HX HS HG
          go_wp2_with fail
          obtain ⟨W2, hW2, B2x, hE2⟩ := B2.mk' wx (.int .i64 pa) (.int .i64 pn) 55
          rw [hW2]; clear hW2
          have d0 := Later.cell B2x.c0; have d1 := Later.cell B2x.c1
          have r0 := Later.cell ((hE2.cell (p := ⟨b, _, none⟩) (Nat.lt_of_lt_of_le hb1 hE.size)).trans hq)
          refine wp_region_later (by kernel_rfl) (by kernel_rfl) ?_
          repeat (go_big_quiet_step (fail))
          refine wpQuiet_nil ?_
          rintro _ ⟨x2, rfl⟩
          go_wp2
          go_roundw
          case rel => exact ⟨k + 1 + 1, ⟨x2.w, hE.trans (hE2.trans x2.ext)⟩, by omega, by go_num, rfl, HF⟩
          case measure => simp [intOf]; omega
        · have HF := Lib.hid (HX.out (by rw [HG.out]; simp only [h0, h1, h2, h3, h4]; simp))
          clear HX HS HG
          go_wp2_with fail
          obtain ⟨W2, hW2, B2x, hE2⟩ := B2.mk' wx (.int .i64 pa) (.int .i64 pn) 55
          rw [hW2]; clear hW2
          have d0 := Later.cell B2x.c0; have d1 := Later.cell B2x.c1
          have r0 := Later.cell ((hE2.cell (p := ⟨b, _, none⟩) (Nat.lt_of_lt_of_le hb1 hE.size)).trans hq)
          refine wp_region_later (by kernel_rfl) (by kernel_rfl) ?_
          repeat (go_big_quiet_step (fail))
          refine wpQuiet_nil ?_
          rintro _ ⟨x2, rfl⟩
          go_wp2
          go_ret
          exact ⟨ret_bool HF.out.symm, hE.trans (hE2.trans x2.ext)⟩
    · have hkn : k = n := by omega
      have hg0 := HA.out
      rw [hkn, ← HN.out] at hg0
      have hF : validE l = decide (n ≤ 20) := by unfold validE; rw [hg0, HN.out]; rfl
      have HF := Lib.hid hF
      clear hF hkn hg0 HA
      have hE := x.ext
      by_cases hbig : n ≤ 20
      · go_wp2
        go_ret
        exact ⟨ret_bool (by rw [HF.out]; simp; omega), hE⟩
      · go_wp2
        go_ret
        exact ⟨ret_bool (by rw [HF.out]; simp; omega), hE⟩

theorem jvalid_any (v : Value) (l : List (Int × Int)) (w : World) (h : SlE w v l) (hn : l.length ≤ 9223372036854775807) :
    Calls Tryz.prog 24 #[v] w fun e w' => e = .returned (.bool (validE l)) ∧ Ext w w' := by
  obtain ⟨ad, n, cap, b, off, rfl, rfl, h3, -, h4⟩ := h
  exact jvalid_core ad cap b off l w hn h3 h4

set_option maxHeartbeats 4000000 in
theorem evalid_core (ad : Option Addr) (cap b off : Nat) (l : List (Int × Int)) (w : World) (hn : l.length ≤ 9223372036854775807) (had : l.length = 0 ∨ ad = some ⟨b, off, none⟩) (hc : ∀ i, i < l.length → b < w.heap.size ∧ w.cell? ⟨b, off + i * 2, none⟩ = some (.int .i64 (l.getD i (0, 0)).1) ∧ w.cell? ⟨b, off + i * 2 + 1, none⟩ = some (.int .i64 (l.getD i (0, 0)).2)) :
    Calls Tryz.prog 8 #[.slice ad l.length cap] w fun e w' => e = .returned (.bool (validE l)) ∧ Ext w w' := by
  have HC := Lib.hid hc; clear hc
  have HAD := Lib.hid had; clear had
  generalize hN : l.length = n at *
  have HN := Lib.hid hN; clear hN
  by_cases hbig : n > 20
  · have hF : validE l = false := by simp [validE, HN.out]; intro _; omega
    have HF := Lib.hid hF; clear hF
    go_enter Tryz.func8, Tryz.ntmps8
    go_wp2
    go_ret
    exact ⟨ret_bool HF.out.symm, Ext.refl _⟩
  go_enter Tryz.func8, Tryz.ntmps8
  go_wp2
  go_loopw [3] (fun t wr => ∃ (k : Nat) (x : Later w), k ≤ n ∧ t = .int .i64 k ∧ wr = x.w ∧ Hid (evTo l k = true)) (fun t _ => n - (intOf t).toNat)
  case atStart => exact ⟨0, Later.self w, by omega, rfl, rfl, Lib.hid rfl⟩
  case round =>
    obtain ⟨k, x, hk, rfl, rfl, HA⟩ := hrel
    by_cases hlt : k < n
    · obtain ⟨hb1, hb2, hb3⟩ := HC.out k hlt
      obtain rfl : ad = some ⟨b, off, none⟩ := (HAD.out).resolve_left (by omega)
      have hE := x.ext
      rw [← hE.cell (p := ⟨b, _, none⟩) hb1] at hb2 hb3
      generalize x.w = wx at *
      clear x
      have hX : evGood l k = false → validE l = false := fun h => validE_bad (by rw [HN.out]; exact hlt) h
      have HX := Lib.hid hX; clear hX
      have hS : evGood l k = true → evTo l (k + 1) = true := fun h => evTo_succ HA.out h
      have HS := Lib.hid hS; clear hS HA
      have hG := evGood_def l k
      have HG := Lib.hid hG; clear hG
      rcases Nat.eq_zero_or_pos k with hk0 | hk0
      · subst hk0
        simp only [Nat.zero_mul, Nat.add_zero] at hb2 hb3
        generalize (l.getD 0 (0, 0)).1 = pa at *
        generalize (l.getD 0 (0, 0)).2 = pn at *
        cases h0 : decide (pa < 0)
        rotate_left
        · have HF := Lib.hid (HX.out (by rw [HG.out]; simp only [h0]; rfl))
          clear HX HS HG
          have d0 := Later.cell hb2; have d1 := Later.cell hb3
          have hE2 := Ext.refl wx
          go_wp2_with fail
          refine wp_region_later (by kernel_rfl) (by kernel_rfl) ?_
          repeat (go_big_quiet_step (fail))
          refine wpQuiet_nil ?_
          rintro _ ⟨x2, rfl⟩
          go_wp2
          go_ret
          exact ⟨ret_bool HF.out.symm, hE.trans (hE2.trans x2.ext)⟩
        cases h1 : decide (1000000 < pa)
        rotate_left
        · have HF := Lib.hid (HX.out (by rw [HG.out]; simp only [h0, h1]; rfl))
          clear HX HS HG
          have d0 := Later.cell hb2; have d1 := Later.cell hb3
          have hE2 := Ext.refl wx
          go_wp2_with fail
          refine wp_region_later (by kernel_rfl) (by kernel_rfl) ?_
          repeat (go_big_quiet_step (fail))
          refine wpQuiet_nil ?_
          rintro _ ⟨x2, rfl⟩
          go_wp2
          go_ret
          exact ⟨ret_bool HF.out.symm, hE.trans (hE2.trans x2.ext)⟩
        cases h2 : decide (pn < 0)
        rotate_left
        · have HF := Lib.hid (HX.out (by rw [HG.out]; simp only [h0, h1, h2]; rfl))
          clear HX HS HG
          have d0 := Later.cell hb2; have d1 := Later.cell hb3
          have hE2 := Ext.refl wx
          go_wp2_with fail
          refine wp_region_later (by kernel_rfl) (by kernel_rfl) ?_
          repeat (go_big_quiet_step (fail))
          refine wpQuiet_nil ?_
          rintro _ ⟨x2, rfl⟩
          go_wp2
          go_ret
          exact ⟨ret_bool HF.out.symm, hE.trans (hE2.trans x2.ext)⟩
        cases h3 : decide (1000000 < pn)
        rotate_left
        · have HF := Lib.hid (HX.out (by rw [HG.out]; simp only [h0, h1, h2, h3]; rfl))
          clear HX HS HG
          have d0 := Later.cell hb2; have d1 := Later.cell hb3
          have hE2 := Ext.refl wx
          go_wp2_with fail
          refine wp_region_later (by kernel_rfl) (by kernel_rfl) ?_
          repeat (go_big_quiet_step (fail))
          refine wpQuiet_nil ?_
          rintro _ ⟨x2, rfl⟩
          go_wp2
          go_ret
          exact ⟨ret_bool HF.out.symm, hE.trans (hE2.trans x2.ext)⟩
        have HF := Lib.hid (HS.out (by rw [HG.out]; simp only [h0, h1, h2, h3]; rfl))
        clear HX HS HG
        have d0 := Later.cell hb2; have d1 := Later.cell hb3
        have hE2 := Ext.refl wx
        go_wp2_with fail
        refine wp_region_later (by kernel_rfl) (by kernel_rfl) ?_
        repeat (go_big_quiet_step (fail))
        refine wpQuiet_nil ?_
        rintro _ ⟨x2, rfl⟩
        go_wp2
        go_roundw
        case rel => exact ⟨0 + 1, ⟨x2.w, hE.trans (hE2.trans x2.ext)⟩, by omega, by go_num, rfl, HF⟩
        case measure => simp [intOf]; omega
      · obtain ⟨k, rfl⟩ : ∃ i, k = i + 1 := ⟨k - 1, by omega⟩
        obtain ⟨_, hq, _⟩ := HC.out k (by omega)
        rw [← hE.cell (p := ⟨b, _, none⟩) hb1] at hq
        have e1 : (((k + 1 : Nat) : Int) - 1).toNat = k := by omega
        have hkp : decide (((k + 1 : Nat) : Int) > 0) = true := by simp
        rw [Nat.add_sub_cancel] at HG
        generalize (l.getD (k + 1) (0, 0)).1 = pa at *
        generalize (l.getD (k + 1) (0, 0)).2 = pn at *
        generalize (l.getD k (0, 0)).1 = pq at *
        cases h0 : decide (pa < 0)
        rotate_left
        · have HF := Lib.hid (HX.out (by rw [HG.out]; simp only [h0]; rfl))
          clear HX HS HG
          have d0 := Later.cell hb2; have d1 := Later.cell hb3
          have hE2 := Ext.refl wx
          have r0 := Later.cell hq
          go_wp2_with fail
          refine wp_region_later (by kernel_rfl) (by kernel_rfl) ?_
          repeat (go_big_quiet_step (fail))
          refine wpQuiet_nil ?_
          rintro _ ⟨x2, rfl⟩
          go_wp2
          go_ret
          exact ⟨ret_bool HF.out.symm, hE.trans (hE2.trans x2.ext)⟩
        cases h1 : decide (1000000 < pa)
        rotate_left
        · have HF := Lib.hid (HX.out (by rw [HG.out]; simp only [h0, h1]; rfl))
          clear HX HS HG
          have d0 := Later.cell hb2; have d1 := Later.cell hb3
          have hE2 := Ext.refl wx
          have r0 := Later.cell hq
          go_wp2_with fail
          refine wp_region_later (by kernel_rfl) (by kernel_rfl) ?_
          repeat (go_big_quiet_step (fail))
          refine wpQuiet_nil ?_
          rintro _ ⟨x2, rfl⟩
          go_wp2
          go_ret
          exact ⟨ret_bool HF.out.symm, hE.trans (hE2.trans x2.ext)⟩
        cases h2 : decide (pn < 0)
        rotate_left
        · have HF := Lib.hid (HX.out (by rw [HG.out]; simp only [h0, h1, h2]; rfl))
          clear HX HS HG
          have d0 := Later.cell hb2; have d1 := Later.cell hb3
          have hE2 := Ext.refl wx
          have r0 := Later.cell hq
          go_wp2_with fail
          refine wp_region_later (by kernel_rfl) (by kernel_rfl) ?_
          repeat (go_big_quiet_step (fail))
          refine wpQuiet_nil ?_
          rintro _ ⟨x2, rfl⟩
          go_wp2
          go_ret
          exact ⟨ret_bool HF.out.symm, hE.trans (hE2.trans x2.ext)⟩
        cases h3 : decide (1000000 < pn)
        rotate_left
        · have HF := Lib.hid (HX.out (by rw [HG.out]; simp only [h0, h1, h2, h3]; rfl))
          clear HX HS HG
          have d0 := Later.cell hb2; have d1 := Later.cell hb3
          have hE2 := Ext.refl wx
          have r0 := Later.cell hq
          go_wp2_with fail
          refine wp_region_later (by kernel_rfl) (by kernel_rfl) ?_
          repeat (go_big_quiet_step (fail))
          refine wpQuiet_nil ?_
          rintro _ ⟨x2, rfl⟩
          go_wp2
          go_ret
          exact ⟨ret_bool HF.out.symm, hE.trans (hE2.trans x2.ext)⟩
        cases h4 : decide (pa < pq)
        · have HF := Lib.hid (HS.out (by rw [HG.out]; simp only [h0, h1, h2, h3, h4]; rfl))
          clear HX HS HG
          have d0 := Later.cell hb2; have d1 := Later.cell hb3
          have hE2 := Ext.refl wx
          have r0 := Later.cell hq
          go_wp2_with fail
          refine wp_region_later (by kernel_rfl) (by kernel_rfl) ?_
          repeat (go_big_quiet_step (fail))
          refine wpQuiet_nil ?_
          rintro _ ⟨x2, rfl⟩
          go_wp2
          go_roundw
          case rel => exact ⟨k + 1 + 1, ⟨x2.w, hE.trans (hE2.trans x2.ext)⟩, by omega, by go_num, rfl, HF⟩
          case measure => simp [intOf]; omega
        · have HF := Lib.hid (HX.out (by rw [HG.out]; simp only [h0, h1, h2, h3, h4]; simp))
          clear HX HS HG
          have d0 := Later.cell hb2; have d1 := Later.cell hb3
          have hE2 := Ext.refl wx
          have r0 := Later.cell hq
          go_wp2_with fail
          refine wp_region_later (by kernel_rfl) (by kernel_rfl) ?_
          repeat (go_big_quiet_step (fail))
          refine wpQuiet_nil ?_
          rintro _ ⟨x2, rfl⟩
          go_wp2
          go_ret
          exact ⟨ret_bool HF.out.symm, hE.trans (hE2.trans x2.ext)⟩
    · have hkn : k = n := by omega
      have hg0 := HA.out
      rw [hkn, ← HN.out] at hg0
      have hF : validE l = true := by unfold validE; rw [hg0, HN.out]; simp; omega
      have HF := Lib.hid hF
      clear hF hkn hg0 HA
      have hE := x.ext
      go_wp2
      go_ret
      exact ⟨ret_bool HF.out.symm, hE⟩

theorem evalid_any (v : Value) (l : List (Int × Int)) (w : World) (h : SlE w v l) (hn : l.length ≤ 9223372036854775807) :
    Calls Tryz.prog 8 #[v] w fun e w' => e = .returned (.bool (validE l)) ∧ Ext w w' := by
  obtain ⟨ad, n, cap, b, off, rfl, rfl, h3, -, h4⟩ := h
  exact evalid_core ad cap b off l w hn h3 h4

end Go.Proofs.YtjibcnnbclcboaaGreatDoor

namespace Go.Proofs.YtjibcnnbclcboaaGreatDoor
open Go.RowKit
set_option maxRecDepth 8000

def rowE : List (Int × Int) → List Value
  | [] => []
  | m :: l => .int .i64 m.1 :: .int .i64 m.2 :: rowE l
theorem rowE_length : ∀ l : List (Int × Int), (rowE l).length = l.length * 2
  | [] => rfl
  | m :: l => by simp [rowE, rowE_length l]; omega
theorem rowE_append : ∀ l l' : List (Int × Int), rowE (l ++ l') = rowE l ++ rowE l'
  | [], l' => rfl
  | m :: l, l' => by simp [rowE, rowE_append l l']
theorem rowE_get0 : ∀ (l : List (Int × Int)) (i : Nat), i < l.length → (rowE l)[i * 2]? = some (.int .i64 (l.getD i (0, 0)).1)
  | [], i, h => by simp at h
  | m :: l, 0, _ => by simp [rowE]
  | m :: l, i + 1, h => by
    rw [show (i + 1) * 2 = i * 2 + 1 + 1 by omega]
    simp only [rowE, List.getElem?_cons_succ]
    rw [rowE_get0 l i (by simpa using h)]
    simp
theorem rowE_get1 : ∀ (l : List (Int × Int)) (i : Nat), i < l.length → (rowE l)[i * 2 + 1]? = some (.int .i64 (l.getD i (0, 0)).2)
  | [], i, h => by simp at h
  | m :: l, 0, _ => by simp [rowE]
  | m :: l, i + 1, h => by
    rw [show (i + 1) * 2 + 1 = i * 2 + 1 + 1 + 1 by omega]
    simp only [rowE, List.getElem?_cons_succ]
    rw [rowE_get1 l i (by simpa using h)]
    simp
theorem rowE_one : ∀ (l : List (Int × Int)), ∀ u ∈ rowE l, u.oneCell' = true
  | [], u, h => by simp [rowE] at h
  | m :: l, u, h => by
    simp only [rowE, List.mem_cons] at h
    rcases h with h | h | h
    · subst h; rfl
    · subst h; rfl
    · exact rowE_one l u h
theorem cells_rowE {w : World} {b off : Nat} {l : List (Int × Int)} (h : ∀ i, i < l.length → b < w.heap.size ∧ w.cell? ⟨b, off + i * 2, none⟩ = some (.int .i64 (l.getD i (0, 0)).1) ∧ w.cell? ⟨b, off + i * 2 + 1, none⟩ = some (.int .i64 (l.getD i (0, 0)).2)) (k : Nat) (u : Value) (hu : (rowE l)[k]? = some u) : w.cell? ⟨b, off + k, none⟩ = some u := by
  have hk : k < l.length * 2 := by
    rw [← rowE_length]
    rcases Nat.lt_or_ge k (rowE l).length with h' | h'
    · exact h'
    · simp [h'] at hu
  have hi : k / 2 < l.length := by omega
  obtain ⟨_, p, q⟩ := h _ hi
  have h2 : k % 2 = 0 ∨ k % 2 = 1 := by omega
  rcases h2 with h2 | h2
  · have e : k = k / 2 * 2 := by omega
    rw [e, rowE_get0 l _ hi] at hu
    rw [e, p]
    exact hu
  · have e : k = k / 2 * 2 + 1 := by omega
    rw [e, rowE_get1 l _ hi] at hu
    rw [e, ← Nat.add_assoc, q]
    exact hu

/-- A slice of the call's own that holds these events. -/
def OwnE (t : TypeId) (B : Nat) (w : World) (v : Value) (l : List (Int × Int)) : Prop := w.ownsRow B t 2 v l.length (rowE l)
theorem OwnE.later {t : TypeId} {B : Nat} {w w' : World} {v : Value} {l : List (Int × Int)} (h : OwnE t B w v l) (he : Ext w w') : OwnE t B w' v l := by
  refine World.ownsRow.kept h (row := none) ⟨he.out.os, he.out.tape, he.out.output, he.size, fun k hk _ => he.out.block k hk⟩ ?_
  cases h' : v.ownBlock <;> simp
theorem OwnE.nil (t : TypeId) (B : Nat) (w : World) : OwnE t B w (.slice none 0 0) [] := World.ownsRow_nil _ _ _ _
theorem OwnE.only {t : TypeId} {B : Nat} {D : Nat → Prop} {w w' : World} {v : Value} {l : List (Int × Int)} (h : OwnE t B w v l) (k : Only D w w') (hd : Off D v) : OwnE t B w' v l := ownsRow_only h k hd
theorem OwnE.sl {t : TypeId} {B : Nat} {w : World} {v : Value} {l : List (Int × Int)} (h : OwnE t B w v l) : SlE w v l := by
  obtain ⟨h1, h2⟩ := h
  rcases h2 with ⟨rfl, h3⟩ | ⟨g, cap, cur, rfl, h3, h4, h5, h6, h7, h8⟩
  · exact ⟨none, 0, 0, 0, 0, rfl, h3.symm, .inl rfl, Nat.le_refl _, fun i hi => by omega⟩
  · have hlt : g < w.heap.size := by
      rcases Nat.lt_or_ge g w.heap.size with h' | h'
      · exact h'
      · rw [Array.getElem?_eq_none h'] at h4; cases h4
    have key : ∀ k, k < l.length * 2 → cur[k]? = (rowE l)[k]? := fun k hk => by
      have : (cur.toList.take (l.length * 2))[k]? = (rowE l)[k]? := by rw [h8]
      rw [List.getElem?_take_of_lt hk] at this
      simpa using this
    refine ⟨_, _, cap, g, 0, rfl, rfl, .inr rfl, by first | exact h5 | exact h6 | omega, fun i hi => ⟨hlt, ?_, ?_⟩⟩
    · have := key (i * 2) (by omega)
      rw [rowE_get0 l i hi] at this
      simp [World.cell?, h4, this]
    · have := key (i * 2 + 1) (by omega)
      rw [rowE_get1 l i hi] at this
      simp [World.cell?, h4, this]
theorem OwnE.base {t : TypeId} {B : Nat} {w : World} {v : Value} {l : List (Int × Int)} (h : OwnE t B w v l) {b : Nat} (hb : v.ownBlock = some b) : B ≤ b := by
  obtain ⟨_, h2⟩ := h
  rcases h2 with ⟨rfl, _⟩ | ⟨g, cap, cur, rfl, h3, _⟩
  · cases hb
  · cases hb; exact h3
/-- A slice of events of the call's own is handed back. -/
def RetEvs (t : TypeId) (w : World) (l : List (Int × Int)) (e : Ending) (w' : World) : Prop := ∃ v, e = .returned v ∧ OwnE t w.heap.size w' v l ∧ Ext w w'


theorem Tryz.info_evJ : (Tryz.prog.info? 55).map (fun i => (i.zero, i.size, i.bytes)) = some (some (.agg #[.int .i64 0, .int .i64 0]), 2, 16) := by kernel_rfl
/-- append of events. -/
theorem appEJ {w : World} {ops : Array Oper} {rest : List Oper} {o : Oper} {A : Act} {Q : Exit → Act → World → Prop} (hg : o.guard = none) (x y : Operand)
    (ho : o.op = .call { callee := .builtin .append, args := #[x, y], argTypes := #[38, 38] }) (base : Nat) (v v2 : Value) (l l2 : List (Int × Int)) (hx : A.eval x = v) (hy : A.eval y = v2)
    (hown : OwnE 55 base w v l) (harg : SlE w v2 l2) (hne : ∀ c, v2 = .slice none 0 c → c = 0) (h63 : (l.length + l2.length) * 16 ≤ 140737488355328) (hbase : base ≤ w.heap.size)
    (hk : ∀ v' w3, OwnE 55 base w3 v' (l ++ l2) → w.grownBy w3 v.ownBlock → (v'.ownBlock = v.ownBlock ∨ v'.ownBlock = some w.heap.size) → wpList Tryz.prog ops Q rest (A.put o.dst v') w3) : wpList Tryz.prog ops Q (o :: rest) A w := by
  obtain ⟨i0, hi, hz0, hz1, hz2⟩ := info_parts Tryz.info_evJ
  obtain ⟨ad, n, cap, b, off, rfl, rfl, h3, h5, h4⟩ := harg
  cases ad with
  | none =>
    have h0 : l2.length = 0 := h3.resolve_right (by simp)
    obtain rfl := List.length_eq_zero_iff.1 h0
    obtain rfl := hne cap rfl
    exact wpList_append_own_none hg _ _ 38 ho base 55 i0 2 Tryz.underlying38 hi _ _ _ hx hown hy (hk _ _ (by rw [List.append_nil]; exact hown) ⟨rfl, rfl, rfl, Nat.le_refl _, fun _ _ _ => rfl⟩ (.inl rfl))
  | some x2 =>
    refine wpList_append_own_at w hg _ _ 38 ho base 55 i0 _ 2 16 Tryz.underlying38 hi hz0 hz1 hz2 rfl (by decide) _ _ _ hx hown x2 _ _ (rowE l2) hy (rowE_length l2) (fun k u hk' => ?_) (rowE_one l2) (by simp [maxLen]; omega) (by omega) hbase (fun v' w3 ho3 hg3 _ hat => hk v' w3 ?_ hg3 hat)
    · have hkl : k < l2.length * 2 := by
        rw [← rowE_length]
        rcases Nat.lt_or_ge k (rowE l2).length with h' | h'
        · exact h'
        · simp [h'] at hk'
      have hx2 : x2 = ⟨b, off, none⟩ := by simpa using h3.resolve_left (by omega)
      subst hx2
      rw [Addr.add_none]
      exact cells_rowE (fun i hi => h4 i hi) k u hk'
    · unfold OwnE; rw [List.length_append, rowE_append]; exact ho3


theorem Tryz.info_evR : (Tryz.prog.info? 43).map (fun i => (i.zero, i.size, i.bytes)) = some (some (.agg #[.int .i64 0, .int .i64 0]), 2, 16) := by kernel_rfl
/-- append of events. -/
theorem appER {w : World} {ops : Array Oper} {rest : List Oper} {o : Oper} {A : Act} {Q : Exit → Act → World → Prop} (hg : o.guard = none) (x y : Operand)
    (ho : o.op = .call { callee := .builtin .append, args := #[x, y], argTypes := #[29, 29] }) (base : Nat) (v v2 : Value) (l l2 : List (Int × Int)) (hx : A.eval x = v) (hy : A.eval y = v2)
    (hown : OwnE 43 base w v l) (harg : SlE w v2 l2) (hne : ∀ c, v2 = .slice none 0 c → c = 0) (h63 : (l.length + l2.length) * 16 ≤ 140737488355328) (hbase : base ≤ w.heap.size)
    (hk : ∀ v' w3, OwnE 43 base w3 v' (l ++ l2) → w.grownBy w3 v.ownBlock → (v'.ownBlock = v.ownBlock ∨ v'.ownBlock = some w.heap.size) → wpList Tryz.prog ops Q rest (A.put o.dst v') w3) : wpList Tryz.prog ops Q (o :: rest) A w := by
  obtain ⟨i0, hi, hz0, hz1, hz2⟩ := info_parts Tryz.info_evR
  obtain ⟨ad, n, cap, b, off, rfl, rfl, h3, h5, h4⟩ := harg
  cases ad with
  | none =>
    have h0 : l2.length = 0 := h3.resolve_right (by simp)
    obtain rfl := List.length_eq_zero_iff.1 h0
    obtain rfl := hne cap rfl
    exact wpList_append_own_none hg _ _ 29 ho base 43 i0 2 Tryz.underlying29 hi _ _ _ hx hown hy (hk _ _ (by rw [List.append_nil]; exact hown) ⟨rfl, rfl, rfl, Nat.le_refl _, fun _ _ _ => rfl⟩ (.inl rfl))
  | some x2 =>
    refine wpList_append_own_at w hg _ _ 29 ho base 43 i0 _ 2 16 Tryz.underlying29 hi hz0 hz1 hz2 rfl (by decide) _ _ _ hx hown x2 _ _ (rowE l2) hy (rowE_length l2) (fun k u hk' => ?_) (rowE_one l2) (by simp [maxLen]; omega) (by omega) hbase (fun v' w3 ho3 hg3 _ hat => hk v' w3 ?_ hg3 hat)
    · have hkl : k < l2.length * 2 := by
        rw [← rowE_length]
        rcases Nat.lt_or_ge k (rowE l2).length with h' | h'
        · exact h'
        · simp [h'] at hk'
      have hx2 : x2 = ⟨b, off, none⟩ := by simpa using h3.resolve_left (by omega)
      subst hx2
      rw [Addr.add_none]
      exact cells_rowE (fun i hi => h4 i hi) k u hk'
    · unfold OwnE; rw [List.length_append, rowE_append]; exact ho3


theorem lit_evJ (w : World) (a n : Int) : SlE (w.alloc (.cells #[.int .i64 a, .int .i64 n] 55)) (.slice (some ⟨w.heap.size, 0, none⟩) 1 1) [(a, n)] := by
  refine ⟨_, 1, 1, w.heap.size, 0, rfl, rfl, .inr rfl, Nat.le_refl _, fun i hi => ?_⟩
  obtain rfl : i = 0 := by omega
  refine ⟨by simp, ?_, ?_⟩ <;> simp [go_sem]

theorem take_snoc {l : List (Int × Int)} {k : Nat} (hk : k < l.length) : l.take k ++ [((l.getD k (0, 0)).1, (l.getD k (0, 0)).2)] = l.take (k + 1) := by
  have e : l.getD k (0, 0) = l[k] := by simp [hk]
  rw [e, List.take_add_one, List.getElem?_eq_getElem hk]
  rfl

set_option maxHeartbeats 2000000 in
theorem events_any (v : Value) (l : List (Int × Int)) (w : World) (h : SlE w v l) (hn : l.length * 16 ≤ 140737488355328) :
    Calls Tryz.prog 11 #[v] w (RetEvs 55 w l) := by
  obtain ⟨ad, n, cap, b, off, rfl, hnl, h3, -, h4⟩ := h
  have HC := Lib.hid h4; clear h4
  have HAD := Lib.hid h3; clear h3
  have HN := Lib.hid hnl
  rw [← hnl] at hn
  clear hnl
  go_enter Tryz.func11, Tryz.ntmps11
  go_wp2
  go_loopw [8, 3] (fun t u wr => ∃ k : Nat, k ≤ n ∧ t = .int .i64 k ∧ Hid (OwnE 55 w.heap.size wr u (l.take k)) ∧ Hid (Ext w wr)) (fun t _ _ => n - (intOf t).toNat)
  case atStart => exact ⟨0, by omega, rfl, Lib.hid (OwnE.nil _ _ _), Lib.hid (Ext.refl w)⟩
  case round =>
    obtain ⟨k, hk, rfl, HO, HE⟩ := hrel
    by_cases hlt : k < n
    · obtain ⟨hb1, hb2, hb3⟩ := HC.out k hlt
      obtain rfl : ad = some ⟨b, off, none⟩ := (HAD.out).resolve_left (by omega)
      rw [← HE.out.cell (p := ⟨b, _, none⟩) hb1] at hb2 hb3
      have ht := take_snoc (l := l) (k := k) (by rw [← HN.out]; exact hlt)
      have HT := Lib.hid ht; clear ht
      have hlen : (l.take k).length = k := by rw [List.length_take]; have := HN.out; omega
      have HL := Lib.hid hlen; clear hlen
      generalize (l.getD k (0, 0)).1 = pa at *
      generalize (l.getD k (0, 0)).2 = pn at *
      have hE2 : Ext wr (wr.alloc (.cells #[.int .i64 pa, .int .i64 pn] 43)) := (Ext.refl wr).alloc _
      have hL := lit_evJ (wr.alloc (.cells #[.int .i64 pa, .int .i64 pn] 43)) pa pn
      rw [show (wr.alloc (.cells #[.int .i64 pa, .int .i64 pn] 43)).heap.size = wr.heap.size + 1 by simp] at hL
      have HLE := Lib.hid hL; clear hL
      have HO2 := Lib.hid (HO.out.later (hE2.alloc (.cells #[.int .i64 pa, .int .i64 pn] 55)))
      have HE2 := Lib.hid (HE.out.trans (hE2.alloc (.cells #[.int .i64 pa, .int .i64 pn] 55)))
      have hs1 : ((l.take k).length + [(pa, pn)].length) * 16 ≤ 140737488355328 := by rw [HL.out]; simp; omega
      have HS1 := Lib.hid hs1; have HS2 := Lib.hid HE2.out.size
      clear hs1 hE2
      have hne0 : ∀ c, Value.slice (some ⟨wr.heap.size + 1, 0, none⟩) 1 1 = .slice none 0 c → c = 0 := fun c hc => by cases hc
      have HNE := Lib.hid hne0; clear hne0
      go_wp2_with ((at_builtin; refine appEJ rfl _ _ rfl w.heap.size _ (.slice (some ⟨wr.heap.size + 1, 0, none⟩) 1 1) (l.take k) [(pa, pn)] rfl rfl HO2.out HLE.out HNE.out HS1.out HS2.out ?_; intro v' w3 own3 hg3 hat3))
      go_wp2
      go_roundw
      case rel => exact ⟨k + 1, by omega, by go_num, Lib.hid (by rw [← HT.out]; exact own3), Lib.hid (ext_grown HE2.out hg3 (fun j hj => HO2.out.base hj))⟩
      case measure => simp [intOf]; omega
    · obtain rfl : k = n := by omega
      have hO := HO.out
      rw [HN.out, List.take_length] at hO
      have HO' := Lib.hid hO
      clear hO HO
      go_wp2
      go_ret
      exact ⟨_, rfl, HO'.out, HE.out⟩

set_option maxHeartbeats 400000 in
theorem cloneE_any (v : Value) (l : List (Int × Int)) (w : World) (h : SlE w v l) (hne : ∀ c, v = .slice none 0 c → c = 0) (hn : l.length * 16 ≤ 140737488355328) :
    Calls Tryz.prog 13 #[v] w (RetEvs 43 w l) := by
  obtain ⟨ad, n, cap, b, off, rfl, rfl, h3, h5, h4⟩ := h
  cases ad with
  | none =>
    have h0 : l.length = 0 := h3.resolve_right (by simp)
    obtain rfl := List.length_eq_zero_iff.1 h0
    obtain rfl := hne cap rfl
    clear h3 h4 h5 h0
    have hq := fun w => Lib.run_eql_slice_nil (P := Tryz.prog) w 29 43 none 0 0 0 0 Tryz.underlying29
    go_enter Tryz.func13, Tryz.ntmps13
    go_wp2
    go_ret
    exact ⟨_, rfl, OwnE.nil _ _ _, Ext.refl w⟩
  | some ad =>
    have hq := fun w => Lib.run_eql_slice_nil (P := Tryz.prog) w 29 43 (some ad) l.length cap 0 0 Tryz.underlying29
    have hsl : SlE w (.slice (some ad) l.length cap) l := ⟨_, _, cap, b, off, rfl, rfl, h3, h5, h4⟩
    clear h3 h4 h5
    go_enter Tryz.func13, Tryz.ntmps13
    have hown0 : OwnE 43 w.heap.size (w.alloc (.cells #[] 43)) (.slice (some ⟨w.heap.size, 0, none⟩) 0 0) [] := World.ownsRow_lit (base := w.heap.size) (e := 43) (size := 2) w #[] 0 (Nat.le_refl _) (by decide) rfl
    have HO := Lib.hid hown0
    have HS := Lib.hid hsl
    clear hown0 hsl
    have hne1 : ∀ c, Value.slice (some ad) l.length cap = .slice none 0 c → c = 0 := fun c hc => by cases hc
    go_wp2_with ((at_builtin; refine appER rfl _ _ rfl w.heap.size _ (.slice (some ad) l.length cap) [] l rfl rfl HO.out (HS.out.later ((Ext.refl w).alloc _)) hne1 (by simp; omega) (by simp) ?_; intro v' w3 own3 hg3 _))
    go_wp2
    go_ret
    exact ⟨_, rfl, own3, ext_grown ((Ext.refl w).alloc _) hg3 (fun k hk => Nat.le_of_eq (Option.some.inj hk))⟩

end Go.Proofs.YtjibcnnbclcboaaGreatDoor

namespace Go.Proofs.YtjibcnnbclcboaaGreatDoor
open Go.RowKit
set_option maxRecDepth 8000

def Way.zero : Way := ⟨0, 0, 0, 0⟩
/-- The cells of a way. -/
structure CellsW (w : World) (b o : Nat) (m : Way) : Prop where
  c0 : w.cell? ⟨b, o, none⟩ = some (.int .i16 m.x)
  c1 : w.cell? ⟨b, o + 1, none⟩ = some (.int .i16 m.y)
  c2 : w.cell? ⟨b, o + 2, none⟩ = some (.int .i16 m.z)
  c3 : w.cell? ⟨b, o + 3, none⟩ = some (.int .u8 m.r)
theorem CellsW.later {w w' : World} {b o : Nat} {m : Way} (h : CellsW w b o m) (hb : b < w.heap.size) (he : Ext w w') : CellsW w' b o m :=
  ⟨by rw [he.cell (p := ⟨b, _, none⟩) hb]; exact h.c0, by rw [he.cell (p := ⟨b, _, none⟩) hb]; exact h.c1, by rw [he.cell (p := ⟨b, _, none⟩) hb]; exact h.c2, by rw [he.cell (p := ⟨b, _, none⟩) hb]; exact h.c3⟩
/-- A slice that reads as ways. -/
def SlW (w : World) (v : Value) (l : List Way) : Prop :=
  ∃ (a : Option Addr) (n cap b off : Nat), v = .slice a n cap ∧ n = l.length ∧ (n = 0 ∨ a = some ⟨b, off, none⟩) ∧ ∀ i, i < n → b < w.heap.size ∧ CellsW w b (off + i * 4) (l.getD i Way.zero)
theorem SlW.later {w w' : World} {v : Value} {l : List Way} (h : SlW w v l) (he : Ext w w') : SlW w' v l := by
  obtain ⟨a, n, cap, b, off, h1, h2, h3, h4⟩ := h
  refine ⟨a, n, cap, b, off, h1, h2, h3, fun i hi => ?_⟩
  obtain ⟨p, q⟩ := h4 i hi
  exact ⟨Nat.lt_of_lt_of_le p he.size, q.later p he⟩

/-- The sum of the first lengths. -/
def l1to (l : List Way) : Nat → Int
  | 0 => 0
  | k + 1 => l1to l k + (if (l.getD k Way.zero).x < -(l.getD k Way.zero).x then -(l.getD k Way.zero).x else (l.getD k Way.zero).x) + (if (l.getD k Way.zero).y < -(l.getD k Way.zero).y then -(l.getD k Way.zero).y else (l.getD k Way.zero).y) + (if (l.getD k Way.zero).z < -(l.getD k Way.zero).z then -(l.getD k Way.zero).z else (l.getD k Way.zero).z)
theorem l1to_cons (m : Way) (l : List Way) : ∀ k, l1to (m :: l) (k + 1) = l1 m + l1to l k
  | 0 => by
    show l1to (m :: l) 0 + _ + _ + _ = l1 m + 0
    unfold l1
    show (0 : Int) + (if m.x < -m.x then -m.x else m.x) + (if m.y < -m.y then -m.y else m.y) + (if m.z < -m.z then -m.z else m.z) = _
    omega
  | k + 1 => by
    have h := l1to_cons m l k
    have e : (m :: l).getD (k + 1) Way.zero = l.getD k Way.zero := rfl
    show l1to (m :: l) (k + 1) + _ + _ + _ = l1 m + (l1to l k + _ + _ + _)
    rw [h, e]
    omega
theorem l1to_all : ∀ l : List Way, l1to l l.length = l1sum l
  | [] => rfl
  | m :: l => by
    show l1to (m :: l) (l.length + 1) = l1 m + l1sum l
    rw [l1to_cons, l1to_all l]
theorem getD_small {l : List Way} (h : ∀ w ∈ l, w.small) (k : Nat) : (l.getD k Way.zero).small := by
  rcases Nat.lt_or_ge k l.length with h' | h'
  · rw [show l.getD k Way.zero = l[k] by simp [h']]; exact h _ (List.getElem_mem h')
  · rw [show l.getD k Way.zero = Way.zero by simp [h']]; constructor <;> decide
theorem l1to_le {l : List Way} (h : ∀ w ∈ l, w.small) : ∀ k : Nat, 0 ≤ l1to l k ∧ l1to l k ≤ 100000 * (k : Int)
  | 0 => ⟨Int.le_refl _, Int.le_refl _⟩
  | k + 1 => by
    have h1 := l1to_le h k
    have hs := getD_small h k
    have hx := hs.x; have hy := hs.y; have hz := hs.z
    show 0 ≤ l1to l k + _ + _ + _ ∧ l1to l k + _ + _ + _ ≤ _
    split <;> split <;> split <;> omega

/-- Ways are few, and short. -/
def shortW (l : List Way) : Bool := decide (l.length ≤ 6) && decide (l1sum l ≤ 4000)

set_option maxHeartbeats 2000000 in
theorem short_any (v : Value) (l : List Way) (w : World) (h : SlW w v l) (hs : ∀ w ∈ l, w.small) (hn : l.length ≤ 9223372036854775807) :
    Calls Tryz.prog 22 #[v, .int .i64 6, .int .i64 4000] w fun e w' => e = .returned (.bool (shortW l)) ∧ Ext w w' := by
  obtain ⟨ad, n, cap, b, off, rfl, hnl, h3, h4⟩ := h
  have HC := Lib.hid h4; clear h4
  have HAD := Lib.hid h3; clear h3
  have HN := Lib.hid hnl
  rw [← hnl] at hn
  clear hnl
  by_cases hbig : n > 6
  · have hF : shortW l = false := by simp [shortW, ← HN.out]; omega
    have HF := Lib.hid hF; clear hF
    go_enter Tryz.func22, Tryz.ntmps22
    go_wp2
    go_ret
    exact ⟨ret_bool HF.out.symm, Ext.refl _⟩
  have HB := Lib.hid (fun k : Nat => l1to_le hs k)
  have HSM := Lib.hid (fun k : Nat => getD_small hs k)
  have hF : shortW l = decide (l1to l n ≤ 4000) := by simp only [shortW, ← l1to_all, ← HN.out]; rw [decide_eq_true (by omega : n ≤ 6)]; rfl
  have HF := Lib.hid hF; clear hF hs
  go_enter Tryz.func22, Tryz.ntmps22
  go_wp2
  go_loopw [8, 7] (fun t u wr => ∃ (k : Nat) (x : Later w), k ≤ n ∧ t = .int .i64 k ∧ u = .int .i64 (l1to l k) ∧ wr = x.w) (fun t _ _ => n - (intOf t).toNat)
  case atStart => exact ⟨0, Later.self w, by omega, rfl, rfl, rfl⟩
  case round =>
    obtain ⟨k, x, hk, rfl, rfl, rfl⟩ := hrel
    by_cases hlt : k < n
    · obtain ⟨hb1, hb2⟩ := HC.out k hlt
      obtain rfl : ad = some ⟨b, off, none⟩ := (HAD.out).resolve_left (by omega)
      have hE := x.ext
      have hb3 := hb2.later hb1 hE
      have c0 := Later.cell hb3.c0; have c1 := Later.cell hb3.c1; have c2 := Later.cell hb3.c2
      clear hb2 hb3
      generalize x.w = wx at *
      clear x
      have hA := HB.out k
      have hx := (HSM.out k).x; have hy := (HSM.out k).y; have hz := (HSM.out k).z
      have hT : l1to l (k + 1) = l1to l k + (if (l.getD k Way.zero).x < -(l.getD k Way.zero).x then -(l.getD k Way.zero).x else (l.getD k Way.zero).x) + (if (l.getD k Way.zero).y < -(l.getD k Way.zero).y then -(l.getD k Way.zero).y else (l.getD k Way.zero).y) + (if (l.getD k Way.zero).z < -(l.getD k Way.zero).z then -(l.getD k Way.zero).z else (l.getD k Way.zero).z) := rfl
      have HT := Lib.hid hT; clear hT
      generalize (l.getD k Way.zero).x = px at *
      generalize (l.getD k Way.zero).y = py at *
      generalize (l.getD k Way.zero).z = pz at *
      generalize l1to l k = sk at *
      obtain ⟨ax, hax, ax0, ax1⟩ : ∃ ax : Int, (if px < -px then -px else px) = ax ∧ 0 ≤ ax ∧ ax ≤ 32768 := ⟨_, rfl, by split <;> omega, by split <;> omega⟩
      obtain ⟨ay, hay, ay0, ay1⟩ : ∃ ay : Int, (if py < -py then -py else py) = ay ∧ 0 ≤ ay ∧ ay ≤ 32768 := ⟨_, rfl, by split <;> omega, by split <;> omega⟩
      obtain ⟨az, haz, az0, az1⟩ : ∃ az : Int, (if pz < -pz then -pz else pz) = az ∧ 0 ≤ az ∧ az ≤ 32768 := ⟨_, rfl, by split <;> omega, by split <;> omega⟩
      rw [hax, hay, haz] at HT
      have hk6 : (k : Int) ≤ 6 := by omega
      go_wp2_with fail
      refine wp_region_later (by kernel_rfl) (by kernel_rfl) ?_
      repeat (go_big_quiet_step (fail))
      refine wpQuiet_nil ?_
      rintro _ ⟨x2, rfl⟩
      go_wp2
      go_roundw
      case rel => exact ⟨k + 1, ⟨x2.w, hE.trans x2.ext⟩, by omega, by go_num, by rw [HT.out], rfl⟩
      case measure => simp [intOf]; omega
    · obtain rfl : k = n := by omega
      have hE := x.ext
      by_cases hfin : l1to l k ≤ 4000
      · have HF' := Lib.hid (HF.out.trans (decide_eq_true hfin))
        clear HF
        go_wp2
        go_ret
        exact ⟨ret_bool HF'.out.symm, hE⟩
      · have HF' := Lib.hid (HF.out.trans (decide_eq_false hfin))
        clear HF
        go_wp2
        go_ret
        exact ⟨ret_bool HF'.out.symm, hE⟩

end Go.Proofs.YtjibcnnbclcboaaGreatDoor

namespace Go.Proofs.YtjibcnnbclcboaaGreatDoor
open Go.RowKit
set_option maxRecDepth 8000

/-- The place behind the first ways. -/
def placeTo (l : List Way) (p : Int × Int × Int) : Nat → Int × Int × Int
  | 0 => p
  | k + 1 => ((placeTo l p k).1 + (l.getD k Way.zero).x, (placeTo l p k).2.1 + (l.getD k Way.zero).y, (placeTo l p k).2.2 + (l.getD k Way.zero).z)
/-- The motions of the first ways. -/
def routeTo (l : List Way) (p : Int × Int × Int) : Nat → List Mot
  | 0 => []
  | k + 1 => routeTo l p k ++ [(l.getD k Way.zero).mot (placeTo l p k) k]
theorem routeTo_length (l : List Way) (p : Int × Int × Int) : ∀ k, (routeTo l p k).length = k
  | 0 => rfl
  | k + 1 => by simp [routeTo, routeTo_length l p k]
theorem placeTo_cons (m : Way) (l : List Way) (p : Int × Int × Int) : ∀ k, placeTo (m :: l) p (k + 1) = placeTo l (p.1 + m.x, p.2.1 + m.y, p.2.2 + m.z) k
  | 0 => rfl
  | k + 1 => by
    have h := placeTo_cons m l p k
    have e : (m :: l).getD (k + 1) Way.zero = l.getD k Way.zero := rfl
    show ((placeTo (m :: l) p (k + 1)).1 + _, (placeTo (m :: l) p (k + 1)).2.1 + _, (placeTo (m :: l) p (k + 1)).2.2 + _) = _
    rw [h, e]
    rfl
theorem routeGo_snoc : ∀ (l : List Way) (p : Int × Int × Int) (i k : Nat), k ≤ l.length → (routeGo l p i).take k = (routeGo (l.take k) p i)
  | [], p, i, k, h => by simp [routeGo]
  | m :: l, p, i, 0, h => by simp [routeGo]
  | m :: l, p, i, k + 1, h => by
    simp only [routeGo, List.take_succ_cons]
    rw [routeGo_snoc l _ (i + 1) k (by simpa using h)]
theorem routeTo_go : ∀ (l : List Way) (p : Int × Int × Int) (i k : Nat), k < l.length → (routeGo l p i).getD k Mot.zero = (l.getD k Way.zero).mot (placeTo l p k) (i + k)
  | [], p, i, k, h => by simp at h
  | m :: l, p, i, 0, h => by simp [routeGo, placeTo]
  | m :: l, p, i, k + 1, h => by
    rw [placeTo_cons]
    have := routeTo_go l (p.1 + m.x, p.2.1 + m.y, p.2.2 + m.z) (i + 1) k (by simpa using h)
    show (routeGo l _ (i + 1)).getD k Mot.zero = (l.getD k Way.zero).mot _ _
    rw [this, show i + 1 + k = i + (k + 1) by omega]
theorem routeTo_take (l : List Way) (p : Int × Int × Int) : ∀ k, k ≤ l.length → routeTo l p k = (route p l).take k
  | 0, _ => by simp [routeTo]
  | k + 1, h => by
    have hl : k < (routeGo l p 0).length := by rw [routeGo_length]; omega
    have e := routeTo_go l p 0 k (by omega)
    rw [show (routeGo l p 0).getD k Mot.zero = (routeGo l p 0)[k] by simp [hl]] at e
    unfold route
    rw [List.take_add_one, List.getElem?_eq_getElem hl, e]
    have := routeTo_take l p k (by omega)
    unfold route at this
    rw [← this]
    simp [routeTo]
theorem routeTo_all (l : List Way) (p : Int × Int × Int) : routeTo l p l.length = route p l := by
  rw [routeTo_take l p _ (Nat.le_refl _)]
  have : (route p l).length = l.length := routeGo_length l p 0
  rw [← this, List.take_length]
theorem placeTo_near {l : List Way} (h : ∀ w ∈ l, w.small) {p : Int × Int × Int} (hp : nearP p 32768) : ∀ k : Nat, nearP (placeTo l p k) (32768 * ((k : Int) + 1))
  | 0 => by show nearP p _; simpa using hp
  | k + 1 => by
    have h1 := placeTo_near h hp k
    have hs := getD_small h k
    have hx := hs.x; have hy := hs.y; have hz := hs.z
    unfold nearP at *
    show _ ≤ (placeTo l p k).1 + _ ∧ (placeTo l p k).1 + _ ≤ _ ∧ _ ≤ (placeTo l p k).2.1 + _ ∧ (placeTo l p k).2.1 + _ ≤ _ ∧ _ ≤ (placeTo l p k).2.2 + _ ∧ (placeTo l p k).2.2 + _ ≤ _
    omega
theorem CellsW.only {D : Nat → Prop} {w w' : World} {b o : Nat} {m : Way} (h : CellsW w b o m) (hb : b < w.heap.size) (k : Only D w w') (hd : ¬ D b) : CellsW w' b o m :=
  ⟨by rw [k.cell (p := ⟨b, _, none⟩) hb hd]; exact h.c0, by rw [k.cell (p := ⟨b, _, none⟩) hb hd]; exact h.c1, by rw [k.cell (p := ⟨b, _, none⟩) hb hd]; exact h.c2, by rw [k.cell (p := ⟨b, _, none⟩) hb hd]; exact h.c3⟩

set_option maxHeartbeats 4000000 in
theorem route_any (v : Value) (l : List Way) (fx fy fz : Int) (w : World) (h : SlW w v l) (hs : ∀ w ∈ l, w.small) (hn : l.length ≤ 6) (hp : nearP (fx, fy, fz) 32768) :
    Calls Tryz.prog 32 #[Ps fx fy fz, v] w (RetMots w (route (fx, fy, fz) l)) := by
  obtain ⟨ad, n, cap, b, off, rfl, hnl, h3, h4⟩ := h
  have HC := Lib.hid h4; clear h4
  have HAD := Lib.hid h3; clear h3
  have HN := Lib.hid hnl
  rw [← hnl] at hn
  clear hnl
  have HB := Lib.hid (fun k : Nat => placeTo_near hs hp k)
  have HSM := Lib.hid (fun k : Nat => getD_small hs k)
  clear hs hp
  go_enter Tryz.func32, Tryz.ntmps32
  go_wp2_with fail
  obtain ⟨W0, hW0, B0, hE0⟩ := P3Box.mk' w fx fy fz
  rw [hW0]; clear hW0
  go_loopw [6, 5] (fun t u wr => ∃ (k : Nat), k ≤ n ∧ t = .int .i64 k ∧ Hid (OwnM (w.heap.size + 1) wr u (routeTo l (fx, fy, fz) k)) ∧ Hid (P3Box wr w.heap.size (placeTo l (fx, fy, fz) k).1 (placeTo l (fx, fy, fz) k).2.1 (placeTo l (fx, fy, fz) k).2.2) ∧ Hid (Ext w wr)) (fun t _ _ => n - (intOf t).toNat)
  case atStart => exact ⟨0, by omega, rfl, Lib.hid (OwnM.nil _ _), Lib.hid B0, Lib.hid hE0⟩
  case round =>
    obtain ⟨k, hk, rfl, HO, HP, HE⟩ := hrel
    by_cases hlt : k < n
    · obtain ⟨hb1, hb2⟩ := HC.out k hlt
      obtain rfl : ad = some ⟨b, off, none⟩ := (HAD.out).resolve_left (by omega)
      have hb3 := hb2.later hb1 HE.out
      have hbw := Nat.lt_of_lt_of_le hb1 HE.out.size
      have HCW := Lib.hid hb3
      clear hb2
      have hA := HB.out k
      have hx := (HSM.out k).x; have hy := (HSM.out k).y; have hz := (HSM.out k).z; have hr := (HSM.out k).r
      have hT : routeTo l (fx, fy, fz) (k + 1) = routeTo l (fx, fy, fz) k ++ [⟨(placeTo l (fx, fy, fz) k).1, (placeTo l (fx, fy, fz) k).2.1, (placeTo l (fx, fy, fz) k).2.2, (placeTo l (fx, fy, fz) k).1 + (l.getD k Way.zero).x, (placeTo l (fx, fy, fz) k).2.1 + (l.getD k Way.zero).y, (placeTo l (fx, fy, fz) k).2.2 + (l.getD k Way.zero).z, 1000 * (l.getD k Way.zero).r, 1 + ((k / 3 : Nat) : Int), (k : Nat)⟩] := rfl
      rw [show (1 + ((k / 3 : Nat) : Int)) = 1 + (k : Int) / 3 by omega] at hT
      have hL : (routeTo l (fx, fy, fz) k).length = k := routeTo_length _ _ _
      have hQ : placeTo l (fx, fy, fz) (k + 1) = ((placeTo l (fx, fy, fz) k).1 + (l.getD k Way.zero).x, (placeTo l (fx, fy, fz) k).2.1 + (l.getD k Way.zero).y, (placeTo l (fx, fy, fz) k).2.2 + (l.getD k Way.zero).z) := rfl
      have HT := Lib.hid hT; have HL := Lib.hid hL; have HQ := Lib.hid hQ
      clear hT hL hQ
      unfold nearP at hA
      generalize l.getD k Way.zero = m at *
      generalize routeTo l (fx, fy, fz) k = rk at *
      generalize placeTo l (fx, fy, fz) k = pk at *
      obtain ⟨px, py, pz⟩ := pk
      obtain ⟨dx, dy, dz, dr⟩ := m
      simp only at hA hx hy hz hr HT HQ HP HCW
      have hk6 : (k : Int) ≤ 6 := by omega
      have hC := HCW.out
      have c0 := Later.cell hC.c0; have c1 := Later.cell hC.c1; have c2 := Later.cell hC.c2
      have hPb := HP.out
      have p0 := hPb.c0; have p1 := hPb.c1; have p2 := hPb.c2
      clear hC hPb hb3
      go_wp2_with fail
      refine wp_region_tree (fun w' => ∃ y : Later wr, w' = y.w) 29 (.one [0, 1, 2, 3, 4, 5, 6, 7, 8, 9, 10, 11, 12, 13, 14, 15, 16, 17, 18, 19, 20, 21, 22, 23, 24, 25, 26, 27] 28 (.leaf [])) (by kernel_rfl) (by kernel_rfl) (by kernel_rfl) ⟨⟨_, (Ext.refl wr).drew⟩, rfl⟩ ?_
      simp only [List.take_succ_cons, List.take_zero]
      refine tree_one fun K hK => ?_
      simp only [List.map_cons, List.map_nil, pickOp, List.getElem?_cons_zero, List.getElem?_cons_succ, Option.getD_some]
      repeat (go_big_quiet_step (fail))
      refine wpQuiet_nil ?_
      clear c0 c1 c2 p0 p1 p2
      go_wp2_with fail
      obtain ⟨W1, hW1, B1, hE1⟩ := P3Box.mk' wr 0 0 0
      rw [hW1]; clear hW1
      have hE1' := hE1.drew
      have B1 := B1.later (Ext.refl W1).drew
      generalize W1.drew = W1 at *
      refine onlyK_normal (hK _ _ ⟨⟨_, hE1'⟩, rfl⟩ ?_); clear hK K
      refine tree_leaf0 ?_
      simp only [List.drop_succ_cons, List.drop_zero]
      obtain ⟨z0, z1, z2, y0, y1, y2⟩ := B1.at
      go_wp2_with fail
      have B2 := B1.put (px + dx) (py + dy) (pz + dz)
      have hE2 : Ext wr (((W1.setCell ⟨wr.heap.size, 0, none⟩ (.int .i64 (px + dx))).setCell ⟨wr.heap.size, 1, none⟩ (.int .i64 (py + dy))).setCell ⟨wr.heap.size, 2, none⟩ (.int .i64 (pz + dz))) := ((hE1'.setCell (Nat.le_refl _) _).setCell (Nat.le_refl _) _).setCell (Nat.le_refl _) _
      generalize ((W1.setCell ⟨wr.heap.size, 0, none⟩ (.int .i64 (px + dx))).setCell ⟨wr.heap.size, 1, none⟩ (.int .i64 (py + dy))).setCell ⟨wr.heap.size, 2, none⟩ (.int .i64 (pz + dz)) = W2 at *
      clear z0 z1 z2 y0 y1 y2 B1 hE1 hE1'
      clear W1
      have hOw := HO.out.later hE2
      have hE3 := HE.out.trans hE2
      have hP2 := HP.out.later hE2
      have hC2 := HCW.out.later hbw hE2
      have hbw2 := Nat.lt_of_lt_of_le hbw hE2.size
      have nb : ¬ (u5.ownBlock = some b) := fun e => by have := HO.out.base e; omega
      have n0 : ¬ (u5.ownBlock = some w.heap.size) := fun e => by have := HO.out.base e; omega
      have n1 : ¬ (u5.ownBlock = some wr.heap.size) := fun e => by have := HO.out.lt e; omega
      have d3 := Chg.cell (D := fun k => u5.ownBlock = some k) hC2.c3 nb
      have q0 := Chg.cell (D := fun k => u5.ownBlock = some k) hP2.at.1 n0; have q1 := Chg.cell (D := fun k => u5.ownBlock = some k) hP2.at.2.1 n0; have q2 := Chg.cell (D := fun k => u5.ownBlock = some k) hP2.at.2.2.1 n0
      have r0 := Chg.cell (D := fun k => u5.ownBlock = some k) B2.at.1 n1; have r1 := Chg.cell (D := fun k => u5.ownBlock = some k) B2.at.2.1 n1; have r2 := Chg.cell (D := fun k => u5.ownBlock = some k) B2.at.2.2.1 n1
      have HB2 := Lib.hid B2; have HP2 := Lib.hid hP2; have HE3 := Lib.hid hE3; have HOw := Lib.hid hOw
      clear B2 hP2 hE3 hOw hC2 hE2
      refine wp_region_tree (fun w' => ∃ y : Chg (fun k => u5.ownBlock = some k) W2, w' = y.w) 17 (.one [0, 1, 2, 3, 4, 5, 6, 7, 8, 9, 10, 11, 12, 13, 14] 15 (.one [] 16 (.leaf []))) (by kernel_rfl) (by kernel_rfl) (by kernel_rfl) ⟨⟨_, (Only.refl _ W2).drew⟩, rfl⟩ ?_
      simp only [List.take_succ_cons, List.take_zero]
      refine tree_one fun K hK => ?_
      simp only [List.map_cons, List.map_nil, pickOp, List.getElem?_cons_zero, List.getElem?_cons_succ, Option.getD_some]
      repeat (go_big_quiet_step (fail))
      refine wpQuiet_nil ?_
      clear d3 q0 q1 q2 r0 r1 r2
      go_wp2_with fail
      obtain ⟨W4, hW4, B4, hE4⟩ := M9Box.mk' W2 ⟨px, py, pz, px + dx, py + dy, pz + dz, 1000 * dr, 1 + (k : Int) / 3, (k : Nat)⟩
      simp only at hW4
      rw [hW4]; clear hW4
      have hE4' := hE4.drew
      have B4 := B4.later (Ext.refl W4).drew
      generalize W4.drew = W4 at *
      refine onlyK_normal (hK _ _ ⟨⟨_, Only.of_ext hE4'⟩, rfl⟩ ?_); clear hK K
      refine tree_one0 fun K hK => ?_
      simp only [pickOp, List.getElem?_cons_zero, List.getElem?_cons_succ, Option.getD_some]
      have HQ4 := Lib.hid (HOw.out.later hE4')
      have HS4 := Lib.hid B4.sl1
      have HL4 : Hid (rk.length + [(⟨px, py, pz, px + dx, py + dy, pz + dz, 1000 * dr, 1 + (k : Int) / 3, (k : Nat)⟩ : Mot)].length ≤ 1000000000) := Lib.hid (by rw [HL.out]; simp; omega)
      have HB4 : Hid (w.heap.size + 1 ≤ W4.heap.size) := Lib.hid (by have := HP2.out.lt; have := hE4'.size; omega)
      clear B4
      go_wp2_with ((at_builtin; refine appM_at rfl _ _ rfl (w.heap.size + 1) _ _ rk [⟨px, py, pz, px + dx, py + dy, pz + dz, 1000 * dr, 1 + (k : Int) / 3, (k : Nat)⟩] rfl rfl HQ4.out HS4.out HL4.out HB4.out ?_; intro v5 w5 own5 hg5 hloc5))
      have hO5 : Only (fun k => u5.ownBlock = some k) W2 w5 := (Only.of_ext hE4').trans (Only.of_grown hg5)
      refine onlyK_normal (hK _ _ ⟨⟨_, hO5⟩, rfl⟩ ?_); clear hK K
      refine tree_leaf0 ?_
      simp only [List.drop_succ_cons, List.drop_zero]
      have P5 := HP2.out.only hO5 n0
      have T5 := HB2.out.only hO5 n1
      have E5 : Ext w w5 := ext_grown (HE3.out.trans hE4') hg5 (fun j hj => by have := HO.out.base hj; omega)
      obtain ⟨z0, z1, z2, y0, y1, y2⟩ := P5.at
      obtain ⟨t0, t1, t2, -⟩ := T5.at
      have OW5 := Lib.hid own5; clear own5
      clear hg5 hloc5
      have nB : ∀ a : Addr, a.block = w.heap.size → v5.ownBlock ≠ some a.block := fun a e e' => by have := OW5.out.base e'; omega
      go_wp2_with fail
      go_roundw
      case rel =>
        refine ⟨k + 1, by omega, by go_num, Lib.hid ?_, Lib.hid ?_, Lib.hid ?_⟩
        · rw [HT.out]
          exact ((OW5.out.set (nB ⟨w.heap.size, 0, none⟩ rfl) _).set (nB ⟨w.heap.size, 1, none⟩ rfl) _).set (nB ⟨w.heap.size, 2, none⟩ rfl) _
        · rw [HQ.out]
          exact P5.put _ _ _
        · exact ((E5.setCell (Nat.le_refl _) _).setCell (Nat.le_refl _) _).setCell (Nat.le_refl _) _
      case measure => simp [intOf]; omega
    · obtain rfl : k = n := by omega
      have hO := HO.out
      rw [HN.out, routeTo_all] at hO
      have HO' := Lib.hid hO
      clear hO HO
      go_wp2
      go_ret
      exact ⟨_, rfl, World.ownsRow.mono HO'.out (Nat.le_succ _), HE.out⟩

end Go.Proofs.YtjibcnnbclcboaaGreatDoor

namespace Go.Proofs.YtjibcnnbclcboaaGreatDoor
open Go.RowKit
set_option maxRecDepth 8000

/-- A trip as a value. -/
def TripV (x y z : Int) (v : Value) (s a j safe : Int) : Value := .agg #[.int .i16 x, .int .i16 y, .int .i16 z, v, .int .i64 s, .int .i64 a, .int .i64 j, .int .i64 safe]
def slowAt (l : List Way) (k : Nat) : Bool := decide ((l.getD k Way.zero).r > 0) && decide ((l.getD k Way.zero).r < 20)
/-- None of the first ways is slow. -/
def quickTo (l : List Way) : Nat → Bool
  | 0 => true
  | k + 1 => quickTo l k && !(slowAt l k)
theorem quickTo_false {l : List Way} {k : Nat} (h : slowAt l k = true) : ∀ n, k < n → quickTo l n = false
  | 0, hn => by omega
  | n + 1, hn => by
    rcases Nat.lt_or_ge k n with h' | h'
    · simp [quickTo, quickTo_false h n h']
    · obtain rfl : k = n := by omega
      simp [quickTo, h]
theorem quickTo_succ {l : List Way} {k : Nat} (h : quickTo l k = true) (hg : slowAt l k = false) : quickTo l (k + 1) = true := by simp [quickTo, h, hg]
def bigL (s a j : Int) : Bool := decide (s ≥ 20) && (decide (a ≥ 20) && decide (j ≥ 40))
/-- A trip is short, and fast. -/
def fastB (l : List Way) (s a j safe : Int) : Bool := quickTo l l.length && (shortW l && (decide (safe ≤ 10000) && (bigL s a j || !(vld s a j))))

structure T8 (W : World) (N : Nat) (v : Value) (s a j safe : Int) : Prop where
  c3 : W.cell? ⟨N, 3, none⟩ = some v
  c4 : W.cell? ⟨N, 4, none⟩ = some (.int .i64 s)
  c5 : W.cell? ⟨N, 5, none⟩ = some (.int .i64 a)
  c6 : W.cell? ⟨N, 6, none⟩ = some (.int .i64 j)
  c7 : W.cell? ⟨N, 7, none⟩ = some (.int .i64 safe)
  lt : N < W.heap.size
theorem T8.mk' (w : World) (x y z : Int) (v : Value) (s a j safe : Int) (t : TypeId) : ∃ W : World, w.alloc (.cells #[.int .i16 x, .int .i16 y, .int .i16 z, v, .int .i64 s, .int .i64 a, .int .i64 j, .int .i64 safe] t) = W ∧ T8 W w.heap.size v s a j safe ∧ Ext w W := by
  refine ⟨_, rfl, ?_, (Ext.refl w).alloc _⟩
  constructor <;> simp [go_sem]
theorem T8.later {W W' : World} {N : Nat} {v : Value} {s a j safe : Int} (h : T8 W N v s a j safe) (k : Ext W W') : T8 W' N v s a j safe :=
  ⟨by rw [k.cell (p := ⟨N, _, none⟩) h.lt]; exact h.c3, by rw [k.cell (p := ⟨N, _, none⟩) h.lt]; exact h.c4, by rw [k.cell (p := ⟨N, _, none⟩) h.lt]; exact h.c5, by rw [k.cell (p := ⟨N, _, none⟩) h.lt]; exact h.c6, by rw [k.cell (p := ⟨N, _, none⟩) h.lt]; exact h.c7, Nat.lt_of_lt_of_le h.lt k.size⟩

set_option maxHeartbeats 1000000 in
theorem motions_any (x y z : Int) (v : Value) (s a j safe : Int) (l : List Way) (w : World) (h : SlW w v l) (hs : ∀ w ∈ l, w.small) (hn : l.length ≤ 6) (hp : nearP (x, y, z) 32768) :
    Calls Tryz.prog 10 #[TripV x y z v s a j safe] w (RetMots w (route (x, y, z) l)) := by
  have hx : -32768 ≤ x ∧ x ≤ 32768 := ⟨hp.1, hp.2.1⟩
  have hy : -32768 ≤ y ∧ y ≤ 32768 := ⟨hp.2.2.1, hp.2.2.2.1⟩
  have hz : -32768 ≤ z ∧ z ≤ 32768 := ⟨hp.2.2.2.2.1, hp.2.2.2.2.2⟩
  have kr := route_any v l x y z (w.alloc (.cells #[.int .i16 x, .int .i16 y, .int .i16 z, v, .int .i64 s, .int .i64 a, .int .i64 j, .int .i64 safe] 28)) (h.later ((Ext.refl w).alloc _)) hs hn hp
  have KR := Lib.hid kr
  obtain ⟨ad, n, cap, b, off, rfl, hnl, h3, h4⟩ := h
  clear kr hs h3 h4 hp hnl
  unfold TripV
  go_enter Tryz.func10, Tryz.ntmps10
  go_wp2_with ((go_at_call 32; with_reducible refine (KR.out).mono ?_); rintro e w' ⟨v', rfl, ho, hx'⟩)
  go_wp2
  go_ret
  exact ⟨_, rfl, World.ownsRow.mono ho (by simp), ((Ext.refl w).alloc _).trans hx'⟩

set_option maxHeartbeats 1000000 in
theorem limits_any (n : Int) (w : World) :
    Calls Tryz.prog 19 #[.int .i64 n] w fun e w' => e = .returned (Lm n n n) ∧ Ext w w' := by
  go_enter Tryz.func19, Tryz.ntmps19
  go_wp2
  refine bodyPost_ret (v := Lm n n n) (by simp [results, Tryz.results19, go_sem]) rfl ⟨rfl, ?_⟩
  exact (Ext.refl w).alloc _

set_option maxHeartbeats 4000000 in
theorem tfast_any (x y z : Int) (v : Value) (s a j safe : Int) (l : List Way) (w : World) (h : SlW w v l) (hs : ∀ w ∈ l, w.small) (hn : l.length ≤ 9223372036854775807) :
    Calls Tryz.prog 7 #[TripV x y z v s a j safe] w fun e w' => e = .returned (.bool (fastB l s a j safe)) ∧ Ext w w' := by
  have HS := Lib.hid h
  have ks := fun (w' : World) (he : Ext w w') => short_any v l w' (h.later he) hs hn
  have kv := fun w => rvalid_any s a j w
  have KS := Lib.hid ks; have KV := Lib.hid kv
  obtain ⟨ad, n, cap, b, off, rfl, hnl, h3, h4⟩ := h
  have HC := Lib.hid h4; clear h4
  have HAD := Lib.hid h3; clear h3
  have HN := Lib.hid hnl
  have HSM := Lib.hid (fun k : Nat => getD_small hs k)
  rw [← hnl] at hn
  clear hnl ks kv hs
  have hc : (vcode s a j == 0) = vld s a j := by unfold vcode; cases vld s a j <;> rfl
  have hF : fastB l s a j safe = (quickTo l n && (shortW l && (decide (safe ≤ 10000) && (bigL s a j || !(vld s a j))))) := by unfold fastB; rw [HN.out]
  have HF := Lib.hid hF; clear hF
  unfold TripV
  go_enter Tryz.func7, Tryz.ntmps7
  go_wp2_with fail
  obtain ⟨W0, hW0, T0, hE0⟩ := T8.mk' w x y z (.slice ad n cap) s a j safe 28
  have hz0 : W0.heap.size = w.heap.size + 1 := by rw [← hW0]; simp
  rw [hW0]; clear hW0
  obtain ⟨W1, hW1, L1, hE1⟩ := B3.mk' W0 (.int .i64 s) (.int .i64 a) (.int .i64 j) 26
  rw [hW1]; clear hW1
  rw [hz0] at L1
  have T1 := T0.later hE1
  have HE1 := Lib.hid (hE0.trans hE1)
  have HT1 := Lib.hid T1; have HL1 := Lib.hid L1
  clear hE0 hE1 T0 T1 L1 hz0
  clear W0
  go_loopw [11] (fun t wr => ∃ (k : Nat), k ≤ n ∧ t = .int .i64 k ∧ Hid (Ext W1 wr) ∧ Hid (quickTo l k = true)) (fun t _ => n - (intOf t).toNat)
  case atStart => exact ⟨0, by omega, rfl, Lib.hid (Ext.refl _), Lib.hid rfl⟩
  case round =>
    obtain ⟨k, hk, rfl, HE2, HA⟩ := hrel
    by_cases hlt : k < n
    · obtain ⟨hb1, hb2⟩ := HC.out k hlt
      obtain rfl : ad = some ⟨b, off, none⟩ := (HAD.out).resolve_left (by omega)
      have hE := HE1.out.trans HE2.out
      have hb3 := hb2.later hb1 hE
      have c0 := hb3.c0; have c1 := hb3.c1; have c2 := hb3.c2; have c3 := hb3.c3
      have hr := (HSM.out k).r
      have hX : slowAt l k = true → fastB l s a j safe = false := fun h => by rw [HF.out, quickTo_false h n hlt]; rfl
      have hS : slowAt l k = false → quickTo l (k + 1) = true := fun h => quickTo_succ HA.out h
      have HX := Lib.hid hX; have HSU := Lib.hid hS
      have hG : slowAt l k = (decide ((l.getD k Way.zero).r > 0) && decide ((l.getD k Way.zero).r < 20)) := rfl
      have HG := Lib.hid hG
      clear hG hX hS hb3 hb2 HA
      generalize l.getD k Way.zero = m at *
      obtain ⟨dx, dy, dz, dr⟩ := m
      simp only at c0 c1 c2 c3 hr HG
      cases h0 : decide (dr > 0)
      · have HQ := Lib.hid (HSU.out (by rw [HG.out, h0]; rfl))
        clear HX HSU HG
        go_wp2
        go_roundw
        case rel => exact ⟨k + 1, by omega, by go_num, Lib.hid (HE2.out.alloc _), HQ⟩
        case measure => simp [intOf]; omega
      · cases h1 : decide (dr < 20)
        · have HQ := Lib.hid (HSU.out (by rw [HG.out, h0, h1]; rfl))
          clear HX HSU HG
          go_wp2
          go_roundw
          case rel => exact ⟨k + 1, by omega, by go_num, Lib.hid (HE2.out.alloc _), HQ⟩
          case measure => simp [intOf]; omega
        · have HQ := Lib.hid (HX.out (by rw [HG.out, h0, h1]; rfl))
          clear HX HSU HG
          go_wp2
          go_ret
          exact ⟨ret_bool HQ.out.symm, hE.alloc _⟩
    · obtain rfl : k = n := by omega
      have hF := HF.out
      rw [HA.out, Bool.true_and] at hF
      have HF2 := Lib.hid hF
      clear hF HF HA hlt
      have kS := KS.out _ (HE1.out.trans HE2.out)
      have hT := HT1.out.later HE2.out
      have t3 := hT.c3
      have HKS := Lib.hid kS
      have HTT := Lib.hid hT
      have HLL := Lib.hid (HL1.out.later HE2.out)
      have HE3 := Lib.hid (HE1.out.trans HE2.out)
      clear kS hT KS HT1 HL1 HE1 HE2
      cases h1 : shortW l
      · have HFF : Hid (_ = _) := Lib.hid (HF2.out.trans (by rw [h1]))
        rw [h1] at HKS
        clear HF2
        go_wp2_with ((go_at_call 22; with_reducible refine (HKS.out).mono ?_); rintro e w2 ⟨rfl, hx2⟩; have T2 := HTT.out.later hx2; have t7 := T2.c7; have L2 := HLL.out.later hx2; have l0 := L2.c0; have l1 := L2.c1; have l2 := L2.c2)
        go_wp2
        go_ret
        exact ⟨ret_bool HFF.out.symm, HE3.out.trans hx2⟩
      cases h2 : decide (safe ≤ 10000)
      · have HFF : Hid (_ = _) := Lib.hid (HF2.out.trans (by rw [h1, h2]))
        rw [h1] at HKS
        clear HF2
        go_wp2_with ((go_at_call 22; with_reducible refine (HKS.out).mono ?_); rintro e w2 ⟨rfl, hx2⟩; have T2 := HTT.out.later hx2; have t7 := T2.c7; have L2 := HLL.out.later hx2; have l0 := L2.c0; have l1 := L2.c1; have l2 := L2.c2)
        go_wp2
        go_ret
        exact ⟨ret_bool HFF.out.symm, HE3.out.trans hx2⟩
      unfold bigL at HF2
      cases h3 : decide (s ≥ 20)
      · have HFF : Hid (_ = _) := Lib.hid (HF2.out.trans (by rw [h1, h2, h3]))
        rw [h1] at HKS
        clear HF2
        rw [← hc] at HFF
        generalize vcode s a j = cv at *
        go_wp2_with (first | ((go_at_call 22; with_reducible refine (HKS.out).mono ?_); rintro e w2 ⟨rfl, hx2⟩; have T2 := HTT.out.later hx2; have t7 := T2.c7; have L2 := HLL.out.later hx2; have l0 := L2.c0; have l1 := L2.c1; have l2 := L2.c2) | ((go_at_call 23; with_reducible refine (KV.out _).mono ?_); rintro e w3 ⟨rfl, hx3⟩))
        go_wp2
        go_ret
        exact ⟨ret_bool HFF.out.symm, HE3.out.trans (hx2.trans hx3)⟩
      cases h4 : decide (a ≥ 20)
      · have HFF : Hid (_ = _) := Lib.hid (HF2.out.trans (by rw [h1, h2, h3, h4]))
        rw [h1] at HKS
        clear HF2
        rw [← hc] at HFF
        generalize vcode s a j = cv at *
        go_wp2_with (first | ((go_at_call 22; with_reducible refine (HKS.out).mono ?_); rintro e w2 ⟨rfl, hx2⟩; have T2 := HTT.out.later hx2; have t7 := T2.c7; have L2 := HLL.out.later hx2; have l0 := L2.c0; have l1 := L2.c1; have l2 := L2.c2) | ((go_at_call 23; with_reducible refine (KV.out _).mono ?_); rintro e w3 ⟨rfl, hx3⟩))
        go_wp2
        go_ret
        exact ⟨ret_bool HFF.out.symm, HE3.out.trans (hx2.trans hx3)⟩
      cases h5 : decide (j ≥ 40)
      · have HFF : Hid (_ = _) := Lib.hid (HF2.out.trans (by rw [h1, h2, h3, h4, h5]))
        rw [h1] at HKS
        clear HF2
        rw [← hc] at HFF
        generalize vcode s a j = cv at *
        go_wp2_with (first | ((go_at_call 22; with_reducible refine (HKS.out).mono ?_); rintro e w2 ⟨rfl, hx2⟩; have T2 := HTT.out.later hx2; have t7 := T2.c7; have L2 := HLL.out.later hx2; have l0 := L2.c0; have l1 := L2.c1; have l2 := L2.c2) | ((go_at_call 23; with_reducible refine (KV.out _).mono ?_); rintro e w3 ⟨rfl, hx3⟩))
        go_wp2
        go_ret
        exact ⟨ret_bool HFF.out.symm, HE3.out.trans (hx2.trans hx3)⟩
      have HFF : Hid (_ = _) := Lib.hid (HF2.out.trans (by rw [h1, h2, h3, h4, h5]))
      rw [h1] at HKS
      clear HF2
      go_wp2_with ((go_at_call 22; with_reducible refine (HKS.out).mono ?_); rintro e w2 ⟨rfl, hx2⟩; have T2 := HTT.out.later hx2; have t7 := T2.c7; have L2 := HLL.out.later hx2; have l0 := L2.c0; have l1 := L2.c1; have l2 := L2.c2)
      go_wp2
      go_ret
      exact ⟨ret_bool HFF.out.symm, HE3.out.trans hx2⟩

end Go.Proofs.YtjibcnnbclcboaaGreatDoor
