/-
  Walks: theirs, Same, Sum, far, between, Position of the reference of layer 49.
-/
import Derived.Test.YtcblahhfgkafhaaW10
namespace Go.Proofs.Ytcblahhfgkafhaa
open Go.RowKit

set_option maxHeartbeats 400000 in
theorem theirs_any (s a j : Int) (w : World) :
    Calls Try.prog 13 #[Lm s a j] w fun e w' => e = .returned (Lm s a j) ∧ Ext w w' := by
  go_enter Try.func13, Try.ntmps13
  go_wp2
  refine bodyPost_ret (v := Lm s a j) (by simp [results, Try.results13, go_sem]) rfl ⟨rfl, ?_⟩
  exact ((Ext.refl w).alloc _).alloc _

set_option maxHeartbeats 1000000 in
theorem same_core (ad ad' : Option Addr) (cap b off cap' b' off' : Nat) (l l' : List Int) (w : World) (hn : l.length ≤ 1000000000000) (_hn' : l'.length ≤ 1000000000000) (had : l.length = 0 ∨ ad = some ⟨b, off, none⟩) (had' : l'.length = 0 ∨ ad' = some ⟨b', off', none⟩)
    (hc : ∀ i, i < l.length → b < w.heap.size ∧ w.cell? ⟨b, off + i, none⟩ = some (.int .i64 (l.getD i 0)))
    (hc' : ∀ i, i < l'.length → b' < w.heap.size ∧ w.cell? ⟨b', off' + i, none⟩ = some (.int .i64 (l'.getD i 0))) :
    Calls Try.prog 24 #[.slice ad l.length cap, .slice ad' l'.length cap'] w fun e w' => e = .returned (.bool (decide (l = l'))) ∧ Ext w w' := by
  have HC := Lib.hid hc; clear hc
  have HC' := Lib.hid hc'; clear hc'
  have HAD := Lib.hid had; clear had
  have HAD' := Lib.hid had'; clear had'
  by_cases hne : l.length = l'.length
  · have HL := Lib.hid hne
    rw [← hne] at HAD' HC'
    rw [← hne]
    generalize hN : l.length = n at *
    have HN := Lib.hid hN; clear hN hne _hn'
    have hbb : ((n : Int) != (n : Int)) = false := by simp
    go_enter Try.func24, Try.ntmps24
    go_wp2
    go_loopw [5] (fun t wr => ∃ (k : Nat) (x : Later w), k ≤ n ∧ t = .int .i64 k ∧ wr = x.w ∧ ∀ i, i < k → l.getD i 0 = l'.getD i 0) (fun t _ => n - (intOf t).toNat)
    case atStart => exact ⟨0, Later.self w, by omega, rfl, rfl, fun i hi => by omega⟩
    case round =>
      obtain ⟨k, x, hk, rfl, rfl, hall⟩ := hrel
      have HA := Lib.hid hall; clear hall
      by_cases hlt : k < n
      · obtain ⟨hb1, hb2⟩ := HC.out k hlt
        obtain ⟨hb1', hb2'⟩ := HC'.out k hlt
        obtain rfl : ad = some ⟨b, off, none⟩ := (HAD.out).resolve_left (by omega)
        obtain rfl : ad' = some ⟨b', off', none⟩ := (HAD'.out).resolve_left (by omega)
        have c1 := Later.cell hb2
        have c2 := Later.cell hb2'
        clear hb2 hb2'
        by_cases heq : l.getD k 0 = l'.getD k 0
        · have HQ := Lib.hid heq
          have hbf : (l.getD k 0 != l'.getD k 0) = false := by rw [heq]; simp
          clear heq
          generalize l.getD k 0 = p at c1 hbf
          generalize l'.getD k 0 = q at c2 hbf
          go_wp2
          refine wp_region_later_at x (by kernel_rfl) (by kernel_rfl) ?_
          repeat (go_big_quiet_step (fail))
          refine wpQuiet_nil ?_
          rintro _ ⟨x2, rfl⟩
          go_wp2
          go_roundw
          case rel =>
            refine ⟨k + 1, x2, by omega, by go_num, rfl, fun i hi => ?_⟩
            by_cases hik : i = k
            · subst hik; exact HQ.out
            · exact HA.out i (by omega)
          case measure => simp [intOf]; omega
        · have hf : decide (l = l') = false := by
            rw [decide_eq_false_iff_not]; intro h; rw [h] at heq; exact heq rfl
          have HF := Lib.hid hf
          have hbf : (l.getD k 0 != l'.getD k 0) = true := by simpa using heq
          clear heq hf
          generalize l.getD k 0 = p at c1 hbf
          generalize l'.getD k 0 = q at c2 hbf
          go_wp2
          refine wp_region_later_at x (by kernel_rfl) (by kernel_rfl) ?_
          repeat (go_big_quiet_step (fail))
          refine wpQuiet_nil ?_
          rintro _ ⟨x2, rfl⟩
          go_wp2
          go_ret
          exact ⟨ret_bool HF.out.symm, x2.ext⟩
      · have hkn : k = n := by omega
        have hf : decide (l = l') = true := by
          rw [decide_eq_true_iff]
          refine List.ext_getElem (HN.out.trans HL.out) fun i h1 h2 => ?_
          have := HA.out i (by have := HN.out; omega)
          simpa [h1, h2] using this
        have HF := Lib.hid hf
        clear hf hkn
        go_wp2
        go_ret
        exact ⟨ret_bool HF.out.symm, x.ext⟩
  · have hf : decide (l = l') = false := by
      rw [decide_eq_false_iff_not]; intro h; rw [h] at hne; exact hne rfl
    have HF := Lib.hid hf
    have hbb : ((l.length : Int) != (l'.length : Int)) = true := by rw [bne_iff_ne]; omega
    clear hf hne
    generalize l.length = n at *
    generalize l'.length = n' at *
    go_enter Try.func24, Try.ntmps24
    go_wp2
    go_ret
    exact ⟨ret_bool HF.out.symm, Ext.refl w⟩

theorem same_any (v v' : Value) (l l' : List Int) (w : World) (h : SlI w v l) (h' : SlI w v' l') (hn : l.length ≤ 1000000000000) (hn' : l'.length ≤ 1000000000000) :
    Calls Try.prog 24 #[v, v'] w fun e w' => e = .returned (.bool (decide (l = l'))) ∧ Ext w w' := by
  obtain ⟨ad, n, cap, b, off, rfl, rfl, h3, h4⟩ := h
  obtain ⟨ad', n', cap', b', off', rfl, rfl, h3', h4'⟩ := h'
  exact same_core ad ad' cap b off cap' b' off' l l' w hn hn' h3 h3' h4 h4'

theorem sum_take_le {l : List Int} (h0 : ∀ x ∈ l, 0 ≤ x) (k : Nat) : 0 ≤ (l.take k).sum ∧ (l.take k).sum ≤ l.sum := by
  have hnn : ∀ m : List Int, (∀ x ∈ m, 0 ≤ x) → 0 ≤ m.sum := by
    intro m
    induction m with
    | nil => intro _; simp
    | cons x m ih => intro h; rw [List.sum_cons]; have := h x (by simp); have := ih (fun y hy => h y (by simp [hy])); omega
  have h1 := hnn (l.take k) (fun x hx => h0 x (List.mem_of_mem_take hx))
  have h2 := hnn (l.drop k) (fun x hx => h0 x (List.mem_of_mem_drop hx))
  have h3 : l.sum = (l.take k).sum + (l.drop k).sum := by rw [← List.sum_append, List.take_append_drop]
  omega

set_option maxHeartbeats 1000000 in
theorem sum_any (v : Value) (l : List Int) (w : World) (h : SlI w v l) (hn : l.length ≤ 1000000000000) (h0 : ∀ x ∈ l, 0 ≤ x) (hs : l.sum ≤ 4000000000000000000) :
    Calls Try.prog 25 #[v] w fun e w' => e = .returned (.int .i64 l.sum) ∧ w = w' := by
  obtain ⟨ad, n, cap, b, off, rfl, hN, had, hc⟩ := h
  have HC := Lib.hid hc; clear hc
  have HAD := Lib.hid had; clear had
  have H0 := Lib.hid h0; clear h0
  have HN := Lib.hid hN
  rw [← hN] at hn; clear hN
  go_enter Try.func25, Try.ntmps25
  go_wp2
  go_loop [3, 4] (fun s t => ∃ (k : Nat), k ≤ n ∧ t = .int .i64 k ∧ s = .int .i64 (l.take k).sum) (fun _ t => n - (intOf t).toNat)
  case atStart => exact ⟨0, by omega, rfl, by simp⟩
  case round =>
    obtain ⟨k, hk, rfl, rfl⟩ := hrel
    by_cases hlt : k < n
    · obtain ⟨hb1, hb2⟩ := HC.out k hlt
      obtain rfl : ad = some ⟨b, off, none⟩ := (HAD.out).resolve_left (by omega)
      obtain ⟨t1, t2⟩ := sum_take_le H0.out k
      obtain ⟨t3, t4⟩ := sum_take_le H0.out (k + 1)
      have hts : (l.take (k + 1)).sum = (l.take k).sum + l.getD k 0 := by
        have hkl : k < l.length := by have := HN.out; omega
        rw [List.take_succ_eq_append_getElem hkl, List.sum_append]; simp [hkl]
      have hp : 0 ≤ (l.take k).sum + l.getD k 0 := by omega
      have hp2 : (l.take k).sum + l.getD k 0 ≤ 4000000000000000000 := by omega
      have HT := Lib.hid hts; clear hts t3 t4
      generalize l.getD k 0 = q at *
      generalize (l.take k).sum = r at *
      go_wp2
      go_round
      case rel => exact ⟨k + 1, by omega, by go_num, by rw [HT.out]⟩
      case measure => simp [intOf]; omega
    · have hf : l.sum = (l.take k).sum := by
        rw [List.take_of_length_le (by have := HN.out; omega)]
      have HF := Lib.hid hf; clear hf
      generalize (l.take k).sum = r at *
      go_wp2
      go_ret
      exact ⟨ret_int HF.out.symm, rfl⟩

set_option maxHeartbeats 400000 in
theorem far_any (n : Int) (w : World) :
    Calls Try.prog 40 #[.int .i64 n] w fun e w' => e = .returned (.bool (!near n)) ∧ w = w' := by
  unfold near
  go_enter Try.func40, Try.ntmps40
  go_wp2_with ((go_at_call 33; refine (within_ref _ _ _ _).mono ?_; rintro e w' ⟨rfl, rfl⟩))
  go_ret
  exact ⟨rfl, rfl⟩

theorem rbetween_any (a b p n : Int) (w : World) (a1 : -40000000 ≤ a) (a2 : a ≤ 40000000) (b1 : -40000000 ≤ b) (b2 : b ≤ 40000000) (p0 : 0 ≤ p) (pn : p ≤ n) (n1 : 1 ≤ n) (n2 : n ≤ 40000000) :
    Calls Try.prog 41 #[.int .i64 a, .int .i64 b, .int .i64 p, .int .i64 n] w fun e w' => e = .returned (.int .i64 (btw a b p n)) ∧ w = w' := by
  obtain ⟨k1, k2, k3, k4⟩ := btw_bounds a b p n a1 a2 b1 b2 p0 pn n1 n2
  have e3 : 2 * (b - a) * p = 2 * ((b - a) * p) := Int.mul_assoc _ _ _
  have E3 := Lib.hid e3; clear e3
  have l1 : -6400000000000000 ≤ 2 * (b - a) * p := by rw [E3.out]; omega
  have l2 : 2 * (b - a) * p ≤ 6400000000000000 := by rw [E3.out]; omega
  unfold btw at *
  by_cases hs : 2 * (b - a) * p + n < 0
  · obtain ⟨d1, d2⟩ := tdiv_neg_bounds (2 * (b - a) * p + n) (2 * n) (by omega) hs
    have F := Lib.hid (tdiv_neg_floor (2 * (b - a) * p + n) (2 * n) (by omega) hs)
    have F2 := Lib.hid (show (2 * (b - a) * p + n).tdiv (2 * n) ≤ 40000000 ∧ -80000001 ≤ (2 * (b - a) * p + n).tdiv (2 * n) by
      have := F.out; by_cases h : (2 * (b - a) * p + n).tmod (2 * n) < 0
      · have := this.1 h; omega
      · have := this.2 h; omega)
    obtain ⟨g1, g2⟩ := F2.out
    go_enter Try.func41, Try.ntmps41
    go_wp2
    · go_ret
      exact ⟨ret_int (by rw [← F.out.1 (by assumption)]), rfl⟩
    · go_ret
      exact ⟨ret_int (by rw [← F.out.2 (by omega)]), rfl⟩
  · have hm := Int.emod_nonneg (2 * (b - a) * p + n) (show 2 * n ≠ 0 by omega)
    have hm' : decide ((2 * (b - a) * p + n) % (2 * n) < 0) = false := by rw [decide_eq_false_iff_not]; omega
    go_enter Try.func41, Try.ntmps41
    go_wp2
    go_ret
    exact ⟨rfl, rfl⟩

end Go.Proofs.Ytcblahhfgkafhaa
