/-
  Walks: brake, distance of layer 49.
-/
import Derived.Test.YtcblahhfgkafhaaW2
namespace Go.Proofs.Ytcblahhfgkafhaa
open Go.RowKit


/-- The boxes of brake. -/
theorem three_boxes {w : World} (s a j v b : Int) (t1 t2 : TypeId) : ∃ W : World, ((w.alloc (.cells #[.int .i64 s, .int .i64 a, .int .i64 j] t1)).alloc (.cells #[.int .i64 v, .int .i64 b] t2)).alloc (.cells #[.int .i64 0, .int .i64 0] t2) = W ∧ Ext w W ∧ W.heap.size = w.heap.size + 3 ∧
    (∀ x : Later W, x.w.cell? ⟨w.heap.size, 0, none⟩ = some (.int .i64 s)) ∧ (∀ x : Later W, x.w.cell? ⟨w.heap.size, 1, none⟩ = some (.int .i64 a)) ∧ (∀ x : Later W, x.w.cell? ⟨w.heap.size, 2, none⟩ = some (.int .i64 j)) ∧
    (∀ x : Later W, x.w.cell? ⟨w.heap.size + 1, 0, none⟩ = some (.int .i64 v)) ∧ (∀ x : Later W, x.w.cell? ⟨w.heap.size + 1, 1, none⟩ = some (.int .i64 b)) ∧
    (∀ x : Later W, x.w.cell? ⟨w.heap.size + 1 + 1, 0, none⟩ = some (.int .i64 0)) ∧ (∀ x : Later W, x.w.cell? ⟨w.heap.size + 1 + 1, 1, none⟩ = some (.int .i64 0)) ∧
    (∀ x : Later W, x.w.frozen? ⟨w.heap.size + 1 + 1, 0, none⟩ = false) ∧ (∀ x : Later W, x.w.frozen? ⟨w.heap.size + 1 + 1, 1, none⟩ = false) :=
  ⟨_, rfl, (((Ext.refl w).alloc _).alloc _).alloc _, by simp, Later.cell (by simp [go_sem]), Later.cell (by simp [go_sem]), Later.cell (by simp [go_sem]), Later.cell (by simp [go_sem]), Later.cell (by simp [go_sem]), Later.cell (by simp [go_sem]), Later.cell (by simp [go_sem]), Later.frozen (by simp) (by simp [go_sem]), Later.frozen (by simp) (by simp [go_sem])⟩

set_option maxHeartbeats 1000000 in
theorem brake_walk (s a j v b c : Int) (w : World) (s2 : s ≤ 100000) (a1 : 1 ≤ a) (a2 : a ≤ 100000) (j1 : 2 ≤ j) (j2 : j ≤ 100000) (v1 : 0 ≤ v) (v2 : v ≤ s) (b1 : -a ≤ b) (b2 : b ≤ a)
    (c1 : max (-a) (b - j) ≤ c) (c2 : c ≤ min a (b + j)) (hc : ∀ x, max (-a) (b - j) ≤ x → x < min a (b + j) → (fad j (-x) ≤ v + x ↔ c ≤ x)) :
    Calls Try.prog 35 #[Lm s a j, .agg #[.int .i64 v, .int .i64 b]] w fun e w' => e = .returned (.agg #[.int .i64 (v + c), .int .i64 c]) ∧ Ext w w' := by
  have HC := Lib.hid hc; clear hc
  have C1 := Lib.hid c1; clear c1
  have C2 := Lib.hid c2; clear c2
  go_enter Try.func35, Try.ntmps35
  go_wp2
  obtain ⟨W, hW, hE, hz, k1, k2, k3, k4, k5, k6, k7, k8, k9⟩ := three_boxes (w := w) s a j v b 28 59
  rw [hW]; clear hW
  refine wp_region_later (by kernel_rfl) (by kernel_rfl) ?_
  repeat (go_big_quiet_step (fail))
  refine wpQuiet_nil ?_
  rintro _ ⟨x, rfl⟩
  generalize hlo : (if -a < b - j then b - j else -a) = lo
  generalize hhi : (if b + j < a then b + j else a) = hi
  have hlo' : max (-a) (b - j) = lo := by rw [← hlo]; split <;> omega
  have hhi' : min a (b + j) = hi := by rw [← hhi]; split <;> omega
  have lo1 : -a ≤ lo := by omega
  have hi1 : hi ≤ a := by omega
  have HC2 := Lib.hid (show ∀ x, lo ≤ x → x < hi → (fad j (-x) ≤ v + x ↔ c ≤ x) by have := HC.out; rw [hlo', hhi'] at this; exact this)
  have c1 : lo ≤ c := by have := C1.out; omega
  have c2 : c ≤ hi := by have := C2.out; omega
  clear hlo hhi hlo' hhi' HC C1 C2
  go_wp2
  go_loopw [5, 6] (fun l h wr => ∃ (p q : Int) (y : Later W), l = .int .i64 p ∧ h = .int .i64 q ∧ wr = y.w ∧ lo ≤ p ∧ p ≤ c ∧ c ≤ q ∧ q ≤ hi) (fun l h _ => (intOf h - intOf l).toNat)
  case atStart => exact ⟨_, _, x, rfl, rfl, rfl, by omega, by omega, by omega, by omega⟩
  case round =>
    obtain ⟨p, q, y, rfl, rfl, rfl, p1, p2, q1, q2⟩ := hrel
    by_cases hlt : p < q
    · go_wp2_with ((go_at_call 39; refine (floor_any _ _ _ (by omega) (by omega) (by omega) (by omega)).mono ?_; rintro e w' ⟨rfl, rfl⟩))
      have m1 : p ≤ (p + q) / 2 := by omega
      have m2 : (p + q) / 2 < q := by omega
      generalize (p + q) / 2 = m at m1 m2 ⊢
      obtain ⟨f1, f2⟩ := fad_le j (-m) j1 (by omega)
      have hm := HC2.out m (by omega) (by omega)
      by_cases ht : fad j (-m) ≤ v + m
      · have hcm : c ≤ m := hm.1 ht
        clear hm
        refine wp_region_later_at y (by kernel_rfl) (by kernel_rfl) ?_
        repeat (go_big_quiet_step ((go_at_call 44; exact Calls.later (fading_any _ _ _ _ _ (by omega) (by omega) (by omega)))))
        refine wpQuiet_nil ?_
        rintro _ ⟨y2, rfl⟩
        go_wp2
        go_roundw
        case rel => exact ⟨p, m, y2, rfl, rfl, rfl, by omega, by omega, by omega, by omega⟩
        case measure => simp [intOf]; omega
      · have hcm : m < c := by omega
        have ht' : decide (fad j (-m) ≤ v + m) = false := by simpa using ht
        clear hm
        refine wp_region_later_at y (by kernel_rfl) (by kernel_rfl) ?_
        repeat (go_big_quiet_step ((go_at_call 44; exact Calls.later (fading_any _ _ _ _ _ (by omega) (by omega) (by omega)))))
        refine wpQuiet_nil ?_
        rintro _ ⟨y2, rfl⟩
        go_wp2
        go_roundw
        case rel => exact ⟨m + 1, q, y2, rfl, rfl, rfl, by omega, by omega, by omega, by omega⟩
        case measure => simp [intOf]; omega
    · have hpc : p = c := by omega
      subst hpc
      go_wp2
      refine bodyPost_ret (v := .agg #[.int .i64 (v + p), .int .i64 p]) (by simp [results, Try.results35, go_sem, k6, k7]) rfl ⟨rfl, ?_⟩
      exact ((hE.trans y.ext).setCell (by simp; omega) _).setCell (by simp; omega) _


theorem brake_any (s a j v b : Int) (w : World) (hv : vld s a j = true) (hs : saf s a j v b = true) :
    Calls Try.prog 35 #[Lm s a j, .agg #[.int .i64 v, .int .i64 b]] w fun e w' => e = .returned (.agg #[.int .i64 (v + brk a j v b), .int .i64 (brk a j v b)]) ∧ Ext w w' := by
  obtain ⟨⟨s1, s2⟩, ⟨a1, a2⟩, ⟨j1, j2⟩⟩ := (vld_iff s a j).1 hv
  obtain ⟨⟨v1, v2⟩, ⟨b1, b2⟩, h3⟩ := (saf_iff s a j v b).1 hs
  obtain ⟨c1, c2, c3⟩ := brk_walk a j v b j1 b1 b2
  exact brake_walk s a j v b _ w s2 a1 a2 j1 j2 v1 v2 b1 b2 c1 c2 c3

/-- The boxes of limits (block N) and of a state (block M), in a world that extends w. -/
structure DBox (w wr : World) (N M : Nat) (s a j v b : Int) : Prop where
  ext : Ext w wr
  old : w.heap.size ≤ M
  nm : N ≠ M
  nlt : N < wr.heap.size
  mlt : M < wr.heap.size
  c0 : wr.cell? ⟨N, 0, none⟩ = some (.int .i64 s)
  c1 : wr.cell? ⟨N, 1, none⟩ = some (.int .i64 a)
  c2 : wr.cell? ⟨N, 2, none⟩ = some (.int .i64 j)
  d0 : wr.cell? ⟨M, 0, none⟩ = some (.int .i64 v)
  d1 : wr.cell? ⟨M, 1, none⟩ = some (.int .i64 b)
  f0 : wr.frozen? ⟨M, 0, none⟩ = false
  f1 : wr.frozen? ⟨M, 1, none⟩ = false

theorem DBox.later {w wr w1 : World} {N M : Nat} {s a j v b : Int} (h : DBox w wr N M s a j v b) (he : Ext wr w1) : DBox w w1 N M s a j v b where
  ext := h.ext.trans he
  old := h.old
  nm := h.nm
  nlt := Nat.lt_of_lt_of_le h.nlt he.size
  mlt := Nat.lt_of_lt_of_le h.mlt he.size
  c0 := by rw [he.cell h.nlt]; exact h.c0
  c1 := by rw [he.cell h.nlt]; exact h.c1
  c2 := by rw [he.cell h.nlt]; exact h.c2
  d0 := by rw [he.cell h.mlt]; exact h.d0
  d1 := by rw [he.cell h.mlt]; exact h.d1
  f0 := by rw [he.frozen h.mlt]; exact h.f0
  f1 := by rw [he.frozen h.mlt]; exact h.f1

theorem DBox.set {w wr : World} {N M : Nat} {s a j v b : Int} (h : DBox w wr N M s a j v b) (v' b' : Int) :
    DBox w ((wr.setCell ⟨M, 0, none⟩ (.int .i64 v')).setCell ⟨M, 1, none⟩ (.int .i64 b')) N M s a j v' b' := by
  have nm := h.nm
  have c0 := h.c0; have c1 := h.c1; have c2 := h.c2; have d0 := h.d0; have d1 := h.d1; have f0 := h.f0; have f1 := h.f1
  exact {
    ext := (h.ext.setCell h.old _).setCell h.old _
    old := h.old
    nm := nm
    nlt := by simpa [World.setCell] using h.nlt
    mlt := by simpa [World.setCell] using h.mlt
    c0 := by simp [go_sem, c0]
    c1 := by simp [go_sem, c1]
    c2 := by simp [go_sem, c2]
    d0 := by simp [go_sem, d0]
    d1 := by simp [go_sem, d1]
    f0 := by simp [go_sem, f0]
    f1 := by simp [go_sem, f1] }


/-- The number in a cell. -/
def cellInt (w : World) (p : Addr) : Int := intOf ((w.cell? p).getD undef)
theorem cellInt_of {w : World} {p : Addr} {n : Int} (h : w.cell? p = some (.int .i64 n)) : cellInt w p = n := by simp [cellInt, h, intOf]

set_option maxHeartbeats 1000000 in
theorem distance_any (s a j v b : Int) (w : World) (hv : vld s a j = true) (hs : saf s a j v b = true) :
    Calls Try.prog 36 #[Lm s a j, .agg #[.int .i64 v, .int .i64 b]] w fun e w' => e = .returned (.int .i64 (dsum s a j v b)) ∧ Ext w w' := by
  have HV := Lib.hid hv; clear hv
  have HS := Lib.hid hs; clear hs
  go_enter Try.func36, Try.ntmps36
  go_wp2
  go_loopw [5] (fun t wr => ∃ (x y acc : Int), t = .int .i64 acc ∧ DBox w wr w.heap.size (w.heap.size + 1) s a j x y ∧ saf s a j x y = true ∧ 0 ≤ acc ∧ acc + dsum s a j x y = dsum s a j v b) (fun _ wr => mu s (cellInt wr ⟨w.heap.size + 1, 0, none⟩) (cellInt wr ⟨w.heap.size + 1, 1, none⟩))
  case atStart =>
    refine ⟨v, b, 0, rfl, ?_, HS.out, by omega, by omega⟩
    exact { ext := ((Ext.refl w).alloc _).alloc _, old := by omega, nm := by omega, nlt := by simp; omega, mlt := by simp, c0 := by simp [go_sem], c1 := by simp [go_sem], c2 := by simp [go_sem], d0 := by simp [go_sem], d1 := by simp [go_sem], f0 := by simp [go_sem], f1 := by simp [go_sem] }
  case round =>
    obtain ⟨x, y, acc, rfl, hb, hxy, hacc, htot⟩ := hrel
    obtain ⟨t1, t2⟩ := dsum_le s a j v b HV.out HS.out
    obtain ⟨t3, t4⟩ := dsum_le s a j x y HV.out hxy
    have hacc3 : acc ≤ 20000200000 := by omega
    have c0 := hb.c0; have c1 := hb.c1; have c2 := hb.c2; have d0 := hb.d0; have d1 := hb.d1
    have m0 := cellInt_of d0
    have m1 := cellInt_of d1
    by_cases h0 : x = 0 ∧ y = 0
    · obtain ⟨rfl, rfl⟩ := h0
      rw [dsum_rest] at htot
      have hacc2 : acc = dsum s a j v b := by omega
      have HA := Lib.hid hacc2
      have he := hb.ext
      clear htot hacc2 m0 m1
      go_wp2
      go_ret
      exact ⟨ret_int HA.out, he⟩
    · have hm := mu_lt s a j x y HV.out hxy h0
      have hd := dsum_cons s a j x y HV.out hxy h0
      have hxy2 := (brk_props s a j x y HV.out hxy).1
      obtain ⟨⟨v1, v2⟩, -, -⟩ := (saf_iff _ _ _ _ _).1 hxy2
      obtain ⟨⟨-, s2⟩, -, -⟩ := (vld_iff _ _ _).1 HV.out
      have H := Lib.hid (And.intro htot (And.intro hm (And.intro hd (And.intro hxy2 (And.intro m0 (And.intro m1 hxy))))))
      clear htot hm hd hxy2 m0 m1 hxy
      rcases (show (¬ x = 0) ∨ (x = 0 ∧ ¬ y = 0) by omega) with hx | ⟨rfl, hy⟩
      · clear h0
        go_wp2_with fail
        refine (brake_any s a j _ _ _ HV.out H.out.2.2.2.2.2.2).mono ?_
        rintro e w1 ⟨rfl, he⟩
        have hb1 := hb.later he
        have c0' := hb1.c0; have c1' := hb1.c1; have c2' := hb1.c2; have d0' := hb1.d0; have d1' := hb1.d1; have f0' := hb1.f0; have f1' := hb1.f1
        go_wp2
        have hb2 := hb1.set (x + brk a j x y) (brk a j x y)
        obtain ⟨g1, g2, g3, g4, g5, g6, -⟩ := H.out
        go_roundw
        case rel => exact ⟨x + brk a j x y, brk a j x y, acc + (x + brk a j x y), by go_num, hb2, g4, by omega, by omega⟩
        case measure => rw [g5, g6, cellInt_of hb2.d0, cellInt_of hb2.d1]; exact g2
      · clear h0
        simp only [Int.zero_add] at v1 v2 H
        go_wp2_with fail
        refine (brake_any s a j _ _ _ HV.out H.out.2.2.2.2.2.2).mono ?_
        rintro e w1 ⟨rfl, he⟩
        have hb1 := hb.later he
        have c0' := hb1.c0; have c1' := hb1.c1; have c2' := hb1.c2; have d0' := hb1.d0; have d1' := hb1.d1; have f0' := hb1.f0; have f1' := hb1.f1
        go_wp2
        have hb2 := hb1.set (brk a j 0 y) (brk a j 0 y)
        obtain ⟨g1, g2, g3, g4, g5, g6, -⟩ := H.out
        go_roundw
        case rel => exact ⟨brk a j 0 y, brk a j 0 y, acc + brk a j 0 y, by go_num, hb2, g4, by omega, by omega⟩
        case measure => rw [g5, g6, cellInt_of hb2.d0, cellInt_of hb2.d1]; exact g2

end Go.Proofs.Ytcblahhfgkafhaa
