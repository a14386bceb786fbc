/-
  Walks: next of layer 49, continued.
-/
import Derived.Test.YtcblahhfgkafhaaW16
namespace Go.Proofs.Ytcblahhfgkafhaa
open Go.RowKit

theorem ret_val' {a b : Value} (h : a = b) : Ending.returned a = .returned b := by rw [h]

/-- What next returns. -/
def nextV (s a j v b rest : Int) : Value := match nxt s a j v b rest with
  | none => .tuple #[.agg #[.int .i64 0, .int .i64 0], .bool false]
  | some c => .tuple #[.agg #[.int .i64 (v + c), .int .i64 c], .bool true]

/-- The result's box of next (N + 3), in all later worlds. -/
structure XBox (W : World) (N : Nat) : Prop where
  lt : N + 3 < W.heap.size
  c0 : W.cell? ⟨N + 1 + 1 + 1, 0, none⟩ = some (.int .i64 0)
  c1 : W.cell? ⟨N + 1 + 1 + 1, 1, none⟩ = some (.int .i64 0)
  f0 : W.frozen? ⟨N + 1 + 1 + 1, 0, none⟩ = false
  f1 : W.frozen? ⟨N + 1 + 1 + 1, 1, none⟩ = false
theorem XBox.later {w w1 : World} {N : Nat} (h : XBox w N) (he : Ext w w1) : XBox w1 N where
  lt := Nat.lt_of_lt_of_le h.lt he.size
  c0 := by rw [he.cell (by have := h.lt; simp; omega)]; exact h.c0
  c1 := by rw [he.cell (by have := h.lt; simp; omega)]; exact h.c1
  f0 := by rw [he.frozen (by have := h.lt; simp; omega)]; exact h.f0
  f1 := by rw [he.frozen (by have := h.lt; simp; omega)]; exact h.f1

theorem next_boxes {w : World} (s a j v b rest : Int) (t1 t2 t3 : TypeId) : ∃ W : World, (((w.alloc (.cells #[.int .i64 s, .int .i64 a, .int .i64 j] t1)).alloc (.cells #[.int .i64 v, .int .i64 b] t2)).alloc (.cells #[.int .i64 rest] t3)).alloc (.cells #[.int .i64 0, .int .i64 0] t2) = W ∧ Ext w W ∧ NBox W w.heap.size s a j v b rest ∧ XBox W w.heap.size :=
  ⟨_, rfl, ((((Ext.refl w).alloc _).alloc _).alloc _).alloc _,
    { lt := by simp, l0 := by simp [go_sem], l1 := by simp [go_sem], l2 := by simp [go_sem], s0 := by simp [go_sem], s1 := by simp [go_sem], r := by simp [go_sem] },
    { lt := by simp, c0 := by simp [go_sem], c1 := by simp [go_sem], f0 := by simp [go_sem], f1 := by simp [go_sem] }⟩

theorem Try.field_state (x y : Int) (w : World) : (Instr.field 59 (.agg #[.int .i64 x, .int .i64 y]) 1).run Try.prog w = .ok (.int .i64 y) w := by kernel_rfl

set_option maxHeartbeats 2000000 in
theorem next_any (s a j v b rest : Int) (w : World) (hv : vld s a j = true) (hs : saf s a j v b = true) (r1 : 1 ≤ rest) (r2 : rest ≤ 1000000000000) :
    Calls Try.prog 45 #[Lm s a j, .agg #[.int .i64 v, .int .i64 b], .int .i64 rest] w fun e w' => e = .returned (nextV s a j v b rest) ∧ Ext w w' := by
  obtain ⟨⟨s1, s2⟩, ⟨a1, a2⟩, ⟨j1, j2⟩⟩ := (vld_iff s a j).1 hv
  obtain ⟨⟨v1, v2⟩, ⟨b1, b2⟩, -⟩ := (saf_iff s a j v b).1 hs
  obtain ⟨d1, d2, -⟩ := brk_walk a j v b j1 b1 b2
  have d3 : -a ≤ brk a j v b := by omega
  have d4 : brk a j v b ≤ a := by omega
  clear d1 d2
  have HV := Lib.hid hv; clear hv
  have HS := Lib.hid hs; clear hs
  have hfld := Try.field_state
  go_enter Try.func45, Try.ntmps45
  go_wp2
  obtain ⟨W, hW, hE, B, X⟩ := next_boxes (w := w) s a j v b rest 28 59 2
  rw [hW]; clear hW
  have k0 := Later.cell B.l0; have k1 := Later.cell B.l1; have k2 := Later.cell B.l2; have q0 := Later.cell B.s0; have q1 := Later.cell B.s1; have kr := Later.cell B.r
  refine wp_region_later (by kernel_rfl) (by kernel_rfl) ?_
  repeat (go_big_quiet_step ((go_at_call 35; exact Calls.later (brake_any _ _ _ _ _ _ HV.out HS.out))))
  refine wpQuiet_nil ?_
  rintro _ ⟨y, rfl⟩
  have B2 := B.later y.ext
  have X2 := X.later y.ext
  have hE2 := hE.trans y.ext
  clear B X hE k0 k1 k2 q0 q1 kr
  generalize y.w = w2 at B2 X2 hE2 ⊢
  clear y W
  generalize hlo : (if brk a j v b < 1 - v then 1 - v else brk a j v b) = lo
  generalize hhi : (if rest - v < if b + j < a then b + j else a then rest - v else if b + j < a then b + j else a) = hi
  have hlo' : nlo a j v b = lo := by unfold nlo; rw [← hlo]; split <;> omega
  have hhi' : nhi a j v b rest = hi := by
    unfold nhi; rw [← hhi]
    by_cases h1 : b + j < a
    · rw [if_pos h1]; split <;> omega
    · rw [if_neg h1]; split <;> omega
  have lo1 : -1000000 ≤ lo := by rw [← hlo']; unfold nlo; omega
  have lo2 : lo ≤ 1000000 := by rw [← hlo']; unfold nlo; omega
  have hi1 : hi ≤ 1000000 := by rw [← hhi']; unfold nhi; omega
  have hi2 : -1000000 ≤ hi := by rw [← hhi']; unfold nhi; omega
  have HN : Hid (nextV s a j v b rest = if hi < lo ∨ fitsB s a j v rest lo = false then .tuple #[.agg #[.int .i64 0, .int .i64 0], .bool false] else .tuple #[.agg #[.int .i64 (v + bis (fitsB s a j v rest) (hi - lo).toNat lo hi), .int .i64 (bis (fitsB s a j v rest) (hi - lo).toNat lo hi)], .bool true]) := by
    show _ = _
    unfold nextV nxt
    rw [hlo', hhi']
    split <;> rename_i h <;> split at h <;> simp_all
  clear hlo hhi hlo' hhi' d3 d4
  have c0 := X2.c0; have c1 := X2.c1; have f0 := X2.f0; have f1 := X2.f1
  have s0 := B2.s0
  by_cases h1 : hi < lo
  · have HR := Lib.hid (HN.out.trans (if_pos (.inl h1)))
    go_wp2
    refine bodyPost_ret (v := .tuple #[.agg #[.int .i64 0, .int .i64 0], .bool false]) (by simp [results, Try.results45, go_sem, c0, c1]) rfl ⟨ret_val' HR.out.symm, ?_⟩
    exact (hE2.setCell (by simp; omega) _).setCell (by simp; omega) _
  · have h1' : decide (hi < lo) = false := by simpa using h1
    cases h2 : fitsB s a j v rest lo
    · have HR := Lib.hid (HN.out.trans (if_pos (.inr h2)))
      go_wp2_with fail
      refine (fits_any w.heap.size s a j v b rest lo _ HV.out B2 v1 (by omega) lo1 lo2 (by omega) r2).mono ?_
      rw [h2]
      rintro e w3 ⟨rfl, he3⟩
      have X3 := X2.later he3
      clear c0 c1 f0 f1
      have c0 := X3.c0; have c1 := X3.c1; have f0 := X3.f0; have f1 := X3.f1
      go_wp2
      refine bodyPost_ret (v := .tuple #[.agg #[.int .i64 0, .int .i64 0], .bool false]) (by simp [results, Try.results45, go_sem, c0, c1]) rfl ⟨ret_val' HR.out.symm, ?_⟩
      exact ((hE2.trans he3).setCell (by simp; omega) _).setCell (by simp; omega) _
    · have HR := Lib.hid (HN.out.trans (if_neg (by rw [h2]; simp; omega)))
      clear HN
      go_wp2_with fail
      refine (fits_any w.heap.size s a j v b rest lo _ HV.out B2 v1 (by omega) lo1 lo2 (by omega) r2).mono ?_
      rw [h2]
      rintro e w3 ⟨rfl, he3⟩
      have B3 := B2.later he3
      have X3 := X2.later he3
      have hE3 := hE2.trans he3
      clear c0 c1 f0 f1 s0 B2 X2 hE2 h2 he3
      go_wp2
      go_loopw [9, 10] (fun x y wr => ∃ p q : Int, x = .int .i64 p ∧ y = .int .i64 q ∧ lo ≤ p ∧ p ≤ q ∧ q ≤ hi ∧ NBox wr w.heap.size s a j v b rest ∧ XBox wr w.heap.size ∧ Ext w wr ∧ bis (fitsB s a j v rest) (q - p).toNat p q = bis (fitsB s a j v rest) (hi - lo).toNat lo hi) (fun x y _ => (intOf y - intOf x).toNat)
      case atStart => exact ⟨lo, hi, rfl, rfl, by omega, by omega, by omega, B3, X3, hE3, rfl⟩
      case round =>
        obtain ⟨p, q, rfl, rfl, p1, pq, q1, B4, X4, E4, hbis⟩ := hrel
        clear B3 X3 hE3
        by_cases hlt : p < q
        · have m1 : p + (q - p + 1) / 2 ≤ q := by omega
          have m2 : p < p + (q - p + 1) / 2 := by omega
          obtain ⟨k, hk⟩ : ∃ k, (q - p).toNat = k + 1 := ⟨(q - p).toNat - 1, by omega⟩
          rw [hk] at hbis
          simp only [bis, if_pos hlt] at hbis
          have hbs1 := bis_fuel (fitsB s a j v rest) (q - (p + (q - p + 1) / 2)).toNat k (p + (q - p + 1) / 2) q (Nat.le_refl _) (by omega)
          have hbs2 := bis_fuel (fitsB s a j v rest) (p + (q - p + 1) / 2 - 1 - p).toNat k p (p + (q - p + 1) / 2 - 1) (Nat.le_refl _) (by omega)
          rw [hbs1, hbs2] at hbis
          have HB := Lib.hid hbis
          clear hbis hbs1 hbs2 hk
          cases hf : fitsB s a j v rest (p + (q - p + 1) / 2)
          · go_wp2_with fail
            refine (fits_any w.heap.size s a j v b rest _ _ HV.out B4 v1 (by omega) (by omega) (by omega) (by omega) r2).mono ?_
            rw [hf]
            rintro e w5 ⟨rfl, he5⟩
            have B5 := B4.later he5; have X5 := X4.later he5; have E5 := E4.trans he5
            have HB2 := Lib.hid (by have := HB.out; rw [hf] at this; simpa using this)
            clear hf
            go_wp2
            go_roundw
            case rel => exact ⟨p, p + (q - p + 1) / 2 - 1, rfl, by go_num, by omega, by omega, by omega, B5, X5, E5, HB2.out⟩
            case measure => simp [intOf]; omega
          · go_wp2_with fail
            refine (fits_any w.heap.size s a j v b rest _ _ HV.out B4 v1 (by omega) (by omega) (by omega) (by omega) r2).mono ?_
            rw [hf]
            rintro e w5 ⟨rfl, he5⟩
            have B5 := B4.later he5; have X5 := X4.later he5; have E5 := E4.trans he5
            have HB2 := Lib.hid (by have := HB.out; rw [hf] at this; simpa using this)
            clear hf
            go_wp2
            go_roundw
            case rel => exact ⟨p + (q - p + 1) / 2, q, by go_num, rfl, by omega, by omega, by omega, B5, X5, E5, HB2.out⟩
            case measure => simp [intOf]; omega
        · rw [bis_done _ _ _ _ hlt] at hbis
          have HB := Lib.hid hbis
          clear hbis
          have c0 := X4.c0; have c1 := X4.c1; have f0 := X4.f0; have f1 := X4.f1
          have s0 := B4.s0
          go_wp2
          refine bodyPost_ret (v := .tuple #[.agg #[.int .i64 (v + p), .int .i64 p], .bool true]) (by simp [results, Try.results45, go_sem, c0, c1]) rfl ⟨ret_val' (by rw [HR.out, ← HB.out]), ?_⟩
          exact (E4.setCell (by simp; omega) _).setCell (by simp; omega) _

end Go.Proofs.Ytcblahhfgkafhaa
