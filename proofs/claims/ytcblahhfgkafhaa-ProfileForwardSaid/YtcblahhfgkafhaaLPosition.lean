/-
  ProfilePosition, walked.
-/
import Derived.Test.YtcblahhfgkafhaaW13
namespace Go.Proofs.Ytcblahhfgkafhaa
open Go.RowKit

theorem posR_form (ax ay az bx cy bz p n : Int) : ∃ u v t c : Int, posR ax ay az bx cy bz p n = .tuple #[Ps u v t, .int .i64 c] := by
  unfold posR posV
  split
  · exact ⟨_, _, _, _, rfl⟩
  · split
    · exact ⟨_, _, _, _, rfl⟩
    · exact ⟨_, _, _, _, rfl⟩

/-- Three boxes. -/
structure TBox (w wr : World) (ax ay az bx cy bz : Int) (cs : List Int) : Prop where
  ext : Ext w wr
  lt : w.heap.size + 2 < wr.heap.size
  a0 : wr.cell? ⟨w.heap.size, 0, none⟩ = some (.int .i64 ax)
  a1 : wr.cell? ⟨w.heap.size, 1, none⟩ = some (.int .i64 ay)
  a2 : wr.cell? ⟨w.heap.size, 2, none⟩ = some (.int .i64 az)
  b0 : wr.cell? ⟨w.heap.size + 1, 0, none⟩ = some (.int .i64 bx)
  b1 : wr.cell? ⟨w.heap.size + 1, 1, none⟩ = some (.int .i64 cy)
  b2 : wr.cell? ⟨w.heap.size + 1, 2, none⟩ = some (.int .i64 bz)
  c : ∀ i, i < cs.length → wr.cell? ⟨w.heap.size + 1 + 1, i, none⟩ = some (.int .i64 (cs.getD i 0))
theorem TBox.later {w wr w1 : World} {ax ay az bx cy bz : Int} {cs : List Int} (h : TBox w wr ax ay az bx cy bz cs) (he : Ext wr w1) : TBox w w1 ax ay az bx cy bz cs where
  ext := h.ext.trans he
  lt := Nat.lt_of_lt_of_le h.lt he.size
  a0 := by rw [he.cell (by have := h.lt; simp; omega)]; exact h.a0
  a1 := by rw [he.cell (by have := h.lt; simp; omega)]; exact h.a1
  a2 := by rw [he.cell (by have := h.lt; simp; omega)]; exact h.a2
  b0 := by rw [he.cell (by have := h.lt; simp; omega)]; exact h.b0
  b1 := by rw [he.cell (by have := h.lt; simp; omega)]; exact h.b1
  b2 := by rw [he.cell (by have := h.lt; simp; omega)]; exact h.b2
  c := fun i hi => by rw [he.cell (by have := h.lt; simp; omega)]; exact h.c i hi
theorem TBox.of2 {w w1 : World} {ax ay az bx cy bz x y : Int} {t t2 : TypeId} (he : Ext (((w.alloc (.cells #[.int .i64 ax, .int .i64 ay, .int .i64 az] t)).alloc (.cells #[.int .i64 bx, .int .i64 cy, .int .i64 bz] t)).alloc (.cells #[.int .i64 x, .int .i64 y] t2)) w1) : TBox w w1 ax ay az bx cy bz [x, y] := by
  refine TBox.later ?_ he
  exact { ext := (((Ext.refl w).alloc _).alloc _).alloc _, lt := by simp, a0 := by simp [go_sem], a1 := by simp [go_sem], a2 := by simp [go_sem], b0 := by simp [go_sem], b1 := by simp [go_sem], b2 := by simp [go_sem], c := fun i hi => by
            simp only [List.length_cons, List.length_nil] at hi
            rcases (show i = 0 ∨ i = 1 by omega) with rfl | rfl <;> simp [go_sem] }
theorem TBox.of3 {w w1 : World} {ax ay az bx cy bz x y z : Int} {t t2 : TypeId} (he : Ext (((w.alloc (.cells #[.int .i64 ax, .int .i64 ay, .int .i64 az] t)).alloc (.cells #[.int .i64 bx, .int .i64 cy, .int .i64 bz] t)).alloc (.cells #[.int .i64 x, .int .i64 y, .int .i64 z] t2)) w1) : TBox w w1 ax ay az bx cy bz [x, y, z] := by
  refine TBox.later ?_ he
  exact { ext := (((Ext.refl w).alloc _).alloc _).alloc _, lt := by simp, a0 := by simp [go_sem], a1 := by simp [go_sem], a2 := by simp [go_sem], b0 := by simp [go_sem], b1 := by simp [go_sem], b2 := by simp [go_sem], c := fun i hi => by
            simp only [List.length_cons, List.length_nil] at hi
            rcases (show i = 0 ∨ i = 1 ∨ i = 2 by omega) with rfl | rfl | rfl <;> simp [go_sem] }

/-- A position in a box, in a world that extends another. -/
structure VBox (w wr : World) (N : Nat) (x y z : Int) : Prop where
  lt : N < wr.heap.size
  c0 : wr.cell? ⟨N, 0, none⟩ = some (.int .i64 x)
  c1 : wr.cell? ⟨N, 1, none⟩ = some (.int .i64 y)
  c2 : wr.cell? ⟨N, 2, none⟩ = some (.int .i64 z)
theorem VBox.later {w wr w1 : World} {N : Nat} {x y z : Int} (h : VBox w wr N x y z) (he : Ext wr w1) : VBox w w1 N x y z where
  lt := Nat.lt_of_lt_of_le h.lt he.size
  c0 := by rw [he.cell h.lt]; exact h.c0
  c1 := by rw [he.cell h.lt]; exact h.c1
  c2 := by rw [he.cell h.lt]; exact h.c2
theorem VBox.of {w w1 : World} {x y z : Int} {t : TypeId} (he : Ext (w.alloc (.cells #[.int .i64 x, .int .i64 y, .int .i64 z] t)) w1) : VBox w w1 w.heap.size x y z :=
  VBox.later (wr := w.alloc (.cells #[.int .i64 x, .int .i64 y, .int .i64 z] t)) { lt := by simp, c0 := by simp [go_sem], c1 := by simp [go_sem], c2 := by simp [go_sem] } he

set_option maxHeartbeats 2000000 in
theorem lawPosition (ax ay az bx cy bz x y : Int) (w : World) :
    Calls Try.prog 8 #[Ps ax ay az, Ps bx cy bz, .agg #[.int .i64 x, .int .i64 y]] w fun e w' => e = .returned (.bool true) ∧ Ext w w' := by
  obtain ⟨u, v, t, c, hR⟩ := posR_form ax ay az bx cy bz x y
  have HR := Lib.hid hR; clear hR
  go_enter Try.func8, Try.ntmps8
  go_wp2_with fail
  refine (awake_any _).mono ?_
  rintro e w1 ⟨rfl, he1⟩
  have b1 := TBox.of2 he1
  clear he1
  have a0 := b1.a0; have a1 := b1.a1; have a2 := b1.a2; have b0 := b1.b0; have b1' := b1.b1; have b2' := b1.b2; have c0 := b1.c 0 (by simp); have c1 := b1.c 1 (by simp)
  simp only [List.getD_cons_zero, List.getD_cons_succ] at c0 c1
  go_wp2_with fail
  refine (pos_any ax ay az bx cy bz x y _).mono ?_
  rw [HR.out]
  rintro e w2 ⟨rfl, he2⟩
  have b2 := b1.later he2
  have lt2 := b2.lt
  clear b1 he2 a0 a1 a2 b0 b1' b2' c0 c1
  have a0 := b2.a0; have a1 := b2.a1; have a2 := b2.a2; have b0 := b2.b0; have b1' := b2.b1; have b2' := b2.b2; have c0 := b2.c 0 (by simp); have c1 := b2.c 1 (by simp)
  simp only [List.getD_cons_zero, List.getD_cons_succ] at c0 c1
  have l0 : w.heap.size < w2.heap.size := by omega
  have l1 : w.heap.size + 1 < w2.heap.size := by omega
  have l2 : w.heap.size + 1 + 1 < w2.heap.size := by omega
  go_wp2_with fail
  refine (rpos_any ax ay az bx cy bz x y _).mono ?_
  rw [HR.out]
  rintro e w3 ⟨rfl, he3⟩
  have v3 := VBox.of he3
  have hE := b2.ext.trans (((Ext.refl w2).alloc _).trans he3)
  have k0 := v3.c0; have k1 := v3.c1; have k2 := v3.c2; have lt3 := v3.lt
  clear a0 a1 a2 b0 b1' b2' c0 c1 b2 he3 l0 l1 l2 lt2
  go_wp2
  go_ret
  exact ⟨rfl, hE.alloc _⟩

end Go.Proofs.Ytcblahhfgkafhaa
