/-
  Walks: awake of layer 49's statements.
-/
import Derived.Test.YtcblahhfgkafhaaW12
namespace Go.Proofs.Ytcblahhfgkafhaa
open Go.RowKit

theorem ex_vld : vld 10 3 2 = true := by decide +kernel
theorem ex_tickN : tickN 17 10 3 2 = 17 := by decide +kernel
theorem ex_tickE : tickE 17 10 3 2 = 0 := by decide +kernel
theorem ex_mvg : mvg 10 3 2 4 4 = true := by decide +kernel
theorem ex_stops : stops 10 3 2 4 (4 - 4) = [2] := by decide +kernel
theorem ex_dsum : dsum 10 3 2 4 (4 - 4) = 2 := by decide +kernel
theorem ex_smth1 : smth 10 3 2 [2, 4, 5, 4, 2] = true := by decide +kernel
theorem ex_smth2 : smth 10 3 2 [3, 4] = false := by decide +kernel
theorem ex_pos : posR 0 0 0 3 (-3) 1 1 2 = .tuple #[Ps 2 (-1) 1, .int .i64 0] := by
  have h1 : (lookAt 0 0 0 3 (-3) 1 2).all near = true := by decide +kernel
  have h2 : btw 0 3 1 2 = 2 := by decide +kernel
  have h3 : btw 0 (-3) 1 2 = -1 := by decide +kernel
  have h4 : btw 0 1 1 2 = 1 := by decide +kernel
  unfold posR
  rw [if_neg (by decide), posV_near h1, h2, h3, h4]

/-- A literal slice. -/
theorem SlI.lit {w w' : World} {cs : Array Value} (l : List Int) (t : TypeId) (n cap b : Nat) (hn : n = l.length) (hb : b = w.heap.size) (hcs : cs = (l.map (Value.int .i64)).toArray) (he : Ext (w.alloc (.cells cs t)) w') : SlI w' (.slice (some ⟨b, 0, none⟩) n cap) l := by
  subst hn; subst hb; subst hcs
  refine ⟨_, _, cap, w.heap.size, 0, rfl, rfl, .inr rfl, fun i hi => ?_⟩
  have hz := he.size
  simp at hz
  refine ⟨by omega, ?_⟩
  rw [he.cell (by simp)]
  simp [go_sem, hi]

set_option maxHeartbeats 2000000 in
theorem awake_any (w : World) : Calls Try.prog 11 #[] w fun e w' => e = .returned (.bool true) ∧ Ext w w' := by
  go_enter Try.func11, Try.ntmps11
  go_wp2_with fail
  refine (ticks_any 17 10 3 2 _).mono ?_
  rw [ex_tickN, ex_tickE]
  rintro e w1 ⟨rfl, he1⟩
  have b1 := LBox.mk' he1
  have k0 := b1.c0; have k1 := b1.c1; have k2 := b1.c2
  clear he1
  go_wp2_with fail
  refine (stop_yes 10 3 2 4 4 _ ex_mvg).mono ?_
  rw [ex_stops]
  rintro e w2 ⟨v, rfl, hown, he2⟩
  have b2 := b1.later he2
  have k0 := b2.c0; have k1 := b2.c1; have k2 := b2.c2
  clear b1 he2
  go_wp2_with fail
  refine (needed_yes 10 3 2 4 4 _ ex_mvg).mono ?_
  rw [ex_dsum]
  rintro e w3 ⟨rfl, he3⟩
  have b3 := b2.later he3
  have o3 := hown.later he3
  clear b2 hown he3
  go_wp2_with fail
  refine (pos_any 0 0 0 3 (-3) 1 1 2 _).mono ?_
  rw [ex_pos]
  rintro e w4 ⟨rfl, he4⟩
  have b4 := b3.later he4
  have o4 := o3.later he4
  clear b3 o3 he4 k0 k1 k2
  have k0 := b4.c0; have k1 := b4.c1; have k2 := b4.c2; have hz4 := b4.nlt
  go_wp2_with fail
  with_reducible refine (smooth_any _ [2, 4, 5, 4, 2] 10 3 2 _ (SlI.lit [2, 4, 5, 4, 2] 2 5 5 _ rfl ?hb ?hcs (Ext.refl _)) (by decide)).mono ?_
  case hb => simp
  case hcs => rfl
  rw [ex_smth1]
  rintro e w5 ⟨rfl, he5⟩
  have b5 := b4.later ((((Ext.refl w4).alloc _).alloc _).trans he5)
  have o5 := o4.later ((((Ext.refl w4).alloc _).alloc _).trans he5)
  have p0 : w5.cell? ⟨w4.heap.size, 0, none⟩ = some (.int .i64 2) := by rw [he5.cell (by simp; omega)]; simp [go_sem]
  have p1 : w5.cell? ⟨w4.heap.size, 1, none⟩ = some (.int .i64 (-1)) := by rw [he5.cell (by simp; omega)]; simp [go_sem]
  have p2 : w5.cell? ⟨w4.heap.size, 2, none⟩ = some (.int .i64 1) := by rw [he5.cell (by simp; omega)]; simp [go_sem]
  have hz5 : w4.heap.size < w5.heap.size := by have := he5.size; simp at this; omega
  clear b4 o4 he5 k0 k1 k2 hz4
  have k0 := b5.c0; have k1 := b5.c1; have k2 := b5.c2; have hz := b5.nlt
  go_wp2_with fail
  with_reducible refine (smooth_any _ [3, 4] 10 3 2 _ (SlI.lit [3, 4] 2 2 2 _ rfl ?hb ?hcs (Ext.refl _)) (by decide)).mono ?_
  case hb => simp
  case hcs => rfl
  rw [ex_smth2]
  rintro e w6 ⟨rfl, he6⟩
  have b6 := b5.later (((Ext.refl w5).alloc _).trans he6)
  have o6 := o5.later (((Ext.refl w5).alloc _).trans he6)
  have q0 : w6.cell? ⟨w4.heap.size, 0, none⟩ = some (.int .i64 2) := by rw [he6.cell (by simp; omega), World.cell?_alloc_past _ _ _ hz5]; exact p0
  have q1 : w6.cell? ⟨w4.heap.size, 1, none⟩ = some (.int .i64 (-1)) := by rw [he6.cell (by simp; omega), World.cell?_alloc_past _ _ _ hz5]; exact p1
  have q2 : w6.cell? ⟨w4.heap.size, 2, none⟩ = some (.int .i64 1) := by rw [he6.cell (by simp; omega), World.cell?_alloc_past _ _ _ hz5]; exact p2
  have hz6 : w4.heap.size < w6.heap.size := by have := he6.size; simp at this; omega
  clear b5 o5 he6 k0 k1 k2 hz p0 p1 p2 hz5
  have hb := b6.nlt
  go_wp2_with fail
  with_reducible refine (same_any _ _ [2] [2] _ (o6.sl.later ((Ext.refl w6).alloc _)) (SlI.lit [2] 2 1 1 _ rfl ?hb ?hcs (Ext.refl _)) (by decide) (by decide)).mono ?_
  case hb => simp
  case hcs => rfl
  rintro e w7 ⟨rfl, he7⟩
  have q0 : w7.cell? ⟨w4.heap.size, 0, none⟩ = some (.int .i64 2) := by rw [he7.cell (by simp; omega), World.cell?_alloc_past _ _ _ hz6]; exact q0
  have q1 : w7.cell? ⟨w4.heap.size, 1, none⟩ = some (.int .i64 (-1)) := by rw [he7.cell (by simp; omega), World.cell?_alloc_past _ _ _ hz6]; exact q1
  have q2 : w7.cell? ⟨w4.heap.size, 2, none⟩ = some (.int .i64 1) := by rw [he7.cell (by simp; omega), World.cell?_alloc_past _ _ _ hz6]; exact q2
  have hE := b6.ext.trans (((Ext.refl w6).alloc _).trans he7)
  go_wp2
  go_ret
  exact ⟨rfl, hE⟩

end Go.Proofs.Ytcblahhfgkafhaa
