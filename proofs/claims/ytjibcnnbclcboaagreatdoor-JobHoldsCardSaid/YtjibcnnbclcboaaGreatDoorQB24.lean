/-
  Restart: all cases in one contract.
-/
import Derived.Test.YtjibcnnbclcboaaGreatDoorQB22
import Derived.Test.YtjibcnnbclcboaaGreatDoorQB23
namespace Go.Proofs.YtjibcnnbclcboaaGreatDoor
open Go.RowKit
set_option maxRecDepth 8000
set_option maxRecDepth 8000

set_option maxHeartbeats 4000000 in
theorem crestart_nil (v : Value) (l : List Mot) (i : Nat) (x y z safe : Int) (w : World) (h : SlM w v l) (hc : CapV v) (hi : i ≤ l.length) (hz : l.length = 0) :
    Calls Tryz.prog 38 #[v, .int .i64 i, Ps x y z, .int .i64 safe] w (RstPost w (rstL l i (x, y, z) safe) (rstE l i (x, y, z) safe)) := by
  have HS := Lib.hid h
  obtain ⟨ad, n, cap, b, off, hv, hnl, -⟩ := h
  obtain rfl : n = 0 := by omega
  obtain rfl : i = 0 := by omega
  have hlen : ∀ wx, (Builtin.len_ #[33] 3 #[v]).run Tryz.prog wx = .ok (.int .i64 0) wx := fun wx => by
    rw [hv, run_len_slice (P := Tryz.prog) (w := wx) 33 3 ad 0 cap (by rw [Tryz.elem_mots]; exact Tryz.underlying33)]
    rfl
  obtain ⟨cE, hE⟩ : ∃ c, c = rstE l 0 (x, y, z) safe := ⟨_, rfl⟩
  obtain ⟨cL, hL⟩ : ∃ c, c = rstL l 0 (x, y, z) safe := ⟨_, rfl⟩
  rw [← hE, ← hL]
  unfold rstE at hE
  unfold rstL at hL
  have hb0 : rBeg l 0 (x, y, z) = (x, y, z) := by unfold rBeg; rw [if_neg (by omega), if_neg (by omega)]
  rw [hb0, if_pos (eq3_iff.2 rfl : eq3 (x, y, z) (x, y, z) = true)] at hE hL
  clear hb0
  obtain ⟨a3, n3, c3, hsl, hs3⟩ := slice_at (by have := HS.out; rw [hv] at this; exact this) (hc _ _ _ hv) 0 (Nat.le_refl _)
  rw [← hv] at hsl
  simp only [Int.natCast_zero] at hsl
  have HS3 := Lib.hid hs3
  clear hs3 hv hnl hi
  have kcl : ∀ w', Ext w w' → Calls Tryz.prog 26 #[.slice a3 n3 c3] w' (RetMots w' (l.drop 0)) := fun w' he => clone_any _ _ w' (HS3.out.later he) (by rw [List.drop_zero]; omega)
  have KCL := Lib.hid kcl; clear kcl
  obtain ⟨MX, hMX⟩ : ∃ MX, (if z < 1000 then (1000 : Int) else z) = MX := ⟨_, rfl⟩
  have hMB : safe < MX ↔ (safe < z ∨ safe < z ∨ safe < 1000) := by rw [← hMX]; split <;> omega
  have heq := fun w => Tryz.eql_pos x y z x y z w
  have hself : eqP x y z x y z = true := by simp [eqP]
  rw [hself] at heq
  clear hself
  by_cases hbad : safe < z ∨ safe < z ∨ safe < 1000
  · rw [if_pos hbad] at hE hL
    subst hE hL
    have sx : decide (safe < MX) = true := by simpa using hMB.2 hbad
    clear hbad hMB
    go_enter Tryz.func38, Tryz.ntmps38
    go_wp2
    go_ret2
    exact ⟨_, rfl, nilM _, freNil _, (((Ext.refl w).alloc _).alloc _).alloc _⟩
  · rw [if_neg hbad] at hE hL
    subst hE hL
    have sx : decide (safe < MX) = false := by have := mt hMB.1 hbad; simp; omega
    clear hbad hMB
    go_enter Tryz.func38, Tryz.ntmps38
    go_wp2_with fail
    obtain ⟨W1, hW1, P1, hE1⟩ := P3Box.mk' w x y z
    have hz1 : W1.heap.size = w.heap.size + 1 := by rw [← hW1]; simp
    rw [hW1]; clear hW1
    obtain ⟨W2, hW2, Q2, hE2⟩ := P3Box.mk' W1 x y z
    rw [hW2]; clear hW2
    rw [hz1] at Q2
    have hE3 : Ext W2 (W2.alloc (.cells #[.int .i64 0, .int .i64 0, .int .i64 0, .int .i64 0, .int .i64 0, .int .i64 0, .int .i64 0, .int .i64 0, .int .i64 0] 49)) := (Ext.refl W2).alloc _
    refine (KCL.out _ ((hE1.trans hE2).trans hE3)).mono ?_
    rintro e w7 ⟨v7, rfl, own7, hx7⟩
    have hE7 := ((hE1.trans hE2).trans hE3).trans hx7
    have P7 := ((P1.later hE2).later hE3).later hx7
    have Q7 := (Q2.later hE3).later hx7
    obtain ⟨p0, p1, p2, -, -, -⟩ := P7.at
    obtain ⟨q0, q1, q2, -, -, -⟩ := Q7.at
    have OW7 := Lib.hid own7
    clear own7
    obtain ⟨a11, n11, c11, hv11⟩ := OW7.out.form
    subst hv11
    go_wp2
    go_ret2
    exact ⟨_, rfl, OW7.out.sl, OW7.out.fre (((hE1.trans hE2).trans hE3).size), hE7⟩

theorem crestart_any (v : Value) (l : List Mot) (i : Nat) (x y z safe : Int) (w : World) (h : SlM w v l) (hc : CapV v) (hi : i ≤ l.length) (hn : l.length ≤ 1000000) :
    Calls Tryz.prog 38 #[v, .int .i64 i, Ps x y z, .int .i64 safe] w (RstPost w (rstL l i (x, y, z) safe) (rstE l i (x, y, z) safe)) := by
  by_cases hz : l.length = 0
  · exact crestart_nil v l i x y z safe w h hc hi hz
  · by_cases h1 : i < l.length
    · exact crestart_in v l i x y z safe w h hc h1 hn
    · obtain ⟨ad, n, cap, b, off, hv, hnl, -⟩ := id h
      by_cases h2 : cap = l.length
      · exact crestart_end1 v l i x y z safe w h hc (by omega) (by omega) (fun a n' c e => by rw [hv] at e; cases e; exact h2) hn
      · exact crestart_end2 v l i x y z safe w h hc (by omega) (by omega) (fun a n' c e => by rw [hv] at e; cases e; exact h2) hn

end Go.Proofs.YtjibcnnbclcboaaGreatDoor
