/-
  Restart: all cases in one contract; the law, walked.
  ControllerRestart: Restart returns the specified motions, or the specified error: for every input the law returns true. No condition.
-/
import Derived.Test.YtfmjmabaabmgcaaQB22
import Derived.Test.YtfmjmabaabmgcaaQB23
import Derived.Test.YtfmjmabaabmgcaaQB13
namespace Go.Proofs.Ytfmjmabaabmgcaa
open Go.RowKit
set_option maxRecDepth 8000

set_option maxHeartbeats 4000000 in
theorem crestart_nil (v : Value) (l : List Mot) (i : Nat) (x y z safe : Int) (w : World) (h : SlM w v l) (hc : CapV v) (hi : i ≤ l.length) (hz : l.length = 0) :
    Calls Try.prog 25 #[v, .int .i64 i, Ps x y z, .int .i64 safe] w (RstPost w (rstL l i (x, y, z) safe) (rstE l i (x, y, z) safe)) := by
  have HS := Lib.hid h
  obtain ⟨ad, n, cap, b, off, hv, hnl, -⟩ := h
  obtain rfl : n = 0 := by omega
  obtain rfl : i = 0 := by omega
  have hlen : ∀ wx, (Builtin.len_ #[22] 3 #[v]).run Try.prog wx = .ok (.int .i64 0) wx := fun wx => by
    rw [hv, run_len_slice (P := Try.prog) (w := wx) 22 3 ad 0 cap (by rw [Try.elem_mots]; exact Try.underlying22)]
    rfl
  obtain ⟨cE, hE⟩ : ∃ c, c = rstE l 0 (x, y, z) safe := ⟨_, rfl⟩
  obtain ⟨cL, hL⟩ : ∃ c, c = rstL l 0 (x, y, z) safe := ⟨_, rfl⟩
  rw [← hE, ← hL]
  unfold rstE at hE
  unfold rstL at hL
  have hb0 : rBeg l 0 (x, y, z) = (x, y, z) := by unfold rBeg; rw [if_neg (by omega), if_neg (by omega)]
  rw [hb0, if_pos (eq3_iff.2 rfl : eq3 (x, y, z) (x, y, z) = true)] at hE hL
  clear hb0
  obtain ⟨a3, n3, c3, hsl, hs3⟩ := slice_at (by have := HS.out; rw [hv] at this; exact this) (hc _ _ _ hv) 0 (Nat.le_refl _)
  rw [← hv] at hsl
  simp only [Int.natCast_zero] at hsl
  have HS3 := Lib.hid hs3
  clear hs3 hv hnl hi
  have kcl : ∀ w', Ext w w' → Calls Try.prog 35 #[.slice a3 n3 c3] w' (RetMots w' (l.drop 0)) := fun w' he => clone_any _ _ w' (HS3.out.later he) (by rw [List.drop_zero]; omega)
  have KCL := Lib.hid kcl; clear kcl
  obtain ⟨MX, hMX⟩ : ∃ MX, (if z < 1000 then (1000 : Int) else z) = MX := ⟨_, rfl⟩
  have hMB : safe < MX ↔ (safe < z ∨ safe < z ∨ safe < 1000) := by rw [← hMX]; split <;> omega
  have heq := fun w => Try.eql_pos x y z x y z w
  have hself : eqP x y z x y z = true := by simp [eqP]
  rw [hself] at heq
  clear hself
  by_cases hbad : safe < z ∨ safe < z ∨ safe < 1000
  · rw [if_pos hbad] at hE hL
    subst hE hL
    have sx : decide (safe < MX) = true := by simpa using hMB.2 hbad
    clear hbad hMB
    go_enter Try.func25, Try.ntmps25
    go_wp2
    go_ret2
    exact ⟨_, rfl, nilM _, (((Ext.refl w).alloc _).alloc _).alloc _⟩
  · rw [if_neg hbad] at hE hL
    subst hE hL
    have sx : decide (safe < MX) = false := by have := mt hMB.1 hbad; simp; omega
    clear hbad hMB
    go_enter Try.func25, Try.ntmps25
    go_wp2_with fail
    obtain ⟨W1, hW1, P1, hE1⟩ := P3Box.mk' w x y z
    have hz1 : W1.heap.size = w.heap.size + 1 := by rw [← hW1]; simp
    rw [hW1]; clear hW1
    obtain ⟨W2, hW2, Q2, hE2⟩ := P3Box.mk' W1 x y z
    rw [hW2]; clear hW2
    rw [hz1] at Q2
    have hE3 : Ext W2 (W2.alloc (.cells #[.int .i64 0, .int .i64 0, .int .i64 0, .int .i64 0, .int .i64 0, .int .i64 0, .int .i64 0, .int .i64 0, .int .i64 0] 38)) := (Ext.refl W2).alloc _
    refine (KCL.out _ ((hE1.trans hE2).trans hE3)).mono ?_
    rintro e w7 ⟨v7, rfl, own7, hx7⟩
    have hE7 := ((hE1.trans hE2).trans hE3).trans hx7
    have P7 := ((P1.later hE2).later hE3).later hx7
    have Q7 := (Q2.later hE3).later hx7
    obtain ⟨p0, p1, p2, -, -, -⟩ := P7.at
    obtain ⟨q0, q1, q2, -, -, -⟩ := Q7.at
    have OW7 := Lib.hid own7
    clear own7
    obtain ⟨a11, n11, c11, hv11⟩ := OW7.out.form
    subst hv11
    go_wp2
    go_ret2
    exact ⟨_, rfl, OW7.out.sl, hE7⟩

theorem crestart_any (v : Value) (l : List Mot) (i : Nat) (x y z safe : Int) (w : World) (h : SlM w v l) (hc : CapV v) (hi : i ≤ l.length) (hn : l.length ≤ 1000000) :
    Calls Try.prog 25 #[v, .int .i64 i, Ps x y z, .int .i64 safe] w (RstPost w (rstL l i (x, y, z) safe) (rstE l i (x, y, z) safe)) := by
  by_cases hz : l.length = 0
  · exact crestart_nil v l i x y z safe w h hc hi hz
  · by_cases h1 : i < l.length
    · exact crestart_in v l i x y z safe w h hc h1 hn
    · obtain ⟨ad, n, cap, b, off, hv, hnl, -⟩ := id h
      by_cases h2 : cap = l.length
      · exact crestart_end1 v l i x y z safe w h hc (by omega) (by omega) (fun a n' c e => by rw [hv] at e; cases e; exact h2) hn
      · exact crestart_end2 v l i x y z safe w h hc (by omega) (by omega) (fun a n' c e => by rw [hv] at e; cases e; exact h2) hn

theorem rstL_len (l : List Mot) (i : Nat) (p : Int × Int × Int) (safe : Int) : (rstL l i p safe).length ≤ l.length + 4 := by
  have h1 : (l.drop i).length ≤ l.length := by rw [List.length_drop]; omega
  have h2 := rLegs_len p (rBeg l i p) safe (rRate l (rCount l i)) (rLike l i) 4
  unfold rstL
  split
  · simp
  · split
    · omega
    · split
      · simp
      · rw [List.length_append]; omega

set_option maxHeartbeats 8000000 in
theorem lawRestart (v : Value) (l : List Mot) (ix x y z x2 y2 safe : Int) (w : World) (h : SlM w v l) (hc : CapV v) (hn : l.length ≤ 9223372036854775807) :
    Calls Try.prog 5 #[v, .int .i64 ix, .agg #[.int .i64 x, .int .i64 y, .int .i64 z, .int .i64 x2, .int .i64 y2, .int .i64 safe]] w fun e w' => e = .returned (.bool true) ∧ Ext w w' := by
  have HS := Lib.hid h
  obtain ⟨ad, n, cap, b, off, hv, hnl, -⟩ := id h
  have hn2 : n ≤ 9223372036854775807 := by omega
  by_cases h20 : 20 < n
  · subst hv
    have h20' : decide ((n : Int) > 20) = true := by simp; omega
    clear h hnl hn
    go_enter Try.func5, Try.ntmps5
    go_wp2_with fail
    refine (awake_any _).mono ?_
    rintro e w3 ⟨rfl, hx3⟩
    go_wp2_with fail
    refine (awake_any _).mono ?_
    rintro e w4 ⟨rfl, hx4⟩
    go_wp2
    go_ret
    exact ⟨rfl, ((Ext.refl w).alloc _).trans (hx3.trans hx4)⟩
  · have hl6 : l.length ≤ 1000000 := by omega
    have h20' : decide ((n : Int) > 20) = false := by simp; omega
    have hab : ∃ (c : Int) (L : List Mot), L.length ≤ 1000000000000 ∧ (∀ w', SlM w' v l → Calls Try.prog 25 #[v, .int .i64 ix, Ps x y z, .int .i64 safe] w' (RstPost w' L c)) ∧ (∀ w', SlM w' v l → Calls Try.prog 26 #[v, .int .i64 ix, Ps x y z, .int .i64 safe] w' (RstPost w' L c)) := by
      by_cases hb : ix < 0 ∨ (l.length : Int) < ix
      · exact ⟨1, [], by simp, fun w' h' => crestart_bad v l ix x y z safe w' h' hb, fun w' h' => rrestart_bad v l ix x y z safe w' h' hb⟩
      · obtain ⟨i, rfl⟩ : ∃ i : Nat, ix = i := ⟨ix.toNat, by omega⟩
        have hi : i ≤ l.length := by omega
        exact ⟨rstE l i (x, y, z) safe, rstL l i (x, y, z) safe, by have := rstL_len l i (x, y, z) safe; omega, fun w' h' => crestart_any v l i x y z safe w' h' hc hi hl6, fun w' h' => rrestart_any v l i x y z safe w' h' hc hi hl6⟩
    obtain ⟨c, L, hLL, ka, kb⟩ := hab
    have KA := Lib.hid ka; have KB := Lib.hid kb
    subst hv
    clear h hnl hn ka kb hl6
    go_enter Try.func5, Try.ntmps5
    go_wp2_with fail
    obtain ⟨W1, hW1⟩ : ∃ W1 : World, w.alloc (.cells #[.int .i64 x, .int .i64 y, .int .i64 z, .int .i64 x2, .int .i64 y2, .int .i64 safe] 53) = W1 := ⟨_, rfl⟩
    have hE1 : Ext w W1 := by rw [← hW1]; exact (Ext.refl w).alloc _
    have g0 : W1.cell? ⟨w.heap.size, 0, none⟩ = some (.int .i64 x) := by rw [← hW1]; simp [go_sem]
    have g1 : W1.cell? ⟨w.heap.size, 1, none⟩ = some (.int .i64 y) := by rw [← hW1]; simp [go_sem]
    have g2 : W1.cell? ⟨w.heap.size, 2, none⟩ = some (.int .i64 z) := by rw [← hW1]; simp [go_sem]
    have g5 : W1.cell? ⟨w.heap.size, 5, none⟩ = some (.int .i64 safe) := by rw [← hW1]; simp [go_sem]
    have hlt : w.heap.size < W1.heap.size := by rw [← hW1]; simp
    rw [hW1]; clear hW1
    refine (awake_any W1).mono ?_
    rintro e w3 ⟨rfl, hx3⟩
    have e0 : w3.cell? ⟨w.heap.size, 0, none⟩ = _ := (hx3.cell (p := ⟨w.heap.size, 0, none⟩) hlt).trans g0
    have e1 : w3.cell? ⟨w.heap.size, 1, none⟩ = _ := (hx3.cell (p := ⟨w.heap.size, 1, none⟩) hlt).trans g1
    have e2 : w3.cell? ⟨w.heap.size, 2, none⟩ = _ := (hx3.cell (p := ⟨w.heap.size, 2, none⟩) hlt).trans g2
    have e5 : w3.cell? ⟨w.heap.size, 5, none⟩ = _ := (hx3.cell (p := ⟨w.heap.size, 5, none⟩) hlt).trans g5
    have hlt3 : w.heap.size < w3.heap.size := Nat.lt_of_lt_of_le hlt hx3.size
    have hE3 := hE1.trans hx3
    clear g0 g1 g2 g5 hlt hx3 hE1
    go_wp2_with fail
    refine (KA.out _ (HS.out.later hE3)).mono ?_
    rintro e w4 ⟨va, rfl, hsa, hx4⟩
    have d0 : w4.cell? ⟨w.heap.size, 0, none⟩ = _ := (hx4.cell (p := ⟨w.heap.size, 0, none⟩) hlt3).trans e0
    have d1 : w4.cell? ⟨w.heap.size, 1, none⟩ = _ := (hx4.cell (p := ⟨w.heap.size, 1, none⟩) hlt3).trans e1
    have d2 : w4.cell? ⟨w.heap.size, 2, none⟩ = _ := (hx4.cell (p := ⟨w.heap.size, 2, none⟩) hlt3).trans e2
    have d5 : w4.cell? ⟨w.heap.size, 5, none⟩ = _ := (hx4.cell (p := ⟨w.heap.size, 5, none⟩) hlt3).trans e5
    have hE4 := hE3.trans hx4
    clear e0 e1 e2 e5
    go_wp2_with fail
    refine (KB.out _ (HS.out.later hE4)).mono ?_
    rintro e w5 ⟨vb, rfl, hsb, hx5⟩
    have hE5 := hE4.trans hx5
    have ks := rsame_any va vb L L w5 (hsa.later hx5) hsb hLL hLL
    have ed : decide (L = L) = true := decide_eq_true rfl
    rw [ed] at ks
    clear ed
    go_wp2_with fail
    refine ks.mono ?_
    rintro e w6 ⟨rfl, hx6⟩
    go_wp2
    go_ret
    exact ⟨rfl, hE5.trans hx6⟩

section
variable {H : Type} {enc : TypeId × Value → H} {W : World} {base : Nat} {v : Value} {d : DataW H} {p : List MemPlace}
open Go.ChangeShapes Go.WideShapes Go.ChangeAt Go.RowKit Go.Joins Go.Deep
/-- The slice lies within its capacity. -/
theorem argC_of (hv : Value.okWide Try.prog W .any base 22 v) (h : DataW.Trod enc Try.prog W 0 (fun _ => true) true 22 v d p) : CapV v := by
  obtain ⟨a0, len, cap, rfl⟩ := okWide_slice Try.underlying22 hv
  obtain ⟨fuel, hf⟩ := h
  rcases open_slice Try.underlying22 hf with ⟨hcs, _⟩ | ⟨x, l, c, m, n, D, Pl, hcs, _, hl, hm, hmm, _, hel⟩
  · simp [Value.cells] at hcs
    obtain ⟨rfl, rfl, rfl⟩ := hcs
    intro a n c e; cases e; omega
  · simp [Value.cells] at hcs
    obtain ⟨rfl, rfl, rfl⟩ := hcs
    intro a n c e; cases e; omega

/-- Two positions. -/
theorem pos2_of (hv : Value.okWide Try.prog W .any base 53 v) (h : DataW.Trod enc Try.prog W 0 (fun _ => true) true 53 v d p) : ∃ a b c a2 b2 c2 : Int, v = .agg #[.int .i64 a, .int .i64 b, .int .i64 c, .int .i64 a2, .int .i64 b2, .int .i64 c2] := by
  have hC : Try.prog.cellsOf 53 = 6 := by kernel_rfl
  obtain ⟨cs, rfl, hsz⟩ := okWide_arr Try.underlying53 hv
  obtain ⟨fuel, hf⟩ := h
  obtain ⟨xs, m, _, _, hlen, hxs, hall⟩ := DataW.trod_array Try.underlying53 hf
  have h1 : Try.prog.cellsOf 36 = 3 := by kernel_rfl
  simp only [Value.cells, h1] at hall hlen
  rw [hC] at hsz
  obtain ⟨l⟩ := cs
  match l, hsz with
  | [c0, c1, c2, c3, c4, c5], _ =>
    have g0 := hall 0 (by omega)
    have g1 := hall 1 (by omega)
    simp [hxs] at g0 g1
    obtain ⟨a, b, c, rfl, rfl, rfl, _, _, _⟩ := pos3_of (by simp) g0
    obtain ⟨a2, b2, c2', rfl, rfl, rfl, _, _, _⟩ := pos3_of (by simp) g1
    exact ⟨a, b, c, a2, b2, c2', rfl⟩
end

end Go.Proofs.Ytfmjmabaabmgcaa

namespace Go.Proofs.Ytfmjmabaabmgcaa
open Go.ChangeShapes Go.WideShapes Go.ChangeAt Go.RowKit Go.Joins

set_option maxRecDepth 100000 in
theorem liftControllerRestart (os : Os) (started : os.Started) (H : Type) (enc : TypeId × Value → H) :
    ReturnsInHanded {} Try.checked os 5 .any (Rows.controllerRestartSpec.pre6 enc Try.prog Try.f5 Rows.controllerRestartRow.domain false) (Rows.controllerRestartSpec.post enc Try.prog Try.f5 false true false false) := by
  refine returnsInHanded_of_change (C := Try.checked) Try.own started (by kernel_rfl) Try.func5
    (ChangeSpec.witness6 (enc := enc) (C := Try.checked) false ⟨#[], #[.slice none 0 0, .int .i64 0, .agg #[.int .i64 0, .int .i64 0, .int .i64 0, .int .i64 0, .int .i64 0, .int .i64 0]], []⟩ 8 (by kernel_rfl) (by kernel_rfl) (by kernel_rfl) (by kernel_rfl)) ?_
  intro W base args ds gs before hval0 hW hcnd _
  have hval : ∀ (j : Nat) t v, Try.f5.params[j]? = some t → args[j]? = some v → Value.okWide Try.prog W .any base t v := hval0
  have hW' := hW
  obtain ⟨p, q, hA0, hV, rfl, hfz, hnd⟩ := hW
  have hA : DataW.TrodAll enc Try.prog W 0 (fun _ => true) true Try.f5.params.toList args.toList ds p := hA0
  rw [Try.params5] at hA hval
  obtain ⟨v0, vs0, d0, ds0, p0, q0, hargs, rfl, rfl, h0, r0⟩ := trodAll_cons hA
  obtain ⟨v1, vs1, d1, ds1, p1, q1, rfl, rfl, rfl, h1, r1⟩ := trodAll_cons r0
  obtain ⟨v2, vs2, d2, ds2, p2, q2, rfl, rfl, rfl, h2, r2⟩ := trodAll_cons r1
  obtain ⟨rfl, rfl, rfl⟩ := trodAll_nil r2
  obtain rfl : args = #[v0, v1, v2] := by cases args; simp_all
  obtain ⟨rfl, rfl⟩ := trodVars_none hV
  have lt0 : ∀ x ∈ p0, x.block < W.heap.size := by obtain ⟨m, hm⟩ := h0; exact DataW.trod_lt m _ _ _ hm
  have lt1 : ∀ x ∈ p1, x.block < W.heap.size := by obtain ⟨m, hm⟩ := h1; exact DataW.trod_lt m _ _ _ hm
  have lt2 : ∀ x ∈ p2, x.block < W.heap.size := by obtain ⟨m, hm⟩ := h2; exact DataW.trod_lt m _ _ _ hm
  have k0 := argC_of (hval 0 22 v0 rfl rfl) h0
  obtain ⟨l0, a0, w0, n0⟩ := argM_of (hval 0 22 v0 rfl rfl) h0
  obtain ⟨x1, e1, _, _, b1⟩ := open_int Try.underlying3 (hval 1 3 v1 rfl rfl) h1
  subst e1
  obtain ⟨x2, y2, z2, s2, t2, u2, e2⟩ := pos2_of (hval 2 53 v2 rfl rfl) h2
  subst e2
  clear hA0 hval0
  refine (lawRestart v0 l0 x1 x2 y2 z2 s2 t2 u2 W a0 k0 n0).mono fun e W' ⟨he, bel⟩ => ?_
  subst he
  exact ⟨_, rfl, _, _, _, [], _, [], hW', trodAll_mk1 (shut_bool Try.underlying4 _), (trodAll_cons_mk (Below.trod Try.laidOut (by kernel_rfl) (of_decide_eq_true (by kernel_rfl)) h0 bel.out lt0) (trodAll_cons_mk (Below.trod Try.laidOut (by kernel_rfl) (of_decide_eq_true (by kernel_rfl)) h1 bel.out lt1) (trodAll_cons_mk (Below.trod Try.laidOut (by kernel_rfl) (of_decide_eq_true (by kernel_rfl)) h2 bel.out lt2) trodAll_mk0))), rfl, bel.out.frame _, fun h => by cases h⟩

/-- The statement. -/
theorem crestart_holds : Rows.ControllerRestartSaid :=
  OpenClaim.holds_of_wide 5 Try.f5 rfl rfl rfl rfl rfl rfl rfl ⟨rfl, rfl, rfl, rfl, rfl⟩ rfl rfl rfl rfl rfl (by kernel_rfl) Try.func5 (by kernel_rfl)
    (of_decide_eq_true (by kernel_rfl)) (by unfold Func.isWrapper; first | (rw [if_pos (by decide +kernel)]; kernel_rfl) | (rw [if_neg (by decide +kernel)]; exact ⟨rfl, rfl⟩))
    (fun os started H enc _ => liftControllerRestart os started H enc)

#print axioms crestart_holds
end Go.Proofs.Ytfmjmabaabmgcaa
