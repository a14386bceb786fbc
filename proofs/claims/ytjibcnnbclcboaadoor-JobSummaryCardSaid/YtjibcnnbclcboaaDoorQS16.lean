/-
  Restart: all cases in one contract.
  The machine of a job in memory; walks: done, start.
  Walks: start of a machine; what a controller's call leaves that was made after it.
  Walks: an event that is a feed hold.
  Walks: what a machine does when its tool breaks.
  Walks: an event of a machine.
-/
import Derived.Test.YtjibcnnbclcboaaDoorQS14
import Derived.Test.YtjibcnnbclcboaaDoorQS15
import Derived.Test.YtjibcnnbclcboaaDoorQS12
namespace Go.Proofs.YtjibcnnbclcboaaDoor
open Go.RowKit
set_option maxRecDepth 8000
set_option maxRecDepth 8000

set_option maxHeartbeats 4000000 in
theorem crestart_nil (v : Value) (l : List Mot) (i : Nat) (x y z safe : Int) (w : World) (h : SlM w v l) (hc : CapV v) (hi : i ≤ l.length) (hz : l.length = 0) :
    Calls Tryd.prog 54 #[v, .int .i64 i, Ps x y z, .int .i64 safe] w (RstPost w (rstL l i (x, y, z) safe) (rstE l i (x, y, z) safe)) := by
  have HS := Lib.hid h
  obtain ⟨ad, n, cap, b, off, hv, hnl, -⟩ := h
  obtain rfl : n = 0 := by omega
  obtain rfl : i = 0 := by omega
  have hlen : ∀ wx, (Builtin.len_ #[30] 3 #[v]).run Tryd.prog wx = .ok (.int .i64 0) wx := fun wx => by
    rw [hv, run_len_slice (P := Tryd.prog) (w := wx) 30 3 ad 0 cap (by rw [Tryd.elem_mots]; exact Tryd.underlying30)]
    rfl
  obtain ⟨cE, hE⟩ : ∃ c, c = rstE l 0 (x, y, z) safe := ⟨_, rfl⟩
  obtain ⟨cL, hL⟩ : ∃ c, c = rstL l 0 (x, y, z) safe := ⟨_, rfl⟩
  rw [← hE, ← hL]
  unfold rstE at hE
  unfold rstL at hL
  have hb0 : rBeg l 0 (x, y, z) = (x, y, z) := by unfold rBeg; rw [if_neg (by omega), if_neg (by omega)]
  rw [hb0, if_pos (eq3_iff.2 rfl : eq3 (x, y, z) (x, y, z) = true)] at hE hL
  clear hb0
  obtain ⟨a3, n3, c3, hsl, hs3⟩ := slice_at (by have := HS.out; rw [hv] at this; exact this) (hc _ _ _ hv) 0 (Nat.le_refl _)
  rw [← hv] at hsl
  simp only [Int.natCast_zero] at hsl
  have HS3 := Lib.hid hs3
  clear hs3 hv hnl hi
  have kcl : ∀ w', Ext w w' → Calls Tryd.prog 19 #[.slice a3 n3 c3] w' (RetMots w' (l.drop 0)) := fun w' he => clone_any _ _ w' (HS3.out.later he) (by rw [List.drop_zero]; omega)
  have KCL := Lib.hid kcl; clear kcl
  obtain ⟨MX, hMX⟩ : ∃ MX, (if z < 1000 then (1000 : Int) else z) = MX := ⟨_, rfl⟩
  have hMB : safe < MX ↔ (safe < z ∨ safe < z ∨ safe < 1000) := by rw [← hMX]; split <;> omega
  have heq := fun w => Tryd.eql_pos x y z x y z w
  have hself : eqP x y z x y z = true := by simp [eqP]
  rw [hself] at heq
  clear hself
  by_cases hbad : safe < z ∨ safe < z ∨ safe < 1000
  · rw [if_pos hbad] at hE hL
    subst hE hL
    have sx : decide (safe < MX) = true := by simpa using hMB.2 hbad
    clear hbad hMB
    go_enter Tryd.func54, Tryd.ntmps54
    go_wp2
    go_ret2
    exact ⟨_, rfl, nilM _, freNil _, (((Ext.refl w).alloc _).alloc _).alloc _⟩
  · rw [if_neg hbad] at hE hL
    subst hE hL
    have sx : decide (safe < MX) = false := by have := mt hMB.1 hbad; simp; omega
    clear hbad hMB
    go_enter Tryd.func54, Tryd.ntmps54
    go_wp2_with fail
    obtain ⟨W1, hW1, P1, hE1⟩ := P3Box.mk' w x y z
    have hz1 : W1.heap.size = w.heap.size + 1 := by rw [← hW1]; simp
    rw [hW1]; clear hW1
    obtain ⟨W2, hW2, Q2, hE2⟩ := P3Box.mk' W1 x y z
    rw [hW2]; clear hW2
    rw [hz1] at Q2
    have hE3 : Ext W2 (W2.alloc (.cells #[.int .i64 0, .int .i64 0, .int .i64 0, .int .i64 0, .int .i64 0, .int .i64 0, .int .i64 0, .int .i64 0, .int .i64 0] 49)) := (Ext.refl W2).alloc _
    refine (KCL.out _ ((hE1.trans hE2).trans hE3)).mono ?_
    rintro e w7 ⟨v7, rfl, own7, hx7⟩
    have hE7 := ((hE1.trans hE2).trans hE3).trans hx7
    have P7 := ((P1.later hE2).later hE3).later hx7
    have Q7 := (Q2.later hE3).later hx7
    obtain ⟨p0, p1, p2, -, -, -⟩ := P7.at
    obtain ⟨q0, q1, q2, -, -, -⟩ := Q7.at
    have OW7 := Lib.hid own7
    clear own7
    obtain ⟨a11, n11, c11, hv11⟩ := OW7.out.form
    subst hv11
    go_wp2
    go_ret2
    exact ⟨_, rfl, OW7.out.sl, OW7.out.fre (((hE1.trans hE2).trans hE3).size), hE7⟩

theorem crestart_any (v : Value) (l : List Mot) (i : Nat) (x y z safe : Int) (w : World) (h : SlM w v l) (hc : CapV v) (hi : i ≤ l.length) (hn : l.length ≤ 1000000) :
    Calls Tryd.prog 54 #[v, .int .i64 i, Ps x y z, .int .i64 safe] w (RstPost w (rstL l i (x, y, z) safe) (rstE l i (x, y, z) safe)) := by
  by_cases hz : l.length = 0
  · exact crestart_nil v l i x y z safe w h hc hi hz
  · by_cases h1 : i < l.length
    · exact crestart_in v l i x y z safe w h hc h1 hn
    · obtain ⟨ad, n, cap, b, off, hv, hnl, -⟩ := id h
      by_cases h2 : cap = l.length
      · exact crestart_end1 v l i x y z safe w h hc (by omega) (by omega) (fun a n' c e => by rw [hv] at e; cases e; exact h2) hn
      · exact crestart_end2 v l i x y z safe w h hc (by omega) (by omega) (fun a n' c e => by rw [hv] at e; cases e; exact h2) hn

end Go.Proofs.YtjibcnnbclcboaaDoor

namespace Go.Proofs.YtjibcnnbclcboaaDoor
open Go.RowKit
set_option maxRecDepth 8000
set_option maxRecDepth 8000

/-- The cells of a machine. -/
structure JBox (w : World) (G : Nat) (vm vc vps : Value) (s a j safe : Int) (held : Bool) (till : Int) : Prop where
  lt : G < w.heap.size
  c0 : w.cell? ⟨G, 0, none⟩ = some vm
  c1 : w.cell? ⟨G, 1, none⟩ = some (.int .i64 s)
  c2 : w.cell? ⟨G, 2, none⟩ = some (.int .i64 a)
  c3 : w.cell? ⟨G, 3, none⟩ = some (.int .i64 j)
  c4 : w.cell? ⟨G, 4, none⟩ = some (.int .i64 safe)
  c5 : w.cell? ⟨G, 5, none⟩ = some vc
  c6 : w.cell? ⟨G, 6, none⟩ = some vps
  c7 : w.cell? ⟨G, 7, none⟩ = some (.bool held)
  c8 : w.cell? ⟨G, 8, none⟩ = some (.int .i64 till)
  c9 : ∀ i, 9 ≤ i → w.cell? ⟨G, i, none⟩ = none
  fr : ∀ i, i < 9 → w.frozen? ⟨G, i, none⟩ = false
  isM : ∃ x n c, vm = .slice x n c
  isC : ∃ x, vc = .pointer x
  isP : ∃ x n c, vps = .slice x n c
section
variable {w w' : World} {G : Nat} {vm vc vps : Value} {s a j safe till : Int} {held : Bool}
theorem JBox.only {D : Nat → Prop} (h : JBox w G vm vc vps s a j safe held till) (k : Only D w w') (hd : ¬ D G) : JBox w' G vm vc vps s a j safe held till where
  lt := Nat.lt_of_lt_of_le h.lt k.size
  c0 := by rw [k.cell (p := ⟨G, _, none⟩) h.lt hd]; exact h.c0
  c1 := by rw [k.cell (p := ⟨G, _, none⟩) h.lt hd]; exact h.c1
  c2 := by rw [k.cell (p := ⟨G, _, none⟩) h.lt hd]; exact h.c2
  c3 := by rw [k.cell (p := ⟨G, _, none⟩) h.lt hd]; exact h.c3
  c4 := by rw [k.cell (p := ⟨G, _, none⟩) h.lt hd]; exact h.c4
  c5 := by rw [k.cell (p := ⟨G, _, none⟩) h.lt hd]; exact h.c5
  c6 := by rw [k.cell (p := ⟨G, _, none⟩) h.lt hd]; exact h.c6
  c7 := by rw [k.cell (p := ⟨G, _, none⟩) h.lt hd]; exact h.c7
  c8 := by rw [k.cell (p := ⟨G, _, none⟩) h.lt hd]; exact h.c8
  c9 := fun i hi => by rw [k.cell (p := ⟨G, _, none⟩) h.lt hd]; exact h.c9 i hi
  fr := fun i hi => by rw [k.frozen (p := ⟨G, _, none⟩) h.lt hd]; exact h.fr i hi
  isM := h.isM
  isC := h.isC
  isP := h.isP
theorem JBox.later (h : JBox w G vm vc vps s a j safe held till) (k : Ext w w') : JBox w' G vm vc vps s a j safe held till := h.only (D := fun _ => False) (Only.of_ext k) (fun h => h)
theorem cell_set_none {N i k : Nat} (v : Value) (h : i ≠ k) (hx : w.cell? ⟨N, i, none⟩ = none) : (w.setCell ⟨N, k, none⟩ v).cell? ⟨N, i, none⟩ = none := cell_set_off v none h hx

theorem JBox.set0 (h : JBox w G vm vc vps s a j safe held till) (x : Option Addr) (n c : Nat) : JBox (w.setCell ⟨G, 0, none⟩ (.slice x n c)) G (.slice x n c) vc vps s a j safe held till where
  lt := by simpa using h.lt
  c0 := by simp [go_sem, h.c0]
  c1 := cell_set_off _ _ (by decide) h.c1
  c2 := cell_set_off _ _ (by decide) h.c2
  c3 := cell_set_off _ _ (by decide) h.c3
  c4 := cell_set_off _ _ (by decide) h.c4
  c5 := cell_set_off _ _ (by decide) h.c5
  c6 := cell_set_off _ _ (by decide) h.c6
  c7 := cell_set_off _ _ (by decide) h.c7
  c8 := cell_set_off _ _ (by decide) h.c8
  c9 := fun i hi => cell_set_none _ (by omega) (h.c9 i hi)
  fr := fun i hi => by simpa using h.fr i hi
  isM := ⟨x, n, c, rfl⟩
  isC := h.isC
  isP := h.isP

theorem JBox.set5 (h : JBox w G vm vc vps s a j safe held till) (x : Option Addr) : JBox (w.setCell ⟨G, 5, none⟩ (.pointer x)) G vm (.pointer x) vps s a j safe held till where
  lt := by simpa using h.lt
  c0 := cell_set_off _ _ (by decide) h.c0
  c1 := cell_set_off _ _ (by decide) h.c1
  c2 := cell_set_off _ _ (by decide) h.c2
  c3 := cell_set_off _ _ (by decide) h.c3
  c4 := cell_set_off _ _ (by decide) h.c4
  c5 := by simp [go_sem, h.c5]
  c6 := cell_set_off _ _ (by decide) h.c6
  c7 := cell_set_off _ _ (by decide) h.c7
  c8 := cell_set_off _ _ (by decide) h.c8
  c9 := fun i hi => cell_set_none _ (by omega) (h.c9 i hi)
  fr := fun i hi => by simpa using h.fr i hi
  isM := h.isM
  isC := ⟨x, rfl⟩
  isP := h.isP

theorem JBox.set6 (h : JBox w G vm vc vps s a j safe held till) (x : Option Addr) (n c : Nat) : JBox (w.setCell ⟨G, 6, none⟩ (.slice x n c)) G vm vc (.slice x n c) s a j safe held till where
  lt := by simpa using h.lt
  c0 := cell_set_off _ _ (by decide) h.c0
  c1 := cell_set_off _ _ (by decide) h.c1
  c2 := cell_set_off _ _ (by decide) h.c2
  c3 := cell_set_off _ _ (by decide) h.c3
  c4 := cell_set_off _ _ (by decide) h.c4
  c5 := cell_set_off _ _ (by decide) h.c5
  c6 := by simp [go_sem, h.c6]
  c7 := cell_set_off _ _ (by decide) h.c7
  c8 := cell_set_off _ _ (by decide) h.c8
  c9 := fun i hi => cell_set_none _ (by omega) (h.c9 i hi)
  fr := fun i hi => by simpa using h.fr i hi
  isM := h.isM
  isC := h.isC
  isP := ⟨x, n, c, rfl⟩

theorem JBox.set7 (h : JBox w G vm vc vps s a j safe held till) (b : Bool) : JBox (w.setCell ⟨G, 7, none⟩ (.bool b)) G vm vc vps s a j safe b till where
  lt := by simpa using h.lt
  c0 := cell_set_off _ _ (by decide) h.c0
  c1 := cell_set_off _ _ (by decide) h.c1
  c2 := cell_set_off _ _ (by decide) h.c2
  c3 := cell_set_off _ _ (by decide) h.c3
  c4 := cell_set_off _ _ (by decide) h.c4
  c5 := cell_set_off _ _ (by decide) h.c5
  c6 := cell_set_off _ _ (by decide) h.c6
  c7 := by simp [go_sem, h.c7]
  c8 := cell_set_off _ _ (by decide) h.c8
  c9 := fun i hi => cell_set_none _ (by omega) (h.c9 i hi)
  fr := fun i hi => by simpa using h.fr i hi
  isM := h.isM
  isC := h.isC
  isP := h.isP

theorem JBox.set8 (h : JBox w G vm vc vps s a j safe held till) (t : Int) : JBox (w.setCell ⟨G, 8, none⟩ (.int .i64 t)) G vm vc vps s a j safe held t where
  lt := by simpa using h.lt
  c0 := cell_set_off _ _ (by decide) h.c0
  c1 := cell_set_off _ _ (by decide) h.c1
  c2 := cell_set_off _ _ (by decide) h.c2
  c3 := cell_set_off _ _ (by decide) h.c3
  c4 := cell_set_off _ _ (by decide) h.c4
  c5 := cell_set_off _ _ (by decide) h.c5
  c6 := cell_set_off _ _ (by decide) h.c6
  c7 := cell_set_off _ _ (by decide) h.c7
  c8 := by simp [go_sem, h.c8]
  c9 := fun i hi => cell_set_none _ (by omega) (h.c9 i hi)
  fr := fun i hi => by simpa using h.fr i hi
  isM := h.isM
  isC := h.isC
  isP := h.isP


/-- A slice of motions does not lie in the machine's cells. -/
theorem JBox.apart (h : JBox w G vm vc vps s a j safe held till) {v : Value} {l : List Mot} (hs : SlM w v l) (hl : l ≠ []) : v.ownBlock ≠ some G := by
  intro e
  obtain ⟨ad, n, cap, b, off, rfl, hn, h3, -, h4⟩ := hs
  have hn0 : 0 < n := by rw [hn]; exact List.length_pos_iff.2 hl
  have had : ad = some ⟨b, off, none⟩ := h3.resolve_left (by omega)
  subst had
  obtain rfl : b = G := by simpa [Value.ownBlock] using e
  obtain ⟨_, hc⟩ := h4 0 hn0
  rw [Nat.zero_mul, Nat.add_zero] at hc
  obtain ⟨x0, n0, k0, rfl⟩ := h.isM
  obtain ⟨x1, rfl⟩ := h.isC
  obtain ⟨x2, n2, k2, rfl⟩ := h.isP
  have q := hc.c0
  by_cases g : 9 ≤ off
  · rw [h.c9 off g] at q; cases q
  · have : off = 0 ∨ off = 1 ∨ off = 2 ∨ off = 3 ∨ off = 4 ∨ off = 5 ∨ off = 6 ∨ off = 7 ∨ off = 8 := by omega
    rcases this with rfl | rfl | rfl | rfl | rfl | rfl | rfl | rfl | rfl
    · rw [h.c0] at q; cases q
    · have := hc.c4; rw [h.c5] at this; cases this
    · have := hc.c3; rw [h.c5] at this; cases this
    · have := hc.c2; rw [h.c5] at this; cases this
    · have := hc.c1; rw [h.c5] at this; cases this
    · rw [h.c5] at q; cases q
    · rw [h.c6] at q; cases q
    · rw [h.c7] at q; cases q
    · have := hc.c1; rw [h.c9 9 (by omega)] at this; cases this
end

theorem SlM.only' {D : Nat → Prop} {w w' : World} {v : Value} {l : List Mot} (h : SlM w v l) (k : Only D w w') (hd : l ≠ [] → Off D v) : SlM w' v l := by
  by_cases hl : l = []
  · subst hl
    obtain ⟨ad, n, cap, b, off, rfl, hn, h3, h5, h4⟩ := h
    exact ⟨ad, n, cap, b, off, rfl, hn, h3, h5, fun i hi => by simp at hn; omega⟩
  · exact h.only k (hd hl)
theorem SlM.below {w : World} {v : Value} {l : List Mot} (h : SlM w v l) (hl : l ≠ []) {b : Nat} (hb : v.ownBlock = some b) : b < w.heap.size := by
  obtain ⟨ad, n, cap, b', off, rfl, hn, h3, -, h4⟩ := h
  have hn0 : 0 < n := by rw [hn]; exact List.length_pos_iff.2 hl
  have had : ad = some ⟨b', off, none⟩ := h3.resolve_left (by omega)
  subst had
  obtain rfl : b' = b := by simpa [Value.ownBlock] using hb
  exact (h4 0 hn0).1
theorem SlM.is {w : World} {v : Value} {l : List Mot} (h : SlM w v l) : ∃ x c, v = .slice x l.length c := by
  obtain ⟨ad, n, cap, b', off, rfl, hn, _⟩ := h
  exact ⟨ad, cap, by rw [hn]⟩

/-- A machine in memory: what lies below the base of its controller stays as it is while the controller works. -/
structure JInv (w0 : World) (G B : Nat) (w : World) (s a j safe : Int) (J : JobS) (vm vps : Value) (N : Nat) : Prop where
  box : JBox w G vm (.pointer (some ⟨N, 0, none⟩)) vps s a j safe J.held J.till
  base : w0.heap.size ≤ G
  lt : G < B
  sm : SlM w vm J.l
  cap : CapV vm
  lm : J.l ≠ [] → ∀ b, vm.ownBlock = some b → b < B
  sp : OwnM w0.heap.size w vps J.ps
  lp : ∀ b, vps.ownBlock = some b → b < B ∧ b ≠ G
  mp : J.l ≠ [] → ∀ b, vm.ownBlock = some b → vps.ownBlock ≠ some b
  ctl : CIn B w N J.C
  ext : Ext w0 w
theorem JInv.later {w0 : World} {G B : Nat} {w w' : World} {s a j safe : Int} {J : JobS} {vm vps : Value} {N : Nat} (h : JInv w0 G B w s a j safe J vm vps N) (k : Ext w w') : JInv w0 G B w' s a j safe J vm vps N :=
  ⟨h.box.later k, h.base, h.lt, h.sm.later k, h.cap, h.lm, h.sp.later k, h.lp, h.mp, h.ctl.later k, h.ext.trans k⟩
/-- The controller has worked. -/
theorem JInv.work {w0 : World} {G B : Nat} {w w' : World} {s a j safe : Int} {J : JobS} {vm vps : Value} {N : Nat} {C' : Ctl} (h : JInv w0 G B w s a j safe J vm vps N) (hc : CIn B w' N C') (k : Only (fun k => B ≤ k) w w') : JInv w0 G B w' s a j safe { J with C := C' } vm vps N :=
  ⟨h.box.only k (by have := h.lt; omega), h.base, h.lt, h.sm.only' k (fun hl b hb hB => by have := h.lm hl b hb; omega), h.cap, h.lm, h.sp.only k (fun b hb hB => by have := (h.lp b hb).1; omega), h.lp, h.mp, hc, h.ext.only k (fun i hi hB => by have := h.base; have := h.lt; omega)⟩
def JIn (w0 : World) (G : Nat) (w : World) (s a j safe : Int) (J : JobS) : Prop := ∃ B vm vps N, JInv w0 G B w s a j safe J vm vps N
theorem JIn.later {w0 : World} {G : Nat} {w w' : World} {s a j safe : Int} {J : JobS} (h : JIn w0 G w s a j safe J) (k : Ext w w') : JIn w0 G w' s a j safe J := by
  obtain ⟨B, vm, vps, N, h⟩ := h
  exact ⟨B, vm, vps, N, h.later k⟩
/-- One cell of the machine is set: what lies elsewhere stays. -/
theorem JInv.put {w0 : World} {G B : Nat} {w : World} {s a j safe : Int} {J : JobS} {vm vps : Value} {N : Nat} (h : JInv w0 G B w s a j safe J vm vps N) (i : Nat) (v : Value) :
    SlM (w.setCell ⟨G, i, none⟩ v) vm J.l ∧ OwnM w0.heap.size (w.setCell ⟨G, i, none⟩ v) vps J.ps ∧ CIn B (w.setCell ⟨G, i, none⟩ v) N J.C ∧ Ext w0 (w.setCell ⟨G, i, none⟩ v) := by
  have k : Only (fun k => k = G) w (w.setCell ⟨G, i, none⟩ v) := (Only.refl (fun k => k = G) w).set (p := ⟨G, i, none⟩) (.inl rfl) v
  refine ⟨h.sm.only' k (fun hl b hb e => h.box.apart h.sm hl (by rw [hb, e])), h.sp.only k (fun b hb e => (h.lp b hb).2 e), h.ctl.low k (fun b e => by rw [e]; exact h.lt), h.ext.setCell h.base v⟩
theorem JInv.put7 {w0 : World} {G B : Nat} {w : World} {s a j safe : Int} {J : JobS} {vm vps : Value} {N : Nat} (h : JInv w0 G B w s a j safe J vm vps N) (b : Bool) : JInv w0 G B (w.setCell ⟨G, 7, none⟩ (.bool b)) s a j safe { J with held := b } vm vps N := by
  obtain ⟨h1, h2, h3, h4⟩ := h.put 7 (.bool b)
  exact ⟨h.box.set7 b, h.base, h.lt, h1, h.cap, h.lm, h2, h.lp, h.mp, h3, h4⟩
theorem JInv.put8 {w0 : World} {G B : Nat} {w : World} {s a j safe : Int} {J : JobS} {vm vps : Value} {N : Nat} (h : JInv w0 G B w s a j safe J vm vps N) (t : Int) : JInv w0 G B (w.setCell ⟨G, 8, none⟩ (.int .i64 t)) s a j safe { J with till := t } vm vps N := by
  obtain ⟨h1, h2, h3, h4⟩ := h.put 8 (.int .i64 t)
  exact ⟨h.box.set8 t, h.base, h.lt, h1, h.cap, h.lm, h2, h.lp, h.mp, h3, h4⟩

set_option maxHeartbeats 1000000 in
theorem mdone_any {w0 : World} {G : Nat} {w : World} {s a j safe : Int} {J : JobS} (h : JIn w0 G w s a j safe J) :
    Calls Tryd.prog 20 #[.pointer (some ⟨G, 0, none⟩)] w fun e w' => e = .returned (.bool J.doneB) ∧ Ext w w' := by
  obtain ⟨B, vm, vps, N, h⟩ := h
  obtain ⟨x, c, hv⟩ := h.sm.is
  have ki := fun (w' : World) (he : Ext w w') => index_in (h.ctl.later he)
  have KI := Lib.hid ki; clear ki
  have hb := h.box
  have c0 := Later.cell hb.c0; have c5 := Later.cell hb.c5
  have hd : J.doneB = decide ((J.C.idx : Int) = (J.l.length : Int)) := by unfold JobS.doneB; rw [decide_eq_decide]; omega
  rw [hd]; clear hd
  rw [hv] at c0
  clear hv h hb
  generalize J.C.idx = ix at *
  generalize J.l.length = n at *
  go_enter Tryd.func20, Tryd.ntmps20
  go_wp2_with fail
  refine wp_region_later (by kernel_rfl) (by kernel_rfl) ?_
  repeat (go_big_quiet_step ((go_at_call 33; exact Calls.later_same (KI.out _ (Later.ext _)))))
  refine wpQuiet_nil ?_
  rintro _ ⟨x2, rfl⟩
  go_wp2
  go_ret
  exact ⟨rfl, x2.ext⟩

end Go.Proofs.YtjibcnnbclcboaaDoor

namespace Go.Proofs.YtjibcnnbclcboaaDoor
open Go.RowKit
set_option maxRecDepth 8000
set_option maxRecDepth 8000

section
variable {B : Nat} {w w1 : World} {N : Nat} {C : Ctl}
theorem CIn.ret_up {vm vp vq : Value} {C' : Ctl} {v : Value} (h : CAt B w N vm vp vq C) (he : Ext w w1) (h1 : ∀ b, vm.ownBlock = some b → B ≤ b) (h2 : ∀ b, vp.ownBlock = some b → B ≤ b) (h3 : B ≤ w.heap.size) {e : Ending} {w' : World} (k : CRet B w1 N vm vp vq C' v e w') :
    e = .returned v ∧ CIn B w' N C' ∧ Only (fun k => B ≤ k ∧ k < w.heap.size) w1 w' := by
  obtain ⟨e1, e2, e3⟩ := CIn.ret (h.later he) h1 h2 (Nat.le_trans h3 he.size) k
  obtain ⟨_, vp', vq', _, hO, _, _⟩ := k
  refine ⟨e1, e2, hO.mono fun k _ hk => ?_⟩
  rcases hk with rfl | hk
  · exact ⟨h.inv.base, h.inv.box.lt⟩
  · exact ⟨h.inv.sq.base hk, h.inv.sq.lt hk⟩
theorem hold_up (h : CIn B w N C) (he : Ext w w1) (hps : C.ps.length ≤ 999999999) :
    Calls Tryd.prog 35 #[.pointer (some ⟨N, 0, none⟩)] w1 fun e w' => e = .returned (.tuple #[]) ∧ CIn B w' N C.holdC ∧ Only (fun k => B ≤ k ∧ k < w.heap.size) w1 w' := by
  obtain ⟨vm, vp, vq, h, h1, h2, h3⟩ := h
  exact (hold_any (h.later he) hps).mono fun _ _ k => CIn.ret_up h he h1 h2 h3 k
theorem break_up (h : CIn B w N C) (he : Ext w w1) (hps : C.ps.length ≤ 999999999) :
    Calls Tryd.prog 53 #[.pointer (some ⟨N, 0, none⟩)] w1 fun e w' => e = .returned (.tuple #[]) ∧ CIn B w' N C.brkC ∧ Only (fun k => B ≤ k ∧ k < w.heap.size) w1 w' := by
  obtain ⟨vm, vp, vq, h, h1, h2, h3⟩ := h
  exact (break_any (h.later he) hps).mono fun _ _ k => CIn.ret_up h he h1 h2 h3 k
end

section
variable {w : World} {G : Nat} {vm0 vc0 vps v : Value} {s a j safe till : Int} {held : Bool} {L : List Mot}
set_option maxHeartbeats 1000000 in
theorem mstart_bad (hb : JBox w G vm0 vc0 vps s a j safe held till) (hs : SlM w v L) (hn : L.length ≤ 1000000) (hw : WfL L) (hc : chk L s a j ≠ 0) :
    Calls Tryd.prog 18 #[.pointer (some ⟨G, 0, none⟩), v] w fun e w' => e = .returned (.int .i64 (chk L s a j)) ∧ Ext w w' := by
  have kn := new_err v L s a j w hs (by omega) hw hc
  have KN := Lib.hid kn
  obtain ⟨x, c, rfl⟩ := hs.is
  have c1 := hb.c1; have c2 := hb.c2; have c3 := hb.c3
  have hd : (chk L s a j == 0) = false := by simp [hc]
  clear kn hs hb hw hc
  generalize chk L s a j = cc at *
  generalize L.length = n at *
  go_enter Tryd.func18, Tryd.ntmps18
  go_wp2_with ((go_at_call 32; with_reducible refine (KN.out).mono ?_); rintro e w2 ⟨rfl, hx2⟩)
  go_ret
  exact ⟨rfl, hx2⟩

set_option maxHeartbeats 1000000 in
theorem mstart_ok (hb : JBox w G vm0 vc0 vps s a j safe held till) (hs : SlM w v L) (hn : L.length ≤ 1000000) (hw : WfL L) (hc : chk L s a j = 0) :
    Calls Tryd.prog 18 #[.pointer (some ⟨G, 0, none⟩), v] w fun e w' => e = .returned (.int .i64 0) ∧ ∃ N, JBox w' G v (.pointer (some ⟨N, 0, none⟩)) vps s a j safe held till ∧ CIn w.heap.size w' N (Ctl.new L s a j) ∧ Only (fun k => k = G) w w' := by
  have kn := new_in v L s a j w hs (by omega) hw hc
  have KN := Lib.hid kn
  obtain ⟨x, c, rfl⟩ := hs.is
  have c1 := hb.c1; have c2 := hb.c2; have c3 := hb.c3
  have HB := Lib.hid hb
  clear kn hs hb hw hc
  generalize Ctl.new L s a j = CC at *
  generalize L.length = n at *
  go_enter Tryd.func18, Tryd.ntmps18
  go_wp2_with ((go_at_call 32; with_reducible refine (KN.out).mono ?_); rintro e w2 ⟨N, rfl, hC2, hx2⟩; have b2 := HB.out.later hx2; have q0 := b2.c0; have q5 := b2.c5; have f0 := b2.fr 0 (by decide); have f5 := b2.fr 5 (by decide); clear b2)
  have b2 := HB.out.later hx2
  have hO : Only (fun k => k = G) w2 ((w2.setCell ⟨G, 0, none⟩ (.slice x n c)).setCell ⟨G, 5, none⟩ (.pointer (some ⟨N, 0, none⟩))) := ((Only.refl (fun k => k = G) w2).set (p := ⟨G, 0, none⟩) (.inl rfl) _).set (p := ⟨G, 5, none⟩) (.inl rfl) _
  go_ret
  refine ⟨rfl, N, (b2.set0 x n c).set5 _, hC2.low hO (fun b e => by rw [e]; exact HB.out.lt), (Only.of_ext hx2).trans hO⟩
end

end Go.Proofs.YtjibcnnbclcboaaDoor

namespace Go.Proofs.YtjibcnnbclcboaaDoor
open Go.RowKit
set_option maxRecDepth 8000
set_option maxRecDepth 8000

/-- Worlds in which a cell of the machine and one of the event stand. -/
def EvC (G E : Nat) (vm : Value) (till n : Int) : Type := { w : World // w.cell? ⟨G, 0, none⟩ = some vm ∧ w.cell? ⟨G, 8, none⟩ = some (.int .i64 till) ∧ w.cell? ⟨E, 1, none⟩ = some (.int .i64 n) }
def EvC.w {G E : Nat} {vm : Value} {till n : Int} (x : EvC G E vm till n) : World := x.1
theorem EvC.c0 {G E : Nat} {vm : Value} {till n : Int} : ∀ x : EvC G E vm till n, x.w.cell? ⟨G, 0, none⟩ = some vm := fun x => x.2.1
theorem EvC.c8 {G E : Nat} {vm : Value} {till n : Int} : ∀ x : EvC G E vm till n, x.w.cell? ⟨G, 8, none⟩ = some (.int .i64 till) := fun x => x.2.2.1
theorem EvC.e1 {G E : Nat} {vm : Value} {till n : Int} : ∀ x : EvC G E vm till n, x.w.cell? ⟨E, 1, none⟩ = some (.int .i64 n) := fun x => x.2.2.2

set_option maxHeartbeats 4000000 in
theorem mhold_any {w0 : World} {G : Nat} {w : World} {s a j safe at_ n t : Int} {J : JobS} (h : JIn w0 G w s a j safe J) (hps : J.C.ps.length ≤ 999999999) (hn0 : 0 < n) (hn : n ≤ 1000000) (ht0 : 0 ≤ t) (ht : t ≤ 1000000) :
    Calls Tryd.prog 22 #[.pointer (some ⟨G, 0, none⟩), .agg #[.int .i64 at_, .int .i64 n], .int .i64 t] w fun e w' => e = .returned (.int .i64 0) ∧ JIn w0 G w' s a j safe (J.hold n t) := by
  obtain ⟨B, vm, vps, N, h⟩ := h
  have hE1 : Ext w (w.alloc (.cells #[.int .i64 at_, .int .i64 n] 57)) := (Ext.refl w).alloc _
  obtain ⟨W1, hW1, bE, _⟩ := B2.mk' w (.int .i64 at_) (.int .i64 n) 57
  have kh := hold_up h.ctl hE1 hps
  have KH := Lib.hid kh
  have H := Lib.hid (h.later hE1)
  have hb := (h.later hE1).box
  have c5 := hb.c5; have c0 := hb.c0
  have hd : (n == 0) = false := by simp; omega
  have hgw : G < w.heap.size := h.box.lt
  rw [← hW1] at bE
  have HBE := Lib.hid bE
  clear kh h hb hps hW1 bE
  go_enter Tryd.func22, Tryd.ntmps22
  cases hheld : J.held
  · go_wp2_with ((go_at_call 35; with_reducible refine (KH.out).mono ?_); rintro e w2 ⟨rfl, hC2, hO2⟩; have H2 := Lib.hid (H.out.work hC2 (hO2.mono (fun _ _ h => h.1))); have c7 := H2.out.box.c7; have c00 := H2.out.box.c0; have c8 := H2.out.box.c8; have f8 := H2.out.box.fr 8 (by decide); rw [show ({ J with C := J.C.holdC } : JobS).held = J.held from rfl, hheld] at c7)
    have hBE := HBE.out.only hO2 (by simp)
    have H3 := H2.out.put8 0
    have hBE := hBE.only (D := fun k => k = G) ((Only.refl (fun k => k = G) w2).set (p := ⟨G, 8, none⟩) (.inl rfl) (.int .i64 0)) (by omega)
    generalize w2.setCell ⟨G, 8, none⟩ (.int .i64 0) = W at *
    have H4 := H3.later (Ext.refl W).drew
    have hBE := hBE.later (Ext.refl W).drew
    clear H3 H2 c7 c8 f8 hO2 hC2 c5
    have g8 := EvC.c8 (G := G) (E := w.heap.size) (vm := vm) (till := 0) (n := n)
    have g0 := EvC.c0 (G := G) (E := w.heap.size) (vm := vm) (till := 0) (n := n)
    have g1 := EvC.e1 (G := G) (E := w.heap.size) (vm := vm) (till := 0) (n := n)
    have hne : Nonempty (EvC G w.heap.size vm (0) n) := ⟨⟨_, H4.box.c0, H4.box.c8, hBE.c1⟩⟩
    refine wp_region_tree (fun w' => ∃ y : EvC G w.heap.size vm (0) n, w' = y.w) 14 (.two [0, 1, 2, 3, 4, 5, 6, 7, 8, 9, 11, 12] 10 13 (.one [] 13 (.leaf [])) (.one [] 10 (.leaf []))) (by kernel_rfl) (by kernel_rfl) (by kernel_rfl) ⟨⟨_, H4.box.c0, H4.box.c8, hBE.c1⟩, rfl⟩ ?_
    simp only [List.take_succ_cons, List.take_zero]
    refine tree_two fun K1 K2 hK1 hK2 => ?_
    simp only [List.map_cons, List.map_nil, pickOp, List.getElem?_cons_zero, List.getElem?_cons_succ, Option.getD_some]
    repeat (go_big_quiet_step (fail))
    refine wpQuiet_nil ?_
    clear g8 g1 g0 hne
    generalize W.drew = V at *
    have H5 := H4.put7 true
    have hBE5 := hBE.only (D := fun k => k = G) ((Only.refl (fun k => k = G) V).set (p := ⟨G, 7, none⟩) (.inl rfl) (.bool true)) (by omega)
    have v0 := H4.box.c0; have w00 := H5.box.c0; have v7 := H4.box.c7; have f7 := H4.box.fr 7 (by decide)
    have v8 := H5.box.c8; have f8 := H5.box.fr 8 (by decide)
    have H6 := H5.put8 (t + n)
    have HH6 := Lib.hid H6
    have u8 := H4.box.c8; have ue := hBE.c1; have w8 := H5.box.c8; have we := hBE5.c1
    have HA := Lib.hid (And.intro H4.box.c0 (And.intro u8 ue)); have HB2 := Lib.hid (And.intro H5.box.c0 (And.intro w8 we))
    clear u8 ue w8 we H6 H5 H4 hBE hBE5
    have hF : ({ ({ ({ ({ J with C := J.C.holdC } : JobS) with till := 0 } : JobS) with held := true } : JobS) with till := (t + n) } : JobS) = J.hold n t := by unfold JobS.hold; simp only [hheld]; congr 1
    rw [hF] at HH6
    refine ⟨?_, ?_⟩
    · clear hK2 K2
      go_wp2_with fail
      refine onlyK_normal (hK1 _ _ ⟨⟨_, HA.out⟩, rfl⟩ ?_); clear hK1 K1
      refine tree_one0 fun K hK => ?_
      simp only [pickOp, List.getElem?_cons_zero, List.getElem?_cons_succ, Option.getD_some]
      go_wp2_with fail
      refine onlyK_normal (hK _ _ ⟨⟨_, HB2.out⟩, rfl⟩ ?_); clear hK K
      refine tree_leaf0 ?_
      simp only [List.drop_succ_cons, List.drop_zero]
      go_wp2
      go_ret
      exact ⟨rfl, B, vm, vps, N, HH6.out⟩
    · clear hK1 K1
      go_wp2_with fail
      refine onlyK_normal (hK2 _ _ ⟨⟨_, HB2.out⟩, rfl⟩ ?_); clear hK2 K2
      refine tree_one0 fun K hK => ?_
      simp only [pickOp, List.getElem?_cons_zero, List.getElem?_cons_succ, Option.getD_some]
      go_wp2_with fail
      refine onlyK_normal (hK _ _ ⟨⟨_, HB2.out⟩, rfl⟩ ?_); clear hK K
      refine tree_leaf0 ?_
      simp only [List.drop_succ_cons, List.drop_zero]
      go_wp2
      go_ret
      exact ⟨rfl, B, vm, vps, N, HH6.out⟩
  · by_cases q : J.till < t + n
    · go_wp2_with ((go_at_call 35; with_reducible refine (KH.out).mono ?_); rintro e w2 ⟨rfl, hC2, hO2⟩; have H2 := Lib.hid (H.out.work hC2 (hO2.mono (fun _ _ h => h.1))); have c7 := H2.out.box.c7; have c00 := H2.out.box.c0; have c8 := H2.out.box.c8; have f8 := H2.out.box.fr 8 (by decide); rw [show ({ J with C := J.C.holdC } : JobS).held = J.held from rfl, hheld] at c7)
      have hBE := HBE.out.only hO2 (by simp)
      have H3 := H2.out
      generalize w2 = W at *
      have H4 := H3.later (Ext.refl W).drew
      have hBE := hBE.later (Ext.refl W).drew
      clear H3 H2 c7 c8 f8 hO2 hC2 c5
      have g8 := EvC.c8 (G := G) (E := w.heap.size) (vm := vm) (till := J.till) (n := n)
      have g0 := EvC.c0 (G := G) (E := w.heap.size) (vm := vm) (till := J.till) (n := n)
      have g1 := EvC.e1 (G := G) (E := w.heap.size) (vm := vm) (till := J.till) (n := n)
      have hne : Nonempty (EvC G w.heap.size vm (J.till) n) := ⟨⟨_, H4.box.c0, H4.box.c8, hBE.c1⟩⟩
      refine wp_region_tree (fun w' => ∃ y : EvC G w.heap.size vm (J.till) n, w' = y.w) 14 (.two [0, 1, 2, 3, 4, 5, 6, 7, 8, 9, 11, 12] 10 13 (.one [] 13 (.leaf [])) (.one [] 10 (.leaf []))) (by kernel_rfl) (by kernel_rfl) (by kernel_rfl) ⟨⟨_, H4.box.c0, H4.box.c8, hBE.c1⟩, rfl⟩ ?_
      simp only [List.take_succ_cons, List.take_zero]
      refine tree_two fun K1 K2 hK1 hK2 => ?_
      simp only [List.map_cons, List.map_nil, pickOp, List.getElem?_cons_zero, List.getElem?_cons_succ, Option.getD_some]
      repeat (go_big_quiet_step (fail))
      refine wpQuiet_nil ?_
      clear g8 g1 g0 hne
      generalize W.drew = V at *
      have H5 := H4.put7 true
      have hBE5 := hBE.only (D := fun k => k = G) ((Only.refl (fun k => k = G) V).set (p := ⟨G, 7, none⟩) (.inl rfl) (.bool true)) (by omega)
      have v0 := H4.box.c0; have w00 := H5.box.c0; have v7 := H4.box.c7; have f7 := H4.box.fr 7 (by decide)
      have v8 := H5.box.c8; have f8 := H5.box.fr 8 (by decide)
      have H6 := H5.put8 (t + n)
      have HH6 := Lib.hid H6
      have u8 := H4.box.c8; have ue := hBE.c1; have w8 := H5.box.c8; have we := hBE5.c1
      have HA := Lib.hid (And.intro H4.box.c0 (And.intro u8 ue)); have HB2 := Lib.hid (And.intro H5.box.c0 (And.intro w8 we))
      clear u8 ue w8 we H6 H5 H4 hBE hBE5
      have hF : ({ ({ ({ J with C := J.C.holdC } : JobS) with held := true } : JobS) with till := (t + n) } : JobS) = J.hold n t := by unfold JobS.hold; simp only [hheld]; congr 1; simp [q]
      rw [hF] at HH6
      refine ⟨?_, ?_⟩
      · clear hK2 K2
        go_wp2_with fail
        refine onlyK_normal (hK1 _ _ ⟨⟨_, HA.out⟩, rfl⟩ ?_); clear hK1 K1
        refine tree_one0 fun K hK => ?_
        simp only [pickOp, List.getElem?_cons_zero, List.getElem?_cons_succ, Option.getD_some]
        go_wp2_with fail
        refine onlyK_normal (hK _ _ ⟨⟨_, HB2.out⟩, rfl⟩ ?_); clear hK K
        refine tree_leaf0 ?_
        simp only [List.drop_succ_cons, List.drop_zero]
        go_wp2
        go_ret
        exact ⟨rfl, B, vm, vps, N, HH6.out⟩
      · clear hK1 K1
        go_wp2_with fail
        refine onlyK_normal (hK2 _ _ ⟨⟨_, HB2.out⟩, rfl⟩ ?_); clear hK2 K2
        refine tree_one0 fun K hK => ?_
        simp only [pickOp, List.getElem?_cons_zero, List.getElem?_cons_succ, Option.getD_some]
        go_wp2_with fail
        refine onlyK_normal (hK _ _ ⟨⟨_, HB2.out⟩, rfl⟩ ?_); clear hK K
        refine tree_leaf0 ?_
        simp only [List.drop_succ_cons, List.drop_zero]
        go_wp2
        go_ret
        exact ⟨rfl, B, vm, vps, N, HH6.out⟩
    · go_wp2_with ((go_at_call 35; with_reducible refine (KH.out).mono ?_); rintro e w2 ⟨rfl, hC2, hO2⟩; have H2 := Lib.hid (H.out.work hC2 (hO2.mono (fun _ _ h => h.1))); have c7 := H2.out.box.c7; have c00 := H2.out.box.c0; have c8 := H2.out.box.c8; have f8 := H2.out.box.fr 8 (by decide); rw [show ({ J with C := J.C.holdC } : JobS).held = J.held from rfl, hheld] at c7)
      have hBE := HBE.out.only hO2 (by simp)
      have H3 := H2.out
      generalize w2 = W at *
      have H4 := H3.later (Ext.refl W).drew
      have hBE := hBE.later (Ext.refl W).drew
      clear H3 H2 c7 c8 f8 hO2 hC2 c5
      have g8 := EvC.c8 (G := G) (E := w.heap.size) (vm := vm) (till := J.till) (n := n)
      have g0 := EvC.c0 (G := G) (E := w.heap.size) (vm := vm) (till := J.till) (n := n)
      have g1 := EvC.e1 (G := G) (E := w.heap.size) (vm := vm) (till := J.till) (n := n)
      have hne : Nonempty (EvC G w.heap.size vm (J.till) n) := ⟨⟨_, H4.box.c0, H4.box.c8, hBE.c1⟩⟩
      refine wp_region_tree (fun w' => ∃ y : EvC G w.heap.size vm (J.till) n, w' = y.w) 14 (.two [0, 1, 2, 3, 4, 5, 6, 7, 8, 9, 11, 12] 10 13 (.one [] 13 (.leaf [])) (.one [] 10 (.leaf []))) (by kernel_rfl) (by kernel_rfl) (by kernel_rfl) ⟨⟨_, H4.box.c0, H4.box.c8, hBE.c1⟩, rfl⟩ ?_
      simp only [List.take_succ_cons, List.take_zero]
      refine tree_two fun K1 K2 hK1 hK2 => ?_
      simp only [List.map_cons, List.map_nil, pickOp, List.getElem?_cons_zero, List.getElem?_cons_succ, Option.getD_some]
      repeat (go_big_quiet_step (fail))
      refine wpQuiet_nil ?_
      clear g8 g1 g0 hne
      generalize W.drew = V at *
      have H5 := H4.put7 true
      have hBE5 := hBE.only (D := fun k => k = G) ((Only.refl (fun k => k = G) V).set (p := ⟨G, 7, none⟩) (.inl rfl) (.bool true)) (by omega)
      have v0 := H4.box.c0; have w00 := H5.box.c0; have v7 := H4.box.c7; have f7 := H4.box.fr 7 (by decide)
      have v8 := H5.box.c8; have f8 := H5.box.fr 8 (by decide)
      have H6 := H5.put8 (J.till)
      have HH6 := Lib.hid H6
      have u8 := H4.box.c8; have ue := hBE.c1; have w8 := H5.box.c8; have we := hBE5.c1
      have HA := Lib.hid (And.intro H4.box.c0 (And.intro u8 ue)); have HB2 := Lib.hid (And.intro H5.box.c0 (And.intro w8 we))
      clear u8 ue w8 we H6 H5 H4 hBE hBE5
      have hF : ({ ({ ({ J with C := J.C.holdC } : JobS) with held := true } : JobS) with till := (J.till) } : JobS) = J.hold n t := by unfold JobS.hold; simp only [hheld]; congr 1; simp [q]
      rw [hF] at HH6
      refine ⟨?_, ?_⟩
      · clear hK2 K2
        go_wp2_with fail
        refine onlyK_normal (hK1 _ _ ⟨⟨_, HA.out⟩, rfl⟩ ?_); clear hK1 K1
        refine tree_one0 fun K hK => ?_
        simp only [pickOp, List.getElem?_cons_zero, List.getElem?_cons_succ, Option.getD_some]
        go_wp2_with fail
        refine onlyK_normal (hK _ _ ⟨⟨_, HB2.out⟩, rfl⟩ ?_); clear hK K
        refine tree_leaf0 ?_
        simp only [List.drop_succ_cons, List.drop_zero]
        go_wp2
        go_ret
        exact ⟨rfl, B, vm, vps, N, HH6.out⟩
      · clear hK1 K1
        go_wp2_with fail
        refine onlyK_normal (hK2 _ _ ⟨⟨_, HB2.out⟩, rfl⟩ ?_); clear hK2 K2
        refine tree_one0 fun K hK => ?_
        simp only [pickOp, List.getElem?_cons_zero, List.getElem?_cons_succ, Option.getD_some]
        go_wp2_with fail
        refine onlyK_normal (hK _ _ ⟨⟨_, HB2.out⟩, rfl⟩ ?_); clear hK K
        refine tree_leaf0 ?_
        simp only [List.drop_succ_cons, List.drop_zero]
        go_wp2
        go_ret
        exact ⟨rfl, B, vm, vps, N, HH6.out⟩

end Go.Proofs.YtjibcnnbclcboaaDoor

namespace Go.Proofs.YtjibcnnbclcboaaDoor
open Go.RowKit
set_option maxRecDepth 8000
set_option maxRecDepth 8000

theorem cell_put3 {V : World} {G i : Nat} {v : Option Value} (A : Nat) (x y z : Int) (hne : A ≠ G) (h : V.cell? ⟨G, i, none⟩ = v) : (((V.setCell ⟨A, 0, none⟩ (.int .i64 x)).setCell ⟨A, 1, none⟩ (.int .i64 y)).setCell ⟨A, 2, none⟩ (.int .i64 z)).cell? ⟨G, i, none⟩ = v := by
  rw [World.cell?_setCell_far _ _ _ _ hne, World.cell?_setCell_far _ _ _ _ hne, World.cell?_setCell_far _ _ _ _ hne]
  exact h

set_option maxHeartbeats 8000000 in
theorem mbroken_e1 {w0 : World} {G : Nat} {w : World} {s a j safe : Int} {J : JobS} {k q : Nat} (h : JIn w0 G w s a j safe J) (hok : J.Ok k q) (hk : k ≤ 900000000) (hq : q ≤ 900000) (hsf : in64 safe) (he : rstE J.l J.C.idx J.C.at3 safe ≠ 0) :
    Calls Tryd.prog 34 #[.pointer (some ⟨G, 0, none⟩)] w fun e w' => e = .returned (.int .i64 (rstE J.l J.C.idx J.C.at3 safe)) ∧ Ext w0 w' := by
  obtain ⟨B, vm, vps, N, h⟩ := h
  have H := Lib.hid h
  have ki := fun (w' : World) (he : Ext w w') => index_in (h.ctl.later he)
  have kp := fun (w' : World) (he : Ext w w') => pos_in (h.ctl.later he)
  have HPS : Hid (J.C.ps.length ≤ 999999999) := Lib.hid (by have := hok.ps; omega)
  have HPB : Hid (J.C.brkC.ps.length ≤ 999999999) := Lib.hid (by have := hok.ps; have := brkC_ps J.C; omega)
  have HLN : Hid (J.ps.length + J.C.brkC.doneL.length ≤ 1000000000) := Lib.hid (by have := hok.ps; have := brkC_ps J.C; have := doneL_len J.C.brkC; omega)
  have HIX : Hid (J.C.idx ≤ J.l.length) := Lib.hid (by have := hok.ok.posOk.le; rw [hok.ms] at this; exact this)
  have HLL : Hid (J.l.length ≤ 1000000) := Lib.hid (by have := hok.ln; omega)
  have HLR : Hid ((rstL J.l J.C.idx J.C.at3 safe).length ≤ 1000000) := Lib.hid (by have := rstL_length J.l J.C.idx J.C.at3 safe; have := hok.ln; omega)
  have HWF : Hid (WfL (rstL J.l J.C.idx J.C.at3 safe)) := Lib.hid (rstL_wf hok.wf hok.ok.at3_in hsf)
  have hnz : (rstE J.l J.C.idx J.C.at3 safe == 0) = false := by simp [he]
  have hgw : G < w.heap.size := h.box.lt
  have hbw : B ≤ w.heap.size := by have := h.ctl.lt; omega
  have c5 := Later.cell h.box.c5
  clear h hok hsf hk hq
  generalize hat3 : J.C.at3 = p3 at *
  obtain ⟨qx, qy, qz⟩ := p3
  have KI := Lib.hid ki; have KP := Lib.hid kp
  clear ki kp hat3
  go_enter Tryd.func34, Tryd.ntmps34
  go_wp2_with fail
  have hV : Ext w w.drew := (Ext.refl w).drew
  refine wp_region_tree (fun w' => ∃ y : Later w, w' = y.w) 12 (.two [0, 1, 2, 3, 5, 6, 7, 8] 4 10 (.two [] 9 10 (.one [] 10 (.leaf [11])) (.one [] 9 (.leaf [11]))) (.one [] 4 (.one [] 9 (.leaf [11])))) (by kernel_rfl) (by kernel_rfl) (by kernel_rfl) ⟨⟨_, hV⟩, rfl⟩ ?_
  simp only [List.take_succ_cons, List.take_zero]
  refine tree_two fun K1 K2 hK1 hK2 => ?_
  simp only [List.map_cons, List.map_nil, pickOp, List.getElem?_cons_zero, List.getElem?_cons_succ, Option.getD_some]
  repeat (go_big_quiet_step (fail))
  refine wpQuiet_nil ?_
  clear c5
  generalize w.drew = V at *
  refine ⟨?_, ?_⟩
  · clear hK2 K2
    go_wp2_with ((go_at_call 33; with_reducible refine (KI.out _ hV).mono ?_); rintro e wz ⟨rfl, rfl⟩)
    refine onlyK_normal (hK1 _ _ ⟨⟨_, hV⟩, rfl⟩ ?_); clear hK1 K1
    refine tree_two0 fun K1 K2 hK1 hK2 => ?_
    simp only [pickOp, List.getElem?_cons_zero, List.getElem?_cons_succ, Option.getD_some]
    refine ⟨?_, ?_⟩
    · clear hK2 K2
      go_wp2_with ((go_at_call 52; with_reducible refine (KP.out _ hV).mono ?_); rintro e V2 ⟨rfl, hx2⟩)
      replace hV := hV.trans hx2
      refine onlyK_normal (hK1 _ _ ⟨⟨_, hV⟩, rfl⟩ ?_); clear hK1 K1 hx2
      clear V
      obtain ⟨V, rfl⟩ : ∃ X, X = V2 := ⟨_, rfl⟩
      refine tree_one0 fun K hK => ?_
      simp only [pickOp, List.getElem?_cons_zero, List.getElem?_cons_succ, Option.getD_some]
      go_wp2_with fail
      obtain ⟨V2, hV2, bA, hx2⟩ := P3Box.mk' V 0 0 0
      rw [hV2]; clear hV2
      have hAw : w.heap.size ≤ V.heap.size := hV.size
      generalize V.heap.size = A at *
      replace hV := hV.trans hx2
      refine onlyK_normal (hK _ _ ⟨⟨_, hV⟩, rfl⟩ ?_); clear hK K hx2
      clear V
      obtain ⟨V, rfl⟩ : ∃ X, X = V2 := ⟨_, rfl⟩
      refine tree_leaf ?_
      simp only [List.map_cons, List.map_nil, pickOp, List.getElem?_cons_zero, List.getElem?_cons_succ, Option.getD_some]
      repeat (go_big_quiet_step (fail))
      refine wpQuiet_nil ?_
      simp only [List.drop_succ_cons, List.drop_zero]
      obtain ⟨z0, z1, z2, y0, y1, y2⟩ := bA.at
      have k5 := cell_put3 A qx qy qz (by omega : A ≠ G) (H.out.later hV).box.c5
      go_wp2_with fail
      have bP := bA.put qx qy qz
      have hX : Ext w (((V.setCell ⟨A, 0, none⟩ (.int .i64 qx)).setCell ⟨A, 1, none⟩ (.int .i64 qy)).setCell ⟨A, 2, none⟩ (.int .i64 qz)) := ((hV.setCell hAw _).setCell hAw _).setCell hAw _
      generalize ((V.setCell ⟨A, 0, none⟩ (.int .i64 qx)).setCell ⟨A, 1, none⟩ (.int .i64 qy)).setCell ⟨A, 2, none⟩ (.int .i64 qz) = X at *
      clear z0 z1 z2 y0 y1 y2 bA hV k5
      clear V
      refine (break_up H.out.ctl hX HPS.out).mono ?_
      rintro e w3 ⟨rfl, hC3, hO3⟩
      have H3 := (H.out.later hX).work hC3 (hO3.mono (fun _ _ h => h.1))
      have bP3 := bP.only hO3 (by omega)
      clear bP hC3 hO3 hX
      clear X
      have nG : ¬ (vps.ownBlock = some G) := fun e => (H3.lp _ e).2 rfl
      have nA : ¬ (vps.ownBlock = some A) := fun e => by have := (H3.lp _ e).1; omega
      go_wp2_with fail
      have d5 := Chg.cell (D := fun k => vps.ownBlock = some k) H3.box.c5 nG; have d6 := Chg.cell (D := fun k => vps.ownBlock = some k) H3.box.c6 nG
      refine wp_region_tree (fun w' => ∃ y : Chg (fun k => vps.ownBlock = some k) w3, w' = y.w) 11 (.one [0, 1, 2, 3, 4, 5, 6, 7, 8] 9 (.one [] 10 (.leaf []))) (by kernel_rfl) (by kernel_rfl) (by kernel_rfl) ⟨⟨_, (Only.refl _ w3).drew⟩, rfl⟩ ?_
      simp only [List.take_succ_cons, List.take_zero]
      refine tree_one fun K hK => ?_
      simp only [List.map_cons, List.map_nil, pickOp, List.getElem?_cons_zero, List.getElem?_cons_succ, Option.getD_some]
      repeat (go_big_quiet_step (fail))
      refine wpQuiet_nil ?_
      clear d5 d6
      have H4 := H3.later (Ext.refl w3).drew
      have bP4 := bP3.later (Ext.refl w3).drew
      have hD3 : Only (fun k => vps.ownBlock = some k) w3 w3.drew := (Only.refl _ w3).drew
      clear H3 bP3
      generalize w3.drew = w4 at *
      have HD := Lib.hid (done_in H4.ctl HPB.out)
      go_wp2_with ((go_at_call 24; with_reducible refine (HD.out).mono ?_); rintro e w5 ⟨v5, rfl, own5, hx5⟩)
      clear HD
      refine onlyK_normal (hK _ _ ⟨⟨_, hD3.trans (Only.of_ext hx5)⟩, rfl⟩ ?_); clear hK K
      refine tree_one0 fun K hK => ?_
      simp only [pickOp, List.getElem?_cons_zero, List.getElem?_cons_succ, Option.getD_some]
      have HQ4 := Lib.hid (H4.sp.later hx5); have HS4 := Lib.hid own5.sl; have HB4 : Hid (w0.heap.size ≤ w5.heap.size) := Lib.hid (H4.ext.trans hx5).size
      clear own5
      go_wp2_with ((at_builtin; refine appM_at rfl _ _ rfl w0.heap.size _ _ J.ps J.C.brkC.doneL rfl rfl HQ4.out HS4.out HLN.out HB4.out ?_; intro v6 w6 own6 hg6 hloc6))
      have hO6 : Only (fun k => vps.ownBlock = some k) w4 w6 := (Only.of_ext hx5).trans (Only.of_grown hg6)
      refine onlyK_normal (hK _ _ ⟨⟨_, hD3.trans hO6⟩, rfl⟩ ?_); clear hK K
      refine tree_leaf0 ?_
      simp only [List.drop_succ_cons, List.drop_zero]
      have hG4 : G < w4.heap.size := H4.box.lt
      have n6 : v6.ownBlock ≠ some G := by rcases hloc6 with e | e <;> rw [e]; exact nG; intro e2; have := hx5.size; cases e2; omega
      have B6 := H4.box.only hO6 nG
      have S6 := H4.sm.only' hO6 (fun hl b hb e => H4.mp hl b hb e)
      have P6 := bP4.only hO6 nA
      have E6 : Ext w0 w6 := H4.ext.only hO6 (fun i hi e => by have := H4.sp.base e; omega)
      have hcap := H4.cap; have hbase := H4.base
      clear hD3 hg6 hloc6 HQ4 HS4 HB4 bP4 hx5 H4 hO6 hG4
      obtain ⟨x6, n6', c6, rfl⟩ := OwnM.form own6
      have B7 := (B6.set6 x6 n6' c6).set7 false
      have f6 := B6.fr 6 (by decide); have g6 := B6.c6; have f7 := (B6.set6 x6 n6' c6).fr 7 (by decide); have g7 := (B6.set6 x6 n6' c6).c7
      have hO7 : Only (fun k => k = G) w6 ((w6.setCell ⟨G, 6, none⟩ (.slice x6 n6' c6)).setCell ⟨G, 7, none⟩ (.bool false)) := ((Only.refl (fun k => k = G) w6).set (p := ⟨G, 6, none⟩) (.inl rfl) _).set (p := ⟨G, 7, none⟩) (.inl rfl) _
      have S7 := S6.only' hO7 (fun hl b hb e => B6.apart S6 hl (by rw [hb, e]))
      have O7 := own6.only hO7 (fun b hb e => n6 (by rw [hb, e]))
      have P7 := P6.only hO7 (by omega)
      have E7 := (E6.setCell (p := ⟨G, 6, none⟩) hbase (.slice x6 n6' c6)).setCell (p := ⟨G, 7, none⟩) hbase (.bool false)
      go_wp2_with fail
      generalize (w6.setCell ⟨G, 6, none⟩ (.slice x6 n6' c6)).setCell ⟨G, 7, none⟩ (.bool false) = w7 at *
      clear f6 g6 f7 g7 hO7 S6 own6 P6 E6 B6
      obtain ⟨xm, cm, hvm⟩ := S7.is
      have e0 := Later.cell B7.c0; have e4 := Later.cell B7.c4; have a0 := P7.c0; have a1 := P7.c1; have a2 := P7.c2
      refine wp_region_tree (fun w' => ∃ y : Later w7, w' = y.w) 15 (.one [0, 1, 2, 3, 4, 5, 6, 7, 8, 9] 10 (.leaf [11, 12, 13, 14])) (by kernel_rfl) (by kernel_rfl) (by kernel_rfl) ⟨⟨_, (Ext.refl w7).drew⟩, rfl⟩ ?_
      simp only [List.take_succ_cons, List.take_zero]
      refine tree_one fun K hK => ?_
      simp only [List.map_cons, List.map_nil, pickOp, List.getElem?_cons_zero, List.getElem?_cons_succ, Option.getD_some]
      repeat (go_big_quiet_step (fail))
      refine wpQuiet_nil ?_
      clear e0 e4 a0 a1 a2
      have hx7 : Ext w7 w7.drew := (Ext.refl w7).drew
      have KR := Lib.hid (crestart_any vm J.l J.C.idx qx qy qz safe w7.drew (S7.later hx7) hcap HIX.out HLL.out)
      rw [hvm] at KR
      go_wp2_with ((go_at_call 54; with_reducible refine (KR.out).mono ?_); rintro e w8 ⟨v8, rfl, S8, F8, hx8⟩)
      clear KR
      refine onlyK_normal (hK _ _ ⟨⟨_, hx7.trans hx8⟩, rfl⟩ ?_); clear hK K
      have hx9 := hx7.trans hx8
      have hF8 : ∀ b, v8.ownBlock = some b → w7.heap.size ≤ b := F8.2
      have hcap8 := F8.1
      clear F8 hx7 hx8 hcap
      obtain ⟨x8, c8, rfl⟩ := S8.is
      refine tree_leaf ?_
      simp only [List.map_cons, List.map_nil, pickOp, List.getElem?_cons_zero, List.getElem?_cons_succ, Option.getD_some]
      repeat (go_big_quiet_step (fail))
      refine wpQuiet_nil ?_
      simp only [List.drop_succ_cons, List.drop_zero]
      have E8 := E7.trans hx9
      go_wp2
      go_ret
      exact ⟨rfl, E8⟩
    · clear hK1 K1
      go_wp2_with fail
      obtain ⟨V2, hV2, bA, hx2⟩ := P3Box.mk' V 0 0 0
      rw [hV2]; clear hV2
      have hAw : w.heap.size ≤ V.heap.size := hV.size
      generalize V.heap.size = A at *
      replace hV := hV.trans hx2
      refine onlyK_normal (hK2 _ _ ⟨⟨_, hV⟩, rfl⟩ ?_); clear hK2 K2 hx2
      clear V
      obtain ⟨V, rfl⟩ : ∃ X, X = V2 := ⟨_, rfl⟩
      refine tree_one0 fun K hK => ?_
      simp only [pickOp, List.getElem?_cons_zero, List.getElem?_cons_succ, Option.getD_some]
      go_wp2_with ((go_at_call 52; with_reducible refine (KP.out _ hV).mono ?_); rintro e V2 ⟨rfl, hx2⟩)
      replace hV := hV.trans hx2
      replace bA := bA.later hx2
      refine onlyK_normal (hK _ _ ⟨⟨_, hV⟩, rfl⟩ ?_); clear hK K hx2
      clear V
      obtain ⟨V, rfl⟩ : ∃ X, X = V2 := ⟨_, rfl⟩
      refine tree_leaf ?_
      simp only [List.map_cons, List.map_nil, pickOp, List.getElem?_cons_zero, List.getElem?_cons_succ, Option.getD_some]
      repeat (go_big_quiet_step (fail))
      refine wpQuiet_nil ?_
      simp only [List.drop_succ_cons, List.drop_zero]
      obtain ⟨z0, z1, z2, y0, y1, y2⟩ := bA.at
      have k5 := cell_put3 A qx qy qz (by omega : A ≠ G) (H.out.later hV).box.c5
      go_wp2_with fail
      have bP := bA.put qx qy qz
      have hX : Ext w (((V.setCell ⟨A, 0, none⟩ (.int .i64 qx)).setCell ⟨A, 1, none⟩ (.int .i64 qy)).setCell ⟨A, 2, none⟩ (.int .i64 qz)) := ((hV.setCell hAw _).setCell hAw _).setCell hAw _
      generalize ((V.setCell ⟨A, 0, none⟩ (.int .i64 qx)).setCell ⟨A, 1, none⟩ (.int .i64 qy)).setCell ⟨A, 2, none⟩ (.int .i64 qz) = X at *
      clear z0 z1 z2 y0 y1 y2 bA hV k5
      clear V
      refine (break_up H.out.ctl hX HPS.out).mono ?_
      rintro e w3 ⟨rfl, hC3, hO3⟩
      have H3 := (H.out.later hX).work hC3 (hO3.mono (fun _ _ h => h.1))
      have bP3 := bP.only hO3 (by omega)
      clear bP hC3 hO3 hX
      clear X
      have nG : ¬ (vps.ownBlock = some G) := fun e => (H3.lp _ e).2 rfl
      have nA : ¬ (vps.ownBlock = some A) := fun e => by have := (H3.lp _ e).1; omega
      go_wp2_with fail
      have d5 := Chg.cell (D := fun k => vps.ownBlock = some k) H3.box.c5 nG; have d6 := Chg.cell (D := fun k => vps.ownBlock = some k) H3.box.c6 nG
      refine wp_region_tree (fun w' => ∃ y : Chg (fun k => vps.ownBlock = some k) w3, w' = y.w) 11 (.one [0, 1, 2, 3, 4, 5, 6, 7, 8] 9 (.one [] 10 (.leaf []))) (by kernel_rfl) (by kernel_rfl) (by kernel_rfl) ⟨⟨_, (Only.refl _ w3).drew⟩, rfl⟩ ?_
      simp only [List.take_succ_cons, List.take_zero]
      refine tree_one fun K hK => ?_
      simp only [List.map_cons, List.map_nil, pickOp, List.getElem?_cons_zero, List.getElem?_cons_succ, Option.getD_some]
      repeat (go_big_quiet_step (fail))
      refine wpQuiet_nil ?_
      clear d5 d6
      have H4 := H3.later (Ext.refl w3).drew
      have bP4 := bP3.later (Ext.refl w3).drew
      have hD3 : Only (fun k => vps.ownBlock = some k) w3 w3.drew := (Only.refl _ w3).drew
      clear H3 bP3
      generalize w3.drew = w4 at *
      have HD := Lib.hid (done_in H4.ctl HPB.out)
      go_wp2_with ((go_at_call 24; with_reducible refine (HD.out).mono ?_); rintro e w5 ⟨v5, rfl, own5, hx5⟩)
      clear HD
      refine onlyK_normal (hK _ _ ⟨⟨_, hD3.trans (Only.of_ext hx5)⟩, rfl⟩ ?_); clear hK K
      refine tree_one0 fun K hK => ?_
      simp only [pickOp, List.getElem?_cons_zero, List.getElem?_cons_succ, Option.getD_some]
      have HQ4 := Lib.hid (H4.sp.later hx5); have HS4 := Lib.hid own5.sl; have HB4 : Hid (w0.heap.size ≤ w5.heap.size) := Lib.hid (H4.ext.trans hx5).size
      clear own5
      go_wp2_with ((at_builtin; refine appM_at rfl _ _ rfl w0.heap.size _ _ J.ps J.C.brkC.doneL rfl rfl HQ4.out HS4.out HLN.out HB4.out ?_; intro v6 w6 own6 hg6 hloc6))
      have hO6 : Only (fun k => vps.ownBlock = some k) w4 w6 := (Only.of_ext hx5).trans (Only.of_grown hg6)
      refine onlyK_normal (hK _ _ ⟨⟨_, hD3.trans hO6⟩, rfl⟩ ?_); clear hK K
      refine tree_leaf0 ?_
      simp only [List.drop_succ_cons, List.drop_zero]
      have hG4 : G < w4.heap.size := H4.box.lt
      have n6 : v6.ownBlock ≠ some G := by rcases hloc6 with e | e <;> rw [e]; exact nG; intro e2; have := hx5.size; cases e2; omega
      have B6 := H4.box.only hO6 nG
      have S6 := H4.sm.only' hO6 (fun hl b hb e => H4.mp hl b hb e)
      have P6 := bP4.only hO6 nA
      have E6 : Ext w0 w6 := H4.ext.only hO6 (fun i hi e => by have := H4.sp.base e; omega)
      have hcap := H4.cap; have hbase := H4.base
      clear hD3 hg6 hloc6 HQ4 HS4 HB4 bP4 hx5 H4 hO6 hG4
      obtain ⟨x6, n6', c6, rfl⟩ := OwnM.form own6
      have B7 := (B6.set6 x6 n6' c6).set7 false
      have f6 := B6.fr 6 (by decide); have g6 := B6.c6; have f7 := (B6.set6 x6 n6' c6).fr 7 (by decide); have g7 := (B6.set6 x6 n6' c6).c7
      have hO7 : Only (fun k => k = G) w6 ((w6.setCell ⟨G, 6, none⟩ (.slice x6 n6' c6)).setCell ⟨G, 7, none⟩ (.bool false)) := ((Only.refl (fun k => k = G) w6).set (p := ⟨G, 6, none⟩) (.inl rfl) _).set (p := ⟨G, 7, none⟩) (.inl rfl) _
      have S7 := S6.only' hO7 (fun hl b hb e => B6.apart S6 hl (by rw [hb, e]))
      have O7 := own6.only hO7 (fun b hb e => n6 (by rw [hb, e]))
      have P7 := P6.only hO7 (by omega)
      have E7 := (E6.setCell (p := ⟨G, 6, none⟩) hbase (.slice x6 n6' c6)).setCell (p := ⟨G, 7, none⟩) hbase (.bool false)
      go_wp2_with fail
      generalize (w6.setCell ⟨G, 6, none⟩ (.slice x6 n6' c6)).setCell ⟨G, 7, none⟩ (.bool false) = w7 at *
      clear f6 g6 f7 g7 hO7 S6 own6 P6 E6 B6
      obtain ⟨xm, cm, hvm⟩ := S7.is
      have e0 := Later.cell B7.c0; have e4 := Later.cell B7.c4; have a0 := P7.c0; have a1 := P7.c1; have a2 := P7.c2
      refine wp_region_tree (fun w' => ∃ y : Later w7, w' = y.w) 15 (.one [0, 1, 2, 3, 4, 5, 6, 7, 8, 9] 10 (.leaf [11, 12, 13, 14])) (by kernel_rfl) (by kernel_rfl) (by kernel_rfl) ⟨⟨_, (Ext.refl w7).drew⟩, rfl⟩ ?_
      simp only [List.take_succ_cons, List.take_zero]
      refine tree_one fun K hK => ?_
      simp only [List.map_cons, List.map_nil, pickOp, List.getElem?_cons_zero, List.getElem?_cons_succ, Option.getD_some]
      repeat (go_big_quiet_step (fail))
      refine wpQuiet_nil ?_
      clear e0 e4 a0 a1 a2
      have hx7 : Ext w7 w7.drew := (Ext.refl w7).drew
      have KR := Lib.hid (crestart_any vm J.l J.C.idx qx qy qz safe w7.drew (S7.later hx7) hcap HIX.out HLL.out)
      rw [hvm] at KR
      go_wp2_with ((go_at_call 54; with_reducible refine (KR.out).mono ?_); rintro e w8 ⟨v8, rfl, S8, F8, hx8⟩)
      clear KR
      refine onlyK_normal (hK _ _ ⟨⟨_, hx7.trans hx8⟩, rfl⟩ ?_); clear hK K
      have hx9 := hx7.trans hx8
      have hF8 : ∀ b, v8.ownBlock = some b → w7.heap.size ≤ b := F8.2
      have hcap8 := F8.1
      clear F8 hx7 hx8 hcap
      obtain ⟨x8, c8, rfl⟩ := S8.is
      refine tree_leaf ?_
      simp only [List.map_cons, List.map_nil, pickOp, List.getElem?_cons_zero, List.getElem?_cons_succ, Option.getD_some]
      repeat (go_big_quiet_step (fail))
      refine wpQuiet_nil ?_
      simp only [List.drop_succ_cons, List.drop_zero]
      have E8 := E7.trans hx9
      go_wp2
      go_ret
      exact ⟨rfl, E8⟩
  · clear hK1 K1
    go_wp2_with fail
    obtain ⟨V2, hV2, bA, hx2⟩ := P3Box.mk' V 0 0 0
    rw [hV2]; clear hV2
    have hAw : w.heap.size ≤ V.heap.size := hV.size
    generalize V.heap.size = A at *
    replace hV := hV.trans hx2
    refine onlyK_normal (hK2 _ _ ⟨⟨_, hV⟩, rfl⟩ ?_); clear hK2 K2 hx2
    clear V
    obtain ⟨V, rfl⟩ : ∃ X, X = V2 := ⟨_, rfl⟩
    refine tree_one0 fun K hK => ?_
    simp only [pickOp, List.getElem?_cons_zero, List.getElem?_cons_succ, Option.getD_some]
    go_wp2_with ((go_at_call 33; with_reducible refine (KI.out _ hV).mono ?_); rintro e wz ⟨rfl, rfl⟩)
    refine onlyK_normal (hK _ _ ⟨⟨_, hV⟩, rfl⟩ ?_); clear hK K
    refine tree_one0 fun K hK => ?_
    simp only [pickOp, List.getElem?_cons_zero, List.getElem?_cons_succ, Option.getD_some]
    go_wp2_with ((go_at_call 52; with_reducible refine (KP.out _ hV).mono ?_); rintro e V2 ⟨rfl, hx2⟩)
    replace hV := hV.trans hx2
    replace bA := bA.later hx2
    refine onlyK_normal (hK _ _ ⟨⟨_, hV⟩, rfl⟩ ?_); clear hK K hx2
    clear V
    obtain ⟨V, rfl⟩ : ∃ X, X = V2 := ⟨_, rfl⟩
    refine tree_leaf ?_
    simp only [List.map_cons, List.map_nil, pickOp, List.getElem?_cons_zero, List.getElem?_cons_succ, Option.getD_some]
    repeat (go_big_quiet_step (fail))
    refine wpQuiet_nil ?_
    simp only [List.drop_succ_cons, List.drop_zero]
    obtain ⟨z0, z1, z2, y0, y1, y2⟩ := bA.at
    have k5 := cell_put3 A qx qy qz (by omega : A ≠ G) (H.out.later hV).box.c5
    go_wp2_with fail
    have bP := bA.put qx qy qz
    have hX : Ext w (((V.setCell ⟨A, 0, none⟩ (.int .i64 qx)).setCell ⟨A, 1, none⟩ (.int .i64 qy)).setCell ⟨A, 2, none⟩ (.int .i64 qz)) := ((hV.setCell hAw _).setCell hAw _).setCell hAw _
    generalize ((V.setCell ⟨A, 0, none⟩ (.int .i64 qx)).setCell ⟨A, 1, none⟩ (.int .i64 qy)).setCell ⟨A, 2, none⟩ (.int .i64 qz) = X at *
    clear z0 z1 z2 y0 y1 y2 bA hV k5
    clear V
    refine (break_up H.out.ctl hX HPS.out).mono ?_
    rintro e w3 ⟨rfl, hC3, hO3⟩
    have H3 := (H.out.later hX).work hC3 (hO3.mono (fun _ _ h => h.1))
    have bP3 := bP.only hO3 (by omega)
    clear bP hC3 hO3 hX
    clear X
    have nG : ¬ (vps.ownBlock = some G) := fun e => (H3.lp _ e).2 rfl
    have nA : ¬ (vps.ownBlock = some A) := fun e => by have := (H3.lp _ e).1; omega
    go_wp2_with fail
    have d5 := Chg.cell (D := fun k => vps.ownBlock = some k) H3.box.c5 nG; have d6 := Chg.cell (D := fun k => vps.ownBlock = some k) H3.box.c6 nG
    refine wp_region_tree (fun w' => ∃ y : Chg (fun k => vps.ownBlock = some k) w3, w' = y.w) 11 (.one [0, 1, 2, 3, 4, 5, 6, 7, 8] 9 (.one [] 10 (.leaf []))) (by kernel_rfl) (by kernel_rfl) (by kernel_rfl) ⟨⟨_, (Only.refl _ w3).drew⟩, rfl⟩ ?_
    simp only [List.take_succ_cons, List.take_zero]
    refine tree_one fun K hK => ?_
    simp only [List.map_cons, List.map_nil, pickOp, List.getElem?_cons_zero, List.getElem?_cons_succ, Option.getD_some]
    repeat (go_big_quiet_step (fail))
    refine wpQuiet_nil ?_
    clear d5 d6
    have H4 := H3.later (Ext.refl w3).drew
    have bP4 := bP3.later (Ext.refl w3).drew
    have hD3 : Only (fun k => vps.ownBlock = some k) w3 w3.drew := (Only.refl _ w3).drew
    clear H3 bP3
    generalize w3.drew = w4 at *
    have HD := Lib.hid (done_in H4.ctl HPB.out)
    go_wp2_with ((go_at_call 24; with_reducible refine (HD.out).mono ?_); rintro e w5 ⟨v5, rfl, own5, hx5⟩)
    clear HD
    refine onlyK_normal (hK _ _ ⟨⟨_, hD3.trans (Only.of_ext hx5)⟩, rfl⟩ ?_); clear hK K
    refine tree_one0 fun K hK => ?_
    simp only [pickOp, List.getElem?_cons_zero, List.getElem?_cons_succ, Option.getD_some]
    have HQ4 := Lib.hid (H4.sp.later hx5); have HS4 := Lib.hid own5.sl; have HB4 : Hid (w0.heap.size ≤ w5.heap.size) := Lib.hid (H4.ext.trans hx5).size
    clear own5
    go_wp2_with ((at_builtin; refine appM_at rfl _ _ rfl w0.heap.size _ _ J.ps J.C.brkC.doneL rfl rfl HQ4.out HS4.out HLN.out HB4.out ?_; intro v6 w6 own6 hg6 hloc6))
    have hO6 : Only (fun k => vps.ownBlock = some k) w4 w6 := (Only.of_ext hx5).trans (Only.of_grown hg6)
    refine onlyK_normal (hK _ _ ⟨⟨_, hD3.trans hO6⟩, rfl⟩ ?_); clear hK K
    refine tree_leaf0 ?_
    simp only [List.drop_succ_cons, List.drop_zero]
    have hG4 : G < w4.heap.size := H4.box.lt
    have n6 : v6.ownBlock ≠ some G := by rcases hloc6 with e | e <;> rw [e]; exact nG; intro e2; have := hx5.size; cases e2; omega
    have B6 := H4.box.only hO6 nG
    have S6 := H4.sm.only' hO6 (fun hl b hb e => H4.mp hl b hb e)
    have P6 := bP4.only hO6 nA
    have E6 : Ext w0 w6 := H4.ext.only hO6 (fun i hi e => by have := H4.sp.base e; omega)
    have hcap := H4.cap; have hbase := H4.base
    clear hD3 hg6 hloc6 HQ4 HS4 HB4 bP4 hx5 H4 hO6 hG4
    obtain ⟨x6, n6', c6, rfl⟩ := OwnM.form own6
    have B7 := (B6.set6 x6 n6' c6).set7 false
    have f6 := B6.fr 6 (by decide); have g6 := B6.c6; have f7 := (B6.set6 x6 n6' c6).fr 7 (by decide); have g7 := (B6.set6 x6 n6' c6).c7
    have hO7 : Only (fun k => k = G) w6 ((w6.setCell ⟨G, 6, none⟩ (.slice x6 n6' c6)).setCell ⟨G, 7, none⟩ (.bool false)) := ((Only.refl (fun k => k = G) w6).set (p := ⟨G, 6, none⟩) (.inl rfl) _).set (p := ⟨G, 7, none⟩) (.inl rfl) _
    have S7 := S6.only' hO7 (fun hl b hb e => B6.apart S6 hl (by rw [hb, e]))
    have O7 := own6.only hO7 (fun b hb e => n6 (by rw [hb, e]))
    have P7 := P6.only hO7 (by omega)
    have E7 := (E6.setCell (p := ⟨G, 6, none⟩) hbase (.slice x6 n6' c6)).setCell (p := ⟨G, 7, none⟩) hbase (.bool false)
    go_wp2_with fail
    generalize (w6.setCell ⟨G, 6, none⟩ (.slice x6 n6' c6)).setCell ⟨G, 7, none⟩ (.bool false) = w7 at *
    clear f6 g6 f7 g7 hO7 S6 own6 P6 E6 B6
    obtain ⟨xm, cm, hvm⟩ := S7.is
    have e0 := Later.cell B7.c0; have e4 := Later.cell B7.c4; have a0 := P7.c0; have a1 := P7.c1; have a2 := P7.c2
    refine wp_region_tree (fun w' => ∃ y : Later w7, w' = y.w) 15 (.one [0, 1, 2, 3, 4, 5, 6, 7, 8, 9] 10 (.leaf [11, 12, 13, 14])) (by kernel_rfl) (by kernel_rfl) (by kernel_rfl) ⟨⟨_, (Ext.refl w7).drew⟩, rfl⟩ ?_
    simp only [List.take_succ_cons, List.take_zero]
    refine tree_one fun K hK => ?_
    simp only [List.map_cons, List.map_nil, pickOp, List.getElem?_cons_zero, List.getElem?_cons_succ, Option.getD_some]
    repeat (go_big_quiet_step (fail))
    refine wpQuiet_nil ?_
    clear e0 e4 a0 a1 a2
    have hx7 : Ext w7 w7.drew := (Ext.refl w7).drew
    have KR := Lib.hid (crestart_any vm J.l J.C.idx qx qy qz safe w7.drew (S7.later hx7) hcap HIX.out HLL.out)
    rw [hvm] at KR
    go_wp2_with ((go_at_call 54; with_reducible refine (KR.out).mono ?_); rintro e w8 ⟨v8, rfl, S8, F8, hx8⟩)
    clear KR
    refine onlyK_normal (hK _ _ ⟨⟨_, hx7.trans hx8⟩, rfl⟩ ?_); clear hK K
    have hx9 := hx7.trans hx8
    have hF8 : ∀ b, v8.ownBlock = some b → w7.heap.size ≤ b := F8.2
    have hcap8 := F8.1
    clear F8 hx7 hx8 hcap
    obtain ⟨x8, c8, rfl⟩ := S8.is
    refine tree_leaf ?_
    simp only [List.map_cons, List.map_nil, pickOp, List.getElem?_cons_zero, List.getElem?_cons_succ, Option.getD_some]
    repeat (go_big_quiet_step (fail))
    refine wpQuiet_nil ?_
    simp only [List.drop_succ_cons, List.drop_zero]
    have E8 := E7.trans hx9
    go_wp2
    go_ret
    exact ⟨rfl, E8⟩

set_option maxHeartbeats 8000000 in
theorem mbroken_e2 {w0 : World} {G : Nat} {w : World} {s a j safe : Int} {J : JobS} {k q : Nat} (h : JIn w0 G w s a j safe J) (hok : J.Ok k q) (hk : k ≤ 900000000) (hq : q ≤ 900000) (hsf : in64 safe) (he : rstE J.l J.C.idx J.C.at3 safe = 0) (hck : chk (rstL J.l J.C.idx J.C.at3 safe) s a j ≠ 0) :
    Calls Tryd.prog 34 #[.pointer (some ⟨G, 0, none⟩)] w fun e w' => e = .returned (.int .i64 (chk (rstL J.l J.C.idx J.C.at3 safe) s a j)) ∧ Ext w0 w' := by
  obtain ⟨B, vm, vps, N, h⟩ := h
  have H := Lib.hid h
  have ki := fun (w' : World) (he : Ext w w') => index_in (h.ctl.later he)
  have kp := fun (w' : World) (he : Ext w w') => pos_in (h.ctl.later he)
  have HPS : Hid (J.C.ps.length ≤ 999999999) := Lib.hid (by have := hok.ps; omega)
  have HPB : Hid (J.C.brkC.ps.length ≤ 999999999) := Lib.hid (by have := hok.ps; have := brkC_ps J.C; omega)
  have HLN : Hid (J.ps.length + J.C.brkC.doneL.length ≤ 1000000000) := Lib.hid (by have := hok.ps; have := brkC_ps J.C; have := doneL_len J.C.brkC; omega)
  have HIX : Hid (J.C.idx ≤ J.l.length) := Lib.hid (by have := hok.ok.posOk.le; rw [hok.ms] at this; exact this)
  have HLL : Hid (J.l.length ≤ 1000000) := Lib.hid (by have := hok.ln; omega)
  have HLR : Hid ((rstL J.l J.C.idx J.C.at3 safe).length ≤ 1000000) := Lib.hid (by have := rstL_length J.l J.C.idx J.C.at3 safe; have := hok.ln; omega)
  have HWF : Hid (WfL (rstL J.l J.C.idx J.C.at3 safe)) := Lib.hid (rstL_wf hok.wf hok.ok.at3_in hsf)
  have HCK := Lib.hid hck
  have hgw : G < w.heap.size := h.box.lt
  have hbw : B ≤ w.heap.size := by have := h.ctl.lt; omega
  have c5 := Later.cell h.box.c5
  clear h hok hsf hk hq hck
  generalize hat3 : J.C.at3 = p3 at *
  obtain ⟨qx, qy, qz⟩ := p3
  have KI := Lib.hid ki; have KP := Lib.hid kp
  clear ki kp hat3
  go_enter Tryd.func34, Tryd.ntmps34
  go_wp2_with fail
  have hV : Ext w w.drew := (Ext.refl w).drew
  refine wp_region_tree (fun w' => ∃ y : Later w, w' = y.w) 12 (.two [0, 1, 2, 3, 5, 6, 7, 8] 4 10 (.two [] 9 10 (.one [] 10 (.leaf [11])) (.one [] 9 (.leaf [11]))) (.one [] 4 (.one [] 9 (.leaf [11])))) (by kernel_rfl) (by kernel_rfl) (by kernel_rfl) ⟨⟨_, hV⟩, rfl⟩ ?_
  simp only [List.take_succ_cons, List.take_zero]
  refine tree_two fun K1 K2 hK1 hK2 => ?_
  simp only [List.map_cons, List.map_nil, pickOp, List.getElem?_cons_zero, List.getElem?_cons_succ, Option.getD_some]
  repeat (go_big_quiet_step (fail))
  refine wpQuiet_nil ?_
  clear c5
  generalize w.drew = V at *
  refine ⟨?_, ?_⟩
  · clear hK2 K2
    go_wp2_with ((go_at_call 33; with_reducible refine (KI.out _ hV).mono ?_); rintro e wz ⟨rfl, rfl⟩)
    refine onlyK_normal (hK1 _ _ ⟨⟨_, hV⟩, rfl⟩ ?_); clear hK1 K1
    refine tree_two0 fun K1 K2 hK1 hK2 => ?_
    simp only [pickOp, List.getElem?_cons_zero, List.getElem?_cons_succ, Option.getD_some]
    refine ⟨?_, ?_⟩
    · clear hK2 K2
      go_wp2_with ((go_at_call 52; with_reducible refine (KP.out _ hV).mono ?_); rintro e V2 ⟨rfl, hx2⟩)
      replace hV := hV.trans hx2
      refine onlyK_normal (hK1 _ _ ⟨⟨_, hV⟩, rfl⟩ ?_); clear hK1 K1 hx2
      clear V
      obtain ⟨V, rfl⟩ : ∃ X, X = V2 := ⟨_, rfl⟩
      refine tree_one0 fun K hK => ?_
      simp only [pickOp, List.getElem?_cons_zero, List.getElem?_cons_succ, Option.getD_some]
      go_wp2_with fail
      obtain ⟨V2, hV2, bA, hx2⟩ := P3Box.mk' V 0 0 0
      rw [hV2]; clear hV2
      have hAw : w.heap.size ≤ V.heap.size := hV.size
      generalize V.heap.size = A at *
      replace hV := hV.trans hx2
      refine onlyK_normal (hK _ _ ⟨⟨_, hV⟩, rfl⟩ ?_); clear hK K hx2
      clear V
      obtain ⟨V, rfl⟩ : ∃ X, X = V2 := ⟨_, rfl⟩
      refine tree_leaf ?_
      simp only [List.map_cons, List.map_nil, pickOp, List.getElem?_cons_zero, List.getElem?_cons_succ, Option.getD_some]
      repeat (go_big_quiet_step (fail))
      refine wpQuiet_nil ?_
      simp only [List.drop_succ_cons, List.drop_zero]
      obtain ⟨z0, z1, z2, y0, y1, y2⟩ := bA.at
      have k5 := cell_put3 A qx qy qz (by omega : A ≠ G) (H.out.later hV).box.c5
      go_wp2_with fail
      have bP := bA.put qx qy qz
      have hX : Ext w (((V.setCell ⟨A, 0, none⟩ (.int .i64 qx)).setCell ⟨A, 1, none⟩ (.int .i64 qy)).setCell ⟨A, 2, none⟩ (.int .i64 qz)) := ((hV.setCell hAw _).setCell hAw _).setCell hAw _
      generalize ((V.setCell ⟨A, 0, none⟩ (.int .i64 qx)).setCell ⟨A, 1, none⟩ (.int .i64 qy)).setCell ⟨A, 2, none⟩ (.int .i64 qz) = X at *
      clear z0 z1 z2 y0 y1 y2 bA hV k5
      clear V
      refine (break_up H.out.ctl hX HPS.out).mono ?_
      rintro e w3 ⟨rfl, hC3, hO3⟩
      have H3 := (H.out.later hX).work hC3 (hO3.mono (fun _ _ h => h.1))
      have bP3 := bP.only hO3 (by omega)
      clear bP hC3 hO3 hX
      clear X
      have nG : ¬ (vps.ownBlock = some G) := fun e => (H3.lp _ e).2 rfl
      have nA : ¬ (vps.ownBlock = some A) := fun e => by have := (H3.lp _ e).1; omega
      go_wp2_with fail
      have d5 := Chg.cell (D := fun k => vps.ownBlock = some k) H3.box.c5 nG; have d6 := Chg.cell (D := fun k => vps.ownBlock = some k) H3.box.c6 nG
      refine wp_region_tree (fun w' => ∃ y : Chg (fun k => vps.ownBlock = some k) w3, w' = y.w) 11 (.one [0, 1, 2, 3, 4, 5, 6, 7, 8] 9 (.one [] 10 (.leaf []))) (by kernel_rfl) (by kernel_rfl) (by kernel_rfl) ⟨⟨_, (Only.refl _ w3).drew⟩, rfl⟩ ?_
      simp only [List.take_succ_cons, List.take_zero]
      refine tree_one fun K hK => ?_
      simp only [List.map_cons, List.map_nil, pickOp, List.getElem?_cons_zero, List.getElem?_cons_succ, Option.getD_some]
      repeat (go_big_quiet_step (fail))
      refine wpQuiet_nil ?_
      clear d5 d6
      have H4 := H3.later (Ext.refl w3).drew
      have bP4 := bP3.later (Ext.refl w3).drew
      have hD3 : Only (fun k => vps.ownBlock = some k) w3 w3.drew := (Only.refl _ w3).drew
      clear H3 bP3
      generalize w3.drew = w4 at *
      have HD := Lib.hid (done_in H4.ctl HPB.out)
      go_wp2_with ((go_at_call 24; with_reducible refine (HD.out).mono ?_); rintro e w5 ⟨v5, rfl, own5, hx5⟩)
      clear HD
      refine onlyK_normal (hK _ _ ⟨⟨_, hD3.trans (Only.of_ext hx5)⟩, rfl⟩ ?_); clear hK K
      refine tree_one0 fun K hK => ?_
      simp only [pickOp, List.getElem?_cons_zero, List.getElem?_cons_succ, Option.getD_some]
      have HQ4 := Lib.hid (H4.sp.later hx5); have HS4 := Lib.hid own5.sl; have HB4 : Hid (w0.heap.size ≤ w5.heap.size) := Lib.hid (H4.ext.trans hx5).size
      clear own5
      go_wp2_with ((at_builtin; refine appM_at rfl _ _ rfl w0.heap.size _ _ J.ps J.C.brkC.doneL rfl rfl HQ4.out HS4.out HLN.out HB4.out ?_; intro v6 w6 own6 hg6 hloc6))
      have hO6 : Only (fun k => vps.ownBlock = some k) w4 w6 := (Only.of_ext hx5).trans (Only.of_grown hg6)
      refine onlyK_normal (hK _ _ ⟨⟨_, hD3.trans hO6⟩, rfl⟩ ?_); clear hK K
      refine tree_leaf0 ?_
      simp only [List.drop_succ_cons, List.drop_zero]
      have hG4 : G < w4.heap.size := H4.box.lt
      have n6 : v6.ownBlock ≠ some G := by rcases hloc6 with e | e <;> rw [e]; exact nG; intro e2; have := hx5.size; cases e2; omega
      have B6 := H4.box.only hO6 nG
      have S6 := H4.sm.only' hO6 (fun hl b hb e => H4.mp hl b hb e)
      have P6 := bP4.only hO6 nA
      have E6 : Ext w0 w6 := H4.ext.only hO6 (fun i hi e => by have := H4.sp.base e; omega)
      have hcap := H4.cap; have hbase := H4.base
      clear hD3 hg6 hloc6 HQ4 HS4 HB4 bP4 hx5 H4 hO6 hG4
      obtain ⟨x6, n6', c6, rfl⟩ := OwnM.form own6
      have B7 := (B6.set6 x6 n6' c6).set7 false
      have f6 := B6.fr 6 (by decide); have g6 := B6.c6; have f7 := (B6.set6 x6 n6' c6).fr 7 (by decide); have g7 := (B6.set6 x6 n6' c6).c7
      have hO7 : Only (fun k => k = G) w6 ((w6.setCell ⟨G, 6, none⟩ (.slice x6 n6' c6)).setCell ⟨G, 7, none⟩ (.bool false)) := ((Only.refl (fun k => k = G) w6).set (p := ⟨G, 6, none⟩) (.inl rfl) _).set (p := ⟨G, 7, none⟩) (.inl rfl) _
      have S7 := S6.only' hO7 (fun hl b hb e => B6.apart S6 hl (by rw [hb, e]))
      have O7 := own6.only hO7 (fun b hb e => n6 (by rw [hb, e]))
      have P7 := P6.only hO7 (by omega)
      have E7 := (E6.setCell (p := ⟨G, 6, none⟩) hbase (.slice x6 n6' c6)).setCell (p := ⟨G, 7, none⟩) hbase (.bool false)
      go_wp2_with fail
      generalize (w6.setCell ⟨G, 6, none⟩ (.slice x6 n6' c6)).setCell ⟨G, 7, none⟩ (.bool false) = w7 at *
      clear f6 g6 f7 g7 hO7 S6 own6 P6 E6 B6
      obtain ⟨xm, cm, hvm⟩ := S7.is
      have e0 := Later.cell B7.c0; have e4 := Later.cell B7.c4; have a0 := P7.c0; have a1 := P7.c1; have a2 := P7.c2
      refine wp_region_tree (fun w' => ∃ y : Later w7, w' = y.w) 15 (.one [0, 1, 2, 3, 4, 5, 6, 7, 8, 9] 10 (.leaf [11, 12, 13, 14])) (by kernel_rfl) (by kernel_rfl) (by kernel_rfl) ⟨⟨_, (Ext.refl w7).drew⟩, rfl⟩ ?_
      simp only [List.take_succ_cons, List.take_zero]
      refine tree_one fun K hK => ?_
      simp only [List.map_cons, List.map_nil, pickOp, List.getElem?_cons_zero, List.getElem?_cons_succ, Option.getD_some]
      repeat (go_big_quiet_step (fail))
      refine wpQuiet_nil ?_
      clear e0 e4 a0 a1 a2
      have hx7 : Ext w7 w7.drew := (Ext.refl w7).drew
      have KR := Lib.hid (crestart_any vm J.l J.C.idx qx qy qz safe w7.drew (S7.later hx7) hcap HIX.out HLL.out)
      rw [hvm] at KR
      go_wp2_with ((go_at_call 54; with_reducible refine (KR.out).mono ?_); rintro e w8 ⟨v8, rfl, S8, F8, hx8⟩)
      clear KR
      refine onlyK_normal (hK _ _ ⟨⟨_, hx7.trans hx8⟩, rfl⟩ ?_); clear hK K
      have hx9 := hx7.trans hx8
      have hF8 : ∀ b, v8.ownBlock = some b → w7.heap.size ≤ b := F8.2
      have hcap8 := F8.1
      clear F8 hx7 hx8 hcap
      obtain ⟨x8, c8, rfl⟩ := S8.is
      refine tree_leaf ?_
      simp only [List.map_cons, List.map_nil, pickOp, List.getElem?_cons_zero, List.getElem?_cons_succ, Option.getD_some]
      repeat (go_big_quiet_step (fail))
      refine wpQuiet_nil ?_
      simp only [List.drop_succ_cons, List.drop_zero]
      have E8 := E7.trans hx9
      have B8 := B7.later hx9
      have O8 := O7.later hx9
      have hw8 : w7.heap.size ≤ w8.heap.size := hx9.size
      have KM := Lib.hid (mstart_bad B8 S8 HLR.out HWF.out HCK.out)
      go_wp2_with ((go_at_call 18; with_reducible refine (KM.out).mono ?_); rintro e w9 ⟨rfl, hxx⟩)
      go_ret
      exact ⟨rfl, E8.trans hxx⟩
    · clear hK1 K1
      go_wp2_with fail
      obtain ⟨V2, hV2, bA, hx2⟩ := P3Box.mk' V 0 0 0
      rw [hV2]; clear hV2
      have hAw : w.heap.size ≤ V.heap.size := hV.size
      generalize V.heap.size = A at *
      replace hV := hV.trans hx2
      refine onlyK_normal (hK2 _ _ ⟨⟨_, hV⟩, rfl⟩ ?_); clear hK2 K2 hx2
      clear V
      obtain ⟨V, rfl⟩ : ∃ X, X = V2 := ⟨_, rfl⟩
      refine tree_one0 fun K hK => ?_
      simp only [pickOp, List.getElem?_cons_zero, List.getElem?_cons_succ, Option.getD_some]
      go_wp2_with ((go_at_call 52; with_reducible refine (KP.out _ hV).mono ?_); rintro e V2 ⟨rfl, hx2⟩)
      replace hV := hV.trans hx2
      replace bA := bA.later hx2
      refine onlyK_normal (hK _ _ ⟨⟨_, hV⟩, rfl⟩ ?_); clear hK K hx2
      clear V
      obtain ⟨V, rfl⟩ : ∃ X, X = V2 := ⟨_, rfl⟩
      refine tree_leaf ?_
      simp only [List.map_cons, List.map_nil, pickOp, List.getElem?_cons_zero, List.getElem?_cons_succ, Option.getD_some]
      repeat (go_big_quiet_step (fail))
      refine wpQuiet_nil ?_
      simp only [List.drop_succ_cons, List.drop_zero]
      obtain ⟨z0, z1, z2, y0, y1, y2⟩ := bA.at
      have k5 := cell_put3 A qx qy qz (by omega : A ≠ G) (H.out.later hV).box.c5
      go_wp2_with fail
      have bP := bA.put qx qy qz
      have hX : Ext w (((V.setCell ⟨A, 0, none⟩ (.int .i64 qx)).setCell ⟨A, 1, none⟩ (.int .i64 qy)).setCell ⟨A, 2, none⟩ (.int .i64 qz)) := ((hV.setCell hAw _).setCell hAw _).setCell hAw _
      generalize ((V.setCell ⟨A, 0, none⟩ (.int .i64 qx)).setCell ⟨A, 1, none⟩ (.int .i64 qy)).setCell ⟨A, 2, none⟩ (.int .i64 qz) = X at *
      clear z0 z1 z2 y0 y1 y2 bA hV k5
      clear V
      refine (break_up H.out.ctl hX HPS.out).mono ?_
      rintro e w3 ⟨rfl, hC3, hO3⟩
      have H3 := (H.out.later hX).work hC3 (hO3.mono (fun _ _ h => h.1))
      have bP3 := bP.only hO3 (by omega)
      clear bP hC3 hO3 hX
      clear X
      have nG : ¬ (vps.ownBlock = some G) := fun e => (H3.lp _ e).2 rfl
      have nA : ¬ (vps.ownBlock = some A) := fun e => by have := (H3.lp _ e).1; omega
      go_wp2_with fail
      have d5 := Chg.cell (D := fun k => vps.ownBlock = some k) H3.box.c5 nG; have d6 := Chg.cell (D := fun k => vps.ownBlock = some k) H3.box.c6 nG
      refine wp_region_tree (fun w' => ∃ y : Chg (fun k => vps.ownBlock = some k) w3, w' = y.w) 11 (.one [0, 1, 2, 3, 4, 5, 6, 7, 8] 9 (.one [] 10 (.leaf []))) (by kernel_rfl) (by kernel_rfl) (by kernel_rfl) ⟨⟨_, (Only.refl _ w3).drew⟩, rfl⟩ ?_
      simp only [List.take_succ_cons, List.take_zero]
      refine tree_one fun K hK => ?_
      simp only [List.map_cons, List.map_nil, pickOp, List.getElem?_cons_zero, List.getElem?_cons_succ, Option.getD_some]
      repeat (go_big_quiet_step (fail))
      refine wpQuiet_nil ?_
      clear d5 d6
      have H4 := H3.later (Ext.refl w3).drew
      have bP4 := bP3.later (Ext.refl w3).drew
      have hD3 : Only (fun k => vps.ownBlock = some k) w3 w3.drew := (Only.refl _ w3).drew
      clear H3 bP3
      generalize w3.drew = w4 at *
      have HD := Lib.hid (done_in H4.ctl HPB.out)
      go_wp2_with ((go_at_call 24; with_reducible refine (HD.out).mono ?_); rintro e w5 ⟨v5, rfl, own5, hx5⟩)
      clear HD
      refine onlyK_normal (hK _ _ ⟨⟨_, hD3.trans (Only.of_ext hx5)⟩, rfl⟩ ?_); clear hK K
      refine tree_one0 fun K hK => ?_
      simp only [pickOp, List.getElem?_cons_zero, List.getElem?_cons_succ, Option.getD_some]
      have HQ4 := Lib.hid (H4.sp.later hx5); have HS4 := Lib.hid own5.sl; have HB4 : Hid (w0.heap.size ≤ w5.heap.size) := Lib.hid (H4.ext.trans hx5).size
      clear own5
      go_wp2_with ((at_builtin; refine appM_at rfl _ _ rfl w0.heap.size _ _ J.ps J.C.brkC.doneL rfl rfl HQ4.out HS4.out HLN.out HB4.out ?_; intro v6 w6 own6 hg6 hloc6))
      have hO6 : Only (fun k => vps.ownBlock = some k) w4 w6 := (Only.of_ext hx5).trans (Only.of_grown hg6)
      refine onlyK_normal (hK _ _ ⟨⟨_, hD3.trans hO6⟩, rfl⟩ ?_); clear hK K
      refine tree_leaf0 ?_
      simp only [List.drop_succ_cons, List.drop_zero]
      have hG4 : G < w4.heap.size := H4.box.lt
      have n6 : v6.ownBlock ≠ some G := by rcases hloc6 with e | e <;> rw [e]; exact nG; intro e2; have := hx5.size; cases e2; omega
      have B6 := H4.box.only hO6 nG
      have S6 := H4.sm.only' hO6 (fun hl b hb e => H4.mp hl b hb e)
      have P6 := bP4.only hO6 nA
      have E6 : Ext w0 w6 := H4.ext.only hO6 (fun i hi e => by have := H4.sp.base e; omega)
      have hcap := H4.cap; have hbase := H4.base
      clear hD3 hg6 hloc6 HQ4 HS4 HB4 bP4 hx5 H4 hO6 hG4
      obtain ⟨x6, n6', c6, rfl⟩ := OwnM.form own6
      have B7 := (B6.set6 x6 n6' c6).set7 false
      have f6 := B6.fr 6 (by decide); have g6 := B6.c6; have f7 := (B6.set6 x6 n6' c6).fr 7 (by decide); have g7 := (B6.set6 x6 n6' c6).c7
      have hO7 : Only (fun k => k = G) w6 ((w6.setCell ⟨G, 6, none⟩ (.slice x6 n6' c6)).setCell ⟨G, 7, none⟩ (.bool false)) := ((Only.refl (fun k => k = G) w6).set (p := ⟨G, 6, none⟩) (.inl rfl) _).set (p := ⟨G, 7, none⟩) (.inl rfl) _
      have S7 := S6.only' hO7 (fun hl b hb e => B6.apart S6 hl (by rw [hb, e]))
      have O7 := own6.only hO7 (fun b hb e => n6 (by rw [hb, e]))
      have P7 := P6.only hO7 (by omega)
      have E7 := (E6.setCell (p := ⟨G, 6, none⟩) hbase (.slice x6 n6' c6)).setCell (p := ⟨G, 7, none⟩) hbase (.bool false)
      go_wp2_with fail
      generalize (w6.setCell ⟨G, 6, none⟩ (.slice x6 n6' c6)).setCell ⟨G, 7, none⟩ (.bool false) = w7 at *
      clear f6 g6 f7 g7 hO7 S6 own6 P6 E6 B6
      obtain ⟨xm, cm, hvm⟩ := S7.is
      have e0 := Later.cell B7.c0; have e4 := Later.cell B7.c4; have a0 := P7.c0; have a1 := P7.c1; have a2 := P7.c2
      refine wp_region_tree (fun w' => ∃ y : Later w7, w' = y.w) 15 (.one [0, 1, 2, 3, 4, 5, 6, 7, 8, 9] 10 (.leaf [11, 12, 13, 14])) (by kernel_rfl) (by kernel_rfl) (by kernel_rfl) ⟨⟨_, (Ext.refl w7).drew⟩, rfl⟩ ?_
      simp only [List.take_succ_cons, List.take_zero]
      refine tree_one fun K hK => ?_
      simp only [List.map_cons, List.map_nil, pickOp, List.getElem?_cons_zero, List.getElem?_cons_succ, Option.getD_some]
      repeat (go_big_quiet_step (fail))
      refine wpQuiet_nil ?_
      clear e0 e4 a0 a1 a2
      have hx7 : Ext w7 w7.drew := (Ext.refl w7).drew
      have KR := Lib.hid (crestart_any vm J.l J.C.idx qx qy qz safe w7.drew (S7.later hx7) hcap HIX.out HLL.out)
      rw [hvm] at KR
      go_wp2_with ((go_at_call 54; with_reducible refine (KR.out).mono ?_); rintro e w8 ⟨v8, rfl, S8, F8, hx8⟩)
      clear KR
      refine onlyK_normal (hK _ _ ⟨⟨_, hx7.trans hx8⟩, rfl⟩ ?_); clear hK K
      have hx9 := hx7.trans hx8
      have hF8 : ∀ b, v8.ownBlock = some b → w7.heap.size ≤ b := F8.2
      have hcap8 := F8.1
      clear F8 hx7 hx8 hcap
      obtain ⟨x8, c8, rfl⟩ := S8.is
      refine tree_leaf ?_
      simp only [List.map_cons, List.map_nil, pickOp, List.getElem?_cons_zero, List.getElem?_cons_succ, Option.getD_some]
      repeat (go_big_quiet_step (fail))
      refine wpQuiet_nil ?_
      simp only [List.drop_succ_cons, List.drop_zero]
      have E8 := E7.trans hx9
      have B8 := B7.later hx9
      have O8 := O7.later hx9
      have hw8 : w7.heap.size ≤ w8.heap.size := hx9.size
      have KM := Lib.hid (mstart_bad B8 S8 HLR.out HWF.out HCK.out)
      go_wp2_with ((go_at_call 18; with_reducible refine (KM.out).mono ?_); rintro e w9 ⟨rfl, hxx⟩)
      go_ret
      exact ⟨rfl, E8.trans hxx⟩
  · clear hK1 K1
    go_wp2_with fail
    obtain ⟨V2, hV2, bA, hx2⟩ := P3Box.mk' V 0 0 0
    rw [hV2]; clear hV2
    have hAw : w.heap.size ≤ V.heap.size := hV.size
    generalize V.heap.size = A at *
    replace hV := hV.trans hx2
    refine onlyK_normal (hK2 _ _ ⟨⟨_, hV⟩, rfl⟩ ?_); clear hK2 K2 hx2
    clear V
    obtain ⟨V, rfl⟩ : ∃ X, X = V2 := ⟨_, rfl⟩
    refine tree_one0 fun K hK => ?_
    simp only [pickOp, List.getElem?_cons_zero, List.getElem?_cons_succ, Option.getD_some]
    go_wp2_with ((go_at_call 33; with_reducible refine (KI.out _ hV).mono ?_); rintro e wz ⟨rfl, rfl⟩)
    refine onlyK_normal (hK _ _ ⟨⟨_, hV⟩, rfl⟩ ?_); clear hK K
    refine tree_one0 fun K hK => ?_
    simp only [pickOp, List.getElem?_cons_zero, List.getElem?_cons_succ, Option.getD_some]
    go_wp2_with ((go_at_call 52; with_reducible refine (KP.out _ hV).mono ?_); rintro e V2 ⟨rfl, hx2⟩)
    replace hV := hV.trans hx2
    replace bA := bA.later hx2
    refine onlyK_normal (hK _ _ ⟨⟨_, hV⟩, rfl⟩ ?_); clear hK K hx2
    clear V
    obtain ⟨V, rfl⟩ : ∃ X, X = V2 := ⟨_, rfl⟩
    refine tree_leaf ?_
    simp only [List.map_cons, List.map_nil, pickOp, List.getElem?_cons_zero, List.getElem?_cons_succ, Option.getD_some]
    repeat (go_big_quiet_step (fail))
    refine wpQuiet_nil ?_
    simp only [List.drop_succ_cons, List.drop_zero]
    obtain ⟨z0, z1, z2, y0, y1, y2⟩ := bA.at
    have k5 := cell_put3 A qx qy qz (by omega : A ≠ G) (H.out.later hV).box.c5
    go_wp2_with fail
    have bP := bA.put qx qy qz
    have hX : Ext w (((V.setCell ⟨A, 0, none⟩ (.int .i64 qx)).setCell ⟨A, 1, none⟩ (.int .i64 qy)).setCell ⟨A, 2, none⟩ (.int .i64 qz)) := ((hV.setCell hAw _).setCell hAw _).setCell hAw _
    generalize ((V.setCell ⟨A, 0, none⟩ (.int .i64 qx)).setCell ⟨A, 1, none⟩ (.int .i64 qy)).setCell ⟨A, 2, none⟩ (.int .i64 qz) = X at *
    clear z0 z1 z2 y0 y1 y2 bA hV k5
    clear V
    refine (break_up H.out.ctl hX HPS.out).mono ?_
    rintro e w3 ⟨rfl, hC3, hO3⟩
    have H3 := (H.out.later hX).work hC3 (hO3.mono (fun _ _ h => h.1))
    have bP3 := bP.only hO3 (by omega)
    clear bP hC3 hO3 hX
    clear X
    have nG : ¬ (vps.ownBlock = some G) := fun e => (H3.lp _ e).2 rfl
    have nA : ¬ (vps.ownBlock = some A) := fun e => by have := (H3.lp _ e).1; omega
    go_wp2_with fail
    have d5 := Chg.cell (D := fun k => vps.ownBlock = some k) H3.box.c5 nG; have d6 := Chg.cell (D := fun k => vps.ownBlock = some k) H3.box.c6 nG
    refine wp_region_tree (fun w' => ∃ y : Chg (fun k => vps.ownBlock = some k) w3, w' = y.w) 11 (.one [0, 1, 2, 3, 4, 5, 6, 7, 8] 9 (.one [] 10 (.leaf []))) (by kernel_rfl) (by kernel_rfl) (by kernel_rfl) ⟨⟨_, (Only.refl _ w3).drew⟩, rfl⟩ ?_
    simp only [List.take_succ_cons, List.take_zero]
    refine tree_one fun K hK => ?_
    simp only [List.map_cons, List.map_nil, pickOp, List.getElem?_cons_zero, List.getElem?_cons_succ, Option.getD_some]
    repeat (go_big_quiet_step (fail))
    refine wpQuiet_nil ?_
    clear d5 d6
    have H4 := H3.later (Ext.refl w3).drew
    have bP4 := bP3.later (Ext.refl w3).drew
    have hD3 : Only (fun k => vps.ownBlock = some k) w3 w3.drew := (Only.refl _ w3).drew
    clear H3 bP3
    generalize w3.drew = w4 at *
    have HD := Lib.hid (done_in H4.ctl HPB.out)
    go_wp2_with ((go_at_call 24; with_reducible refine (HD.out).mono ?_); rintro e w5 ⟨v5, rfl, own5, hx5⟩)
    clear HD
    refine onlyK_normal (hK _ _ ⟨⟨_, hD3.trans (Only.of_ext hx5)⟩, rfl⟩ ?_); clear hK K
    refine tree_one0 fun K hK => ?_
    simp only [pickOp, List.getElem?_cons_zero, List.getElem?_cons_succ, Option.getD_some]
    have HQ4 := Lib.hid (H4.sp.later hx5); have HS4 := Lib.hid own5.sl; have HB4 : Hid (w0.heap.size ≤ w5.heap.size) := Lib.hid (H4.ext.trans hx5).size
    clear own5
    go_wp2_with ((at_builtin; refine appM_at rfl _ _ rfl w0.heap.size _ _ J.ps J.C.brkC.doneL rfl rfl HQ4.out HS4.out HLN.out HB4.out ?_; intro v6 w6 own6 hg6 hloc6))
    have hO6 : Only (fun k => vps.ownBlock = some k) w4 w6 := (Only.of_ext hx5).trans (Only.of_grown hg6)
    refine onlyK_normal (hK _ _ ⟨⟨_, hD3.trans hO6⟩, rfl⟩ ?_); clear hK K
    refine tree_leaf0 ?_
    simp only [List.drop_succ_cons, List.drop_zero]
    have hG4 : G < w4.heap.size := H4.box.lt
    have n6 : v6.ownBlock ≠ some G := by rcases hloc6 with e | e <;> rw [e]; exact nG; intro e2; have := hx5.size; cases e2; omega
    have B6 := H4.box.only hO6 nG
    have S6 := H4.sm.only' hO6 (fun hl b hb e => H4.mp hl b hb e)
    have P6 := bP4.only hO6 nA
    have E6 : Ext w0 w6 := H4.ext.only hO6 (fun i hi e => by have := H4.sp.base e; omega)
    have hcap := H4.cap; have hbase := H4.base
    clear hD3 hg6 hloc6 HQ4 HS4 HB4 bP4 hx5 H4 hO6 hG4
    obtain ⟨x6, n6', c6, rfl⟩ := OwnM.form own6
    have B7 := (B6.set6 x6 n6' c6).set7 false
    have f6 := B6.fr 6 (by decide); have g6 := B6.c6; have f7 := (B6.set6 x6 n6' c6).fr 7 (by decide); have g7 := (B6.set6 x6 n6' c6).c7
    have hO7 : Only (fun k => k = G) w6 ((w6.setCell ⟨G, 6, none⟩ (.slice x6 n6' c6)).setCell ⟨G, 7, none⟩ (.bool false)) := ((Only.refl (fun k => k = G) w6).set (p := ⟨G, 6, none⟩) (.inl rfl) _).set (p := ⟨G, 7, none⟩) (.inl rfl) _
    have S7 := S6.only' hO7 (fun hl b hb e => B6.apart S6 hl (by rw [hb, e]))
    have O7 := own6.only hO7 (fun b hb e => n6 (by rw [hb, e]))
    have P7 := P6.only hO7 (by omega)
    have E7 := (E6.setCell (p := ⟨G, 6, none⟩) hbase (.slice x6 n6' c6)).setCell (p := ⟨G, 7, none⟩) hbase (.bool false)
    go_wp2_with fail
    generalize (w6.setCell ⟨G, 6, none⟩ (.slice x6 n6' c6)).setCell ⟨G, 7, none⟩ (.bool false) = w7 at *
    clear f6 g6 f7 g7 hO7 S6 own6 P6 E6 B6
    obtain ⟨xm, cm, hvm⟩ := S7.is
    have e0 := Later.cell B7.c0; have e4 := Later.cell B7.c4; have a0 := P7.c0; have a1 := P7.c1; have a2 := P7.c2
    refine wp_region_tree (fun w' => ∃ y : Later w7, w' = y.w) 15 (.one [0, 1, 2, 3, 4, 5, 6, 7, 8, 9] 10 (.leaf [11, 12, 13, 14])) (by kernel_rfl) (by kernel_rfl) (by kernel_rfl) ⟨⟨_, (Ext.refl w7).drew⟩, rfl⟩ ?_
    simp only [List.take_succ_cons, List.take_zero]
    refine tree_one fun K hK => ?_
    simp only [List.map_cons, List.map_nil, pickOp, List.getElem?_cons_zero, List.getElem?_cons_succ, Option.getD_some]
    repeat (go_big_quiet_step (fail))
    refine wpQuiet_nil ?_
    clear e0 e4 a0 a1 a2
    have hx7 : Ext w7 w7.drew := (Ext.refl w7).drew
    have KR := Lib.hid (crestart_any vm J.l J.C.idx qx qy qz safe w7.drew (S7.later hx7) hcap HIX.out HLL.out)
    rw [hvm] at KR
    go_wp2_with ((go_at_call 54; with_reducible refine (KR.out).mono ?_); rintro e w8 ⟨v8, rfl, S8, F8, hx8⟩)
    clear KR
    refine onlyK_normal (hK _ _ ⟨⟨_, hx7.trans hx8⟩, rfl⟩ ?_); clear hK K
    have hx9 := hx7.trans hx8
    have hF8 : ∀ b, v8.ownBlock = some b → w7.heap.size ≤ b := F8.2
    have hcap8 := F8.1
    clear F8 hx7 hx8 hcap
    obtain ⟨x8, c8, rfl⟩ := S8.is
    refine tree_leaf ?_
    simp only [List.map_cons, List.map_nil, pickOp, List.getElem?_cons_zero, List.getElem?_cons_succ, Option.getD_some]
    repeat (go_big_quiet_step (fail))
    refine wpQuiet_nil ?_
    simp only [List.drop_succ_cons, List.drop_zero]
    have E8 := E7.trans hx9
    have B8 := B7.later hx9
    have O8 := O7.later hx9
    have hw8 : w7.heap.size ≤ w8.heap.size := hx9.size
    have KM := Lib.hid (mstart_bad B8 S8 HLR.out HWF.out HCK.out)
    go_wp2_with ((go_at_call 18; with_reducible refine (KM.out).mono ?_); rintro e w9 ⟨rfl, hxx⟩)
    go_ret
    exact ⟨rfl, E8.trans hxx⟩

set_option maxHeartbeats 8000000 in
theorem mbroken_ok {w0 : World} {G : Nat} {w : World} {s a j safe : Int} {J : JobS} {k q : Nat} (h : JIn w0 G w s a j safe J) (hok : J.Ok k q) (hk : k ≤ 900000000) (hq : q ≤ 900000) (hsf : in64 safe) (he : rstE J.l J.C.idx J.C.at3 safe = 0) (hck : chk (rstL J.l J.C.idx J.C.at3 safe) s a j = 0) :
    Calls Tryd.prog 34 #[.pointer (some ⟨G, 0, none⟩)] w fun e w' => e = .returned (.int .i64 0) ∧ JIn w0 G w' s a j safe { l := rstL J.l J.C.idx J.C.at3 safe, C := Ctl.new (rstL J.l J.C.idx J.C.at3 safe) s a j, ps := J.ps ++ J.C.brkC.doneL, held := false, till := J.till } := by
  obtain ⟨B, vm, vps, N, h⟩ := h
  have H := Lib.hid h
  have ki := fun (w' : World) (he : Ext w w') => index_in (h.ctl.later he)
  have kp := fun (w' : World) (he : Ext w w') => pos_in (h.ctl.later he)
  have HPS : Hid (J.C.ps.length ≤ 999999999) := Lib.hid (by have := hok.ps; omega)
  have HPB : Hid (J.C.brkC.ps.length ≤ 999999999) := Lib.hid (by have := hok.ps; have := brkC_ps J.C; omega)
  have HLN : Hid (J.ps.length + J.C.brkC.doneL.length ≤ 1000000000) := Lib.hid (by have := hok.ps; have := brkC_ps J.C; have := doneL_len J.C.brkC; omega)
  have HIX : Hid (J.C.idx ≤ J.l.length) := Lib.hid (by have := hok.ok.posOk.le; rw [hok.ms] at this; exact this)
  have HLL : Hid (J.l.length ≤ 1000000) := Lib.hid (by have := hok.ln; omega)
  have HLR : Hid ((rstL J.l J.C.idx J.C.at3 safe).length ≤ 1000000) := Lib.hid (by have := rstL_length J.l J.C.idx J.C.at3 safe; have := hok.ln; omega)
  have HWF : Hid (WfL (rstL J.l J.C.idx J.C.at3 safe)) := Lib.hid (rstL_wf hok.wf hok.ok.at3_in hsf)
  have HCK := Lib.hid hck
  have hgw : G < w.heap.size := h.box.lt
  have hbw : B ≤ w.heap.size := by have := h.ctl.lt; omega
  have c5 := Later.cell h.box.c5
  clear h hok hsf hk hq hck
  generalize hat3 : J.C.at3 = p3 at *
  obtain ⟨qx, qy, qz⟩ := p3
  have KI := Lib.hid ki; have KP := Lib.hid kp
  clear ki kp hat3
  go_enter Tryd.func34, Tryd.ntmps34
  go_wp2_with fail
  have hV : Ext w w.drew := (Ext.refl w).drew
  refine wp_region_tree (fun w' => ∃ y : Later w, w' = y.w) 12 (.two [0, 1, 2, 3, 5, 6, 7, 8] 4 10 (.two [] 9 10 (.one [] 10 (.leaf [11])) (.one [] 9 (.leaf [11]))) (.one [] 4 (.one [] 9 (.leaf [11])))) (by kernel_rfl) (by kernel_rfl) (by kernel_rfl) ⟨⟨_, hV⟩, rfl⟩ ?_
  simp only [List.take_succ_cons, List.take_zero]
  refine tree_two fun K1 K2 hK1 hK2 => ?_
  simp only [List.map_cons, List.map_nil, pickOp, List.getElem?_cons_zero, List.getElem?_cons_succ, Option.getD_some]
  repeat (go_big_quiet_step (fail))
  refine wpQuiet_nil ?_
  clear c5
  generalize w.drew = V at *
  refine ⟨?_, ?_⟩
  · clear hK2 K2
    go_wp2_with ((go_at_call 33; with_reducible refine (KI.out _ hV).mono ?_); rintro e wz ⟨rfl, rfl⟩)
    refine onlyK_normal (hK1 _ _ ⟨⟨_, hV⟩, rfl⟩ ?_); clear hK1 K1
    refine tree_two0 fun K1 K2 hK1 hK2 => ?_
    simp only [pickOp, List.getElem?_cons_zero, List.getElem?_cons_succ, Option.getD_some]
    refine ⟨?_, ?_⟩
    · clear hK2 K2
      go_wp2_with ((go_at_call 52; with_reducible refine (KP.out _ hV).mono ?_); rintro e V2 ⟨rfl, hx2⟩)
      replace hV := hV.trans hx2
      refine onlyK_normal (hK1 _ _ ⟨⟨_, hV⟩, rfl⟩ ?_); clear hK1 K1 hx2
      clear V
      obtain ⟨V, rfl⟩ : ∃ X, X = V2 := ⟨_, rfl⟩
      refine tree_one0 fun K hK => ?_
      simp only [pickOp, List.getElem?_cons_zero, List.getElem?_cons_succ, Option.getD_some]
      go_wp2_with fail
      obtain ⟨V2, hV2, bA, hx2⟩ := P3Box.mk' V 0 0 0
      rw [hV2]; clear hV2
      have hAw : w.heap.size ≤ V.heap.size := hV.size
      generalize V.heap.size = A at *
      replace hV := hV.trans hx2
      refine onlyK_normal (hK _ _ ⟨⟨_, hV⟩, rfl⟩ ?_); clear hK K hx2
      clear V
      obtain ⟨V, rfl⟩ : ∃ X, X = V2 := ⟨_, rfl⟩
      refine tree_leaf ?_
      simp only [List.map_cons, List.map_nil, pickOp, List.getElem?_cons_zero, List.getElem?_cons_succ, Option.getD_some]
      repeat (go_big_quiet_step (fail))
      refine wpQuiet_nil ?_
      simp only [List.drop_succ_cons, List.drop_zero]
      obtain ⟨z0, z1, z2, y0, y1, y2⟩ := bA.at
      have k5 := cell_put3 A qx qy qz (by omega : A ≠ G) (H.out.later hV).box.c5
      go_wp2_with fail
      have bP := bA.put qx qy qz
      have hX : Ext w (((V.setCell ⟨A, 0, none⟩ (.int .i64 qx)).setCell ⟨A, 1, none⟩ (.int .i64 qy)).setCell ⟨A, 2, none⟩ (.int .i64 qz)) := ((hV.setCell hAw _).setCell hAw _).setCell hAw _
      generalize ((V.setCell ⟨A, 0, none⟩ (.int .i64 qx)).setCell ⟨A, 1, none⟩ (.int .i64 qy)).setCell ⟨A, 2, none⟩ (.int .i64 qz) = X at *
      clear z0 z1 z2 y0 y1 y2 bA hV k5
      clear V
      refine (break_up H.out.ctl hX HPS.out).mono ?_
      rintro e w3 ⟨rfl, hC3, hO3⟩
      have H3 := (H.out.later hX).work hC3 (hO3.mono (fun _ _ h => h.1))
      have bP3 := bP.only hO3 (by omega)
      clear bP hC3 hO3 hX
      clear X
      have nG : ¬ (vps.ownBlock = some G) := fun e => (H3.lp _ e).2 rfl
      have nA : ¬ (vps.ownBlock = some A) := fun e => by have := (H3.lp _ e).1; omega
      go_wp2_with fail
      have d5 := Chg.cell (D := fun k => vps.ownBlock = some k) H3.box.c5 nG; have d6 := Chg.cell (D := fun k => vps.ownBlock = some k) H3.box.c6 nG
      refine wp_region_tree (fun w' => ∃ y : Chg (fun k => vps.ownBlock = some k) w3, w' = y.w) 11 (.one [0, 1, 2, 3, 4, 5, 6, 7, 8] 9 (.one [] 10 (.leaf []))) (by kernel_rfl) (by kernel_rfl) (by kernel_rfl) ⟨⟨_, (Only.refl _ w3).drew⟩, rfl⟩ ?_
      simp only [List.take_succ_cons, List.take_zero]
      refine tree_one fun K hK => ?_
      simp only [List.map_cons, List.map_nil, pickOp, List.getElem?_cons_zero, List.getElem?_cons_succ, Option.getD_some]
      repeat (go_big_quiet_step (fail))
      refine wpQuiet_nil ?_
      clear d5 d6
      have H4 := H3.later (Ext.refl w3).drew
      have bP4 := bP3.later (Ext.refl w3).drew
      have hD3 : Only (fun k => vps.ownBlock = some k) w3 w3.drew := (Only.refl _ w3).drew
      clear H3 bP3
      generalize w3.drew = w4 at *
      have HD := Lib.hid (done_in H4.ctl HPB.out)
      go_wp2_with ((go_at_call 24; with_reducible refine (HD.out).mono ?_); rintro e w5 ⟨v5, rfl, own5, hx5⟩)
      clear HD
      refine onlyK_normal (hK _ _ ⟨⟨_, hD3.trans (Only.of_ext hx5)⟩, rfl⟩ ?_); clear hK K
      refine tree_one0 fun K hK => ?_
      simp only [pickOp, List.getElem?_cons_zero, List.getElem?_cons_succ, Option.getD_some]
      have HQ4 := Lib.hid (H4.sp.later hx5); have HS4 := Lib.hid own5.sl; have HB4 : Hid (w0.heap.size ≤ w5.heap.size) := Lib.hid (H4.ext.trans hx5).size
      clear own5
      go_wp2_with ((at_builtin; refine appM_at rfl _ _ rfl w0.heap.size _ _ J.ps J.C.brkC.doneL rfl rfl HQ4.out HS4.out HLN.out HB4.out ?_; intro v6 w6 own6 hg6 hloc6))
      have hO6 : Only (fun k => vps.ownBlock = some k) w4 w6 := (Only.of_ext hx5).trans (Only.of_grown hg6)
      refine onlyK_normal (hK _ _ ⟨⟨_, hD3.trans hO6⟩, rfl⟩ ?_); clear hK K
      refine tree_leaf0 ?_
      simp only [List.drop_succ_cons, List.drop_zero]
      have hG4 : G < w4.heap.size := H4.box.lt
      have n6 : v6.ownBlock ≠ some G := by rcases hloc6 with e | e <;> rw [e]; exact nG; intro e2; have := hx5.size; cases e2; omega
      have B6 := H4.box.only hO6 nG
      have S6 := H4.sm.only' hO6 (fun hl b hb e => H4.mp hl b hb e)
      have P6 := bP4.only hO6 nA
      have E6 : Ext w0 w6 := H4.ext.only hO6 (fun i hi e => by have := H4.sp.base e; omega)
      have hcap := H4.cap; have hbase := H4.base
      clear hD3 hg6 hloc6 HQ4 HS4 HB4 bP4 hx5 H4 hO6 hG4
      obtain ⟨x6, n6', c6, rfl⟩ := OwnM.form own6
      have B7 := (B6.set6 x6 n6' c6).set7 false
      have f6 := B6.fr 6 (by decide); have g6 := B6.c6; have f7 := (B6.set6 x6 n6' c6).fr 7 (by decide); have g7 := (B6.set6 x6 n6' c6).c7
      have hO7 : Only (fun k => k = G) w6 ((w6.setCell ⟨G, 6, none⟩ (.slice x6 n6' c6)).setCell ⟨G, 7, none⟩ (.bool false)) := ((Only.refl (fun k => k = G) w6).set (p := ⟨G, 6, none⟩) (.inl rfl) _).set (p := ⟨G, 7, none⟩) (.inl rfl) _
      have S7 := S6.only' hO7 (fun hl b hb e => B6.apart S6 hl (by rw [hb, e]))
      have O7 := own6.only hO7 (fun b hb e => n6 (by rw [hb, e]))
      have P7 := P6.only hO7 (by omega)
      have E7 := (E6.setCell (p := ⟨G, 6, none⟩) hbase (.slice x6 n6' c6)).setCell (p := ⟨G, 7, none⟩) hbase (.bool false)
      go_wp2_with fail
      generalize (w6.setCell ⟨G, 6, none⟩ (.slice x6 n6' c6)).setCell ⟨G, 7, none⟩ (.bool false) = w7 at *
      clear f6 g6 f7 g7 hO7 S6 own6 P6 E6 B6
      obtain ⟨xm, cm, hvm⟩ := S7.is
      have e0 := Later.cell B7.c0; have e4 := Later.cell B7.c4; have a0 := P7.c0; have a1 := P7.c1; have a2 := P7.c2
      refine wp_region_tree (fun w' => ∃ y : Later w7, w' = y.w) 15 (.one [0, 1, 2, 3, 4, 5, 6, 7, 8, 9] 10 (.leaf [11, 12, 13, 14])) (by kernel_rfl) (by kernel_rfl) (by kernel_rfl) ⟨⟨_, (Ext.refl w7).drew⟩, rfl⟩ ?_
      simp only [List.take_succ_cons, List.take_zero]
      refine tree_one fun K hK => ?_
      simp only [List.map_cons, List.map_nil, pickOp, List.getElem?_cons_zero, List.getElem?_cons_succ, Option.getD_some]
      repeat (go_big_quiet_step (fail))
      refine wpQuiet_nil ?_
      clear e0 e4 a0 a1 a2
      have hx7 : Ext w7 w7.drew := (Ext.refl w7).drew
      have KR := Lib.hid (crestart_any vm J.l J.C.idx qx qy qz safe w7.drew (S7.later hx7) hcap HIX.out HLL.out)
      rw [hvm] at KR
      go_wp2_with ((go_at_call 54; with_reducible refine (KR.out).mono ?_); rintro e w8 ⟨v8, rfl, S8, F8, hx8⟩)
      clear KR
      refine onlyK_normal (hK _ _ ⟨⟨_, hx7.trans hx8⟩, rfl⟩ ?_); clear hK K
      have hx9 := hx7.trans hx8
      have hF8 : ∀ b, v8.ownBlock = some b → w7.heap.size ≤ b := F8.2
      have hcap8 := F8.1
      clear F8 hx7 hx8 hcap
      obtain ⟨x8, c8, rfl⟩ := S8.is
      refine tree_leaf ?_
      simp only [List.map_cons, List.map_nil, pickOp, List.getElem?_cons_zero, List.getElem?_cons_succ, Option.getD_some]
      repeat (go_big_quiet_step (fail))
      refine wpQuiet_nil ?_
      simp only [List.drop_succ_cons, List.drop_zero]
      have E8 := E7.trans hx9
      have B8 := B7.later hx9
      have O8 := O7.later hx9
      have hw8 : w7.heap.size ≤ w8.heap.size := hx9.size
      have KM := Lib.hid (mstart_ok B8 S8 HLR.out HWF.out HCK.out)
      go_wp2_with ((go_at_call 18; with_reducible refine (KM.out).mono ?_); rintro e w9 ⟨rfl, N9, B9, C9, O9⟩)
      go_ret
      refine ⟨rfl, w8.heap.size, _, _, N9, ⟨B9, hbase, B8.lt, S8.only' O9 (fun hl b hb e => B8.apart S8 hl (by rw [hb, e])), hcap8, fun hl b hb => S8.below hl hb, O8.only O9 (fun b hb e => n6 (by rw [hb, e])), fun b hb => ⟨O8.lt hb, fun e => n6 (by rw [hb, e])⟩, fun hl b hb e => ?_, C9, E8.only O9 (fun i hi e => by omega)⟩⟩
      have := hF8 b hb; have := O7.lt e; omega
    · clear hK1 K1
      go_wp2_with fail
      obtain ⟨V2, hV2, bA, hx2⟩ := P3Box.mk' V 0 0 0
      rw [hV2]; clear hV2
      have hAw : w.heap.size ≤ V.heap.size := hV.size
      generalize V.heap.size = A at *
      replace hV := hV.trans hx2
      refine onlyK_normal (hK2 _ _ ⟨⟨_, hV⟩, rfl⟩ ?_); clear hK2 K2 hx2
      clear V
      obtain ⟨V, rfl⟩ : ∃ X, X = V2 := ⟨_, rfl⟩
      refine tree_one0 fun K hK => ?_
      simp only [pickOp, List.getElem?_cons_zero, List.getElem?_cons_succ, Option.getD_some]
      go_wp2_with ((go_at_call 52; with_reducible refine (KP.out _ hV).mono ?_); rintro e V2 ⟨rfl, hx2⟩)
      replace hV := hV.trans hx2
      replace bA := bA.later hx2
      refine onlyK_normal (hK _ _ ⟨⟨_, hV⟩, rfl⟩ ?_); clear hK K hx2
      clear V
      obtain ⟨V, rfl⟩ : ∃ X, X = V2 := ⟨_, rfl⟩
      refine tree_leaf ?_
      simp only [List.map_cons, List.map_nil, pickOp, List.getElem?_cons_zero, List.getElem?_cons_succ, Option.getD_some]
      repeat (go_big_quiet_step (fail))
      refine wpQuiet_nil ?_
      simp only [List.drop_succ_cons, List.drop_zero]
      obtain ⟨z0, z1, z2, y0, y1, y2⟩ := bA.at
      have k5 := cell_put3 A qx qy qz (by omega : A ≠ G) (H.out.later hV).box.c5
      go_wp2_with fail
      have bP := bA.put qx qy qz
      have hX : Ext w (((V.setCell ⟨A, 0, none⟩ (.int .i64 qx)).setCell ⟨A, 1, none⟩ (.int .i64 qy)).setCell ⟨A, 2, none⟩ (.int .i64 qz)) := ((hV.setCell hAw _).setCell hAw _).setCell hAw _
      generalize ((V.setCell ⟨A, 0, none⟩ (.int .i64 qx)).setCell ⟨A, 1, none⟩ (.int .i64 qy)).setCell ⟨A, 2, none⟩ (.int .i64 qz) = X at *
      clear z0 z1 z2 y0 y1 y2 bA hV k5
      clear V
      refine (break_up H.out.ctl hX HPS.out).mono ?_
      rintro e w3 ⟨rfl, hC3, hO3⟩
      have H3 := (H.out.later hX).work hC3 (hO3.mono (fun _ _ h => h.1))
      have bP3 := bP.only hO3 (by omega)
      clear bP hC3 hO3 hX
      clear X
      have nG : ¬ (vps.ownBlock = some G) := fun e => (H3.lp _ e).2 rfl
      have nA : ¬ (vps.ownBlock = some A) := fun e => by have := (H3.lp _ e).1; omega
      go_wp2_with fail
      have d5 := Chg.cell (D := fun k => vps.ownBlock = some k) H3.box.c5 nG; have d6 := Chg.cell (D := fun k => vps.ownBlock = some k) H3.box.c6 nG
      refine wp_region_tree (fun w' => ∃ y : Chg (fun k => vps.ownBlock = some k) w3, w' = y.w) 11 (.one [0, 1, 2, 3, 4, 5, 6, 7, 8] 9 (.one [] 10 (.leaf []))) (by kernel_rfl) (by kernel_rfl) (by kernel_rfl) ⟨⟨_, (Only.refl _ w3).drew⟩, rfl⟩ ?_
      simp only [List.take_succ_cons, List.take_zero]
      refine tree_one fun K hK => ?_
      simp only [List.map_cons, List.map_nil, pickOp, List.getElem?_cons_zero, List.getElem?_cons_succ, Option.getD_some]
      repeat (go_big_quiet_step (fail))
      refine wpQuiet_nil ?_
      clear d5 d6
      have H4 := H3.later (Ext.refl w3).drew
      have bP4 := bP3.later (Ext.refl w3).drew
      have hD3 : Only (fun k => vps.ownBlock = some k) w3 w3.drew := (Only.refl _ w3).drew
      clear H3 bP3
      generalize w3.drew = w4 at *
      have HD := Lib.hid (done_in H4.ctl HPB.out)
      go_wp2_with ((go_at_call 24; with_reducible refine (HD.out).mono ?_); rintro e w5 ⟨v5, rfl, own5, hx5⟩)
      clear HD
      refine onlyK_normal (hK _ _ ⟨⟨_, hD3.trans (Only.of_ext hx5)⟩, rfl⟩ ?_); clear hK K
      refine tree_one0 fun K hK => ?_
      simp only [pickOp, List.getElem?_cons_zero, List.getElem?_cons_succ, Option.getD_some]
      have HQ4 := Lib.hid (H4.sp.later hx5); have HS4 := Lib.hid own5.sl; have HB4 : Hid (w0.heap.size ≤ w5.heap.size) := Lib.hid (H4.ext.trans hx5).size
      clear own5
      go_wp2_with ((at_builtin; refine appM_at rfl _ _ rfl w0.heap.size _ _ J.ps J.C.brkC.doneL rfl rfl HQ4.out HS4.out HLN.out HB4.out ?_; intro v6 w6 own6 hg6 hloc6))
      have hO6 : Only (fun k => vps.ownBlock = some k) w4 w6 := (Only.of_ext hx5).trans (Only.of_grown hg6)
      refine onlyK_normal (hK _ _ ⟨⟨_, hD3.trans hO6⟩, rfl⟩ ?_); clear hK K
      refine tree_leaf0 ?_
      simp only [List.drop_succ_cons, List.drop_zero]
      have hG4 : G < w4.heap.size := H4.box.lt
      have n6 : v6.ownBlock ≠ some G := by rcases hloc6 with e | e <;> rw [e]; exact nG; intro e2; have := hx5.size; cases e2; omega
      have B6 := H4.box.only hO6 nG
      have S6 := H4.sm.only' hO6 (fun hl b hb e => H4.mp hl b hb e)
      have P6 := bP4.only hO6 nA
      have E6 : Ext w0 w6 := H4.ext.only hO6 (fun i hi e => by have := H4.sp.base e; omega)
      have hcap := H4.cap; have hbase := H4.base
      clear hD3 hg6 hloc6 HQ4 HS4 HB4 bP4 hx5 H4 hO6 hG4
      obtain ⟨x6, n6', c6, rfl⟩ := OwnM.form own6
      have B7 := (B6.set6 x6 n6' c6).set7 false
      have f6 := B6.fr 6 (by decide); have g6 := B6.c6; have f7 := (B6.set6 x6 n6' c6).fr 7 (by decide); have g7 := (B6.set6 x6 n6' c6).c7
      have hO7 : Only (fun k => k = G) w6 ((w6.setCell ⟨G, 6, none⟩ (.slice x6 n6' c6)).setCell ⟨G, 7, none⟩ (.bool false)) := ((Only.refl (fun k => k = G) w6).set (p := ⟨G, 6, none⟩) (.inl rfl) _).set (p := ⟨G, 7, none⟩) (.inl rfl) _
      have S7 := S6.only' hO7 (fun hl b hb e => B6.apart S6 hl (by rw [hb, e]))
      have O7 := own6.only hO7 (fun b hb e => n6 (by rw [hb, e]))
      have P7 := P6.only hO7 (by omega)
      have E7 := (E6.setCell (p := ⟨G, 6, none⟩) hbase (.slice x6 n6' c6)).setCell (p := ⟨G, 7, none⟩) hbase (.bool false)
      go_wp2_with fail
      generalize (w6.setCell ⟨G, 6, none⟩ (.slice x6 n6' c6)).setCell ⟨G, 7, none⟩ (.bool false) = w7 at *
      clear f6 g6 f7 g7 hO7 S6 own6 P6 E6 B6
      obtain ⟨xm, cm, hvm⟩ := S7.is
      have e0 := Later.cell B7.c0; have e4 := Later.cell B7.c4; have a0 := P7.c0; have a1 := P7.c1; have a2 := P7.c2
      refine wp_region_tree (fun w' => ∃ y : Later w7, w' = y.w) 15 (.one [0, 1, 2, 3, 4, 5, 6, 7, 8, 9] 10 (.leaf [11, 12, 13, 14])) (by kernel_rfl) (by kernel_rfl) (by kernel_rfl) ⟨⟨_, (Ext.refl w7).drew⟩, rfl⟩ ?_
      simp only [List.take_succ_cons, List.take_zero]
      refine tree_one fun K hK => ?_
      simp only [List.map_cons, List.map_nil, pickOp, List.getElem?_cons_zero, List.getElem?_cons_succ, Option.getD_some]
      repeat (go_big_quiet_step (fail))
      refine wpQuiet_nil ?_
      clear e0 e4 a0 a1 a2
      have hx7 : Ext w7 w7.drew := (Ext.refl w7).drew
      have KR := Lib.hid (crestart_any vm J.l J.C.idx qx qy qz safe w7.drew (S7.later hx7) hcap HIX.out HLL.out)
      rw [hvm] at KR
      go_wp2_with ((go_at_call 54; with_reducible refine (KR.out).mono ?_); rintro e w8 ⟨v8, rfl, S8, F8, hx8⟩)
      clear KR
      refine onlyK_normal (hK _ _ ⟨⟨_, hx7.trans hx8⟩, rfl⟩ ?_); clear hK K
      have hx9 := hx7.trans hx8
      have hF8 : ∀ b, v8.ownBlock = some b → w7.heap.size ≤ b := F8.2
      have hcap8 := F8.1
      clear F8 hx7 hx8 hcap
      obtain ⟨x8, c8, rfl⟩ := S8.is
      refine tree_leaf ?_
      simp only [List.map_cons, List.map_nil, pickOp, List.getElem?_cons_zero, List.getElem?_cons_succ, Option.getD_some]
      repeat (go_big_quiet_step (fail))
      refine wpQuiet_nil ?_
      simp only [List.drop_succ_cons, List.drop_zero]
      have E8 := E7.trans hx9
      have B8 := B7.later hx9
      have O8 := O7.later hx9
      have hw8 : w7.heap.size ≤ w8.heap.size := hx9.size
      have KM := Lib.hid (mstart_ok B8 S8 HLR.out HWF.out HCK.out)
      go_wp2_with ((go_at_call 18; with_reducible refine (KM.out).mono ?_); rintro e w9 ⟨rfl, N9, B9, C9, O9⟩)
      go_ret
      refine ⟨rfl, w8.heap.size, _, _, N9, ⟨B9, hbase, B8.lt, S8.only' O9 (fun hl b hb e => B8.apart S8 hl (by rw [hb, e])), hcap8, fun hl b hb => S8.below hl hb, O8.only O9 (fun b hb e => n6 (by rw [hb, e])), fun b hb => ⟨O8.lt hb, fun e => n6 (by rw [hb, e])⟩, fun hl b hb e => ?_, C9, E8.only O9 (fun i hi e => by omega)⟩⟩
      have := hF8 b hb; have := O7.lt e; omega
  · clear hK1 K1
    go_wp2_with fail
    obtain ⟨V2, hV2, bA, hx2⟩ := P3Box.mk' V 0 0 0
    rw [hV2]; clear hV2
    have hAw : w.heap.size ≤ V.heap.size := hV.size
    generalize V.heap.size = A at *
    replace hV := hV.trans hx2
    refine onlyK_normal (hK2 _ _ ⟨⟨_, hV⟩, rfl⟩ ?_); clear hK2 K2 hx2
    clear V
    obtain ⟨V, rfl⟩ : ∃ X, X = V2 := ⟨_, rfl⟩
    refine tree_one0 fun K hK => ?_
    simp only [pickOp, List.getElem?_cons_zero, List.getElem?_cons_succ, Option.getD_some]
    go_wp2_with ((go_at_call 33; with_reducible refine (KI.out _ hV).mono ?_); rintro e wz ⟨rfl, rfl⟩)
    refine onlyK_normal (hK _ _ ⟨⟨_, hV⟩, rfl⟩ ?_); clear hK K
    refine tree_one0 fun K hK => ?_
    simp only [pickOp, List.getElem?_cons_zero, List.getElem?_cons_succ, Option.getD_some]
    go_wp2_with ((go_at_call 52; with_reducible refine (KP.out _ hV).mono ?_); rintro e V2 ⟨rfl, hx2⟩)
    replace hV := hV.trans hx2
    replace bA := bA.later hx2
    refine onlyK_normal (hK _ _ ⟨⟨_, hV⟩, rfl⟩ ?_); clear hK K hx2
    clear V
    obtain ⟨V, rfl⟩ : ∃ X, X = V2 := ⟨_, rfl⟩
    refine tree_leaf ?_
    simp only [List.map_cons, List.map_nil, pickOp, List.getElem?_cons_zero, List.getElem?_cons_succ, Option.getD_some]
    repeat (go_big_quiet_step (fail))
    refine wpQuiet_nil ?_
    simp only [List.drop_succ_cons, List.drop_zero]
    obtain ⟨z0, z1, z2, y0, y1, y2⟩ := bA.at
    have k5 := cell_put3 A qx qy qz (by omega : A ≠ G) (H.out.later hV).box.c5
    go_wp2_with fail
    have bP := bA.put qx qy qz
    have hX : Ext w (((V.setCell ⟨A, 0, none⟩ (.int .i64 qx)).setCell ⟨A, 1, none⟩ (.int .i64 qy)).setCell ⟨A, 2, none⟩ (.int .i64 qz)) := ((hV.setCell hAw _).setCell hAw _).setCell hAw _
    generalize ((V.setCell ⟨A, 0, none⟩ (.int .i64 qx)).setCell ⟨A, 1, none⟩ (.int .i64 qy)).setCell ⟨A, 2, none⟩ (.int .i64 qz) = X at *
    clear z0 z1 z2 y0 y1 y2 bA hV k5
    clear V
    refine (break_up H.out.ctl hX HPS.out).mono ?_
    rintro e w3 ⟨rfl, hC3, hO3⟩
    have H3 := (H.out.later hX).work hC3 (hO3.mono (fun _ _ h => h.1))
    have bP3 := bP.only hO3 (by omega)
    clear bP hC3 hO3 hX
    clear X
    have nG : ¬ (vps.ownBlock = some G) := fun e => (H3.lp _ e).2 rfl
    have nA : ¬ (vps.ownBlock = some A) := fun e => by have := (H3.lp _ e).1; omega
    go_wp2_with fail
    have d5 := Chg.cell (D := fun k => vps.ownBlock = some k) H3.box.c5 nG; have d6 := Chg.cell (D := fun k => vps.ownBlock = some k) H3.box.c6 nG
    refine wp_region_tree (fun w' => ∃ y : Chg (fun k => vps.ownBlock = some k) w3, w' = y.w) 11 (.one [0, 1, 2, 3, 4, 5, 6, 7, 8] 9 (.one [] 10 (.leaf []))) (by kernel_rfl) (by kernel_rfl) (by kernel_rfl) ⟨⟨_, (Only.refl _ w3).drew⟩, rfl⟩ ?_
    simp only [List.take_succ_cons, List.take_zero]
    refine tree_one fun K hK => ?_
    simp only [List.map_cons, List.map_nil, pickOp, List.getElem?_cons_zero, List.getElem?_cons_succ, Option.getD_some]
    repeat (go_big_quiet_step (fail))
    refine wpQuiet_nil ?_
    clear d5 d6
    have H4 := H3.later (Ext.refl w3).drew
    have bP4 := bP3.later (Ext.refl w3).drew
    have hD3 : Only (fun k => vps.ownBlock = some k) w3 w3.drew := (Only.refl _ w3).drew
    clear H3 bP3
    generalize w3.drew = w4 at *
    have HD := Lib.hid (done_in H4.ctl HPB.out)
    go_wp2_with ((go_at_call 24; with_reducible refine (HD.out).mono ?_); rintro e w5 ⟨v5, rfl, own5, hx5⟩)
    clear HD
    refine onlyK_normal (hK _ _ ⟨⟨_, hD3.trans (Only.of_ext hx5)⟩, rfl⟩ ?_); clear hK K
    refine tree_one0 fun K hK => ?_
    simp only [pickOp, List.getElem?_cons_zero, List.getElem?_cons_succ, Option.getD_some]
    have HQ4 := Lib.hid (H4.sp.later hx5); have HS4 := Lib.hid own5.sl; have HB4 : Hid (w0.heap.size ≤ w5.heap.size) := Lib.hid (H4.ext.trans hx5).size
    clear own5
    go_wp2_with ((at_builtin; refine appM_at rfl _ _ rfl w0.heap.size _ _ J.ps J.C.brkC.doneL rfl rfl HQ4.out HS4.out HLN.out HB4.out ?_; intro v6 w6 own6 hg6 hloc6))
    have hO6 : Only (fun k => vps.ownBlock = some k) w4 w6 := (Only.of_ext hx5).trans (Only.of_grown hg6)
    refine onlyK_normal (hK _ _ ⟨⟨_, hD3.trans hO6⟩, rfl⟩ ?_); clear hK K
    refine tree_leaf0 ?_
    simp only [List.drop_succ_cons, List.drop_zero]
    have hG4 : G < w4.heap.size := H4.box.lt
    have n6 : v6.ownBlock ≠ some G := by rcases hloc6 with e | e <;> rw [e]; exact nG; intro e2; have := hx5.size; cases e2; omega
    have B6 := H4.box.only hO6 nG
    have S6 := H4.sm.only' hO6 (fun hl b hb e => H4.mp hl b hb e)
    have P6 := bP4.only hO6 nA
    have E6 : Ext w0 w6 := H4.ext.only hO6 (fun i hi e => by have := H4.sp.base e; omega)
    have hcap := H4.cap; have hbase := H4.base
    clear hD3 hg6 hloc6 HQ4 HS4 HB4 bP4 hx5 H4 hO6 hG4
    obtain ⟨x6, n6', c6, rfl⟩ := OwnM.form own6
    have B7 := (B6.set6 x6 n6' c6).set7 false
    have f6 := B6.fr 6 (by decide); have g6 := B6.c6; have f7 := (B6.set6 x6 n6' c6).fr 7 (by decide); have g7 := (B6.set6 x6 n6' c6).c7
    have hO7 : Only (fun k => k = G) w6 ((w6.setCell ⟨G, 6, none⟩ (.slice x6 n6' c6)).setCell ⟨G, 7, none⟩ (.bool false)) := ((Only.refl (fun k => k = G) w6).set (p := ⟨G, 6, none⟩) (.inl rfl) _).set (p := ⟨G, 7, none⟩) (.inl rfl) _
    have S7 := S6.only' hO7 (fun hl b hb e => B6.apart S6 hl (by rw [hb, e]))
    have O7 := own6.only hO7 (fun b hb e => n6 (by rw [hb, e]))
    have P7 := P6.only hO7 (by omega)
    have E7 := (E6.setCell (p := ⟨G, 6, none⟩) hbase (.slice x6 n6' c6)).setCell (p := ⟨G, 7, none⟩) hbase (.bool false)
    go_wp2_with fail
    generalize (w6.setCell ⟨G, 6, none⟩ (.slice x6 n6' c6)).setCell ⟨G, 7, none⟩ (.bool false) = w7 at *
    clear f6 g6 f7 g7 hO7 S6 own6 P6 E6 B6
    obtain ⟨xm, cm, hvm⟩ := S7.is
    have e0 := Later.cell B7.c0; have e4 := Later.cell B7.c4; have a0 := P7.c0; have a1 := P7.c1; have a2 := P7.c2
    refine wp_region_tree (fun w' => ∃ y : Later w7, w' = y.w) 15 (.one [0, 1, 2, 3, 4, 5, 6, 7, 8, 9] 10 (.leaf [11, 12, 13, 14])) (by kernel_rfl) (by kernel_rfl) (by kernel_rfl) ⟨⟨_, (Ext.refl w7).drew⟩, rfl⟩ ?_
    simp only [List.take_succ_cons, List.take_zero]
    refine tree_one fun K hK => ?_
    simp only [List.map_cons, List.map_nil, pickOp, List.getElem?_cons_zero, List.getElem?_cons_succ, Option.getD_some]
    repeat (go_big_quiet_step (fail))
    refine wpQuiet_nil ?_
    clear e0 e4 a0 a1 a2
    have hx7 : Ext w7 w7.drew := (Ext.refl w7).drew
    have KR := Lib.hid (crestart_any vm J.l J.C.idx qx qy qz safe w7.drew (S7.later hx7) hcap HIX.out HLL.out)
    rw [hvm] at KR
    go_wp2_with ((go_at_call 54; with_reducible refine (KR.out).mono ?_); rintro e w8 ⟨v8, rfl, S8, F8, hx8⟩)
    clear KR
    refine onlyK_normal (hK _ _ ⟨⟨_, hx7.trans hx8⟩, rfl⟩ ?_); clear hK K
    have hx9 := hx7.trans hx8
    have hF8 : ∀ b, v8.ownBlock = some b → w7.heap.size ≤ b := F8.2
    have hcap8 := F8.1
    clear F8 hx7 hx8 hcap
    obtain ⟨x8, c8, rfl⟩ := S8.is
    refine tree_leaf ?_
    simp only [List.map_cons, List.map_nil, pickOp, List.getElem?_cons_zero, List.getElem?_cons_succ, Option.getD_some]
    repeat (go_big_quiet_step (fail))
    refine wpQuiet_nil ?_
    simp only [List.drop_succ_cons, List.drop_zero]
    have E8 := E7.trans hx9
    have B8 := B7.later hx9
    have O8 := O7.later hx9
    have hw8 : w7.heap.size ≤ w8.heap.size := hx9.size
    have KM := Lib.hid (mstart_ok B8 S8 HLR.out HWF.out HCK.out)
    go_wp2_with ((go_at_call 18; with_reducible refine (KM.out).mono ?_); rintro e w9 ⟨rfl, N9, B9, C9, O9⟩)
    go_ret
    refine ⟨rfl, w8.heap.size, _, _, N9, ⟨B9, hbase, B8.lt, S8.only' O9 (fun hl b hb e => B8.apart S8 hl (by rw [hb, e])), hcap8, fun hl b hb => S8.below hl hb, O8.only O9 (fun b hb e => n6 (by rw [hb, e])), fun b hb => ⟨O8.lt hb, fun e => n6 (by rw [hb, e])⟩, fun hl b hb e => ?_, C9, E8.only O9 (fun i hi e => by omega)⟩⟩
    have := hF8 b hb; have := O7.lt e; omega

end Go.Proofs.YtjibcnnbclcboaaDoor

namespace Go.Proofs.YtjibcnnbclcboaaDoor
open Go.RowKit
set_option maxRecDepth 8000
set_option maxRecDepth 8000

theorem JIn.ext {w0 : World} {G : Nat} {w : World} {s a j safe : Int} {J : JobS} (h : JIn w0 G w s a j safe J) : Ext w0 w := by
  obtain ⟨B, vm, vps, N, h⟩ := h
  exact h.ext
/-- A call of the machine that may fail. -/
def JPost (w0 : World) (G : Nat) (s a j safe : Int) (R : Int × JobS) (e : Ending) (w' : World) : Prop := e = .returned (.int .i64 R.1) ∧ Ext w0 w' ∧ (R.1 = 0 → JIn w0 G w' s a j safe R.2)

theorem mbroken_any {w0 : World} {G : Nat} {w : World} {s a j safe : Int} {J : JobS} {k q : Nat} (h : JIn w0 G w s a j safe J) (hok : J.Ok k q) (hk : k ≤ 900000000) (hq : q ≤ 900000) (hsf : in64 safe) :
    Calls Tryd.prog 34 #[.pointer (some ⟨G, 0, none⟩)] w (JPost w0 G s a j safe (J.broken s a j safe)) := by
  unfold JPost JobS.broken
  by_cases he : rstE J.l J.C.idx J.C.at3 safe = 0
  · rw [if_pos he]
    by_cases hc : chk (rstL J.l J.C.idx J.C.at3 safe) s a j = 0
    · rw [if_pos hc]
      exact (mbroken_ok h hok hk hq hsf he hc).mono fun _ _ k => ⟨k.1, k.2.ext, fun _ => k.2⟩
    · rw [if_neg hc]
      exact (mbroken_e2 h hok hk hq hsf he hc).mono fun _ _ k => ⟨k.1, k.2, fun e => absurd e hc⟩
  · rw [if_neg he]
    exact (mbroken_e1 h hok hk hq hsf he).mono fun _ _ k => ⟨k.1, k.2, fun e => absurd e he⟩

/-- One event. -/
def JobS.ev (J : JobS) (s a j safe t : Int) (e : Int × Int) : Int × JobS := if e.2 = 0 then J.broken s a j safe else (0, J.hold e.2 t)

set_option maxHeartbeats 1000000 in
theorem mevent0 {w0 : World} {G : Nat} {w : World} {s a j safe at_ t : Int} {J : JobS} {k q : Nat} (h : JIn w0 G w s a j safe J) (hok : J.Ok k q) (hk : k ≤ 900000000) (hq : q ≤ 900000) (hsf : in64 safe) :
    Calls Tryd.prog 22 #[.pointer (some ⟨G, 0, none⟩), .agg #[.int .i64 at_, .int .i64 0], .int .i64 t] w (JPost w0 G s a j safe (J.broken s a j safe)) := by
  have kb := mbroken_any (h.later ((Ext.refl w).alloc (.cells #[.int .i64 at_, .int .i64 0] 57))) hok hk hq hsf
  have KB := Lib.hid kb
  clear kb h hok
  generalize J.broken s a j safe = R at *
  go_enter Tryd.func22, Tryd.ntmps22
  go_wp2_with ((go_at_call 34; with_reducible refine (KB.out).mono ?_); rintro e w2 ⟨rfl, hx2, hj2⟩)
  go_ret
  exact ⟨rfl, hx2, hj2⟩

theorem mevent_any {w0 : World} {G : Nat} {w : World} {s a j safe t : Int} {x : Int × Int} {J : JobS} {k q : Nat} (h : JIn w0 G w s a j safe J) (hok : J.Ok k q) (hk : k ≤ 900000000) (hq : q ≤ 900000) (hsf : in64 safe) (hn0 : 0 ≤ x.2) (hn : x.2 ≤ 1000000) (ht0 : 0 ≤ t) (ht : t ≤ 1000000) :
    Calls Tryd.prog 22 #[.pointer (some ⟨G, 0, none⟩), .agg #[.int .i64 x.1, .int .i64 x.2], .int .i64 t] w (JPost w0 G s a j safe (J.ev s a j safe t x)) := by
  unfold JobS.ev
  by_cases h0 : x.2 = 0
  · rw [if_pos h0, h0]
    exact mevent0 h hok hk hq hsf
  · rw [if_neg h0]
    exact (mhold_any h (by have := hok.ps; omega) (by omega) hn ht0 ht).mono fun _ _ k => ⟨k.1, k.2.ext, fun _ => k.2⟩

theorem JobS.Ok.ev {J : JobS} {k q : Nat} {s a j safe t : Int} {x : Int × Int} (h : J.Ok k q) (hs : in64 safe) (h0 : (J.ev s a j safe t x).1 = 0) : (J.ev s a j safe t x).2.Ok (k + 2) (q + 4) := by
  unfold JobS.ev at h0 ⊢
  split
  · rename_i hx
    rw [if_pos hx] at h0
    exact h.broken hs h0
  · exact (h.hold _ _).mono (Nat.le_refl _) (by omega)

/-- The events, one after the other. -/
theorem evs_nil (s a j safe t : Int) (J : JobS) : JobS.evs s a j safe t [] J = (0, J, []) := by unfold JobS.evs; rfl
theorem evs_later {s a j safe t : Int} {J : JobS} {e : Int × Int} {r : List (Int × Int)} (h : ¬ e.1 ≤ t) : JobS.evs s a j safe t (e :: r) J = (0, J, e :: r) := by
  conv => lhs; unfold JobS.evs
  rw [if_neg h]
theorem evs_bad {s a j safe t : Int} {J : JobS} {e : Int × Int} {r : List (Int × Int)} (h : e.1 ≤ t) (h0 : (J.ev s a j safe t e).1 ≠ 0) : JobS.evs s a j safe t (e :: r) J = ((J.ev s a j safe t e).1, J, r) := by
  unfold JobS.ev at h0 ⊢
  conv => lhs; unfold JobS.evs
  rw [if_pos h]
  split
  · rename_i hx
    rw [if_pos hx] at h0
    rw [if_neg h0]
  · rename_i hx
    rw [if_neg hx] at h0
    exact absurd rfl h0
theorem evs_ok {s a j safe t : Int} {J : JobS} {e : Int × Int} {r : List (Int × Int)} (h : e.1 ≤ t) (h0 : (J.ev s a j safe t e).1 = 0) : JobS.evs s a j safe t (e :: r) J = JobS.evs s a j safe t r (J.ev s a j safe t e).2 := by
  unfold JobS.ev at h0 ⊢
  conv => lhs; unfold JobS.evs
  rw [if_pos h]
  split
  · rename_i hx
    rw [if_pos hx] at h0
    rw [if_pos h0]
  · rfl

/-- What the ticks answer, from a tick on. -/
def JobS.from_ (s a j safe : Int) (k : Nat) (J : JobS) (es : List (Int × Int)) : Int × List Mot := JobS.run s a j safe (100000 - k) k J es
theorem from_done {s a j safe : Int} {k : Nat} {J : JobS} {es : List (Int × Int)} (h : J.doneB = true) : JobS.from_ s a j safe k J es = (0, J.out) := by
  unfold JobS.from_
  cases 100000 - k <;> (unfold JobS.run; rw [if_pos h])
theorem from_late {s a j safe : Int} {k : Nat} {J : JobS} {es : List (Int × Int)} (h : J.doneB = false) (hk : 100000 ≤ k) : JobS.from_ s a j safe k J es = (3, []) := by
  unfold JobS.from_
  rw [show 100000 - k = 0 by omega]
  unfold JobS.run
  rw [if_neg (by rw [h]; decide)]
theorem from_step {s a j safe : Int} {k : Nat} {J : JobS} {es : List (Int × Int)} (h : J.doneB = false) (hk : k < 100000) : JobS.from_ s a j safe k J es =
    (if (JobS.evs s a j safe k es (J.wake k)).1 = 0 then
      (if (JobS.evs s a j safe k es (J.wake k)).2.1.doneB = true then (0, (JobS.evs s a j safe k es (J.wake k)).2.1.out)
       else JobS.from_ s a j safe (k + 1) (JobS.evs s a j safe k es (J.wake k)).2.1.tick (JobS.evs s a j safe k es (J.wake k)).2.2)
    else ((JobS.evs s a j safe k es (J.wake k)).1, [])) := by
  unfold JobS.from_
  rw [show 100000 - k = (100000 - (k + 1)) + 1 by omega]
  conv => lhs; unfold JobS.run
  rw [if_neg (by rw [h]; decide)]
  rw [show ((k : Int) + 1) = ((k + 1 : Nat) : Int) by omega]
/-- Events that are good: all numbers small. -/
def EvOk (es : List (Int × Int)) : Prop := ∀ e ∈ es, 0 ≤ e.1 ∧ e.1 ≤ 1000000 ∧ 0 ≤ e.2 ∧ e.2 ≤ 1000000
theorem EvOk.tail {e : Int × Int} {r : List (Int × Int)} (h : EvOk (e :: r)) : EvOk r := fun x hx => h x (List.mem_cons_of_mem _ hx)
theorem EvOk.head {e : Int × Int} {r : List (Int × Int)} (h : EvOk (e :: r)) : 0 ≤ e.1 ∧ e.1 ≤ 1000000 ∧ 0 ≤ e.2 ∧ e.2 ≤ 1000000 := h e (List.mem_cons_self ..)
theorem validE_ok {l : List (Int × Int)} (h : validE l = true) : EvOk l ∧ l.length ≤ 20 := by
  unfold validE at h
  simp only [Bool.and_eq_true, decide_eq_true_eq] at h
  refine ⟨fun e he => ?_, h.2⟩
  obtain ⟨i, hi, e2⟩ := List.getElem_of_mem he
  have hg := evTo_at h.1 hi
  unfold evGood at hg
  rw [show l.getD i (0, 0) = e by simp [hi, e2]] at hg
  simp only [Bool.and_eq_true, Bool.not_eq_true', decide_eq_false_iff_not] at hg
  omega

end Go.Proofs.YtjibcnnbclcboaaDoor
