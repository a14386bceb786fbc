/-
  The machine of a job in memory; walks: done, start.
  Walks: start of a machine; what a controller's call leaves that was made after it.
  Walks: an event that is a feed hold.
-/
import Derived.Test.YtjibcnnbclcboaaGreatDoorQB26
import Derived.Test.YtjibcnnbclcboaaGreatDoorQB24
namespace Go.Proofs.YtjibcnnbclcboaaGreatDoor
open Go.RowKit
set_option maxRecDepth 8000

/-- The cells of a machine. -/
structure JBox (w : World) (G : Nat) (vm vc vps : Value) (s a j safe : Int) (held : Bool) (till : Int) : Prop where
  lt : G < w.heap.size
  c0 : w.cell? ⟨G, 0, none⟩ = some vm
  c1 : w.cell? ⟨G, 1, none⟩ = some (.int .i64 s)
  c2 : w.cell? ⟨G, 2, none⟩ = some (.int .i64 a)
  c3 : w.cell? ⟨G, 3, none⟩ = some (.int .i64 j)
  c4 : w.cell? ⟨G, 4, none⟩ = some (.int .i64 safe)
  c5 : w.cell? ⟨G, 5, none⟩ = some vc
  c6 : w.cell? ⟨G, 6, none⟩ = some vps
  c7 : w.cell? ⟨G, 7, none⟩ = some (.bool held)
  c8 : w.cell? ⟨G, 8, none⟩ = some (.int .i64 till)
  c9 : ∀ i, 9 ≤ i → w.cell? ⟨G, i, none⟩ = none
  fr : ∀ i, i < 9 → w.frozen? ⟨G, i, none⟩ = false
  isM : ∃ x n c, vm = .slice x n c
  isC : ∃ x, vc = .pointer x
  isP : ∃ x n c, vps = .slice x n c
section
variable {w w' : World} {G : Nat} {vm vc vps : Value} {s a j safe till : Int} {held : Bool}
theorem JBox.only {D : Nat → Prop} (h : JBox w G vm vc vps s a j safe held till) (k : Only D w w') (hd : ¬ D G) : JBox w' G vm vc vps s a j safe held till where
  lt := Nat.lt_of_lt_of_le h.lt k.size
  c0 := by rw [k.cell (p := ⟨G, _, none⟩) h.lt hd]; exact h.c0
  c1 := by rw [k.cell (p := ⟨G, _, none⟩) h.lt hd]; exact h.c1
  c2 := by rw [k.cell (p := ⟨G, _, none⟩) h.lt hd]; exact h.c2
  c3 := by rw [k.cell (p := ⟨G, _, none⟩) h.lt hd]; exact h.c3
  c4 := by rw [k.cell (p := ⟨G, _, none⟩) h.lt hd]; exact h.c4
  c5 := by rw [k.cell (p := ⟨G, _, none⟩) h.lt hd]; exact h.c5
  c6 := by rw [k.cell (p := ⟨G, _, none⟩) h.lt hd]; exact h.c6
  c7 := by rw [k.cell (p := ⟨G, _, none⟩) h.lt hd]; exact h.c7
  c8 := by rw [k.cell (p := ⟨G, _, none⟩) h.lt hd]; exact h.c8
  c9 := fun i hi => by rw [k.cell (p := ⟨G, _, none⟩) h.lt hd]; exact h.c9 i hi
  fr := fun i hi => by rw [k.frozen (p := ⟨G, _, none⟩) h.lt hd]; exact h.fr i hi
  isM := h.isM
  isC := h.isC
  isP := h.isP
theorem JBox.later (h : JBox w G vm vc vps s a j safe held till) (k : Ext w w') : JBox w' G vm vc vps s a j safe held till := h.only (D := fun _ => False) (Only.of_ext k) (fun h => h)
theorem cell_set_none {N i k : Nat} (v : Value) (h : i ≠ k) (hx : w.cell? ⟨N, i, none⟩ = none) : (w.setCell ⟨N, k, none⟩ v).cell? ⟨N, i, none⟩ = none := cell_set_off v none h hx

theorem JBox.set0 (h : JBox w G vm vc vps s a j safe held till) (x : Option Addr) (n c : Nat) : JBox (w.setCell ⟨G, 0, none⟩ (.slice x n c)) G (.slice x n c) vc vps s a j safe held till where
  lt := by simpa using h.lt
  c0 := by simp [go_sem, h.c0]
  c1 := cell_set_off _ _ (by decide) h.c1
  c2 := cell_set_off _ _ (by decide) h.c2
  c3 := cell_set_off _ _ (by decide) h.c3
  c4 := cell_set_off _ _ (by decide) h.c4
  c5 := cell_set_off _ _ (by decide) h.c5
  c6 := cell_set_off _ _ (by decide) h.c6
  c7 := cell_set_off _ _ (by decide) h.c7
  c8 := cell_set_off _ _ (by decide) h.c8
  c9 := fun i hi => cell_set_none _ (by omega) (h.c9 i hi)
  fr := fun i hi => by simpa using h.fr i hi
  isM := ⟨x, n, c, rfl⟩
  isC := h.isC
  isP := h.isP

theorem JBox.set5 (h : JBox w G vm vc vps s a j safe held till) (x : Option Addr) : JBox (w.setCell ⟨G, 5, none⟩ (.pointer x)) G vm (.pointer x) vps s a j safe held till where
  lt := by simpa using h.lt
  c0 := cell_set_off _ _ (by decide) h.c0
  c1 := cell_set_off _ _ (by decide) h.c1
  c2 := cell_set_off _ _ (by decide) h.c2
  c3 := cell_set_off _ _ (by decide) h.c3
  c4 := cell_set_off _ _ (by decide) h.c4
  c5 := by simp [go_sem, h.c5]
  c6 := cell_set_off _ _ (by decide) h.c6
  c7 := cell_set_off _ _ (by decide) h.c7
  c8 := cell_set_off _ _ (by decide) h.c8
  c9 := fun i hi => cell_set_none _ (by omega) (h.c9 i hi)
  fr := fun i hi => by simpa using h.fr i hi
  isM := h.isM
  isC := ⟨x, rfl⟩
  isP := h.isP

theorem JBox.set6 (h : JBox w G vm vc vps s a j safe held till) (x : Option Addr) (n c : Nat) : JBox (w.setCell ⟨G, 6, none⟩ (.slice x n c)) G vm vc (.slice x n c) s a j safe held till where
  lt := by simpa using h.lt
  c0 := cell_set_off _ _ (by decide) h.c0
  c1 := cell_set_off _ _ (by decide) h.c1
  c2 := cell_set_off _ _ (by decide) h.c2
  c3 := cell_set_off _ _ (by decide) h.c3
  c4 := cell_set_off _ _ (by decide) h.c4
  c5 := cell_set_off _ _ (by decide) h.c5
  c6 := by simp [go_sem, h.c6]
  c7 := cell_set_off _ _ (by decide) h.c7
  c8 := cell_set_off _ _ (by decide) h.c8
  c9 := fun i hi => cell_set_none _ (by omega) (h.c9 i hi)
  fr := fun i hi => by simpa using h.fr i hi
  isM := h.isM
  isC := h.isC
  isP := ⟨x, n, c, rfl⟩

theorem JBox.set7 (h : JBox w G vm vc vps s a j safe held till) (b : Bool) : JBox (w.setCell ⟨G, 7, none⟩ (.bool b)) G vm vc vps s a j safe b till where
  lt := by simpa using h.lt
  c0 := cell_set_off _ _ (by decide) h.c0
  c1 := cell_set_off _ _ (by decide) h.c1
  c2 := cell_set_off _ _ (by decide) h.c2
  c3 := cell_set_off _ _ (by decide) h.c3
  c4 := cell_set_off _ _ (by decide) h.c4
  c5 := cell_set_off _ _ (by decide) h.c5
  c6 := cell_set_off _ _ (by decide) h.c6
  c7 := by simp [go_sem, h.c7]
  c8 := cell_set_off _ _ (by decide) h.c8
  c9 := fun i hi => cell_set_none _ (by omega) (h.c9 i hi)
  fr := fun i hi => by simpa using h.fr i hi
  isM := h.isM
  isC := h.isC
  isP := h.isP

theorem JBox.set8 (h : JBox w G vm vc vps s a j safe held till) (t : Int) : JBox (w.setCell ⟨G, 8, none⟩ (.int .i64 t)) G vm vc vps s a j safe held t where
  lt := by simpa using h.lt
  c0 := cell_set_off _ _ (by decide) h.c0
  c1 := cell_set_off _ _ (by decide) h.c1
  c2 := cell_set_off _ _ (by decide) h.c2
  c3 := cell_set_off _ _ (by decide) h.c3
  c4 := cell_set_off _ _ (by decide) h.c4
  c5 := cell_set_off _ _ (by decide) h.c5
  c6 := cell_set_off _ _ (by decide) h.c6
  c7 := cell_set_off _ _ (by decide) h.c7
  c8 := by simp [go_sem, h.c8]
  c9 := fun i hi => cell_set_none _ (by omega) (h.c9 i hi)
  fr := fun i hi => by simpa using h.fr i hi
  isM := h.isM
  isC := h.isC
  isP := h.isP


/-- A slice of motions does not lie in the machine's cells. -/
theorem JBox.apart (h : JBox w G vm vc vps s a j safe held till) {v : Value} {l : List Mot} (hs : SlM w v l) (hl : l ≠ []) : v.ownBlock ≠ some G := by
  intro e
  obtain ⟨ad, n, cap, b, off, rfl, hn, h3, -, h4⟩ := hs
  have hn0 : 0 < n := by rw [hn]; exact List.length_pos_iff.2 hl
  have had : ad = some ⟨b, off, none⟩ := h3.resolve_left (by omega)
  subst had
  obtain rfl : b = G := by simpa [Value.ownBlock] using e
  obtain ⟨_, hc⟩ := h4 0 hn0
  rw [Nat.zero_mul, Nat.add_zero] at hc
  obtain ⟨x0, n0, k0, rfl⟩ := h.isM
  obtain ⟨x1, rfl⟩ := h.isC
  obtain ⟨x2, n2, k2, rfl⟩ := h.isP
  have q := hc.c0
  by_cases g : 9 ≤ off
  · rw [h.c9 off g] at q; cases q
  · have : off = 0 ∨ off = 1 ∨ off = 2 ∨ off = 3 ∨ off = 4 ∨ off = 5 ∨ off = 6 ∨ off = 7 ∨ off = 8 := by omega
    rcases this with rfl | rfl | rfl | rfl | rfl | rfl | rfl | rfl | rfl
    · rw [h.c0] at q; cases q
    · have := hc.c4; rw [h.c5] at this; cases this
    · have := hc.c3; rw [h.c5] at this; cases this
    · have := hc.c2; rw [h.c5] at this; cases this
    · have := hc.c1; rw [h.c5] at this; cases this
    · rw [h.c5] at q; cases q
    · rw [h.c6] at q; cases q
    · rw [h.c7] at q; cases q
    · have := hc.c1; rw [h.c9 9 (by omega)] at this; cases this
end

theorem SlM.only' {D : Nat → Prop} {w w' : World} {v : Value} {l : List Mot} (h : SlM w v l) (k : Only D w w') (hd : l ≠ [] → Off D v) : SlM w' v l := by
  by_cases hl : l = []
  · subst hl
    obtain ⟨ad, n, cap, b, off, rfl, hn, h3, h5, h4⟩ := h
    exact ⟨ad, n, cap, b, off, rfl, hn, h3, h5, fun i hi => by simp at hn; omega⟩
  · exact h.only k (hd hl)
theorem SlM.below {w : World} {v : Value} {l : List Mot} (h : SlM w v l) (hl : l ≠ []) {b : Nat} (hb : v.ownBlock = some b) : b < w.heap.size := by
  obtain ⟨ad, n, cap, b', off, rfl, hn, h3, -, h4⟩ := h
  have hn0 : 0 < n := by rw [hn]; exact List.length_pos_iff.2 hl
  have had : ad = some ⟨b', off, none⟩ := h3.resolve_left (by omega)
  subst had
  obtain rfl : b' = b := by simpa [Value.ownBlock] using hb
  exact (h4 0 hn0).1
theorem SlM.is {w : World} {v : Value} {l : List Mot} (h : SlM w v l) : ∃ x c, v = .slice x l.length c := by
  obtain ⟨ad, n, cap, b', off, rfl, hn, _⟩ := h
  exact ⟨ad, cap, by rw [hn]⟩

/-- A machine in memory: what lies below the base of its controller stays as it is while the controller works. -/
structure JInv (w0 : World) (G B : Nat) (w : World) (s a j safe : Int) (J : JobS) (vm vps : Value) (N : Nat) : Prop where
  box : JBox w G vm (.pointer (some ⟨N, 0, none⟩)) vps s a j safe J.held J.till
  base : w0.heap.size ≤ G
  lt : G < B
  sm : SlM w vm J.l
  cap : CapV vm
  lm : J.l ≠ [] → ∀ b, vm.ownBlock = some b → b < B
  sp : OwnM w0.heap.size w vps J.ps
  lp : ∀ b, vps.ownBlock = some b → b < B ∧ b ≠ G
  mp : J.l ≠ [] → ∀ b, vm.ownBlock = some b → vps.ownBlock ≠ some b
  ctl : CIn B w N J.C
  ext : Ext w0 w
theorem JInv.later {w0 : World} {G B : Nat} {w w' : World} {s a j safe : Int} {J : JobS} {vm vps : Value} {N : Nat} (h : JInv w0 G B w s a j safe J vm vps N) (k : Ext w w') : JInv w0 G B w' s a j safe J vm vps N :=
  ⟨h.box.later k, h.base, h.lt, h.sm.later k, h.cap, h.lm, h.sp.later k, h.lp, h.mp, h.ctl.later k, h.ext.trans k⟩
/-- The controller has worked. -/
theorem JInv.work {w0 : World} {G B : Nat} {w w' : World} {s a j safe : Int} {J : JobS} {vm vps : Value} {N : Nat} {C' : Ctl} (h : JInv w0 G B w s a j safe J vm vps N) (hc : CIn B w' N C') (k : Only (fun k => B ≤ k) w w') : JInv w0 G B w' s a j safe { J with C := C' } vm vps N :=
  ⟨h.box.only k (by have := h.lt; omega), h.base, h.lt, h.sm.only' k (fun hl b hb hB => by have := h.lm hl b hb; omega), h.cap, h.lm, h.sp.only k (fun b hb hB => by have := (h.lp b hb).1; omega), h.lp, h.mp, hc, h.ext.only k (fun i hi hB => by have := h.base; have := h.lt; omega)⟩
def JIn (w0 : World) (G : Nat) (w : World) (s a j safe : Int) (J : JobS) : Prop := ∃ B vm vps N, JInv w0 G B w s a j safe J vm vps N
theorem JIn.later {w0 : World} {G : Nat} {w w' : World} {s a j safe : Int} {J : JobS} (h : JIn w0 G w s a j safe J) (k : Ext w w') : JIn w0 G w' s a j safe J := by
  obtain ⟨B, vm, vps, N, h⟩ := h
  exact ⟨B, vm, vps, N, h.later k⟩
/-- One cell of the machine is set: what lies elsewhere stays. -/
theorem JInv.put {w0 : World} {G B : Nat} {w : World} {s a j safe : Int} {J : JobS} {vm vps : Value} {N : Nat} (h : JInv w0 G B w s a j safe J vm vps N) (i : Nat) (v : Value) :
    SlM (w.setCell ⟨G, i, none⟩ v) vm J.l ∧ OwnM w0.heap.size (w.setCell ⟨G, i, none⟩ v) vps J.ps ∧ CIn B (w.setCell ⟨G, i, none⟩ v) N J.C ∧ Ext w0 (w.setCell ⟨G, i, none⟩ v) := by
  have k : Only (fun k => k = G) w (w.setCell ⟨G, i, none⟩ v) := (Only.refl (fun k => k = G) w).set (p := ⟨G, i, none⟩) (.inl rfl) v
  refine ⟨h.sm.only' k (fun hl b hb e => h.box.apart h.sm hl (by rw [hb, e])), h.sp.only k (fun b hb e => (h.lp b hb).2 e), h.ctl.low k (fun b e => by rw [e]; exact h.lt), h.ext.setCell h.base v⟩
theorem JInv.put7 {w0 : World} {G B : Nat} {w : World} {s a j safe : Int} {J : JobS} {vm vps : Value} {N : Nat} (h : JInv w0 G B w s a j safe J vm vps N) (b : Bool) : JInv w0 G B (w.setCell ⟨G, 7, none⟩ (.bool b)) s a j safe { J with held := b } vm vps N := by
  obtain ⟨h1, h2, h3, h4⟩ := h.put 7 (.bool b)
  exact ⟨h.box.set7 b, h.base, h.lt, h1, h.cap, h.lm, h2, h.lp, h.mp, h3, h4⟩
theorem JInv.put8 {w0 : World} {G B : Nat} {w : World} {s a j safe : Int} {J : JobS} {vm vps : Value} {N : Nat} (h : JInv w0 G B w s a j safe J vm vps N) (t : Int) : JInv w0 G B (w.setCell ⟨G, 8, none⟩ (.int .i64 t)) s a j safe { J with till := t } vm vps N := by
  obtain ⟨h1, h2, h3, h4⟩ := h.put 8 (.int .i64 t)
  exact ⟨h.box.set8 t, h.base, h.lt, h1, h.cap, h.lm, h2, h.lp, h.mp, h3, h4⟩

set_option maxHeartbeats 1000000 in
theorem mdone_any {w0 : World} {G : Nat} {w : World} {s a j safe : Int} {J : JobS} (h : JIn w0 G w s a j safe J) :
    Calls Tryz.prog 27 #[.pointer (some ⟨G, 0, none⟩)] w fun e w' => e = .returned (.bool J.doneB) ∧ Ext w w' := by
  obtain ⟨B, vm, vps, N, h⟩ := h
  obtain ⟨x, c, hv⟩ := h.sm.is
  have ki := fun (w' : World) (he : Ext w w') => index_in (h.ctl.later he)
  have KI := Lib.hid ki; clear ki
  have hb := h.box
  have c0 := Later.cell hb.c0; have c5 := Later.cell hb.c5
  have hd : J.doneB = decide ((J.C.idx : Int) = (J.l.length : Int)) := by unfold JobS.doneB; rw [decide_eq_decide]; omega
  rw [hd]; clear hd
  rw [hv] at c0
  clear hv h hb
  generalize J.C.idx = ix at *
  generalize J.l.length = n at *
  go_enter Tryz.func27, Tryz.ntmps27
  go_wp2_with fail
  refine wp_region_later (by kernel_rfl) (by kernel_rfl) ?_
  repeat (go_big_quiet_step ((go_at_call 34; exact Calls.later_same (KI.out _ (Later.ext _)))))
  refine wpQuiet_nil ?_
  rintro _ ⟨x2, rfl⟩
  go_wp2
  go_ret
  exact ⟨rfl, x2.ext⟩

end Go.Proofs.YtjibcnnbclcboaaGreatDoor

namespace Go.Proofs.YtjibcnnbclcboaaGreatDoor
open Go.RowKit
set_option maxRecDepth 8000

section
variable {B : Nat} {w w1 : World} {N : Nat} {C : Ctl}
theorem CIn.ret_up {vm vp vq : Value} {C' : Ctl} {v : Value} (h : CAt B w N vm vp vq C) (he : Ext w w1) (h1 : ∀ b, vm.ownBlock = some b → B ≤ b) (h2 : ∀ b, vp.ownBlock = some b → B ≤ b) (h3 : B ≤ w.heap.size) {e : Ending} {w' : World} (k : CRet B w1 N vm vp vq C' v e w') :
    e = .returned v ∧ CIn B w' N C' ∧ Only (fun k => B ≤ k ∧ k < w.heap.size) w1 w' := by
  obtain ⟨e1, e2, e3⟩ := CIn.ret (h.later he) h1 h2 (Nat.le_trans h3 he.size) k
  obtain ⟨_, vp', vq', _, hO, _, _⟩ := k
  refine ⟨e1, e2, hO.mono fun k _ hk => ?_⟩
  rcases hk with rfl | hk
  · exact ⟨h.inv.base, h.inv.box.lt⟩
  · exact ⟨h.inv.sq.base hk, h.inv.sq.lt hk⟩
theorem hold_up (h : CIn B w N C) (he : Ext w w1) (hps : C.ps.length ≤ 999999999) :
    Calls Tryz.prog 35 #[.pointer (some ⟨N, 0, none⟩)] w1 fun e w' => e = .returned (.tuple #[]) ∧ CIn B w' N C.holdC ∧ Only (fun k => B ≤ k ∧ k < w.heap.size) w1 w' := by
  obtain ⟨vm, vp, vq, h, h1, h2, h3⟩ := h
  exact (hold_any (h.later he) hps).mono fun _ _ k => CIn.ret_up h he h1 h2 h3 k
theorem break_up (h : CIn B w N C) (he : Ext w w1) (hps : C.ps.length ≤ 999999999) :
    Calls Tryz.prog 37 #[.pointer (some ⟨N, 0, none⟩)] w1 fun e w' => e = .returned (.tuple #[]) ∧ CIn B w' N C.brkC ∧ Only (fun k => B ≤ k ∧ k < w.heap.size) w1 w' := by
  obtain ⟨vm, vp, vq, h, h1, h2, h3⟩ := h
  exact (break_any (h.later he) hps).mono fun _ _ k => CIn.ret_up h he h1 h2 h3 k
end

section
variable {w : World} {G : Nat} {vm0 vc0 vps v : Value} {s a j safe till : Int} {held : Bool} {L : List Mot}
set_option maxHeartbeats 1000000 in
theorem mstart_bad (hb : JBox w G vm0 vc0 vps s a j safe held till) (hs : SlM w v L) (hn : L.length ≤ 1000000) (hw : WfL L) (hc : chk L s a j ≠ 0) :
    Calls Tryz.prog 25 #[.pointer (some ⟨G, 0, none⟩), v] w fun e w' => e = .returned (.int .i64 (chk L s a j)) ∧ Ext w w' := by
  have kn := new_err v L s a j w hs (by omega) hw hc
  have KN := Lib.hid kn
  obtain ⟨x, c, rfl⟩ := hs.is
  have c1 := hb.c1; have c2 := hb.c2; have c3 := hb.c3
  have hd : (chk L s a j == 0) = false := by simp [hc]
  clear kn hs hb hw hc
  generalize chk L s a j = cc at *
  generalize L.length = n at *
  go_enter Tryz.func25, Tryz.ntmps25
  go_wp2_with ((go_at_call 33; with_reducible refine (KN.out).mono ?_); rintro e w2 ⟨rfl, hx2⟩)
  go_ret
  exact ⟨rfl, hx2⟩

set_option maxHeartbeats 1000000 in
theorem mstart_ok (hb : JBox w G vm0 vc0 vps s a j safe held till) (hs : SlM w v L) (hn : L.length ≤ 1000000) (hw : WfL L) (hc : chk L s a j = 0) :
    Calls Tryz.prog 25 #[.pointer (some ⟨G, 0, none⟩), v] w fun e w' => e = .returned (.int .i64 0) ∧ ∃ N, JBox w' G v (.pointer (some ⟨N, 0, none⟩)) vps s a j safe held till ∧ CIn w.heap.size w' N (Ctl.new L s a j) ∧ Only (fun k => k = G) w w' := by
  have kn := new_in v L s a j w hs (by omega) hw hc
  have KN := Lib.hid kn
  obtain ⟨x, c, rfl⟩ := hs.is
  have c1 := hb.c1; have c2 := hb.c2; have c3 := hb.c3
  have HB := Lib.hid hb
  clear kn hs hb hw hc
  generalize Ctl.new L s a j = CC at *
  generalize L.length = n at *
  go_enter Tryz.func25, Tryz.ntmps25
  go_wp2_with ((go_at_call 33; with_reducible refine (KN.out).mono ?_); rintro e w2 ⟨N, rfl, hC2, hx2⟩; have b2 := HB.out.later hx2; have q0 := b2.c0; have q5 := b2.c5; have f0 := b2.fr 0 (by decide); have f5 := b2.fr 5 (by decide); clear b2)
  have b2 := HB.out.later hx2
  have hO : Only (fun k => k = G) w2 ((w2.setCell ⟨G, 0, none⟩ (.slice x n c)).setCell ⟨G, 5, none⟩ (.pointer (some ⟨N, 0, none⟩))) := ((Only.refl (fun k => k = G) w2).set (p := ⟨G, 0, none⟩) (.inl rfl) _).set (p := ⟨G, 5, none⟩) (.inl rfl) _
  go_ret
  refine ⟨rfl, N, (b2.set0 x n c).set5 _, hC2.low hO (fun b e => by rw [e]; exact HB.out.lt), (Only.of_ext hx2).trans hO⟩
end

end Go.Proofs.YtjibcnnbclcboaaGreatDoor

namespace Go.Proofs.YtjibcnnbclcboaaGreatDoor
open Go.RowKit
set_option maxRecDepth 8000

/-- Worlds in which a cell of the machine and one of the event stand. -/
def EvC (G E : Nat) (vm : Value) (till n : Int) : Type := { w : World // w.cell? ⟨G, 0, none⟩ = some vm ∧ w.cell? ⟨G, 8, none⟩ = some (.int .i64 till) ∧ w.cell? ⟨E, 1, none⟩ = some (.int .i64 n) }
def EvC.w {G E : Nat} {vm : Value} {till n : Int} (x : EvC G E vm till n) : World := x.1
theorem EvC.c0 {G E : Nat} {vm : Value} {till n : Int} : ∀ x : EvC G E vm till n, x.w.cell? ⟨G, 0, none⟩ = some vm := fun x => x.2.1
theorem EvC.c8 {G E : Nat} {vm : Value} {till n : Int} : ∀ x : EvC G E vm till n, x.w.cell? ⟨G, 8, none⟩ = some (.int .i64 till) := fun x => x.2.2.1
theorem EvC.e1 {G E : Nat} {vm : Value} {till n : Int} : ∀ x : EvC G E vm till n, x.w.cell? ⟨E, 1, none⟩ = some (.int .i64 n) := fun x => x.2.2.2

set_option maxHeartbeats 4000000 in
theorem mhold_any {w0 : World} {G : Nat} {w : World} {s a j safe at_ n t : Int} {J : JobS} (h : JIn w0 G w s a j safe J) (hps : J.C.ps.length ≤ 999999999) (hn0 : 0 < n) (hn : n ≤ 1000000) (ht0 : 0 ≤ t) (ht : t ≤ 1000000) :
    Calls Tryz.prog 29 #[.pointer (some ⟨G, 0, none⟩), .agg #[.int .i64 at_, .int .i64 n], .int .i64 t] w fun e w' => e = .returned (.int .i64 0) ∧ JIn w0 G w' s a j safe (J.hold n t) := by
  obtain ⟨B, vm, vps, N, h⟩ := h
  have hE1 : Ext w (w.alloc (.cells #[.int .i64 at_, .int .i64 n] 55)) := (Ext.refl w).alloc _
  obtain ⟨W1, hW1, bE, _⟩ := B2.mk' w (.int .i64 at_) (.int .i64 n) 55
  have kh := hold_up h.ctl hE1 hps
  have KH := Lib.hid kh
  have H := Lib.hid (h.later hE1)
  have hb := (h.later hE1).box
  have c5 := hb.c5; have c0 := hb.c0
  have hd : (n == 0) = false := by simp; omega
  have hgw : G < w.heap.size := h.box.lt
  rw [← hW1] at bE
  have HBE := Lib.hid bE
  clear kh h hb hps hW1 bE
  go_enter Tryz.func29, Tryz.ntmps29
  cases hheld : J.held
  · go_wp2_with ((go_at_call 35; with_reducible refine (KH.out).mono ?_); rintro e w2 ⟨rfl, hC2, hO2⟩; have H2 := Lib.hid (H.out.work hC2 (hO2.mono (fun _ _ h => h.1))); have c7 := H2.out.box.c7; have c00 := H2.out.box.c0; have c8 := H2.out.box.c8; have f8 := H2.out.box.fr 8 (by decide); rw [show ({ J with C := J.C.holdC } : JobS).held = J.held from rfl, hheld] at c7)
    have hBE := HBE.out.only hO2 (by simp)
    have H3 := H2.out.put8 0
    have hBE := hBE.only (D := fun k => k = G) ((Only.refl (fun k => k = G) w2).set (p := ⟨G, 8, none⟩) (.inl rfl) (.int .i64 0)) (by omega)
    generalize w2.setCell ⟨G, 8, none⟩ (.int .i64 0) = W at *
    have H4 := H3.later (Ext.refl W).drew
    have hBE := hBE.later (Ext.refl W).drew
    clear H3 H2 c7 c8 f8 hO2 hC2 c5
    have g8 := EvC.c8 (G := G) (E := w.heap.size) (vm := vm) (till := 0) (n := n)
    have g0 := EvC.c0 (G := G) (E := w.heap.size) (vm := vm) (till := 0) (n := n)
    have g1 := EvC.e1 (G := G) (E := w.heap.size) (vm := vm) (till := 0) (n := n)
    have hne : Nonempty (EvC G w.heap.size vm (0) n) := ⟨⟨_, H4.box.c0, H4.box.c8, hBE.c1⟩⟩
    refine wp_region_tree (fun w' => ∃ y : EvC G w.heap.size vm (0) n, w' = y.w) 14 (.two [0, 1, 2, 3, 4, 5, 6, 7, 8, 9, 11, 12] 10 13 (.one [] 13 (.leaf [])) (.one [] 10 (.leaf []))) (by kernel_rfl) (by kernel_rfl) (by kernel_rfl) ⟨⟨_, H4.box.c0, H4.box.c8, hBE.c1⟩, rfl⟩ ?_
    simp only [List.take_succ_cons, List.take_zero]
    refine tree_two fun K1 K2 hK1 hK2 => ?_
    simp only [List.map_cons, List.map_nil, pickOp, List.getElem?_cons_zero, List.getElem?_cons_succ, Option.getD_some]
    repeat (go_big_quiet_step (fail))
    refine wpQuiet_nil ?_
    clear g8 g1 g0 hne
    generalize W.drew = V at *
    have H5 := H4.put7 true
    have hBE5 := hBE.only (D := fun k => k = G) ((Only.refl (fun k => k = G) V).set (p := ⟨G, 7, none⟩) (.inl rfl) (.bool true)) (by omega)
    have v0 := H4.box.c0; have w00 := H5.box.c0; have v7 := H4.box.c7; have f7 := H4.box.fr 7 (by decide)
    have v8 := H5.box.c8; have f8 := H5.box.fr 8 (by decide)
    have H6 := H5.put8 (t + n)
    have HH6 := Lib.hid H6
    have u8 := H4.box.c8; have ue := hBE.c1; have w8 := H5.box.c8; have we := hBE5.c1
    have HA := Lib.hid (And.intro H4.box.c0 (And.intro u8 ue)); have HB2 := Lib.hid (And.intro H5.box.c0 (And.intro w8 we))
    clear u8 ue w8 we H6 H5 H4 hBE hBE5
    have hF : ({ ({ ({ ({ J with C := J.C.holdC } : JobS) with till := 0 } : JobS) with held := true } : JobS) with till := (t + n) } : JobS) = J.hold n t := by unfold JobS.hold; simp only [hheld]; congr 1
    rw [hF] at HH6
    refine ⟨?_, ?_⟩
    · clear hK2 K2
      go_wp2_with fail
      refine onlyK_normal (hK1 _ _ ⟨⟨_, HA.out⟩, rfl⟩ ?_); clear hK1 K1
      refine tree_one0 fun K hK => ?_
      simp only [pickOp, List.getElem?_cons_zero, List.getElem?_cons_succ, Option.getD_some]
      go_wp2_with fail
      refine onlyK_normal (hK _ _ ⟨⟨_, HB2.out⟩, rfl⟩ ?_); clear hK K
      refine tree_leaf0 ?_
      simp only [List.drop_succ_cons, List.drop_zero]
      go_wp2
      go_ret
      exact ⟨rfl, B, vm, vps, N, HH6.out⟩
    · clear hK1 K1
      go_wp2_with fail
      refine onlyK_normal (hK2 _ _ ⟨⟨_, HB2.out⟩, rfl⟩ ?_); clear hK2 K2
      refine tree_one0 fun K hK => ?_
      simp only [pickOp, List.getElem?_cons_zero, List.getElem?_cons_succ, Option.getD_some]
      go_wp2_with fail
      refine onlyK_normal (hK _ _ ⟨⟨_, HB2.out⟩, rfl⟩ ?_); clear hK K
      refine tree_leaf0 ?_
      simp only [List.drop_succ_cons, List.drop_zero]
      go_wp2
      go_ret
      exact ⟨rfl, B, vm, vps, N, HH6.out⟩
  · by_cases q : J.till < t + n
    · go_wp2_with ((go_at_call 35; with_reducible refine (KH.out).mono ?_); rintro e w2 ⟨rfl, hC2, hO2⟩; have H2 := Lib.hid (H.out.work hC2 (hO2.mono (fun _ _ h => h.1))); have c7 := H2.out.box.c7; have c00 := H2.out.box.c0; have c8 := H2.out.box.c8; have f8 := H2.out.box.fr 8 (by decide); rw [show ({ J with C := J.C.holdC } : JobS).held = J.held from rfl, hheld] at c7)
      have hBE := HBE.out.only hO2 (by simp)
      have H3 := H2.out
      generalize w2 = W at *
      have H4 := H3.later (Ext.refl W).drew
      have hBE := hBE.later (Ext.refl W).drew
      clear H3 H2 c7 c8 f8 hO2 hC2 c5
      have g8 := EvC.c8 (G := G) (E := w.heap.size) (vm := vm) (till := J.till) (n := n)
      have g0 := EvC.c0 (G := G) (E := w.heap.size) (vm := vm) (till := J.till) (n := n)
      have g1 := EvC.e1 (G := G) (E := w.heap.size) (vm := vm) (till := J.till) (n := n)
      have hne : Nonempty (EvC G w.heap.size vm (J.till) n) := ⟨⟨_, H4.box.c0, H4.box.c8, hBE.c1⟩⟩
      refine wp_region_tree (fun w' => ∃ y : EvC G w.heap.size vm (J.till) n, w' = y.w) 14 (.two [0, 1, 2, 3, 4, 5, 6, 7, 8, 9, 11, 12] 10 13 (.one [] 13 (.leaf [])) (.one [] 10 (.leaf []))) (by kernel_rfl) (by kernel_rfl) (by kernel_rfl) ⟨⟨_, H4.box.c0, H4.box.c8, hBE.c1⟩, rfl⟩ ?_
      simp only [List.take_succ_cons, List.take_zero]
      refine tree_two fun K1 K2 hK1 hK2 => ?_
      simp only [List.map_cons, List.map_nil, pickOp, List.getElem?_cons_zero, List.getElem?_cons_succ, Option.getD_some]
      repeat (go_big_quiet_step (fail))
      refine wpQuiet_nil ?_
      clear g8 g1 g0 hne
      generalize W.drew = V at *
      have H5 := H4.put7 true
      have hBE5 := hBE.only (D := fun k => k = G) ((Only.refl (fun k => k = G) V).set (p := ⟨G, 7, none⟩) (.inl rfl) (.bool true)) (by omega)
      have v0 := H4.box.c0; have w00 := H5.box.c0; have v7 := H4.box.c7; have f7 := H4.box.fr 7 (by decide)
      have v8 := H5.box.c8; have f8 := H5.box.fr 8 (by decide)
      have H6 := H5.put8 (t + n)
      have HH6 := Lib.hid H6
      have u8 := H4.box.c8; have ue := hBE.c1; have w8 := H5.box.c8; have we := hBE5.c1
      have HA := Lib.hid (And.intro H4.box.c0 (And.intro u8 ue)); have HB2 := Lib.hid (And.intro H5.box.c0 (And.intro w8 we))
      clear u8 ue w8 we H6 H5 H4 hBE hBE5
      have hF : ({ ({ ({ J with C := J.C.holdC } : JobS) with held := true } : JobS) with till := (t + n) } : JobS) = J.hold n t := by unfold JobS.hold; simp only [hheld]; congr 1; simp [q]
      rw [hF] at HH6
      refine ⟨?_, ?_⟩
      · clear hK2 K2
        go_wp2_with fail
        refine onlyK_normal (hK1 _ _ ⟨⟨_, HA.out⟩, rfl⟩ ?_); clear hK1 K1
        refine tree_one0 fun K hK => ?_
        simp only [pickOp, List.getElem?_cons_zero, List.getElem?_cons_succ, Option.getD_some]
        go_wp2_with fail
        refine onlyK_normal (hK _ _ ⟨⟨_, HB2.out⟩, rfl⟩ ?_); clear hK K
        refine tree_leaf0 ?_
        simp only [List.drop_succ_cons, List.drop_zero]
        go_wp2
        go_ret
        exact ⟨rfl, B, vm, vps, N, HH6.out⟩
      · clear hK1 K1
        go_wp2_with fail
        refine onlyK_normal (hK2 _ _ ⟨⟨_, HB2.out⟩, rfl⟩ ?_); clear hK2 K2
        refine tree_one0 fun K hK => ?_
        simp only [pickOp, List.getElem?_cons_zero, List.getElem?_cons_succ, Option.getD_some]
        go_wp2_with fail
        refine onlyK_normal (hK _ _ ⟨⟨_, HB2.out⟩, rfl⟩ ?_); clear hK K
        refine tree_leaf0 ?_
        simp only [List.drop_succ_cons, List.drop_zero]
        go_wp2
        go_ret
        exact ⟨rfl, B, vm, vps, N, HH6.out⟩
    · go_wp2_with ((go_at_call 35; with_reducible refine (KH.out).mono ?_); rintro e w2 ⟨rfl, hC2, hO2⟩; have H2 := Lib.hid (H.out.work hC2 (hO2.mono (fun _ _ h => h.1))); have c7 := H2.out.box.c7; have c00 := H2.out.box.c0; have c8 := H2.out.box.c8; have f8 := H2.out.box.fr 8 (by decide); rw [show ({ J with C := J.C.holdC } : JobS).held = J.held from rfl, hheld] at c7)
      have hBE := HBE.out.only hO2 (by simp)
      have H3 := H2.out
      generalize w2 = W at *
      have H4 := H3.later (Ext.refl W).drew
      have hBE := hBE.later (Ext.refl W).drew
      clear H3 H2 c7 c8 f8 hO2 hC2 c5
      have g8 := EvC.c8 (G := G) (E := w.heap.size) (vm := vm) (till := J.till) (n := n)
      have g0 := EvC.c0 (G := G) (E := w.heap.size) (vm := vm) (till := J.till) (n := n)
      have g1 := EvC.e1 (G := G) (E := w.heap.size) (vm := vm) (till := J.till) (n := n)
      have hne : Nonempty (EvC G w.heap.size vm (J.till) n) := ⟨⟨_, H4.box.c0, H4.box.c8, hBE.c1⟩⟩
      refine wp_region_tree (fun w' => ∃ y : EvC G w.heap.size vm (J.till) n, w' = y.w) 14 (.two [0, 1, 2, 3, 4, 5, 6, 7, 8, 9, 11, 12] 10 13 (.one [] 13 (.leaf [])) (.one [] 10 (.leaf []))) (by kernel_rfl) (by kernel_rfl) (by kernel_rfl) ⟨⟨_, H4.box.c0, H4.box.c8, hBE.c1⟩, rfl⟩ ?_
      simp only [List.take_succ_cons, List.take_zero]
      refine tree_two fun K1 K2 hK1 hK2 => ?_
      simp only [List.map_cons, List.map_nil, pickOp, List.getElem?_cons_zero, List.getElem?_cons_succ, Option.getD_some]
      repeat (go_big_quiet_step (fail))
      refine wpQuiet_nil ?_
      clear g8 g1 g0 hne
      generalize W.drew = V at *
      have H5 := H4.put7 true
      have hBE5 := hBE.only (D := fun k => k = G) ((Only.refl (fun k => k = G) V).set (p := ⟨G, 7, none⟩) (.inl rfl) (.bool true)) (by omega)
      have v0 := H4.box.c0; have w00 := H5.box.c0; have v7 := H4.box.c7; have f7 := H4.box.fr 7 (by decide)
      have v8 := H5.box.c8; have f8 := H5.box.fr 8 (by decide)
      have H6 := H5.put8 (J.till)
      have HH6 := Lib.hid H6
      have u8 := H4.box.c8; have ue := hBE.c1; have w8 := H5.box.c8; have we := hBE5.c1
      have HA := Lib.hid (And.intro H4.box.c0 (And.intro u8 ue)); have HB2 := Lib.hid (And.intro H5.box.c0 (And.intro w8 we))
      clear u8 ue w8 we H6 H5 H4 hBE hBE5
      have hF : ({ ({ ({ J with C := J.C.holdC } : JobS) with held := true } : JobS) with till := (J.till) } : JobS) = J.hold n t := by unfold JobS.hold; simp only [hheld]; congr 1; simp [q]
      rw [hF] at HH6
      refine ⟨?_, ?_⟩
      · clear hK2 K2
        go_wp2_with fail
        refine onlyK_normal (hK1 _ _ ⟨⟨_, HA.out⟩, rfl⟩ ?_); clear hK1 K1
        refine tree_one0 fun K hK => ?_
        simp only [pickOp, List.getElem?_cons_zero, List.getElem?_cons_succ, Option.getD_some]
        go_wp2_with fail
        refine onlyK_normal (hK _ _ ⟨⟨_, HB2.out⟩, rfl⟩ ?_); clear hK K
        refine tree_leaf0 ?_
        simp only [List.drop_succ_cons, List.drop_zero]
        go_wp2
        go_ret
        exact ⟨rfl, B, vm, vps, N, HH6.out⟩
      · clear hK1 K1
        go_wp2_with fail
        refine onlyK_normal (hK2 _ _ ⟨⟨_, HB2.out⟩, rfl⟩ ?_); clear hK2 K2
        refine tree_one0 fun K hK => ?_
        simp only [pickOp, List.getElem?_cons_zero, List.getElem?_cons_succ, Option.getD_some]
        go_wp2_with fail
        refine onlyK_normal (hK _ _ ⟨⟨_, HB2.out⟩, rfl⟩ ?_); clear hK K
        refine tree_leaf0 ?_
        simp only [List.drop_succ_cons, List.drop_zero]
        go_wp2
        go_ret
        exact ⟨rfl, B, vm, vps, N, HH6.out⟩

end Go.Proofs.YtjibcnnbclcboaaGreatDoor
