/-
  Slices of motions of the call's own; walks: slices.Clone.
-/
import Derived.Test.YtjibcnnbclcboaaDoorQS07
import Derived.Lib.SliceRun
import Derived.Maps.AppendAt
namespace Go.Proofs.YtjibcnnbclcboaaDoor
open Go.RowKit
set_option maxRecDepth 8000
set_option maxRecDepth 8000

theorem Tryd.info_mot : (Tryd.prog.info? 49).map (fun i => (i.zero, i.size, i.bytes)) = some (some (.agg #[.int .i64 0, .int .i64 0, .int .i64 0, .int .i64 0, .int .i64 0, .int .i64 0, .int .i64 0, .int .i64 0, .int .i64 0]), 9, 72) := by kernel_rfl

def Mot.cells (m : Mot) : List Value := [.int .i64 m.fx, .int .i64 m.fy, .int .i64 m.fz, .int .i64 m.tx, .int .i64 m.ty, .int .i64 m.tz, .int .i64 m.rate, .int .i64 m.tool, .int .i64 m.block]
def rowM : List Mot → List Value
  | [] => []
  | m :: l => m.cells ++ rowM l

theorem rowM_length : ∀ l : List Mot, (rowM l).length = l.length * 9
  | [] => rfl
  | m :: l => by simp [rowM, rowM_length l, Mot.cells]; omega
theorem rowM_append : ∀ l l' : List Mot, rowM (l ++ l') = rowM l ++ rowM l'
  | [], l' => rfl
  | m :: l, l' => by simp [rowM, rowM_append l l']
theorem rowM_get : ∀ (l : List Mot) (i r : Nat), i < l.length → r < 9 → (rowM l)[i * 9 + r]? = ((l.getD i Mot.zero).cells)[r]?
  | [], i, r, h, _ => by simp at h
  | m :: l, 0, r, _, hr => by
    have : m.cells.length = 9 := rfl
    rw [rowM, Nat.zero_mul, Nat.zero_add, List.getElem?_append_left (by omega)]
    rfl
  | m :: l, i + 1, r, h, hr => by
    have e : m.cells.length = 9 := rfl
    rw [rowM, List.getElem?_append_right (by omega), e]
    have : (i + 1) * 9 + r - 9 = i * 9 + r := by omega
    rw [this, rowM_get l i r (by simpa using h) hr]
    rfl
theorem rowM_one (l : List Mot) : ∀ u ∈ rowM l, u.oneCell' = true := by
  induction l with
  | nil => intro u h; simp [rowM] at h
  | cons m l ih =>
    intro u h
    simp only [rowM, List.mem_append] at h
    rcases h with h | h
    · simp only [Mot.cells, List.mem_cons, List.not_mem_nil, or_false] at h
      rcases h with h | h | h | h | h | h | h | h | h <;> subst h <;> rfl
    · exact ih u h

theorem CellsM.row {w : World} {b o : Nat} {m : Mot} (h : CellsM w b o m) (r : Nat) (u : Value) (hu : m.cells[r]? = some u) : w.cell? ⟨b, o + r, none⟩ = some u := by
  have hr : r < 9 := by
    rcases Nat.lt_or_ge r 9 with h' | h'
    · exact h'
    · have : m.cells.length ≤ r := h'
      simp [this] at hu
  have : r = 0 ∨ r = 1 ∨ r = 2 ∨ r = 3 ∨ r = 4 ∨ r = 5 ∨ r = 6 ∨ r = 7 ∨ r = 8 := by omega
  rcases this with rfl | rfl | rfl | rfl | rfl | rfl | rfl | rfl | rfl <;> simp [Mot.cells] at hu <;> subst hu
  · exact h.c0
  · exact h.c1
  · exact h.c2
  · exact h.c3
  · exact h.c4
  · exact h.c5
  · exact h.c6
  · exact h.c7
  · exact h.c8

theorem CellsM.of_row {w : World} {b o : Nat} {m : Mot} (h : ∀ r, r < 9 → w.cell? ⟨b, o + r, none⟩ = m.cells[r]?) : CellsM w b o m where
  c0 := h 0 (by decide)
  c1 := h 1 (by decide)
  c2 := h 2 (by decide)
  c3 := h 3 (by decide)
  c4 := h 4 (by decide)
  c5 := h 5 (by decide)
  c6 := h 6 (by decide)
  c7 := h 7 (by decide)
  c8 := h 8 (by decide)

/-- The cells of a slice of motions, one by one. -/
theorem cells_rowM {w : World} {b off : Nat} {l : List Mot} (h : ∀ i, i < l.length → CellsM w b (off + i * 9) (l.getD i Mot.zero)) (k : Nat) (u : Value) (hu : (rowM l)[k]? = some u) : w.cell? ⟨b, off + k, none⟩ = some u := by
  have hk : k < l.length * 9 := by
    rw [← rowM_length]
    rcases Nat.lt_or_ge k (rowM l).length with h' | h'
    · exact h'
    · simp [h'] at hu
  have e : k = k / 9 * 9 + k % 9 := by omega
  have h9 : k % 9 < 9 := Nat.mod_lt _ (by decide)
  have hi : k / 9 < l.length := by omega
  rw [e, rowM_get l (k / 9) (k % 9) hi h9] at hu
  have := (h (k / 9) hi).row _ _ hu
  rw [show off + k = off + k / 9 * 9 + k % 9 by omega]
  exact this

/-- A slice of the call's own that holds these motions. -/
def OwnM (B : Nat) (w : World) (v : Value) (l : List Mot) : Prop := w.ownsRow B 49 9 v l.length (rowM l)
theorem OwnM.later {B : Nat} {w w' : World} {v : Value} {l : List Mot} (h : OwnM B w v l) (he : Ext w w') : OwnM B w' v l := by
  refine World.ownsRow.kept h (row := none) ⟨he.out.os, he.out.tape, he.out.output, he.size, fun k hk _ => he.out.block k hk⟩ ?_
  cases h' : v.ownBlock <;> simp
theorem OwnM.set {B : Nat} {w : World} {v : Value} {l : List Mot} (h : OwnM B w v l) {a : Addr} (ha : v.ownBlock ≠ some a.block) (u : Value) : OwnM B (w.setCell a u) v l := ownsRow_setCell_other h ha u
theorem OwnM.nil (B : Nat) (w : World) : OwnM B w (.slice none 0 0) [] := World.ownsRow_nil _ _ _ _
theorem OwnM.sl {B : Nat} {w : World} {v : Value} {l : List Mot} (h : OwnM B w v l) : SlM w v l := by
  obtain ⟨h1, h2⟩ := h
  rcases h2 with ⟨rfl, h3⟩ | ⟨g, cap, cur, rfl, h3, h4, h5, h6, h7, h8⟩
  · exact ⟨none, 0, 0, 0, 0, rfl, h3.symm, .inl rfl, fun _ => rfl, fun i hi => by omega⟩
  · refine ⟨_, _, cap, g, 0, rfl, rfl, .inr rfl, fun h => (by cases h), fun i hi => ⟨?_, ?_⟩⟩
    · rcases Nat.lt_or_ge g w.heap.size with h' | h'
      · exact h'
      · rw [Array.getElem?_eq_none h'] at h4; cases h4
    · refine CellsM.of_row fun r hr => ?_
      have e : cur[i * 9 + r]? = (rowM l)[i * 9 + r]? := by
        have : (cur.toList.take (l.length * 9))[i * 9 + r]? = (rowM l)[i * 9 + r]? := by rw [h8]
        rw [List.getElem?_take_of_lt (by omega)] at this
        simpa using this
      rw [rowM_get l i r hi hr] at e
      rw [Nat.zero_add]
      simp [World.cell?, h4, e]

/-- A slice of the call's own is handed back. -/
def RetMots (w : World) (l : List Mot) (e : Ending) (w' : World) : Prop := ∃ v, e = .returned v ∧ OwnM w.heap.size w' v l ∧ Ext w w'

/-- append of motions, and where the new slice lies. -/
theorem appM_at {w : World} {ops : Array Oper} {rest : List Oper} {o : Oper} {A : Act} {Q : Exit → Act → World → Prop} (hg : o.guard = none) (x y : Operand)
    (ho : o.op = .call { callee := .builtin .append, args := #[x, y], argTypes := #[30, 30] }) (base : Nat) (v v2 : Value) (l l2 : List Mot) (hx : A.eval x = v) (hy : A.eval y = v2)
    (hown : OwnM base w v l) (harg : SlM w v2 l2) (h63 : l.length + l2.length ≤ 1000000000) (hbase : base ≤ w.heap.size)
    (hk : ∀ v' w3, OwnM base w3 v' (l ++ l2) → w.grownBy w3 v.ownBlock → (v'.ownBlock = v.ownBlock ∨ v'.ownBlock = some w.heap.size) → wpList Tryd.prog ops Q rest (A.put o.dst v') w3) : wpList Tryd.prog ops Q (o :: rest) A w := by
  obtain ⟨i0, hi, hz0, hz1, hz2⟩ := info_parts Tryd.info_mot
  obtain ⟨ad, n, cap, b, off, rfl, rfl, h3, h5, h4⟩ := harg
  cases ad with
  | none =>
    have h0 : l2.length = 0 := h3.resolve_right (by simp)
    obtain rfl := List.length_eq_zero_iff.1 h0
    obtain rfl := h5 rfl
    exact wpList_append_own_none hg _ _ 30 ho base 49 i0 9 Tryd.underlying30 hi _ _ _ hx hown hy (hk _ _ (by rw [List.append_nil]; exact hown) ⟨rfl, rfl, rfl, Nat.le_refl _, fun _ _ _ => rfl⟩ (.inl rfl))
  | some x2 =>
    refine wpList_append_own_at w hg _ _ 30 ho base 49 i0 _ 9 72 Tryd.underlying30 hi hz0 hz1 hz2 rfl (by decide) _ _ _ hx hown x2 _ _ (rowM l2) hy (rowM_length l2) (fun k u hk' => ?_) (rowM_one l2) (by simp [maxLen]; omega) (by omega) hbase (fun v' w3 ho3 hg3 _ hat => hk v' w3 ?_ hg3 hat)
    · have hkl : k < l2.length * 9 := by
        rw [← rowM_length]
        rcases Nat.lt_or_ge k (rowM l2).length with h' | h'
        · exact h'
        · simp [h'] at hk'
      have hx2 : x2 = ⟨b, off, none⟩ := by simpa using h3.resolve_left (by omega)
      subst hx2
      rw [Addr.add_none]
      exact cells_rowM (fun i hi => (h4 i hi).2) k u hk'
    · unfold OwnM; rw [List.length_append, rowM_append]; exact ho3

theorem ext_grown {w w1 w2 : World} {row : Option Nat} (h : Ext w w1) (hg : w1.grownBy w2 row) (hr : ∀ k, row = some k → w.heap.size ≤ k) : Ext w w2 := Below.grown h.out hg h.size hr

set_option maxHeartbeats 400000 in
theorem clone_any (v : Value) (l : List Mot) (w : World) (h : SlM w v l) (hn : l.length ≤ 1000000000) :
    Calls Tryd.prog 19 #[v] w (RetMots w l) := by
  obtain ⟨ad, n, cap, b, off, rfl, rfl, h3, h5, h4⟩ := h
  cases ad with
  | none =>
    have h0 : l.length = 0 := h3.resolve_right (by simp)
    obtain rfl := List.length_eq_zero_iff.1 h0
    obtain rfl := h5 rfl
    clear h3 h4 h5 h0
    have hq := fun w => Lib.run_eql_slice_nil (P := Tryd.prog) w 30 49 none 0 0 0 0 Tryd.underlying30
    go_enter Tryd.func19, Tryd.ntmps19
    go_wp2
    go_ret
    exact ⟨_, rfl, OwnM.nil _ _, Ext.refl w⟩
  | some ad =>
    have hq := fun w => Lib.run_eql_slice_nil (P := Tryd.prog) w 30 49 (some ad) l.length cap 0 0 Tryd.underlying30
    have hsl : SlM w (.slice (some ad) l.length cap) l := ⟨_, _, cap, b, off, rfl, rfl, h3, h5, h4⟩
    clear h3 h4 h5
    go_enter Tryd.func19, Tryd.ntmps19
    have hown0 : OwnM w.heap.size (w.alloc (.cells #[] 49)) (.slice (some ⟨w.heap.size, 0, none⟩) 0 0) [] := World.ownsRow_lit (base := w.heap.size) (e := 49) (size := 9) w #[] 0 (Nat.le_refl _) (by decide) rfl
    have HO := Lib.hid hown0
    have HS := Lib.hid hsl
    clear hown0 hsl
    go_wp2_with ((at_builtin; refine appM_at rfl _ _ rfl w.heap.size _ _ [] l rfl rfl HO.out (HS.out.later ((Ext.refl w).alloc _)) (by simp; omega) (by simp) ?_; intro v' w3 own3 hg3 _))
    go_wp2
    go_ret
    exact ⟨_, rfl, own3, ext_grown ((Ext.refl w).alloc _) hg3 (fun k hk => Nat.le_of_eq (Option.some.inj hk))⟩

end Go.Proofs.YtjibcnnbclcboaaDoor
