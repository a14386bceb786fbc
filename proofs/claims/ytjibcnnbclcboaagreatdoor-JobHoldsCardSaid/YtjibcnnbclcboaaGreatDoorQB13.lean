/-
  What a law is told of its arguments: a slice of motions, a slice of bytes.
-/
import Derived.Test.YtjibcnnbclcboaaGreatDoorQB12
import Derived.Test.YtjibcnnbclcboaaGreatDoorQB08
import Derived.Deep.Slices
namespace Go.Proofs.YtjibcnnbclcboaaGreatDoor
open Go.ChangeShapes Go.WideShapes Go.ChangeAt Go.RowKit Go.Joins Go.Deep
set_option maxRecDepth 8000

section
variable {H : Type} {enc : TypeId × Value → H} {W : World} {base : Nat} {v : Value} {d : DataW H} {p : List MemPlace} {t : TypeId}

theorem wf64 {x : Int} (h : (Lit.int .i64 x).wf = true) : -9223372036854775808 ≤ x ∧ x ≤ 9223372036854775807 := by
  simp only [Lit.wf, Bool.and_eq_true, decide_eq_true_eq] at h
  exact h

theorem int1_of {n : Nat} {c : Value} {y : Option (DataW H × List MemPlace)} (hy : y.isSome = true) (ht : Tryz.prog.underlying t = some (.int .i64)) (h : DataW.trod enc Tryz.prog W 0 (fun _ => true) true n t [c] = y) : ∃ x : Int, c = .int .i64 x ∧ -9223372036854775808 ≤ x ∧ x ≤ 9223372036854775807 := by
  cases y with
  | none => cases hy
  | some y =>
    obtain ⟨x, h1, _, h2⟩ := DataW.trod_int ht h
    have := wf64 h2
    simp at h1
    exact ⟨x, h1, this⟩

theorem some_of {α : Type} {l : List α} {i n : Nat} (h : l.length = n) (hi : i < n) : (l[i]?).isSome = true := by
  rw [List.getElem?_eq_getElem (by omega)]; rfl

theorem pos3_of {n : Nat} {c0 c1 c2 : Value} {y : Option (DataW H × List MemPlace)} (hy : y.isSome = true) (h : DataW.trod enc Tryz.prog W 0 (fun _ => true) true n 47 [c0, c1, c2] = y) :
    ∃ a b c : Int, c0 = .int .i64 a ∧ c1 = .int .i64 b ∧ c2 = .int .i64 c ∧ (-9223372036854775808 ≤ a ∧ a ≤ 9223372036854775807) ∧ (-9223372036854775808 ≤ b ∧ b ≤ 9223372036854775807) ∧ (-9223372036854775808 ≤ c ∧ c ≤ 9223372036854775807) := by
  cases y with
  | none => cases hy
  | some y =>
    obtain ⟨ys, m, _, _, _, hl, hf⟩ := DataW.trod_struct Tryz.underlying47 h
    have k1 : Tryz.prog.cellsOf 2 = 1 := by kernel_rfl
    have f0 : DataW.trod enc Tryz.prog W 0 (fun _ => true) true m 2 (([c0, c1, c2].drop 0).take (Tryz.prog.cellsOf 2)) = ys[0]? := hf 0 _ rfl
    have f1 : DataW.trod enc Tryz.prog W 0 (fun _ => true) true m 2 (([c0, c1, c2].drop 1).take (Tryz.prog.cellsOf 2)) = ys[1]? := hf 1 _ rfl
    have f2 : DataW.trod enc Tryz.prog W 0 (fun _ => true) true m 2 (([c0, c1, c2].drop 2).take (Tryz.prog.cellsOf 2)) = ys[2]? := hf 2 _ rfl
    rw [k1] at f0 f1 f2
    simp only [List.drop_zero, List.drop_succ_cons, List.take_succ_cons, List.take_zero] at f0 f1 f2
    obtain ⟨a, rfl, ha⟩ := int1_of (some_of hl (by decide)) Tryz.underlying2 f0
    obtain ⟨b, rfl, hb⟩ := int1_of (some_of hl (by decide)) Tryz.underlying2 f1
    obtain ⟨c, rfl, hc⟩ := int1_of (some_of hl (by decide)) Tryz.underlying2 f2
    exact ⟨a, b, c, rfl, rfl, rfl, ha, hb, hc⟩

set_option maxRecDepth 8000 in
theorem mot_of {n : Nat} {cs : List Value} {y : DataW H × List MemPlace} (h : DataW.trod enc Tryz.prog W 0 (fun _ => true) true n 49 cs = some y) : ∃ m : Mot, m.wf ∧ cs = m.cells := by
  obtain ⟨ys, m, _, _, hlen, hl, hf⟩ := DataW.trod_struct Tryz.underlying49 h
  have k9 : Tryz.prog.cellsOf 49 = 9 := by kernel_rfl
  have k1 : Tryz.prog.cellsOf 2 = 1 := by kernel_rfl
  have k2 : Tryz.prog.cellsOf 3 = 1 := by kernel_rfl
  have k3 : Tryz.prog.cellsOf 47 = 3 := by kernel_rfl
  rw [k9] at hlen
  match cs, hlen with
  | [c0, c1, c2, c3, c4, c5, c6, c7, c8], _ =>
    have f0 : DataW.trod enc Tryz.prog W 0 (fun _ => true) true m 47 (([c0, c1, c2, c3, c4, c5, c6, c7, c8].drop 0).take (Tryz.prog.cellsOf 47)) = ys[0]? := hf 0 _ rfl
    have f1 : DataW.trod enc Tryz.prog W 0 (fun _ => true) true m 47 (([c0, c1, c2, c3, c4, c5, c6, c7, c8].drop 3).take (Tryz.prog.cellsOf 47)) = ys[1]? := hf 1 _ rfl
    have f2 : DataW.trod enc Tryz.prog W 0 (fun _ => true) true m 2 (([c0, c1, c2, c3, c4, c5, c6, c7, c8].drop 6).take (Tryz.prog.cellsOf 2)) = ys[2]? := hf 2 _ rfl
    have f3 : DataW.trod enc Tryz.prog W 0 (fun _ => true) true m 3 (([c0, c1, c2, c3, c4, c5, c6, c7, c8].drop 7).take (Tryz.prog.cellsOf 3)) = ys[3]? := hf 3 _ rfl
    have f4 : DataW.trod enc Tryz.prog W 0 (fun _ => true) true m 3 (([c0, c1, c2, c3, c4, c5, c6, c7, c8].drop 8).take (Tryz.prog.cellsOf 3)) = ys[4]? := hf 4 _ rfl
    rw [k3] at f0 f1
    rw [k1] at f2
    rw [k2] at f3 f4
    simp only [List.drop_zero, List.drop_succ_cons, List.take_succ_cons, List.take_zero] at f0 f1 f2 f3 f4
    obtain ⟨a0, a1, a2, rfl, rfl, rfl, w0, w1, w2⟩ := pos3_of (some_of hl (by decide)) f0
    obtain ⟨a3, a4, a5, rfl, rfl, rfl, w3, w4, w5⟩ := pos3_of (some_of hl (by decide)) f1
    obtain ⟨a6, rfl, w6⟩ := int1_of (some_of hl (by decide)) Tryz.underlying2 f2
    obtain ⟨a7, rfl, _⟩ := int1_of (some_of hl (by decide)) Tryz.underlying3 f3
    obtain ⟨a8, rfl, _⟩ := int1_of (some_of hl (by decide)) Tryz.underlying3 f4
    exact ⟨⟨a0, a1, a2, a3, a4, a5, a6, a7, a8⟩, ⟨w0, w1, w2, w3, w4, w5, w6⟩, rfl⟩

/-- A slice of motions that is read. -/
theorem argM_of (hv : Value.okWide Tryz.prog W .any base 33 v) (h : DataW.Trod enc Tryz.prog W 0 (fun _ => true) true 33 v d p) : ∃ l : List Mot, SlM W v l ∧ (∀ i, i < l.length → (l.getD i Mot.zero).wf) ∧ l.length ≤ 9223372036854775807 := by
  obtain ⟨a0, len, cap, rfl⟩ := okWide_slice Tryz.underlying33 hv
  have hbulk := hv
  obtain ⟨fuel, hf⟩ := h
  have k9 : Tryz.prog.cellsOf 49 = 9 := by kernel_rfl
  rcases open_slice Tryz.underlying33 hf with ⟨hcs, _⟩ | ⟨x, l, c, m, n, D, Pl, hcs, _, hl, hm, hmm, _, hel⟩
  · simp [Value.cells] at hcs
    obtain ⟨rfl, rfl, rfl⟩ := hcs
    exact ⟨[], ⟨none, 0, 0, 0, 0, rfl, rfl, .inl rfl, fun _ => rfl, fun i hi => by omega⟩, fun i hi => by simp at hi, by simp⟩
  · simp [Value.cells] at hcs
    obtain ⟨rfl, rfl, rfl⟩ := hcs
    rw [if_pos rfl] at hmm
    subst hmm
    have hex : ∀ i, i < len → ∃ mo : Mot, mo.wf ∧ ∀ j, j < 9 → W.cell? ((x.add (i * 9)).add j) = mo.cells[j]? := fun i hil => by
      obtain ⟨cs', hc, ht⟩ := hel i (by omega)
      obtain ⟨mo, hw, rfl⟩ := mot_of ht
      rw [k9] at hc
      obtain ⟨_, _, hat⟩ := World.cells?_some hc
      exact ⟨mo, hw, hat⟩
    obtain ⟨b, off, sp⟩ := x
    have hsp : len = 0 ∨ sp = none := by
      by_cases h0 : len = 0
      · exact .inl h0
      · right
        obtain ⟨mo, _, hc⟩ := hex 0 (by omega)
        have hc := hc 0 (by decide)
        cases sp with
        | none => rfl
        | some s =>
          rw [show ((⟨b, off, some s⟩ : Addr).add (0 * 9)).add 0 = ⟨b, off, some s⟩ from by simp [Addr.add]] at hc
          have hc : W.cell? ⟨b, off, some s⟩ = some (.int .i64 mo.fx) := hc
          unfold World.cell? at hc
          split at hc
          · simp at hc
          · cases hc
    obtain ⟨f, hf⟩ : ∃ f : Nat → Mot, ∀ i, i < len → (f i).wf ∧ ∀ j, j < 9 → W.cell? (((⟨b, off, sp⟩ : Addr).add (i * 9)).add j) = (f i).cells[j]? := by
      refine ⟨fun i => if h : i < len then Classical.choose (hex i h) else Mot.zero, fun i hi => ?_⟩
      simp only [hi, dif_pos]
      exact Classical.choose_spec (hex i hi)
    have hlen : ((List.range len).map f).length = len := by simp
    have hget : ∀ i, i < len → ((List.range len).map f).getD i Mot.zero = f i := fun i hi => by simp [hi]
    unfold maxLen at hm
    refine ⟨(List.range len).map f, ⟨_, len, _, b, off, rfl, hlen.symm, ?_, fun h => by (cases h), fun i hi => ?_⟩, fun i hi => ?_, by rw [hlen]; omega⟩
    · rcases hsp with h | h
      · exact .inl h
      · subst h; exact .inr rfl
    · rcases hsp with h | h
      · omega
      · subst h
        rw [hget i hi]
        have hc := (hf i hi).2
        have hc' : ∀ j, j < 9 → W.cell? ⟨b, off + i * 9 + j, none⟩ = (f i).cells[j]? := fun j hj => by
          have := hc j hj
          rw [Addr.add_none, Addr.add_none] at this
          exact this
        refine ⟨?_, CellsM.of_row hc'⟩
        exact World.block_lt_of_cell? W ⟨b, off + i * 9 + 0, none⟩ (hc' 0 (by decide))
    · rw [hlen] at hi
      rw [hget i hi]
      exact (hf i hi).1

/-- A slice that reads as a list of bytes. -/
def SlB (w : World) (v : Value) (l : List Nat) : Prop :=
  ∃ (a : Option Addr) (n cap b off : Nat), v = .slice a n cap ∧ n = l.length ∧ (n = 0 ∨ a = some ⟨b, off, none⟩) ∧ ∀ i, i < n → b < w.heap.size ∧ l.getD i 0 < 256 ∧ w.cell? ⟨b, off + i, none⟩ = some (.int .u8 (l.getD i 0 : Nat))

theorem SlB.later {w w' : World} {v : Value} {l : List Nat} (h : SlB w v l) (he : Ext w w') : SlB w' v l := by
  obtain ⟨a, n, cap, b, off, h1, h2, h3, h4⟩ := h
  refine ⟨a, n, cap, b, off, h1, h2, h3, fun i hi => ?_⟩
  obtain ⟨p, q, r⟩ := h4 i hi
  exact ⟨Nat.lt_of_lt_of_le p he.size, q, by rw [he.cell (p := ⟨b, off + i, none⟩) p]; exact r⟩

theorem wf8 {x : Int} (h : (Lit.int .u8 x).wf = true) : 0 ≤ x ∧ x < 256 := by
  simp only [Lit.wf, Bool.and_eq_true, decide_eq_true_eq] at h
  obtain ⟨h1, h2⟩ := h
  have h2 : x ≤ 255 := h2
  have h1 : 0 ≤ x := h1
  omega

/-- A slice of bytes that is read. -/
theorem argB_of (hv : Value.okWide Tryz.prog W .any base 89 v) (h : DataW.Trod enc Tryz.prog W 0 (fun _ => true) true 89 v d p) : ∃ l : List Nat, SlB W v l ∧ l.length ≤ 9223372036854775807 := by
  obtain ⟨a0, len, cap, rfl⟩ := okWide_slice Tryz.underlying89 hv
  obtain ⟨fuel, hf⟩ := h
  have k1 : Tryz.prog.cellsOf 5 = 1 := by kernel_rfl
  rcases open_slice Tryz.underlying89 hf with ⟨hcs, _⟩ | ⟨x, l, c, m, n, D, Pl, hcs, _, hl, hm, hmm, _, hel⟩
  · simp [Value.cells] at hcs
    obtain ⟨rfl, rfl, rfl⟩ := hcs
    exact ⟨[], ⟨none, 0, 0, 0, 0, rfl, rfl, .inl rfl, fun i hi => by omega⟩, by simp⟩
  · simp [Value.cells] at hcs
    obtain ⟨rfl, rfl, rfl⟩ := hcs
    rw [if_pos rfl] at hmm
    subst hmm
    have hex : ∀ i, i < len → ∃ y : Nat, y < 256 ∧ W.cell? (x.add i) = some (.int .u8 (y : Int)) := fun i hil => by
      obtain ⟨cs', hc, ht⟩ := hel i (by omega)
      obtain ⟨z, rfl, _, hw⟩ := DataW.trod_int Tryz.underlying5 ht
      rw [k1, Nat.mul_one] at hc
      obtain ⟨_, _, hat⟩ := World.cells?_some hc
      have h0 := hat 0 (by decide)
      obtain ⟨w1, w2⟩ := wf8 hw
      refine ⟨z.toNat, by omega, ?_⟩
      rw [show ((z.toNat : Nat) : Int) = z by omega]
      rw [show (x.add i).add 0 = x.add i from by simp [Addr.add]] at h0
      exact h0
    obtain ⟨b, off, sp⟩ := x
    have hsp : len = 0 ∨ sp = none := by
      by_cases h0 : len = 0
      · exact .inl h0
      · right
        obtain ⟨y, _, hc⟩ := hex 0 (by omega)
        cases sp with
        | none => rfl
        | some s =>
          rw [show (⟨b, off, some s⟩ : Addr).add 0 = ⟨b, off, some s⟩ from by simp [Addr.add]] at hc
          unfold World.cell? at hc
          split at hc
          · simp at hc
          · cases hc
    obtain ⟨f, hf⟩ : ∃ f : Nat → Nat, ∀ i, i < len → f i < 256 ∧ W.cell? ((⟨b, off, sp⟩ : Addr).add i) = some (.int .u8 (f i : Int)) := by
      refine ⟨fun i => if h : i < len then Classical.choose (hex i h) else 0, fun i hi => ?_⟩
      simp only [hi, dif_pos]
      exact Classical.choose_spec (hex i hi)
    have hlen : ((List.range len).map f).length = len := by simp
    have hget : ∀ i, i < len → ((List.range len).map f).getD i 0 = f i := fun i hi => by simp [hi]
    unfold maxLen at hm
    refine ⟨(List.range len).map f, ⟨_, len, _, b, off, rfl, hlen.symm, ?_, fun i hi => ?_⟩, by rw [hlen]; omega⟩
    · rcases hsp with h | h
      · exact .inl h
      · subst h; exact .inr rfl
    · rcases hsp with h | h
      · omega
      · subst h
        rw [hget i hi]
        have hc := (hf i hi).2
        rw [Addr.add_none] at hc
        exact ⟨World.block_lt_of_cell? W ⟨b, off + i, none⟩ hc, (hf i hi).1, hc⟩

end

end Go.Proofs.YtjibcnnbclcboaaGreatDoor
