/-
  What a law is told of its arguments: a slice of motions, a slice of bytes.
  What JobSummary is told of its argument: four small numbers and the cuts.
-/
import Derived.Test.YtjibcnnbclcboaaDoorQS25
import Derived.Test.YtjibcnnbclcboaaDoorQS08
import Derived.Deep.Slices
import Derived.Test.YtjibcnnbclcboaaDoorQS21
namespace Go.Proofs.YtjibcnnbclcboaaDoor
open Go.ChangeShapes Go.WideShapes Go.ChangeAt Go.RowKit Go.Joins Go.Deep
set_option maxRecDepth 8000

section
variable {H : Type} {enc : TypeId × Value → H} {W : World} {base : Nat} {v : Value} {d : DataW H} {p : List MemPlace} {t : TypeId}

theorem wf64 {x : Int} (h : (Lit.int .i64 x).wf = true) : -9223372036854775808 ≤ x ∧ x ≤ 9223372036854775807 := by
  simp only [Lit.wf, Bool.and_eq_true, decide_eq_true_eq] at h
  exact h

theorem int1_of {n : Nat} {c : Value} {y : Option (DataW H × List MemPlace)} (hy : y.isSome = true) (ht : Tryd.prog.underlying t = some (.int .i64)) (h : DataW.trod enc Tryd.prog W 0 (fun _ => true) true n t [c] = y) : ∃ x : Int, c = .int .i64 x ∧ -9223372036854775808 ≤ x ∧ x ≤ 9223372036854775807 := by
  cases y with
  | none => cases hy
  | some y =>
    obtain ⟨x, h1, _, h2⟩ := DataW.trod_int ht h
    have := wf64 h2
    simp at h1
    exact ⟨x, h1, this⟩

theorem some_of {α : Type} {l : List α} {i n : Nat} (h : l.length = n) (hi : i < n) : (l[i]?).isSome = true := by
  rw [List.getElem?_eq_getElem (by omega)]; rfl

theorem pos3_of {n : Nat} {c0 c1 c2 : Value} {y : Option (DataW H × List MemPlace)} (hy : y.isSome = true) (h : DataW.trod enc Tryd.prog W 0 (fun _ => true) true n 40 [c0, c1, c2] = y) :
    ∃ a b c : Int, c0 = .int .i64 a ∧ c1 = .int .i64 b ∧ c2 = .int .i64 c ∧ (-9223372036854775808 ≤ a ∧ a ≤ 9223372036854775807) ∧ (-9223372036854775808 ≤ b ∧ b ≤ 9223372036854775807) ∧ (-9223372036854775808 ≤ c ∧ c ≤ 9223372036854775807) := by
  cases y with
  | none => cases hy
  | some y =>
    obtain ⟨ys, m, _, _, _, hl, hf⟩ := DataW.trod_struct Tryd.underlying40 h
    have k1 : Tryd.prog.cellsOf 2 = 1 := by kernel_rfl
    have f0 : DataW.trod enc Tryd.prog W 0 (fun _ => true) true m 2 (([c0, c1, c2].drop 0).take (Tryd.prog.cellsOf 2)) = ys[0]? := hf 0 _ rfl
    have f1 : DataW.trod enc Tryd.prog W 0 (fun _ => true) true m 2 (([c0, c1, c2].drop 1).take (Tryd.prog.cellsOf 2)) = ys[1]? := hf 1 _ rfl
    have f2 : DataW.trod enc Tryd.prog W 0 (fun _ => true) true m 2 (([c0, c1, c2].drop 2).take (Tryd.prog.cellsOf 2)) = ys[2]? := hf 2 _ rfl
    rw [k1] at f0 f1 f2
    simp only [List.drop_zero, List.drop_succ_cons, List.take_succ_cons, List.take_zero] at f0 f1 f2
    obtain ⟨a, rfl, ha⟩ := int1_of (some_of hl (by decide)) Tryd.underlying2 f0
    obtain ⟨b, rfl, hb⟩ := int1_of (some_of hl (by decide)) Tryd.underlying2 f1
    obtain ⟨c, rfl, hc⟩ := int1_of (some_of hl (by decide)) Tryd.underlying2 f2
    exact ⟨a, b, c, rfl, rfl, rfl, ha, hb, hc⟩

set_option maxRecDepth 8000 in
theorem mot_of {n : Nat} {cs : List Value} {y : DataW H × List MemPlace} (h : DataW.trod enc Tryd.prog W 0 (fun _ => true) true n 49 cs = some y) : ∃ m : Mot, m.wf ∧ cs = m.cells := by
  obtain ⟨ys, m, _, _, hlen, hl, hf⟩ := DataW.trod_struct Tryd.underlying49 h
  have k9 : Tryd.prog.cellsOf 49 = 9 := by kernel_rfl
  have k1 : Tryd.prog.cellsOf 2 = 1 := by kernel_rfl
  have k2 : Tryd.prog.cellsOf 3 = 1 := by kernel_rfl
  have k3 : Tryd.prog.cellsOf 40 = 3 := by kernel_rfl
  rw [k9] at hlen
  match cs, hlen with
  | [c0, c1, c2, c3, c4, c5, c6, c7, c8], _ =>
    have f0 : DataW.trod enc Tryd.prog W 0 (fun _ => true) true m 40 (([c0, c1, c2, c3, c4, c5, c6, c7, c8].drop 0).take (Tryd.prog.cellsOf 40)) = ys[0]? := hf 0 _ rfl
    have f1 : DataW.trod enc Tryd.prog W 0 (fun _ => true) true m 40 (([c0, c1, c2, c3, c4, c5, c6, c7, c8].drop 3).take (Tryd.prog.cellsOf 40)) = ys[1]? := hf 1 _ rfl
    have f2 : DataW.trod enc Tryd.prog W 0 (fun _ => true) true m 2 (([c0, c1, c2, c3, c4, c5, c6, c7, c8].drop 6).take (Tryd.prog.cellsOf 2)) = ys[2]? := hf 2 _ rfl
    have f3 : DataW.trod enc Tryd.prog W 0 (fun _ => true) true m 3 (([c0, c1, c2, c3, c4, c5, c6, c7, c8].drop 7).take (Tryd.prog.cellsOf 3)) = ys[3]? := hf 3 _ rfl
    have f4 : DataW.trod enc Tryd.prog W 0 (fun _ => true) true m 3 (([c0, c1, c2, c3, c4, c5, c6, c7, c8].drop 8).take (Tryd.prog.cellsOf 3)) = ys[4]? := hf 4 _ rfl
    rw [k3] at f0 f1
    rw [k1] at f2
    rw [k2] at f3 f4
    simp only [List.drop_zero, List.drop_succ_cons, List.take_succ_cons, List.take_zero] at f0 f1 f2 f3 f4
    obtain ⟨a0, a1, a2, rfl, rfl, rfl, w0, w1, w2⟩ := pos3_of (some_of hl (by decide)) f0
    obtain ⟨a3, a4, a5, rfl, rfl, rfl, w3, w4, w5⟩ := pos3_of (some_of hl (by decide)) f1
    obtain ⟨a6, rfl, w6⟩ := int1_of (some_of hl (by decide)) Tryd.underlying2 f2
    obtain ⟨a7, rfl, _⟩ := int1_of (some_of hl (by decide)) Tryd.underlying3 f3
    obtain ⟨a8, rfl, _⟩ := int1_of (some_of hl (by decide)) Tryd.underlying3 f4
    exact ⟨⟨a0, a1, a2, a3, a4, a5, a6, a7, a8⟩, ⟨w0, w1, w2, w3, w4, w5, w6⟩, rfl⟩

/-- A slice of motions that is read. -/
theorem argM_of (hv : Value.okWide Tryd.prog W .any base 30 v) (h : DataW.Trod enc Tryd.prog W 0 (fun _ => true) true 30 v d p) : ∃ l : List Mot, SlM W v l ∧ (∀ i, i < l.length → (l.getD i Mot.zero).wf) ∧ l.length ≤ 9223372036854775807 := by
  obtain ⟨a0, len, cap, rfl⟩ := okWide_slice Tryd.underlying30 hv
  have hbulk := hv
  obtain ⟨fuel, hf⟩ := h
  have k9 : Tryd.prog.cellsOf 49 = 9 := by kernel_rfl
  rcases open_slice Tryd.underlying30 hf with ⟨hcs, _⟩ | ⟨x, l, c, m, n, D, Pl, hcs, _, hl, hm, hmm, _, hel⟩
  · simp [Value.cells] at hcs
    obtain ⟨rfl, rfl, rfl⟩ := hcs
    exact ⟨[], ⟨none, 0, 0, 0, 0, rfl, rfl, .inl rfl, fun _ => rfl, fun i hi => by omega⟩, fun i hi => by simp at hi, by simp⟩
  · simp [Value.cells] at hcs
    obtain ⟨rfl, rfl, rfl⟩ := hcs
    rw [if_pos rfl] at hmm
    subst hmm
    have hex : ∀ i, i < len → ∃ mo : Mot, mo.wf ∧ ∀ j, j < 9 → W.cell? ((x.add (i * 9)).add j) = mo.cells[j]? := fun i hil => by
      obtain ⟨cs', hc, ht⟩ := hel i (by omega)
      obtain ⟨mo, hw, rfl⟩ := mot_of ht
      rw [k9] at hc
      obtain ⟨_, _, hat⟩ := World.cells?_some hc
      exact ⟨mo, hw, hat⟩
    obtain ⟨b, off, sp⟩ := x
    have hsp : len = 0 ∨ sp = none := by
      by_cases h0 : len = 0
      · exact .inl h0
      · right
        obtain ⟨mo, _, hc⟩ := hex 0 (by omega)
        have hc := hc 0 (by decide)
        cases sp with
        | none => rfl
        | some s =>
          rw [show ((⟨b, off, some s⟩ : Addr).add (0 * 9)).add 0 = ⟨b, off, some s⟩ from by simp [Addr.add]] at hc
          have hc : W.cell? ⟨b, off, some s⟩ = some (.int .i64 mo.fx) := hc
          unfold World.cell? at hc
          split at hc
          · simp at hc
          · cases hc
    obtain ⟨f, hf⟩ : ∃ f : Nat → Mot, ∀ i, i < len → (f i).wf ∧ ∀ j, j < 9 → W.cell? (((⟨b, off, sp⟩ : Addr).add (i * 9)).add j) = (f i).cells[j]? := by
      refine ⟨fun i => if h : i < len then Classical.choose (hex i h) else Mot.zero, fun i hi => ?_⟩
      simp only [hi, dif_pos]
      exact Classical.choose_spec (hex i hi)
    have hlen : ((List.range len).map f).length = len := by simp
    have hget : ∀ i, i < len → ((List.range len).map f).getD i Mot.zero = f i := fun i hi => by simp [hi]
    unfold maxLen at hm
    refine ⟨(List.range len).map f, ⟨_, len, _, b, off, rfl, hlen.symm, ?_, fun h => by (cases h), fun i hi => ?_⟩, fun i hi => ?_, by rw [hlen]; omega⟩
    · rcases hsp with h | h
      · exact .inl h
      · subst h; exact .inr rfl
    · rcases hsp with h | h
      · omega
      · subst h
        rw [hget i hi]
        have hc := (hf i hi).2
        have hc' : ∀ j, j < 9 → W.cell? ⟨b, off + i * 9 + j, none⟩ = (f i).cells[j]? := fun j hj => by
          have := hc j hj
          rw [Addr.add_none, Addr.add_none] at this
          exact this
        refine ⟨?_, CellsM.of_row hc'⟩
        exact World.block_lt_of_cell? W ⟨b, off + i * 9 + 0, none⟩ (hc' 0 (by decide))
    · rw [hlen] at hi
      rw [hget i hi]
      exact (hf i hi).1

/-- A slice that reads as a list of bytes. -/
def SlB (w : World) (v : Value) (l : List Nat) : Prop :=
  ∃ (a : Option Addr) (n cap b off : Nat), v = .slice a n cap ∧ n = l.length ∧ (n = 0 ∨ a = some ⟨b, off, none⟩) ∧ ∀ i, i < n → b < w.heap.size ∧ l.getD i 0 < 256 ∧ w.cell? ⟨b, off + i, none⟩ = some (.int .u8 (l.getD i 0 : Nat))

theorem SlB.later {w w' : World} {v : Value} {l : List Nat} (h : SlB w v l) (he : Ext w w') : SlB w' v l := by
  obtain ⟨a, n, cap, b, off, h1, h2, h3, h4⟩ := h
  refine ⟨a, n, cap, b, off, h1, h2, h3, fun i hi => ?_⟩
  obtain ⟨p, q, r⟩ := h4 i hi
  exact ⟨Nat.lt_of_lt_of_le p he.size, q, by rw [he.cell (p := ⟨b, off + i, none⟩) p]; exact r⟩

theorem wf8 {x : Int} (h : (Lit.int .u8 x).wf = true) : 0 ≤ x ∧ x < 256 := by
  simp only [Lit.wf, Bool.and_eq_true, decide_eq_true_eq] at h
  obtain ⟨h1, h2⟩ := h
  have h2 : x ≤ 255 := h2
  have h1 : 0 ≤ x := h1
  omega

/-- A slice of bytes that is read. -/
theorem argB_of (hv : Value.okWide Tryd.prog W .any base 63 v) (h : DataW.Trod enc Tryd.prog W 0 (fun _ => true) true 63 v d p) : ∃ l : List Nat, SlB W v l ∧ l.length ≤ 9223372036854775807 := by
  obtain ⟨a0, len, cap, rfl⟩ := okWide_slice Tryd.underlying63 hv
  obtain ⟨fuel, hf⟩ := h
  have k1 : Tryd.prog.cellsOf 5 = 1 := by kernel_rfl
  rcases open_slice Tryd.underlying63 hf with ⟨hcs, _⟩ | ⟨x, l, c, m, n, D, Pl, hcs, _, hl, hm, hmm, _, hel⟩
  · simp [Value.cells] at hcs
    obtain ⟨rfl, rfl, rfl⟩ := hcs
    exact ⟨[], ⟨none, 0, 0, 0, 0, rfl, rfl, .inl rfl, fun i hi => by omega⟩, by simp⟩
  · simp [Value.cells] at hcs
    obtain ⟨rfl, rfl, rfl⟩ := hcs
    rw [if_pos rfl] at hmm
    subst hmm
    have hex : ∀ i, i < len → ∃ y : Nat, y < 256 ∧ W.cell? (x.add i) = some (.int .u8 (y : Int)) := fun i hil => by
      obtain ⟨cs', hc, ht⟩ := hel i (by omega)
      obtain ⟨z, rfl, _, hw⟩ := DataW.trod_int Tryd.underlying5 ht
      rw [k1, Nat.mul_one] at hc
      obtain ⟨_, _, hat⟩ := World.cells?_some hc
      have h0 := hat 0 (by decide)
      obtain ⟨w1, w2⟩ := wf8 hw
      refine ⟨z.toNat, by omega, ?_⟩
      rw [show ((z.toNat : Nat) : Int) = z by omega]
      rw [show (x.add i).add 0 = x.add i from by simp [Addr.add]] at h0
      exact h0
    obtain ⟨b, off, sp⟩ := x
    have hsp : len = 0 ∨ sp = none := by
      by_cases h0 : len = 0
      · exact .inl h0
      · right
        obtain ⟨y, _, hc⟩ := hex 0 (by omega)
        cases sp with
        | none => rfl
        | some s =>
          rw [show (⟨b, off, some s⟩ : Addr).add 0 = ⟨b, off, some s⟩ from by simp [Addr.add]] at hc
          unfold World.cell? at hc
          split at hc
          · simp at hc
          · cases hc
    obtain ⟨f, hf⟩ : ∃ f : Nat → Nat, ∀ i, i < len → f i < 256 ∧ W.cell? ((⟨b, off, sp⟩ : Addr).add i) = some (.int .u8 (f i : Int)) := by
      refine ⟨fun i => if h : i < len then Classical.choose (hex i h) else 0, fun i hi => ?_⟩
      simp only [hi, dif_pos]
      exact Classical.choose_spec (hex i hi)
    have hlen : ((List.range len).map f).length = len := by simp
    have hget : ∀ i, i < len → ((List.range len).map f).getD i 0 = f i := fun i hi => by simp [hi]
    unfold maxLen at hm
    refine ⟨(List.range len).map f, ⟨_, len, _, b, off, rfl, hlen.symm, ?_, fun i hi => ?_⟩, by rw [hlen]; omega⟩
    · rcases hsp with h | h
      · exact .inl h
      · subst h; exact .inr rfl
    · rcases hsp with h | h
      · omega
      · subst h
        rw [hget i hi]
        have hc := (hf i hi).2
        rw [Addr.add_none] at hc
        exact ⟨World.block_lt_of_cell? W ⟨b, off + i, none⟩ hc, (hf i hi).1, hc⟩

end

end Go.Proofs.YtjibcnnbclcboaaDoor

namespace Go.Proofs.YtjibcnnbclcboaaDoor
open Go.ChangeShapes Go.WideShapes Go.ChangeAt Go.RowKit Go.Joins Go.Deep
set_option maxRecDepth 8000

section
variable {H : Type} {enc : TypeId × Value → H} {W : World} {base : Nat} {v : Value} {d : DataW H} {p : List MemPlace} {t : TypeId}

/-- A slice whose elements are rows of cells. -/
theorem row_of {α : Type} {e : TypeId} {k fuel : Nat} (cells : α → List Value) (Q : α → Prop) (z : α) {cs : List Value} {x : DataW H × List MemPlace}
    (ht : Tryd.prog.underlying t = some (.slice e)) (hk : Tryd.prog.cellsOf e = k) (hk0 : 0 < k) (hone : ∀ m, ∃ kd y, (cells m)[0]? = some (.int kd y))
    (hel : ∀ {n : Nat} {cs : List Value} {y : DataW H × List MemPlace}, DataW.trod enc Tryd.prog W 0 (fun _ => true) true n e cs = some y → ∃ m, Q m ∧ cs = cells m)
    (h : DataW.trod enc Tryd.prog W 0 (fun _ => true) true fuel t cs = some x) :
    ∃ (a : Option Addr) (n cap b off : Nat) (l : List α), cs = [.slice a n cap] ∧ n = l.length ∧ (n = 0 ∨ a = some ⟨b, off, none⟩) ∧ n ≤ cap ∧ (a = none → cap = 0) ∧ n ≤ 9223372036854775807 ∧ (∀ m ∈ l, Q m) ∧ (∀ i, i < n → b < W.heap.size ∧ ∀ j, j < k → W.cell? ⟨b, off + i * k + j, none⟩ = (cells (l.getD i z))[j]?) ∧
      ((x.1.weights Tryd.prog t).all (· ≤ reachBytes) = true → n * Tryd.prog.bytesOf e ≤ reachBytes) := by
  rcases open_slice ht h with ⟨hcs, _⟩ | ⟨a, len, cap, m, n, D, Pl, hcs, _, hl, hm, hmm, hx, hel2⟩
  · exact ⟨none, 0, 0, 0, 0, [], hcs, rfl, .inl rfl, Nat.le_refl _, fun _ => rfl, by omega, fun m hm => by simp at hm, fun i hi => by omega, fun _ => by omega⟩
  · rw [if_pos rfl] at hmm
    subst hmm
    have hex : ∀ i, i < len → ∃ mo : α, Q mo ∧ ∀ j, j < k → W.cell? ((a.add (i * k)).add j) = (cells mo)[j]? := fun i hil => by
      obtain ⟨cs', hc, htr⟩ := hel2 i (by omega)
      obtain ⟨mo, hw, rfl⟩ := hel htr
      rw [hk] at hc
      obtain ⟨_, _, hat⟩ := World.cells?_some hc
      exact ⟨mo, hw, hat⟩
    obtain ⟨b, off, sp⟩ := a
    have hsp : len = 0 ∨ sp = none := by
      by_cases h0 : len = 0
      · exact .inl h0
      · right
        obtain ⟨mo, _, hc⟩ := hex 0 (by omega)
        have hc := hc 0 hk0
        obtain ⟨kd, y, hy⟩ := hone mo
        rw [hy] at hc
        cases sp with
        | none => rfl
        | some s =>
          rw [show ((⟨b, off, some s⟩ : Addr).add (0 * k)).add 0 = ⟨b, off, some s⟩ from by simp [Addr.add]] at hc
          unfold World.cell? at hc
          split at hc
          · simp at hc
          · cases hc
    obtain ⟨f, hf⟩ : ∃ f : Nat → α, ∀ i, i < len → Q (f i) ∧ ∀ j, j < k → W.cell? (((⟨b, off, sp⟩ : Addr).add (i * k)).add j) = (cells (f i))[j]? := by
      refine ⟨fun i => if h : i < len then Classical.choose (hex i h) else z, fun i hi => ?_⟩
      simp only [hi, dif_pos]
      exact Classical.choose_spec (hex i hi)
    have hlen : ((List.range len).map f).length = len := by simp
    have hget : ∀ i, i < len → ((List.range len).map f).getD i z = f i := fun i hi => by simp [hi]
    unfold maxLen at hm
    refine ⟨some ⟨b, off, sp⟩, len, m, b, off, (List.range len).map f, hcs, hlen.symm, ?_, hl, (fun h => by cases h), by omega, fun mo hmo => ?_, fun i hi => ?_, fun hw => ?_⟩
    · rcases hsp with h | h
      · exact .inl h
      · subst h; exact .inr rfl
    · obtain ⟨i, hi, rfl⟩ := List.mem_map.1 hmo
      exact (hf i (List.mem_range.1 hi)).1
    · rcases hsp with h | h
      · omega
      · subst h
        rw [hget i hi]
        have hc := (hf i hi).2
        have hc' : ∀ j, j < k → W.cell? ⟨b, off + i * k + j, none⟩ = (cells (f i))[j]? := fun j hj => by
          have := hc j hj
          rw [Addr.add_none, Addr.add_none] at this
          exact this
        refine ⟨?_, hc'⟩
        obtain ⟨kd, y, hy⟩ := hone (f i)
        exact World.block_lt_of_cell? W ⟨b, off + i * k + 0, none⟩ ((hc' 0 hk0).trans hy)
    · rw [hx] at hw
      simp only [DataW.weights, ht, List.all_cons, Bool.and_eq_true, decide_eq_true_eq] at hw
      have h1 := hw.1
      simp only [List.length_map, List.length_range] at h1
      refine Nat.le_trans (Nat.mul_le_mul_right _ ?_) h1
      omega

theorem okWide_str {fs : Array Field} (ht : Tryd.prog.underlying t = some (.struct fs)) (h : Value.okWide Tryd.prog W .any base t v) : ∃ cs, v = .agg cs ∧ cs.size = Tryd.prog.cellsOf t := by
  simp only [Value.okWide, ht] at h
  obtain ⟨cs, h1, h2, _⟩ := h
  exact ⟨cs, h1, h2⟩

theorem u8_of {n : Nat} {c : Value} {y : Option (DataW H × List MemPlace)} (hy : y.isSome = true) (h : DataW.trod enc Tryd.prog W 0 (fun _ => true) true n 5 [c] = y) : ∃ x : Nat, c = .int .u8 x ∧ x ≤ 255 := by
  cases y with
  | none => cases hy
  | some y =>
    obtain ⟨x, h1, _, h2⟩ := DataW.trod_int Tryd.underlying5 h
    have hw := wf8 h2
    simp at h1
    exact ⟨x.toNat, by rw [h1]; congr 1; omega, by omega⟩
theorem i32_of {n : Nat} {c : Value} {y : Option (DataW H × List MemPlace)} (hy : y.isSome = true) (h : DataW.trod enc Tryd.prog W 0 (fun _ => true) true n 21 [c] = y) : ∃ x : Int, c = .int .i32 x := by
  cases y with
  | none => cases hy
  | some y =>
    obtain ⟨x, h1, _, h2⟩ := DataW.trod_int Tryd.underlying21 h
    simp at h1
    exact ⟨x, h1⟩
theorem pair_of {n : Nat} {cs : List Value} {y : DataW H × List MemPlace} (h : DataW.trod enc Tryd.prog W 0 (fun _ => true) true n 38 cs = some y) : ∃ m : Int × Int, True ∧ cs = pairC m := by
  obtain ⟨xs, m, _, _, hlen, hxs, hall⟩ := DataW.trod_array Tryd.underlying38 h
  have k2 : Tryd.prog.cellsOf 21 = 1 := by kernel_rfl
  have k22 : Tryd.prog.cellsOf 38 = 2 := by kernel_rfl
  rw [k22] at hlen
  match cs, hlen with
  | [c0, c1], _ =>
    have e0 := hall 0 (by omega)
    have e1 := hall 1 (by omega)
    rw [k2] at e0 e1
    simp only [Nat.mul_one, List.drop_zero, List.drop_succ_cons, List.take_succ_cons, List.take_zero] at e0 e1
    obtain ⟨x, rfl⟩ := i32_of (some_of hxs (by decide)) e0
    obtain ⟨y, rfl⟩ := i32_of (some_of hxs (by decide)) e1
    exact ⟨(x, y), trivial, rfl⟩

/-- The argument. -/
theorem lists_of (hv : Value.okWide Tryd.prog W .any base 24 v) (h : DataW.Trod enc Tryd.prog W 0 (fun _ => true) true 24 v d p) :
    ∃ (nf nt nm na : Nat) (vc : Value) (l : List (Int × Int)), v = ListsV nf nt nm na vc ∧ nf ≤ 255 ∧ nt ≤ 255 ∧ nm ≤ 255 ∧ na ≤ 255 ∧ SlG 2 pairC W vc l ∧ l.length ≤ 9223372036854775807 := by
  obtain ⟨cs, rfl, hsz⟩ := okWide_str Tryd.underlying24 hv
  obtain ⟨fuel, hf⟩ := h
  obtain ⟨ys, m, _, _, _, hl, hf⟩ := DataW.trod_struct Tryd.underlying24 hf
  have k5 : Tryd.prog.cellsOf 24 = 5 := by kernel_rfl
  have k1 : Tryd.prog.cellsOf 5 = 1 := by kernel_rfl
  have ks : Tryd.prog.cellsOf 22 = 1 := by kernel_rfl
  rw [k5] at hsz
  obtain ⟨l⟩ := cs
  match l, hsz with
  | [c0, c1, c2, c3, c4], _ =>
    simp only [Value.cells] at hf
    have f0 : DataW.trod enc Tryd.prog W 0 (fun _ => true) true m 5 (([c0, c1, c2, c3, c4].drop 0).take (Tryd.prog.cellsOf 5)) = ys[0]? := hf 0 _ rfl
    have f1 : DataW.trod enc Tryd.prog W 0 (fun _ => true) true m 5 (([c0, c1, c2, c3, c4].drop 1).take (Tryd.prog.cellsOf 5)) = ys[1]? := hf 1 _ rfl
    have f2 : DataW.trod enc Tryd.prog W 0 (fun _ => true) true m 5 (([c0, c1, c2, c3, c4].drop 2).take (Tryd.prog.cellsOf 5)) = ys[2]? := hf 2 _ rfl
    have f3 : DataW.trod enc Tryd.prog W 0 (fun _ => true) true m 5 (([c0, c1, c2, c3, c4].drop 3).take (Tryd.prog.cellsOf 5)) = ys[3]? := hf 3 _ rfl
    have f4 : DataW.trod enc Tryd.prog W 0 (fun _ => true) true m 22 (([c0, c1, c2, c3, c4].drop 4).take (Tryd.prog.cellsOf 22)) = ys[4]? := hf 4 _ rfl
    rw [k1] at f0 f1 f2 f3
    rw [ks] at f4
    simp only [List.drop_zero, List.drop_succ_cons, List.take_succ_cons, List.take_zero] at f0 f1 f2 f3 f4
    obtain ⟨nf, rfl, h0⟩ := u8_of (some_of hl (by decide)) f0
    obtain ⟨nt, rfl, h1⟩ := u8_of (some_of hl (by decide)) f1
    obtain ⟨nm, rfl, h2⟩ := u8_of (some_of hl (by decide)) f2
    obtain ⟨na, rfl, h3⟩ := u8_of (some_of hl (by decide)) f3
    obtain ⟨y4, hy4⟩ := Option.isSome_iff_exists.1 (some_of (i := 4) hl (by decide))
    rw [hy4] at f4
    obtain ⟨aa, n, c, b, off, wl, hcs, hn, g3, g5, g6, g7, _, g8, _⟩ := row_of pairC (fun _ => True) (0, 0) Tryd.underlying22 (k := 2) (by kernel_rfl) (by decide) (fun m => ⟨_, _, rfl⟩) pair_of f4
    simp at hcs
    subst hcs
    refine ⟨nf, nt, nm, na, _, wl, rfl, h0, h1, h2, h3, ⟨aa, n, c, b, off, rfl, hn, g3, g6, g5, fun i x hx => ?_⟩, by rw [← hn]; exact g7⟩
    have hi : i < wl.length := by
      rcases Nat.lt_or_ge i wl.length with h' | h'
      · exact h'
      · rw [List.getElem?_eq_none h'] at hx; cases hx
    obtain ⟨q1, q2⟩ := g8 i (by omega)
    refine ⟨q1, fun r u hu => ?_⟩
    have hr : r < 2 := by
      rcases Nat.lt_or_ge r (pairC x).length with h' | h'
      · exact h'
      · rw [List.getElem?_eq_none h'] at hu; cases hu
    rw [q2 r hr]
    have : wl.getD i (0, 0) = x := by simp [List.getD_eq_getElem?_getD, hx]
    rw [this]; exact hu
end
end Go.Proofs.YtjibcnnbclcboaaDoor
