/-
  What the laws of layer 55 are told of their arguments: a trip, a slice of events.
-/
import Derived.Test.YtjibcnnbclcboaaGreatDoorQB34
import Derived.Test.YtjibcnnbclcboaaGreatDoorQB13
namespace Go.Proofs.YtjibcnnbclcboaaGreatDoor
open Go.ChangeShapes Go.WideShapes Go.ChangeAt Go.RowKit Go.Joins Go.Deep
set_option maxRecDepth 8000

section
variable {H : Type} {enc : TypeId × Value → H} {W : World} {base : Nat} {v : Value} {d : DataW H} {p : List MemPlace} {t : TypeId}

/-- A slice whose elements are rows of cells. -/
theorem row_of {α : Type} {e : TypeId} {k fuel : Nat} (cells : α → List Value) (Q : α → Prop) (z : α) {cs : List Value} {x : DataW H × List MemPlace}
    (ht : Tryz.prog.underlying t = some (.slice e)) (hk : Tryz.prog.cellsOf e = k) (hk0 : 0 < k) (hone : ∀ m, ∃ kd y, (cells m)[0]? = some (.int kd y))
    (hel : ∀ {n : Nat} {cs : List Value} {y : DataW H × List MemPlace}, DataW.trod enc Tryz.prog W 0 (fun _ => true) true n e cs = some y → ∃ m, Q m ∧ cs = cells m)
    (h : DataW.trod enc Tryz.prog W 0 (fun _ => true) true fuel t cs = some x) :
    ∃ (a : Option Addr) (n cap b off : Nat) (l : List α), cs = [.slice a n cap] ∧ n = l.length ∧ (n = 0 ∨ a = some ⟨b, off, none⟩) ∧ n ≤ cap ∧ (a = none → cap = 0) ∧ n ≤ 9223372036854775807 ∧ (∀ m ∈ l, Q m) ∧ (∀ i, i < n → b < W.heap.size ∧ ∀ j, j < k → W.cell? ⟨b, off + i * k + j, none⟩ = (cells (l.getD i z))[j]?) ∧
      ((x.1.weights Tryz.prog t).all (· ≤ reachBytes) = true → n * Tryz.prog.bytesOf e ≤ reachBytes) := by
  rcases open_slice ht h with ⟨hcs, _⟩ | ⟨a, len, cap, m, n, D, Pl, hcs, _, hl, hm, hmm, hx, hel2⟩
  · exact ⟨none, 0, 0, 0, 0, [], hcs, rfl, .inl rfl, Nat.le_refl _, fun _ => rfl, by omega, fun m hm => by simp at hm, fun i hi => by omega, fun _ => by omega⟩
  · rw [if_pos rfl] at hmm
    subst hmm
    have hex : ∀ i, i < len → ∃ mo : α, Q mo ∧ ∀ j, j < k → W.cell? ((a.add (i * k)).add j) = (cells mo)[j]? := fun i hil => by
      obtain ⟨cs', hc, htr⟩ := hel2 i (by omega)
      obtain ⟨mo, hw, rfl⟩ := hel htr
      rw [hk] at hc
      obtain ⟨_, _, hat⟩ := World.cells?_some hc
      exact ⟨mo, hw, hat⟩
    obtain ⟨b, off, sp⟩ := a
    have hsp : len = 0 ∨ sp = none := by
      by_cases h0 : len = 0
      · exact .inl h0
      · right
        obtain ⟨mo, _, hc⟩ := hex 0 (by omega)
        have hc := hc 0 hk0
        obtain ⟨kd, y, hy⟩ := hone mo
        rw [hy] at hc
        cases sp with
        | none => rfl
        | some s =>
          rw [show ((⟨b, off, some s⟩ : Addr).add (0 * k)).add 0 = ⟨b, off, some s⟩ from by simp [Addr.add]] at hc
          unfold World.cell? at hc
          split at hc
          · simp at hc
          · cases hc
    obtain ⟨f, hf⟩ : ∃ f : Nat → α, ∀ i, i < len → Q (f i) ∧ ∀ j, j < k → W.cell? (((⟨b, off, sp⟩ : Addr).add (i * k)).add j) = (cells (f i))[j]? := by
      refine ⟨fun i => if h : i < len then Classical.choose (hex i h) else z, fun i hi => ?_⟩
      simp only [hi, dif_pos]
      exact Classical.choose_spec (hex i hi)
    have hlen : ((List.range len).map f).length = len := by simp
    have hget : ∀ i, i < len → ((List.range len).map f).getD i z = f i := fun i hi => by simp [hi]
    unfold maxLen at hm
    refine ⟨some ⟨b, off, sp⟩, len, m, b, off, (List.range len).map f, hcs, hlen.symm, ?_, hl, (fun h => by cases h), by omega, fun mo hmo => ?_, fun i hi => ?_, fun hw => ?_⟩
    · rcases hsp with h | h
      · exact .inl h
      · subst h; exact .inr rfl
    · obtain ⟨i, hi, rfl⟩ := List.mem_map.1 hmo
      exact (hf i (List.mem_range.1 hi)).1
    · rcases hsp with h | h
      · omega
      · subst h
        rw [hget i hi]
        have hc := (hf i hi).2
        have hc' : ∀ j, j < k → W.cell? ⟨b, off + i * k + j, none⟩ = (cells (f i))[j]? := fun j hj => by
          have := hc j hj
          rw [Addr.add_none, Addr.add_none] at this
          exact this
        refine ⟨?_, hc'⟩
        obtain ⟨kd, y, hy⟩ := hone (f i)
        exact World.block_lt_of_cell? W ⟨b, off + i * k + 0, none⟩ ((hc' 0 hk0).trans hy)
    · rw [hx] at hw
      simp only [DataW.weights, ht, List.all_cons, Bool.and_eq_true, decide_eq_true_eq] at hw
      have h1 := hw.1
      simp only [List.length_map, List.length_range] at h1
      refine Nat.le_trans (Nat.mul_le_mul_right _ ?_) h1
      omega

theorem wf16 {x : Int} (h : (Lit.int .i16 x).wf = true) : -32768 ≤ x ∧ x ≤ 32767 := by
  simp only [Lit.wf, Bool.and_eq_true, decide_eq_true_eq] at h
  exact h
theorem int16_of {n : Nat} {c : Value} {y : Option (DataW H × List MemPlace)} (hy : y.isSome = true) (h : DataW.trod enc Tryz.prog W 0 (fun _ => true) true n 22 [c] = y) : ∃ x : Int, c = .int .i16 x ∧ -32768 ≤ x ∧ x ≤ 32767 := by
  cases y with
  | none => cases hy
  | some y =>
    obtain ⟨x, h1, _, h2⟩ := DataW.trod_int Tryz.underlying22 h
    have := wf16 h2
    simp at h1
    exact ⟨x, h1, this⟩
theorem byte_of {n : Nat} {c : Value} {y : Option (DataW H × List MemPlace)} (hy : y.isSome = true) (h : DataW.trod enc Tryz.prog W 0 (fun _ => true) true n 5 [c] = y) : ∃ x : Int, c = .int .u8 x ∧ 0 ≤ x ∧ x ≤ 255 := by
  cases y with
  | none => cases hy
  | some y =>
    obtain ⟨x, h1, _, h2⟩ := DataW.trod_int Tryz.underlying5 h
    have := wf8 h2
    simp at h1
    exact ⟨x, h1, by omega⟩

def Way.cells (m : Way) : List Value := [.int .i16 m.x, .int .i16 m.y, .int .i16 m.z, .int .u8 m.r]
theorem way_of {n : Nat} {cs : List Value} {y : DataW H × List MemPlace} (h : DataW.trod enc Tryz.prog W 0 (fun _ => true) true n 70 cs = some y) : ∃ m : Way, m.small ∧ cs = m.cells := by
  obtain ⟨ys, m, _, _, hlen, hl, hf⟩ := DataW.trod_struct Tryz.underlying70 h
  have k4 : Tryz.prog.cellsOf 70 = 4 := by kernel_rfl
  have k1 : Tryz.prog.cellsOf 22 = 1 := by kernel_rfl
  have k2 : Tryz.prog.cellsOf 5 = 1 := by kernel_rfl
  rw [k4] at hlen
  match cs, hlen with
  | [c0, c1, c2, c3], _ =>
    have f0 : DataW.trod enc Tryz.prog W 0 (fun _ => true) true m 22 (([c0, c1, c2, c3].drop 0).take (Tryz.prog.cellsOf 22)) = ys[0]? := hf 0 _ rfl
    have f1 : DataW.trod enc Tryz.prog W 0 (fun _ => true) true m 22 (([c0, c1, c2, c3].drop 1).take (Tryz.prog.cellsOf 22)) = ys[1]? := hf 1 _ rfl
    have f2 : DataW.trod enc Tryz.prog W 0 (fun _ => true) true m 22 (([c0, c1, c2, c3].drop 2).take (Tryz.prog.cellsOf 22)) = ys[2]? := hf 2 _ rfl
    have f3 : DataW.trod enc Tryz.prog W 0 (fun _ => true) true m 5 (([c0, c1, c2, c3].drop 3).take (Tryz.prog.cellsOf 5)) = ys[3]? := hf 3 _ rfl
    rw [k1] at f0 f1 f2
    rw [k2] at f3
    simp only [List.drop_zero, List.drop_succ_cons, List.take_succ_cons, List.take_zero] at f0 f1 f2 f3
    obtain ⟨a0, rfl, w0⟩ := int16_of (some_of hl (by decide)) f0
    obtain ⟨a1, rfl, w1⟩ := int16_of (some_of hl (by decide)) f1
    obtain ⟨a2, rfl, w2⟩ := int16_of (some_of hl (by decide)) f2
    obtain ⟨a3, rfl, w3⟩ := byte_of (some_of hl (by decide)) f3
    exact ⟨⟨a0, a1, a2, a3⟩, ⟨w0, w1, w2, w3⟩, rfl⟩

def evCells (e : Int × Int) : List Value := [.int .i64 e.1, .int .i64 e.2]
theorem ev_of {n : Nat} {cs : List Value} {y : DataW H × List MemPlace} (h : DataW.trod enc Tryz.prog W 0 (fun _ => true) true n 43 cs = some y) : ∃ m : Int × Int, True ∧ cs = evCells m := by
  obtain ⟨ys, m, _, _, hlen, hl, hf⟩ := DataW.trod_struct Tryz.underlying43 h
  have k2 : Tryz.prog.cellsOf 43 = 2 := by kernel_rfl
  have k1 : Tryz.prog.cellsOf 2 = 1 := by kernel_rfl
  rw [k2] at hlen
  match cs, hlen with
  | [c0, c1], _ =>
    have f0 : DataW.trod enc Tryz.prog W 0 (fun _ => true) true m 2 (([c0, c1].drop 0).take (Tryz.prog.cellsOf 2)) = ys[0]? := hf 0 _ rfl
    have f1 : DataW.trod enc Tryz.prog W 0 (fun _ => true) true m 2 (([c0, c1].drop 1).take (Tryz.prog.cellsOf 2)) = ys[1]? := hf 1 _ rfl
    rw [k1] at f0 f1
    simp only [List.drop_zero, List.drop_succ_cons, List.take_succ_cons, List.take_zero] at f0 f1
    obtain ⟨a0, rfl, _⟩ := int1_of (some_of hl (by decide)) Tryz.underlying2 f0
    obtain ⟨a1, rfl, _⟩ := int1_of (some_of hl (by decide)) Tryz.underlying2 f1
    exact ⟨(a0, a1), trivial, rfl⟩

/-- A slice of events. -/
theorem evs_of (hv : Value.okWide Tryz.prog W .any base 29 v) (h : DataW.Trod enc Tryz.prog W 0 (fun _ => true) true 29 v d p) (hw : (d.weights Tryz.prog 29).all (· ≤ reachBytes) = true) :
    ∃ es : List (Int × Int), SlE W v es ∧ (∀ c, v = .slice none 0 c → c = 0) ∧ es.length * 16 ≤ 140737488355328 := by
  obtain ⟨a0, len, cap, rfl⟩ := okWide_slice Tryz.underlying29 hv
  obtain ⟨fuel, hf⟩ := h
  obtain ⟨a, n, c, b, off, l, hcs, hn, h3, h5, h6, h7, _, h8, h9⟩ := row_of evCells (fun _ => True) (0, 0) Tryz.underlying29 (k := 2) (by kernel_rfl) (by decide) (fun m => ⟨_, _, rfl⟩) ev_of hf
  simp [Value.cells] at hcs
  obtain ⟨rfl, rfl, rfl⟩ := hcs
  have h9' := h9 hw
  have kb : Tryz.prog.bytesOf 43 = 16 := by kernel_rfl
  rw [kb] at h9'
  unfold reachBytes at h9'
  refine ⟨l, ⟨_, _, _, b, off, rfl, hn, h3, h5, fun i hi => ?_⟩, fun c e => by cases e; exact h6 rfl, by rw [← hn]; omega⟩
  obtain ⟨q1, q2⟩ := h8 i hi
  exact ⟨q1, q2 0 (by decide), q2 1 (by decide)⟩

theorem okWide_str {fs : Array Field} (ht : Tryz.prog.underlying t = some (.struct fs)) (h : Value.okWide Tryz.prog W .any base t v) : ∃ cs, v = .agg cs ∧ cs.size = Tryz.prog.cellsOf t := by
  simp only [Value.okWide, ht] at h
  obtain ⟨cs, h1, h2, _⟩ := h
  exact ⟨cs, h1, h2⟩

/-- A trip. -/
theorem trip_of (hv : Value.okWide Tryz.prog W .any base 28 v) (h : DataW.Trod enc Tryz.prog W 0 (fun _ => true) true 28 v d p) :
    ∃ (x y z : Int) (vw : Value) (s a j safe : Int) (ways : List Way), v = TripV x y z vw s a j safe ∧ SlW W vw ways ∧ (∀ w ∈ ways, w.small) ∧ nearP (x, y, z) 32768 ∧ ways.length ≤ 9223372036854775807 ∧ in64 safe := by
  obtain ⟨cs, rfl, hsz⟩ := okWide_str Tryz.underlying28 hv
  obtain ⟨fuel, hf⟩ := h
  obtain ⟨ys, m, _, _, _, hl, hf⟩ := DataW.trod_struct Tryz.underlying28 hf
  have k8 : Tryz.prog.cellsOf 28 = 8 := by kernel_rfl
  have ka : Tryz.prog.cellsOf 23 = 3 := by kernel_rfl
  have kw : Tryz.prog.cellsOf 24 = 1 := by kernel_rfl
  have kl : Tryz.prog.cellsOf 26 = 3 := by kernel_rfl
  have k1 : Tryz.prog.cellsOf 2 = 1 := by kernel_rfl
  have k2 : Tryz.prog.cellsOf 22 = 1 := by kernel_rfl
  rw [k8] at hsz
  obtain ⟨l⟩ := cs
  match l, hsz with
  | [c0, c1, c2, c3, c4, c5, c6, c7], _ =>
    simp only [Value.cells] at hf
    have f0 : DataW.trod enc Tryz.prog W 0 (fun _ => true) true m 23 (([c0, c1, c2, c3, c4, c5, c6, c7].drop 0).take (Tryz.prog.cellsOf 23)) = ys[0]? := hf 0 _ rfl
    have f1 : DataW.trod enc Tryz.prog W 0 (fun _ => true) true m 24 (([c0, c1, c2, c3, c4, c5, c6, c7].drop 3).take (Tryz.prog.cellsOf 24)) = ys[1]? := hf 1 _ rfl
    have f2 : DataW.trod enc Tryz.prog W 0 (fun _ => true) true m 26 (([c0, c1, c2, c3, c4, c5, c6, c7].drop 4).take (Tryz.prog.cellsOf 26)) = ys[2]? := hf 2 _ rfl
    have f3 : DataW.trod enc Tryz.prog W 0 (fun _ => true) true m 2 (([c0, c1, c2, c3, c4, c5, c6, c7].drop 7).take (Tryz.prog.cellsOf 2)) = ys[3]? := hf 3 _ rfl
    rw [ka] at f0
    rw [kw] at f1
    rw [kl] at f2
    rw [k1] at f3
    simp only [List.drop_zero, List.drop_succ_cons, List.take_succ_cons, List.take_zero] at f0 f1 f2 f3
    have s0 := some_of (i := 0) hl (by decide)
    have s1 := some_of (i := 1) hl (by decide)
    have s2 := some_of (i := 2) hl (by decide)
    obtain ⟨y0, hy0⟩ := Option.isSome_iff_exists.1 s0
    obtain ⟨y1, hy1⟩ := Option.isSome_iff_exists.1 s1
    obtain ⟨y2, hy2⟩ := Option.isSome_iff_exists.1 s2
    rw [hy0] at f0
    rw [hy1] at f1
    rw [hy2] at f2
    obtain ⟨safe, rfl, w7⟩ := int1_of (some_of hl (by decide)) Tryz.underlying2 f3
    obtain ⟨zs, m2, _, _, _, hl2, hf2⟩ := DataW.trod_struct Tryz.underlying26 f2
    have g0 : DataW.trod enc Tryz.prog W 0 (fun _ => true) true m2 2 (([c4, c5, c6].drop 0).take (Tryz.prog.cellsOf 2)) = zs[0]? := hf2 0 _ rfl
    have g1 : DataW.trod enc Tryz.prog W 0 (fun _ => true) true m2 2 (([c4, c5, c6].drop 1).take (Tryz.prog.cellsOf 2)) = zs[1]? := hf2 1 _ rfl
    have g2 : DataW.trod enc Tryz.prog W 0 (fun _ => true) true m2 2 (([c4, c5, c6].drop 2).take (Tryz.prog.cellsOf 2)) = zs[2]? := hf2 2 _ rfl
    rw [k1] at g0 g1 g2
    simp only [List.drop_zero, List.drop_succ_cons, List.take_succ_cons, List.take_zero] at g0 g1 g2
    obtain ⟨s, rfl, _⟩ := int1_of (some_of hl2 (by decide)) Tryz.underlying2 g0
    obtain ⟨a, rfl, _⟩ := int1_of (some_of hl2 (by decide)) Tryz.underlying2 g1
    obtain ⟨j, rfl, _⟩ := int1_of (some_of hl2 (by decide)) Tryz.underlying2 g2
    obtain ⟨xs, m3, _, _, hlen3, hxs, hall⟩ := DataW.trod_array Tryz.underlying23 f0
    have e0 := hall 0 (by omega)
    have e1 := hall 1 (by omega)
    have e2 := hall 2 (by omega)
    rw [k2] at e0 e1 e2
    simp only [Nat.mul_one, List.drop_zero, List.drop_succ_cons, List.take_succ_cons, List.take_zero] at e0 e1 e2
    obtain ⟨x, rfl, w0⟩ := int16_of (some_of hxs (by decide)) e0
    obtain ⟨y, rfl, w1⟩ := int16_of (some_of hxs (by decide)) e1
    obtain ⟨z, rfl, w2⟩ := int16_of (some_of hxs (by decide)) e2
    obtain ⟨aa, n, c, b, off, wl, hcs, hn, h3, h5, h6, h7, hq, h8, _⟩ := row_of Way.cells Way.small Way.zero Tryz.underlying24 (k := 4) (by kernel_rfl) (by decide) (fun m => ⟨_, _, rfl⟩) way_of f1
    simp at hcs
    subst hcs
    refine ⟨x, y, z, _, s, a, j, safe, wl, rfl, ⟨aa, n, c, b, off, rfl, hn, h3, fun i hi => ?_⟩, hq, ⟨by show -32768 ≤ x; omega, by show x ≤ 32768; omega, by show -32768 ≤ y; omega, by show y ≤ 32768; omega, by show -32768 ≤ z; omega, by show z ≤ 32768; omega⟩, by rw [← hn]; exact h7, w7⟩
    obtain ⟨q1, q2⟩ := h8 i hi
    exact ⟨q1, q2 0 (by decide), q2 1 (by decide), q2 2 (by decide), q2 3 (by decide)⟩

end
end Go.Proofs.YtjibcnnbclcboaaGreatDoor
