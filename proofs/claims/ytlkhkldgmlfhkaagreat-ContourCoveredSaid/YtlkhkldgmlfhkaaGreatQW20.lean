/-
  What the laws of chapter 31 are told of their arguments: paths, numbers.
  What the laws of chapter 31 are told of their arguments: vectors, truth values.
  Slices of paths: what a law is told of them.
  The reckoner at work: Near, Passes, Covered, Winding of the reference (swarfref31). (printed by gen/g10.py; for the seat of ContourCovered and ContourWinding)
  ContourCovered: the law's walk.
  ContourCovered: Covered reports whether some point of closed paths has a distance of at most the radius from a point; it remains true for a greater radius and for more paths: for every input the law returns true, and its arguments stay as they were. No condition.
-/
import Derived.Test.YtlkhkldgmlfhkaaGreatQW19
import Derived.ProofKit
import Derived.OpenShut
import Derived.Lib.SmallJoins
import Derived.ChangeOld
import Derived.Laws.AppendOwnNone
import Derived.Deep.Slices
import Derived.Test.YtlkhkldgmlfhkaaGreatRows
namespace Go.Proofs.YtlkhkldgmlfhkaaGreat
open Go.ChangeShapes Go.WideShapes Go.ChangeAt Go.RowKit Go.Joins Go.Deep
set_option maxRecDepth 8000

theorem Tryz.own : ownKnob Tryz.prog.godebug = none := by kernel_rfl
theorem Tryz.laidOut : laidOutB Tryz.prog = true := by kernel_rfl
theorem Addr.add_none (b off i : Nat) : (⟨b, off, none⟩ : Addr).add i = ⟨b, off + i, none⟩ := addr_plain b off i

section
variable {H : Type} {enc : TypeId × Value → H} {W : World} {base : Nat} {v : Value} {d : DataW H} {p : List MemPlace} {t : TypeId}

theorem wf64 {x : Int} (h : (Lit.int .i64 x).wf = true) : -9223372036854775808 ≤ x ∧ x ≤ 9223372036854775807 := by
  simp only [Lit.wf, Bool.and_eq_true, decide_eq_true_eq] at h
  exact h

theorem int1_of {n : Nat} {c : Value} {y : Option (DataW H × List MemPlace)} (hy : y.isSome = true) (ht : Tryz.prog.underlying t = some (.int .i64)) (h : DataW.trod enc Tryz.prog W 0 (fun _ => true) true n t [c] = y) : ∃ x : Int, c = .int .i64 x ∧ -9223372036854775808 ≤ x ∧ x ≤ 9223372036854775807 := by
  cases y with
  | none => cases hy
  | some y =>
    obtain ⟨x, h1, _, h2⟩ := DataW.trod_int ht h
    have := wf64 h2
    simp at h1
    exact ⟨x, h1, this⟩

theorem some_of {α : Type} {l : List α} {i n : Nat} (h : l.length = n) (hi : i < n) : (l[i]?).isSome = true := by
  rw [List.getElem?_eq_getElem (by omega)]; rfl

/-- A slice whose elements are rows of cells. -/
theorem row_of {α : Type} {e : TypeId} {k fuel : Nat} (cells : α → List Value) (Q : α → Prop) (z : α) {cs : List Value} {x : DataW H × List MemPlace}
    (ht : Tryz.prog.underlying t = some (.slice e)) (hk : Tryz.prog.cellsOf e = k) (hk0 : 0 < k) (hone : ∀ m, ∃ u, (cells m)[0]? = some u)
    (hel : ∀ {n : Nat} {cs : List Value} {y : DataW H × List MemPlace}, DataW.trod enc Tryz.prog W 0 (fun _ => true) true n e cs = some y → ∃ m, Q m ∧ cs = cells m)
    (h : DataW.trod enc Tryz.prog W 0 (fun _ => true) true fuel t cs = some x) :
    ∃ (a : Option Addr) (n cap b off : Nat) (l : List α), cs = [.slice a n cap] ∧ n = l.length ∧ (n = 0 ∨ a = some ⟨b, off, none⟩) ∧ n ≤ cap ∧ (a = none → cap = 0) ∧ n ≤ 9223372036854775807 ∧ (∀ m ∈ l, Q m) ∧ (∀ i, i < n → b < W.heap.size ∧ ∀ j, j < k → W.cell? ⟨b, off + i * k + j, none⟩ = (cells (l.getD i z))[j]?) ∧
      ((x.1.weights Tryz.prog t).all (· ≤ reachBytes) = true → n * Tryz.prog.bytesOf e ≤ reachBytes) := by
  rcases open_slice ht h with ⟨hcs, _⟩ | ⟨a, len, cap, m, n, D, Pl, hcs, _, hl, hm, hmm, hx, hel2⟩
  · exact ⟨none, 0, 0, 0, 0, [], hcs, rfl, .inl rfl, Nat.le_refl _, fun _ => rfl, by omega, fun m hm => by simp at hm, fun i hi => by omega, fun _ => by omega⟩
  · rw [if_pos rfl] at hmm
    subst hmm
    have hex : ∀ i, i < len → ∃ mo : α, Q mo ∧ ∀ j, j < k → W.cell? ((a.add (i * k)).add j) = (cells mo)[j]? := fun i hil => by
      obtain ⟨cs', hc, htr⟩ := hel2 i (by omega)
      obtain ⟨mo, hw, rfl⟩ := hel htr
      rw [hk] at hc
      obtain ⟨_, _, hat⟩ := World.cells?_some hc
      exact ⟨mo, hw, hat⟩
    obtain ⟨b, off, sp⟩ := a
    have hsp : len = 0 ∨ sp = none := by
      by_cases h0 : len = 0
      · exact .inl h0
      · right
        obtain ⟨mo, _, hc⟩ := hex 0 (by omega)
        have hc := hc 0 hk0
        obtain ⟨u, hy⟩ := hone mo
        rw [hy] at hc
        cases sp with
        | none => rfl
        | some s =>
          rw [show ((⟨b, off, some s⟩ : Addr).add (0 * k)).add 0 = ⟨b, off, some s⟩ from by simp [Addr.add]] at hc
          unfold World.cell? at hc
          split at hc
          · simp at hc
          · cases hc
    obtain ⟨f, hf⟩ : ∃ f : Nat → α, ∀ i, i < len → Q (f i) ∧ ∀ j, j < k → W.cell? (((⟨b, off, sp⟩ : Addr).add (i * k)).add j) = (cells (f i))[j]? := by
      refine ⟨fun i => if h : i < len then Classical.choose (hex i h) else z, fun i hi => ?_⟩
      simp only [hi, dif_pos]
      exact Classical.choose_spec (hex i hi)
    have hlen : ((List.range len).map f).length = len := by simp
    have hget : ∀ i, i < len → ((List.range len).map f).getD i z = f i := fun i hi => by simp [hi]
    unfold maxLen at hm
    refine ⟨some ⟨b, off, sp⟩, len, m, b, off, (List.range len).map f, hcs, hlen.symm, ?_, hl, (fun h => by cases h), by omega, fun mo hmo => ?_, fun i hi => ?_, fun hw => ?_⟩
    · rcases hsp with h | h
      · exact .inl h
      · subst h; exact .inr rfl
    · obtain ⟨i, hi, rfl⟩ := List.mem_map.1 hmo
      exact (hf i (List.mem_range.1 hi)).1
    · rcases hsp with h | h
      · omega
      · subst h
        rw [hget i hi]
        have hc := (hf i hi).2
        have hc' : ∀ j, j < k → W.cell? ⟨b, off + i * k + j, none⟩ = (cells (f i))[j]? := fun j hj => by
          have := hc j hj
          rw [Addr.add_none, Addr.add_none] at this
          exact this
        refine ⟨?_, hc'⟩
        obtain ⟨u, hy⟩ := hone (f i)
        exact World.block_lt_of_cell? W ⟨b, off + i * k + 0, none⟩ ((hc' 0 hk0).trans hy)
    · rw [hx] at hw
      simp only [DataW.weights, ht, List.all_cons, Bool.and_eq_true, decide_eq_true_eq] at hw
      have h1 := hw.1
      simp only [List.length_map, List.length_range] at h1
      refine Nat.le_trans (Nat.mul_le_mul_right _ ?_) h1
      omega


theorem int_of (hv : Value.okWide Tryz.prog W .any base 2 v) (h : DataW.Trod enc Tryz.prog W 0 (fun _ => true) true 2 v d p) : ∃ x : Int, v = .int .i64 x ∧ (Lit.int .i64 x).wf = true := by
  obtain ⟨x, h1, _, _, h4⟩ := open_int Tryz.underlying2 hv h; exact ⟨x, h1, h4⟩
/-- A number of a position. -/
def rng (x : Int) : Prop := -9223372036854775808 ≤ x ∧ x ≤ 9223372036854775807
theorem grid_of {n : Nat} {cs : List Value} {y : DataW H × List MemPlace} (h : DataW.trod enc Tryz.prog W 0 (fun _ => true) true n 35 cs = some y) : ∃ m : Int × Int, (rng m.1 ∧ rng m.2) ∧ cs = gC m := by
  obtain ⟨ys, m, _, _, hs, hl, hf⟩ := DataW.trod_struct Tryz.underlying35 h
  have k1 : Tryz.prog.cellsOf 2 = 1 := by kernel_rfl
  have k2 : Tryz.prog.cellsOf 35 = 2 := by kernel_rfl
  rw [k2] at hs
  match cs, hs with
  | [c0, c1], _ =>
    have f0 : DataW.trod enc Tryz.prog W 0 (fun _ => true) true m 2 (([c0, c1].drop 0).take (Tryz.prog.cellsOf 2)) = ys[0]? := hf 0 _ rfl
    have f1 : DataW.trod enc Tryz.prog W 0 (fun _ => true) true m 2 (([c0, c1].drop 1).take (Tryz.prog.cellsOf 2)) = ys[1]? := hf 1 _ rfl
    rw [k1] at f0 f1
    simp only [List.drop_zero, List.drop_succ_cons, List.take_succ_cons, List.take_zero] at f0 f1
    obtain ⟨x, rfl, hx⟩ := int1_of (some_of hl (by decide)) Tryz.underlying2 f0
    obtain ⟨y, rfl, hy⟩ := int1_of (some_of hl (by decide)) Tryz.underlying2 f1
    exact ⟨(x, y), ⟨hx, hy⟩, rfl⟩
theorem slT_row {v : Value} {a : Option Addr} {n cap b off : Nat} {l : List (Int × Int)} (hcs : v = .slice a n cap) (hn : n = l.length) (g3 : n = 0 ∨ a = some ⟨b, off, none⟩) (g5 : n ≤ cap) (g6 : a = none → cap = 0) (g8 : ∀ i, i < n → b < W.heap.size ∧ ∀ j, j < 2 → W.cell? ⟨b, off + i * 2 + j, none⟩ = (gC (l.getD i (0, 0)))[j]?) : SlT W v l := by
  subst hcs
  refine ⟨a, n, cap, b, off, rfl, hn, g3, g6, g5, fun i x hx => ?_⟩
  have hi : i < l.length := by
    rcases Nat.lt_or_ge i l.length with h' | h'
    · exact h'
    · rw [List.getElem?_eq_none h'] at hx; cases hx
  obtain ⟨q1, q2⟩ := g8 i (by omega)
  refine ⟨q1, fun r u hu => ?_⟩
  have hr : r < 2 := by
    rcases Nat.lt_or_ge r (gC x).length with h' | h'
    · exact h'
    · rw [List.getElem?_eq_none h'] at hu; cases hu
  rw [q2 r hr]
  have : l.getD i (0, 0) = x := by simp [List.getD_eq_getElem?_getD, hx]
  rw [this]; exact hu
/-- A path that comes in. -/
theorem path_of (hv : Value.okWide Tryz.prog W .any base 36 v) (h : DataW.Trod enc Tryz.prog W 0 (fun _ => true) true 36 v d p) :
    ∃ l : List (Int × Int), SlT W v l ∧ (∀ m ∈ l, rng m.1 ∧ rng m.2) ∧ l.length ≤ 9223372036854775807 := by
  obtain ⟨a0, len, cap, rfl⟩ := okWide_slice Tryz.underlying36 hv
  obtain ⟨fuel, hf⟩ := h
  obtain ⟨aa, n, c, b, off, wl, hcs, hn, g3, g5, g6, g7, gq, g8, _⟩ := row_of gC (fun m => rng m.1 ∧ rng m.2) (0, 0) Tryz.underlying36 (k := 2) (by kernel_rfl) (by decide) (fun m => ⟨_, rfl⟩) grid_of hf
  simp [Value.cells] at hcs
  exact ⟨wl, slT_row (by simp [hcs]) hn g3 g5 g6 g8, gq, by rw [← hn]; exact g7⟩
end
end Go.Proofs.YtlkhkldgmlfhkaaGreat

namespace Go.Proofs.YtlkhkldgmlfhkaaGreat
open Go.ChangeShapes Go.WideShapes Go.ChangeAt Go.RowKit Go.Joins Go.Deep
set_option maxRecDepth 8000

section
variable {H : Type} {enc : TypeId × Value → H} {W : World} {base : Nat} {v : Value} {d : DataW H} {p : List MemPlace} {t : TypeId}

theorem bool_of (hv : Value.okWide Tryz.prog W .any base 4 v) (h : DataW.Trod enc Tryz.prog W 0 (fun _ => true) true 4 v d p) : ∃ x : Bool, v = .bool x := by
  obtain ⟨x, h1, _⟩ := open_bool Tryz.underlying4 hv h; exact ⟨x, h1⟩
theorem slG_row {α : Type} {f : α → List Value} {k : Nat} (hf : ∀ x, (f x).length = k) (z : α) {v : Value} {a : Option Addr} {n cap b off : Nat} {l : List α} (hcs : v = .slice a n cap) (hn : n = l.length) (g3 : n = 0 ∨ a = some ⟨b, off, none⟩) (g5 : n ≤ cap) (g6 : a = none → cap = 0) (g8 : ∀ i, i < n → b < W.heap.size ∧ ∀ j, j < k → W.cell? ⟨b, off + i * k + j, none⟩ = (f (l.getD i z))[j]?) : SlG k f W v l := by
  subst hcs
  refine ⟨a, n, cap, b, off, rfl, hn, g3, g6, g5, fun i x hx => ?_⟩
  have hi : i < l.length := by
    rcases Nat.lt_or_ge i l.length with h' | h'
    · exact h'
    · rw [List.getElem?_eq_none h'] at hx; cases hx
  obtain ⟨q1, q2⟩ := g8 i (by omega)
  refine ⟨q1, fun r u hu => ?_⟩
  have hr : r < k := by
    rcases Nat.lt_or_ge r (f x).length with h' | h'
    · rw [hf] at h'; exact h'
    · rw [List.getElem?_eq_none h'] at hu; cases hu
  rw [q2 r hr]
  have : l.getD i z = x := by simp [List.getD_eq_getElem?_getD, hx]
  rw [this]; exact hu
theorem u32_of {n : Nat} {cs : List Value} {y : DataW H × List MemPlace} (h : DataW.trod enc Tryz.prog W 0 (fun _ => true) true n 84 cs = some y) : ∃ m : Nat, True ∧ cs = uC m := by
  obtain ⟨x, h1, _, h2⟩ := DataW.trod_int Tryz.underlying84 h
  simp only [Lit.wf, Bool.and_eq_true, decide_eq_true_eq] at h2
  have h3 : (0 : Int) ≤ x := h2.1
  refine ⟨x.toNat, trivial, ?_⟩
  rw [h1]
  unfold uC
  rw [Int.toNat_of_nonneg h3]
theorem limbs_of {n : Nat} {cs : List Value} {y : DataW H × List MemPlace} (h : DataW.trod enc Tryz.prog W 0 (fun _ => true) true n 23 cs = some y) : ∃ (u : Value) (l : List Nat), cs = [u] ∧ SlU W u l := by
  obtain ⟨aa, n, c, b, off, wl, hcs, hn, g3, g5, g6, g7, gq, g8, _⟩ := row_of uC (fun _ => True) 0 Tryz.underlying23 (k := 1) (by kernel_rfl) (by decide) (fun m => ⟨_, rfl⟩) u32_of h
  exact ⟨_, wl, hcs, slG_row uC_len 0 rfl hn g3 g5 g6 g8⟩
theorem bool1_of {n : Nat} {cs : List Value} {y : DataW H × List MemPlace} (h : DataW.trod enc Tryz.prog W 0 (fun _ => true) true n 4 cs = some y) : ∃ x : Bool, cs = [.bool x] := by
  obtain ⟨b, h1, _⟩ := DataW.trod_bool Tryz.underlying4 h; exact ⟨b, h1⟩
theorem of_some {α : Type} {l : List α} {i n : Nat} {o : Option α} (h : l.length = n) (hi : i < n) (e : o = l[i]?) : ∃ x, o = some x := by
  rw [e, List.getElem?_eq_getElem (by omega)]; exact ⟨_, rfl⟩
theorem big_of {n : Nat} {cs : List Value} {y : DataW H × List MemPlace} (h : DataW.trod enc Tryz.prog W 0 (fun _ => true) true n 25 cs = some y) : ∃ (b : Bool) (u : Value) (l : List Nat), cs = [.bool b, u] ∧ SlU W u l := by
  obtain ⟨ys, m, _, _, hs, hl, hf⟩ := DataW.trod_struct Tryz.underlying25 h
  have k1 : Tryz.prog.cellsOf 4 = 1 := by kernel_rfl
  have k2 : Tryz.prog.cellsOf 23 = 1 := by kernel_rfl
  have k3 : Tryz.prog.cellsOf 25 = 2 := by kernel_rfl
  rw [k3] at hs
  match cs, hs with
  | [c0, c1], _ =>
    have f0 : DataW.trod enc Tryz.prog W 0 (fun _ => true) true m 4 (([c0, c1].drop 0).take (Tryz.prog.cellsOf 4)) = ys[0]? := hf 0 _ rfl
    have f1 : DataW.trod enc Tryz.prog W 0 (fun _ => true) true m 23 (([c0, c1].drop 1).take (Tryz.prog.cellsOf 23)) = ys[1]? := hf 1 _ rfl
    rw [k1] at f0
    rw [k2] at f1
    simp only [List.drop_zero, List.drop_succ_cons, List.take_succ_cons, List.take_zero] at f0 f1
    obtain ⟨_, e0⟩ := of_some hl (by decide) f0
    obtain ⟨_, e1⟩ := of_some hl (by decide) f1
    obtain ⟨b, g0⟩ := bool1_of e0
    obtain ⟨u, l, g1, g2⟩ := limbs_of e1
    simp only [List.cons.injEq, and_true] at g0 g1
    subst g0 g1
    exact ⟨b, _, l, rfl, g2⟩
theorem rat_of {n : Nat} {cs : List Value} {y : DataW H × List MemPlace} (h : DataW.trod enc Tryz.prog W 0 (fun _ => true) true n 27 cs = some y) : ∃ (b : Bool) (u : Value) (l : List Nat) (c : Bool) (u2 : Value) (m : List Nat), cs = [.bool b, u, .bool c, u2] ∧ SlU W u l ∧ SlU W u2 m := by
  obtain ⟨ys, m, _, _, hs, hl, hf⟩ := DataW.trod_struct Tryz.underlying27 h
  have k2 : Tryz.prog.cellsOf 25 = 2 := by kernel_rfl
  have k3 : Tryz.prog.cellsOf 27 = 4 := by kernel_rfl
  rw [k3] at hs
  match cs, hs with
  | [c0, c1, c2, c3], _ =>
    have f0 : DataW.trod enc Tryz.prog W 0 (fun _ => true) true m 25 (([c0, c1, c2, c3].drop 0).take (Tryz.prog.cellsOf 25)) = ys[0]? := hf 0 _ rfl
    have f1 : DataW.trod enc Tryz.prog W 0 (fun _ => true) true m 25 (([c0, c1, c2, c3].drop 2).take (Tryz.prog.cellsOf 25)) = ys[1]? := hf 1 _ rfl
    rw [k2] at f0 f1
    simp only [List.drop_zero, List.drop_succ_cons, List.take_succ_cons, List.take_zero] at f0 f1
    obtain ⟨_, e0⟩ := of_some hl (by decide) f0
    obtain ⟨_, e1⟩ := of_some hl (by decide) f1
    obtain ⟨b, u, l, g0, s0⟩ := big_of e0
    obtain ⟨b1, u1, l1, g1, s1⟩ := big_of e1
    simp only [List.cons.injEq, and_true] at g0 g1
    obtain ⟨rfl, rfl⟩ := g0
    obtain ⟨rfl, rfl⟩ := g1
    exact ⟨_, _, _, _, _, _, rfl, s0, s1⟩
theorem vec_of (hv : Value.okWide Tryz.prog W .any base 29 v) (h : DataW.Trod enc Tryz.prog W 0 (fun _ => true) true 29 v d p) : ∃ r : Raw, IsRaw W r v := by
  simp only [Value.okWide, Tryz.underlying29] at hv
  obtain ⟨cs, rfl, _, _⟩ := hv
  obtain ⟨fuel, hf⟩ := h
  obtain ⟨ys, m, _, _, hs, hl, hf⟩ := DataW.trod_struct Tryz.underlying29 hf
  have k2 : Tryz.prog.cellsOf 27 = 4 := by kernel_rfl
  have k3 : Tryz.prog.cellsOf 29 = 8 := by kernel_rfl
  obtain ⟨cs⟩ := cs
  simp only [Value.cells] at hs hf
  rw [k3] at hs
  match cs, hs with
  | [c0, c1, c2, c3, c4, c5, c6, c7], _ =>
    have f0 : DataW.trod enc Tryz.prog W 0 (fun _ => true) true m 27 (([c0, c1, c2, c3, c4, c5, c6, c7].drop 0).take (Tryz.prog.cellsOf 27)) = ys[0]? := hf 0 _ rfl
    have f1 : DataW.trod enc Tryz.prog W 0 (fun _ => true) true m 27 (([c0, c1, c2, c3, c4, c5, c6, c7].drop 4).take (Tryz.prog.cellsOf 27)) = ys[1]? := hf 1 _ rfl
    rw [k2] at f0 f1
    simp only [List.drop_zero, List.drop_succ_cons, List.take_succ_cons, List.take_zero] at f0 f1
    obtain ⟨_, e0⟩ := of_some hl (by decide) f0
    obtain ⟨_, e1⟩ := of_some hl (by decide) f1
    obtain ⟨b, u, l, c, u2, m2, g0, s0, t0⟩ := rat_of e0
    obtain ⟨b1, u1, l1, c1, u3, m3, g1, s1, t1⟩ := rat_of e1
    simp only [List.cons.injEq, and_true] at g0 g1
    obtain ⟨rfl, rfl, rfl, rfl⟩ := g0
    obtain ⟨rfl, rfl, rfl, rfl⟩ := g1
    exact ⟨⟨b, l, c, m2, b1, l1, c1, m3⟩, _, rfl, ⟨rfl, rfl⟩, ⟨s0, Vc.Away.none rfl rfl _ _⟩, ⟨rfl, rfl⟩, ⟨t0, Vc.Away.none rfl rfl _ _⟩, ⟨rfl, rfl⟩, ⟨s1, Vc.Away.none rfl rfl _ _⟩, ⟨rfl, rfl⟩, ⟨t1, Vc.Away.none rfl rfl _ _⟩, trivial⟩
end
end Go.Proofs.YtlkhkldgmlfhkaaGreat

namespace Go.Proofs.YtlkhkldgmlfhkaaGreat
open Go.ChangeShapes Go.WideShapes Go.ChangeAt Go.RowKit Go.Joins Go.Deep
set_option maxRecDepth 8000

/-- The parts of a slice. -/
abbrev Sl3 : Type := Option Addr × Nat × Nat
def oneV (u : Sl3) : List Value := [.slice u.1 u.2.1 u.2.2]
theorem oneV_len (u : Sl3) : (oneV u).length = 1 := rfl
theorem oneV_one (u : Sl3) : ∀ x ∈ oneV u, x.oneCell' = true := by
  intro x hx
  simp only [oneV, List.mem_singleton] at hx
  subst hx
  rfl
/-- The slice v holds the slices vs, which read as the paths ps. -/
structure PQ (w : World) (v : Value) (vs : List Sl3) (ps : List (List (Int × Int))) : Prop where
  sl : SlG 1 oneV w v vs
  len : ps.length = vs.length
  el : ∀ (i : Nat) (u : Sl3) (p : List (Int × Int)), vs[i]? = some u → ps[i]? = some p → SlT w (.slice u.1 u.2.1 u.2.2) p
theorem PQ.later {w w' : World} {v : Value} {vs : List Sl3} {ps : List (List (Int × Int))} (h : PQ w v vs ps) (he : Ext w w') : PQ w' v vs ps :=
  ⟨h.sl.later he, h.len, fun i u p hu hp => (h.el i u p hu hp).later he⟩
theorem PQ.slQ {w : World} {v : Value} {vs : List Sl3} {ps : List (List (Int × Int))} (h : PQ w v vs ps) : Vc.SlQ w.heap.size w v ps := by
  obtain ⟨a, n, cap, b, off, rfl, rfl, h3, h4, h5, h6⟩ := h.sl
  refine ⟨a, cap, b, off, by rw [h.len], by rw [h.len]; exact h3, h4, by rw [h.len]; exact h5, fun i x hx => ?_⟩
  have hi : i < vs.length := by
    rcases Nat.lt_or_ge i ps.length with h' | h'
    · rw [← h.len]; exact h'
    · rw [List.getElem?_eq_none h'] at hx; cases hx
  have hu : vs[i]? = some vs[i] := List.getElem?_eq_getElem hi
  obtain ⟨p, q⟩ := h6 i _ hu
  refine ⟨p, p, .slice vs[i].1 vs[i].2.1 vs[i].2.2, ?_, slP_of (h.el i _ x hu hx)⟩
  have := q 0 _ rfl
  simpa using this

section
variable {H : Type} {enc : TypeId × Value → H} {W : World} {base : Nat} {v : Value} {d : DataW H} {p : List MemPlace} {t : TypeId}
theorem path1_of {n : Nat} {cs : List Value} {y : DataW H × List MemPlace} (h : DataW.trod enc Tryz.prog W 0 (fun _ => true) true n 36 cs = some y) : ∃ m : Sl3 × List (Int × Int), SlT W (.slice m.1.1 m.1.2.1 m.1.2.2) m.2 ∧ cs = oneV m.1 := by
  obtain ⟨aa, n, c, b, off, wl, hcs, hn, g3, g5, g6, g7, gq, g8, _⟩ := row_of gC (fun m => rng m.1 ∧ rng m.2) (0, 0) Tryz.underlying36 (k := 2) (by kernel_rfl) (by decide) (fun m => ⟨_, rfl⟩) grid_of h
  exact ⟨((aa, n, c), wl), slT_row rfl hn g3 g5 g6 g8, hcs⟩
/-- Paths that come in. -/
theorem paths_of (hv : Value.okWide Tryz.prog W .any base 22 v) (h : DataW.Trod enc Tryz.prog W 0 (fun _ => true) true 22 v d p) :
    ∃ (vs : List Sl3) (ps : List (List (Int × Int))), PQ W v vs ps := by
  obtain ⟨a0, len, cap, rfl⟩ := okWide_slice Tryz.underlying22 hv
  obtain ⟨fuel, hf⟩ := h
  obtain ⟨aa, n, c, b, off, wl, hcs, hn, g3, g5, g6, g7, gq, g8, _⟩ := row_of (fun m : Sl3 × List (Int × Int) => oneV m.1) (fun m => SlT W (.slice m.1.1 m.1.2.1 m.1.2.2) m.2) ((none, 0, 0), []) Tryz.underlying22 (k := 1) (by kernel_rfl) (by decide) (fun m => ⟨_, rfl⟩) path1_of hf
  simp [Value.cells] at hcs
  refine ⟨wl.map (·.1), wl.map (·.2), ⟨slG_row oneV_len (none, 0, 0) (by simp [hcs]) (by simpa using hn) g3 g5 g6 (fun i hi => ?_), by simp, fun i u p hu hp => ?_⟩⟩
  · obtain ⟨q1, q2⟩ := g8 i hi
    refine ⟨q1, fun j hj => ?_⟩
    rw [q2 j hj]
    have hil : i < wl.length := by omega
    simp [List.getD_eq_getElem?_getD, hil]
  · simp only [List.getElem?_map, Option.map_eq_some_iff] at hu hp
    obtain ⟨m, hm, rfl⟩ := hu
    obtain ⟨m', hm', rfl⟩ := hp
    rw [hm] at hm'
    cases hm'
    exact gq m (List.mem_of_getElem? hm)
end
end Go.Proofs.YtlkhkldgmlfhkaaGreat

namespace Go.Proofs.YtlkhkldgmlfhkaaGreat
open Go.RowKit
namespace Vc
theorem cmpN_sign (a b : Nat) : cmpN a b = ((a : Int) - b).sign := by
  rcases Nat.lt_trichotomy a b with h | h | h
  · rw [cmpN_lt h, Int.sign_eq_neg_one_of_neg (by omega)]
  · rw [cmpN_eq h, h, Int.sub_self]; rfl
  · rw [cmpN_gt h, Int.sign_eq_one_of_pos (by omega)]
def cJcmp01 : Ctr := ⟨48, fun | [.g [.I (x)], .g [.I (y)]] => .yes (szI x ≤ 10000000 ∧ szI y ≤ 10000000) (.k (.c (.v (.int .i64 ((x - y).sign))))) | _ => .no⟩
theorem cJcmp01_owes (x y : Int) (hp : szI x ≤ 10000000 ∧ szI y ≤ 10000000) : owes LT WT4 [] Tryz.f48 (Tryz.f48.body.getD .skip) [.g [.I (x)], .g [.I (y)]] (.k (.c (.v (.int .i64 ((x - y).sign))))) := by
  refine Eq.mp (show ((((decide (x < 0)) != (decide (y < 0))) = true → (((decide (x < 0)) = true → (Value.int .i64 ((-1 : Int)) = (.int .i64 ((x - y).sign)))) ∧ ((decide (x < 0)) = false → (Value.int .i64 ((1 : Int)) = (.int .i64 ((x - y).sign)))))) ∧ (((decide (x < 0)) != (decide (y < 0))) = false → (((decide (x < 0)) = true → (((Lb.Norm (Lb.limbs (y).natAbs) ∧ Lb.Norm (Lb.limbs (x).natAbs)) ∧ (Lb.limbs (y).natAbs).length ≤ 1000000000 ∧ (Lb.limbs (x).natAbs).length ≤ 1000000000) ∧ (Value.int .i64 ((cmpN (Lb.val (Lb.limbs (y).natAbs)) (Lb.val (Lb.limbs (x).natAbs)))) = (.int .i64 ((x - y).sign))))) ∧ ((decide (x < 0)) = false → (((Lb.Norm (Lb.limbs (x).natAbs) ∧ Lb.Norm (Lb.limbs (y).natAbs)) ∧ (Lb.limbs (x).natAbs).length ≤ 1000000000 ∧ (Lb.limbs (y).natAbs).length ≤ 1000000000) ∧ (Value.int .i64 ((cmpN (Lb.val (Lb.limbs (x).natAbs)) (Lb.val (Lb.limbs (y).natAbs)))) = (.int .i64 ((x - y).sign)))))))) = owes LT WT4 [] Tryz.f48 (Tryz.f48.body.getD .skip) [.g [.I (x)], .g [.I (y)]] (.k (.c (.v (.int .i64 ((x - y).sign))))) by kernel_rfl) ?_
  unfold szI at hp
  obtain ⟨h1, h2⟩ := hp
  have hN := fun n => Lb.norm_limbs n
  simp only [Lb.val_limbs]
  refine ⟨fun h => ⟨fun h3 => ?_, fun h3 => ?_⟩, fun h => ⟨fun h3 => ⟨⟨⟨hN _, hN _⟩, by omega, by omega⟩, ?_⟩, fun h3 => ⟨⟨⟨hN _, hN _⟩, by omega, by omega⟩, ?_⟩⟩⟩
  · have h4 : x < 0 := of_decide_eq_true h3
    have h5 : ¬ y < 0 := by intro c; simp [h4, c] at h
    rw [Int.sign_eq_neg_one_of_neg (by omega)]
  · have h4 : ¬ x < 0 := of_decide_eq_false h3
    have h5 : y < 0 := by
      rcases Int.lt_or_le y 0 with c | c
      · exact c
      · have c' : ¬ y < 0 := by omega
        simp [h4, c'] at h
    rw [Int.sign_eq_one_of_pos (by omega)]
  · have h4 : x < 0 := of_decide_eq_true h3
    have h5 : y < 0 := by
      rcases Int.lt_or_le y 0 with c | c
      · exact c
      · have c' : ¬ y < 0 := by omega
        simp [h4, c'] at h
    rw [cmpN_sign]
    congr 2
    omega
  · have h4 : ¬ x < 0 := of_decide_eq_false h3
    have h5 : ¬ y < 0 := by intro c; simp [h4, c] at h
    rw [cmpN_sign]
    congr 2
    omega
theorem cJcmp01_ok : CtrOK Tryz.prog cJcmp01 := .of (by kernel_rfl) (fun bs w xs vs pre r hr hA hG h hp => by
  simp only [cJcmp01] at h
  split at h
  · cases h
    exact ctr_calls mixed LT_ok WT4_ok Tryz.func48 (by kernel_rfl) hr hA hG rfl rfl (cJcmp01_owes _ _ hp)
  · cases h) (fun xs α pre φ r => by simp only [cJcmp01]; split <;> (intro h; cases h))
def XT0 : List Ctr := WT4 ++ [cJcmp01]
theorem XT0_ok : ∀ c ∈ XT0, CtrOK Tryz.prog c := ok_app WT4_ok (by
  intro c hc
  simp only [List.mem_cons, List.not_mem_nil, or_false] at hc
  rcases hc with rfl
  · exact cJcmp01_ok)
theorem sub_sg_ge {a b : Rat} : Rt.sg (a - b) ≥ 0 ↔ b ≤ a := by
  rw [ge_iff_le, Rt.sg_ge]
  constructor <;> intro h <;> grind
def cKcmp : Ctr := ⟨30, fun | [.g [.R (p)], .g [.R (q)]] => .yes (szR p ≤ 1000000 ∧ szR q ≤ 1000000) (.k (.c (.v (.int .i64 ((Rt.sg (p - q))))))) | _ => .no⟩
theorem cKcmp_owes (p q : Rat) (hp : szR p ≤ 1000000 ∧ szR q ≤ 1000000) : owes LT XT0 [] Tryz.f30 (Tryz.f30.body.getD .skip) [.g [.R (p)], .g [.R (q)]] (.k (.c (.v (.int .i64 ((Rt.sg (p - q))))))) := by
  refine Eq.mp (show ((szI ((p).num) ≤ 10000000 ∧ szI (((q).den : Int)) ≤ 10000000) ∧ ((szI ((q).num) ≤ 10000000 ∧ szI (((p).den : Int)) ≤ 10000000) ∧ ((szI (((p).num * ((q).den : Int))) ≤ 10000000 ∧ szI (((q).num * ((p).den : Int))) ≤ 10000000) ∧ (Value.int .i64 (((((p).num * ((q).den : Int))) - (((q).num * ((p).den : Int)))).sign) = (.int .i64 ((Rt.sg (p - q)))))))) = owes LT XT0 [] Tryz.f30 (Tryz.f30.body.getD .skip) [.g [.R (p)], .g [.R (q)]] (.k (.c (.v (.int .i64 ((Rt.sg (p - q))))))) by kernel_rfl) ?_
  obtain ⟨hp, hq⟩ := hp
  have a1 := szR_num p; have a2 := szR_den p; have a3 := szR_num q; have a4 := szR_den q
  have m1 := szI_mul' p.num q.den; have m3 := szI_mul' q.num p.den
  exact ⟨⟨by omega, by omega⟩, ⟨by omega, by omega⟩, ⟨by omega, by omega⟩, by rw [Rt.sg_cross]⟩
theorem cKcmp_ok : CtrOK Tryz.prog cKcmp := .of (by kernel_rfl) (fun bs w xs vs pre r hr hA hG h hp => by
  simp only [cKcmp] at h
  split at h
  · cases h
    exact ctr_calls mixed LT_ok XT0_ok Tryz.func30 (by kernel_rfl) hr hA hG rfl rfl (cKcmp_owes _ _ hp)
  · cases h) (fun xs α pre φ r => by simp only [cKcmp]; split <;> (intro h; cases h))
def cKsquare : Ctr := ⟨71, fun | [.g [.R (p)]] => .yes (szR p ≤ 1000000) (.k (.g [.R ((p * p))])) | _ => .no⟩
theorem cKsquare_owes (p : Rat) (hp : szR p ≤ 1000000) : owes LT XT0 [] Tryz.f71 (Tryz.f71.body.getD .skip) [.g [.R (p)]] (.k (.g [.R ((p * p))])) := by
  refine Eq.mp (show ((szR (p) ≤ 1000000 ∧ szR (p) ≤ 1000000) ∧ ((((p) * (p)) = (p * p)) ∧ (True))) = owes LT XT0 [] Tryz.f71 (Tryz.f71.body.getD .skip) [.g [.R (p)]] (.k (.g [.R ((p * p))])) by kernel_rfl) ?_
  exact ⟨⟨hp, hp⟩, rfl, trivial⟩
theorem cKsquare_ok : CtrOK Tryz.prog cKsquare := .of (by kernel_rfl) (fun bs w xs vs pre r hr hA hG h hp => by
  simp only [cKsquare] at h
  split at h
  · cases h
    exact ctr_calls mixed LT_ok XT0_ok Tryz.func71 (by kernel_rfl) hr hA hG rfl rfl (cKsquare_owes _ hp)
  · cases h) (fun xs α pre φ r => by simp only [cKsquare]; split <;> (intro h; cases h))
def cK12add : Ctr := ⟨91, fun | [.g [.R (p)], .g [.R (q)]] => .yes (szR p ≤ 1000000 ∧ szR q ≤ 1000000) (.k (.g [.R ((p + q))])) | _ => .no⟩
theorem cK12add_owes (p q : Rat) (hp : szR p ≤ 1000000 ∧ szR q ≤ 1000000) : owes LT XT0 [] Tryz.f91 (Tryz.f91.body.getD .skip) [.g [.R (p)], .g [.R (q)]] (.k (.g [.R ((p + q))])) := by
  refine Eq.mp (show ((szR (p) ≤ 1000000 ∧ szR (q) ≤ 1000000) ∧ ((((p) + (q)) = (p + q)) ∧ (True))) = owes LT XT0 [] Tryz.f91 (Tryz.f91.body.getD .skip) [.g [.R (p)], .g [.R (q)]] (.k (.g [.R ((p + q))])) by kernel_rfl) ?_
  exact ⟨hp, rfl, trivial⟩
theorem cK12add_ok : CtrOK Tryz.prog cK12add := .of (by kernel_rfl) (fun bs w xs vs pre r hr hA hG h hp => by
  simp only [cK12add] at h
  split at h
  · cases h
    exact ctr_calls mixed LT_ok XT0_ok Tryz.func91 (by kernel_rfl) hr hA hG rfl rfl (cK12add_owes _ _ hp)
  · cases h) (fun xs α pre φ r => by simp only [cK12add]; split <;> (intro h; cases h))
def cK12way : Ctr := ⟨33, fun | [.g [.R (a1), .R (a2)], .g [.R (b1), .R (b2)]] => .yes (szR a1 ≤ 100000 ∧ szR a2 ≤ 100000 ∧ szR b1 ≤ 100000 ∧ szR b2 ≤ 100000) (.k (.g [.R ((b1 - a1)), .R ((b2 - a2))])) | _ => .no⟩
theorem cK12way_owes (a1 a2 b1 b2 : Rat) (hp : szR a1 ≤ 100000 ∧ szR a2 ≤ 100000 ∧ szR b1 ≤ 100000 ∧ szR b2 ≤ 100000) : owes LT XT0 [] Tryz.f33 (Tryz.f33.body.getD .skip) [.g [.R (a1), .R (a2)], .g [.R (b1), .R (b2)]] (.k (.g [.R ((b1 - a1)), .R ((b2 - a2))])) := by
  refine Eq.mp (show ((szR (b1) ≤ 1000000 ∧ szR (a1) ≤ 1000000) ∧ ((szR (b2) ≤ 1000000 ∧ szR (a2) ≤ 1000000) ∧ ((((b1) - (a1)) = (b1 - a1)) ∧ ((((b2) - (a2)) = (b2 - a2)) ∧ (True))))) = owes LT XT0 [] Tryz.f33 (Tryz.f33.body.getD .skip) [.g [.R (a1), .R (a2)], .g [.R (b1), .R (b2)]] (.k (.g [.R ((b1 - a1)), .R ((b2 - a2))])) by kernel_rfl) ?_
  obtain ⟨h1, h2, h3, h4⟩ := hp
  ((repeat' first | apply And.intro | (intro _)) <;> first | trivial | rfl | (first | omega | (apply Nat.le_trans; (focus (repeat' first | assumption | apply szR_sub_le | apply szR_add_le | apply szR_mul_le)); omega)) | skip)
theorem cK12way_ok : CtrOK Tryz.prog cK12way := .of (by kernel_rfl) (fun bs w xs vs pre r hr hA hG h hp => by
  simp only [cK12way] at h
  split at h
  · cases h
    exact ctr_calls mixed LT_ok XT0_ok Tryz.func33 (by kernel_rfl) hr hA hG rfl rfl (cK12way_owes _ _ _ _ hp)
  · cases h) (fun xs α pre φ r => by simp only [cK12way]; split <;> (intro h; cases h))
def XT1 : List Ctr := XT0 ++ [cKcmp, cKsquare, cK12add, cK12way]
theorem XT1_ok : ∀ c ∈ XT1, CtrOK Tryz.prog c := ok_app XT0_ok (by
  intro c hc
  simp only [List.mem_cons, List.not_mem_nil, or_false] at hc
  rcases hc with rfl | rfl | rfl | rfl
  · exact cKcmp_ok
  · exact cKsquare_ok
  · exact cK12add_ok
  · exact cK12way_ok)
def cK12dot : Ctr := ⟨72, fun | [.g [.R (a1), .R (a2)], .g [.R (b1), .R (b2)]] => .yes (szR a1 ≤ 100000 ∧ szR a2 ≤ 100000 ∧ szR b1 ≤ 100000 ∧ szR b2 ≤ 100000) (.k (.g [.R ((a1 * b1 + a2 * b2))])) | _ => .no⟩
theorem cK12dot_owes (a1 a2 b1 b2 : Rat) (hp : szR a1 ≤ 100000 ∧ szR a2 ≤ 100000 ∧ szR b1 ≤ 100000 ∧ szR b2 ≤ 100000) : owes LT XT1 [] Tryz.f72 (Tryz.f72.body.getD .skip) [.g [.R (a1), .R (a2)], .g [.R (b1), .R (b2)]] (.k (.g [.R ((a1 * b1 + a2 * b2))])) := by
  refine Eq.mp (show ((szR (a1) ≤ 1000000 ∧ szR (b1) ≤ 1000000) ∧ ((szR (a2) ≤ 1000000 ∧ szR (b2) ≤ 1000000) ∧ ((szR (((a1) * (b1))) ≤ 1000000 ∧ szR (((a2) * (b2))) ≤ 1000000) ∧ ((((((a1) * (b1))) + (((a2) * (b2)))) = (a1 * b1 + a2 * b2)) ∧ (True))))) = owes LT XT1 [] Tryz.f72 (Tryz.f72.body.getD .skip) [.g [.R (a1), .R (a2)], .g [.R (b1), .R (b2)]] (.k (.g [.R ((a1 * b1 + a2 * b2))])) by kernel_rfl) ?_
  obtain ⟨h1, h2, h3, h4⟩ := hp
  ((repeat' first | apply And.intro | (intro _)) <;> first | trivial | rfl | (first | omega | (apply Nat.le_trans; (focus (repeat' first | assumption | apply szR_sub_le | apply szR_add_le | apply szR_mul_le)); omega)) | skip)
theorem cK12dot_ok : CtrOK Tryz.prog cK12dot := .of (by kernel_rfl) (fun bs w xs vs pre r hr hA hG h hp => by
  simp only [cK12dot] at h
  split at h
  · cases h
    exact ctr_calls mixed LT_ok XT1_ok Tryz.func72 (by kernel_rfl) hr hA hG rfl rfl (cK12dot_owes _ _ _ _ hp)
  · cases h) (fun xs α pre φ r => by simp only [cK12dot]; split <;> (intro h; cases h))
def XT2 : List Ctr := XT1 ++ [cK12dot]
theorem XT2_ok : ∀ c ∈ XT2, CtrOK Tryz.prog c := ok_app XT1_ok (by
  intro c hc
  simp only [List.mem_cons, List.not_mem_nil, or_false] at hc
  rcases hc with rfl
  · exact cK12dot_ok)
def cKnear : Ctr := ⟨42, fun | [.g [.R (a1), .R (a2)], .g [.R (b1), .R (b2)], .g [.R (p1), .R (p2)], .g [.R (r)]] => .yes (szR a1 ≤ 100 ∧ szR a2 ≤ 100 ∧ szR b1 ≤ 100 ∧ szR b2 ≤ 100 ∧ szR p1 ≤ 100 ∧ szR p2 ≤ 100 ∧ szR r ≤ 100) (.k (.c (.v (.bool ((decide (Rt.seg ⟨a1, a2⟩ ⟨b1, b2⟩ ⟨p1, p2⟩ ≤ r * r))))))) | _ => .no⟩
theorem cKnear_owes (a1 a2 b1 b2 p1 p2 r : Rat) (hp : szR a1 ≤ 100 ∧ szR a2 ≤ 100 ∧ szR b1 ≤ 100 ∧ szR b2 ≤ 100 ∧ szR p1 ≤ 100 ∧ szR p2 ≤ 100 ∧ szR r ≤ 100) : owes LT XT2 [] Tryz.f42 (Tryz.f42.body.getD .skip) [.g [.R (a1), .R (a2)], .g [.R (b1), .R (b2)], .g [.R (p1), .R (p2)], .g [.R (r)]] (.k (.c (.v (.bool ((decide (Rt.seg ⟨a1, a2⟩ ⟨b1, b2⟩ ⟨p1, p2⟩ ≤ r * r))))))) := by
  refine Eq.mp (show ((szR (a1) ≤ 100000 ∧ szR (a2) ≤ 100000 ∧ szR (b1) ≤ 100000 ∧ szR (b2) ≤ 100000) ∧ ((szR (a1) ≤ 100000 ∧ szR (a2) ≤ 100000 ∧ szR (p1) ≤ 100000 ∧ szR (p2) ≤ 100000) ∧ ((szR (r) ≤ 1000000) ∧ ((szR (((b1) - (a1))) ≤ 100000 ∧ szR (((b2) - (a2))) ≤ 100000 ∧ szR (((b1) - (a1))) ≤ 100000 ∧ szR (((b2) - (a2))) ≤ 100000) ∧ ((szR (((b1) - (a1))) ≤ 100000 ∧ szR (((b2) - (a2))) ≤ 100000 ∧ szR (((p1) - (a1))) ≤ 100000 ∧ szR (((p2) - (a2))) ≤ 100000) ∧ ((True) ∧ (((decide (((Rt.sg (((((b1) - (a1))) * (((p1) - (a1))) + (((b2) - (a2))) * (((p2) - (a2))))))) ≤ ((0 : Int)))) = true → ((szR (((p1) - (a1))) ≤ 100000 ∧ szR (((p2) - (a2))) ≤ 100000 ∧ szR (((p1) - (a1))) ≤ 100000 ∧ szR (((p2) - (a2))) ≤ 100000) ∧ ((szR (((((p1) - (a1))) * (((p1) - (a1))) + (((p2) - (a2))) * (((p2) - (a2))))) ≤ 1000000 ∧ szR (((r) * (r))) ≤ 1000000) ∧ (Value.bool (decide (((Rt.sg ((((((p1) - (a1))) * (((p1) - (a1))) + (((p2) - (a2))) * (((p2) - (a2))))) - (((r) * (r)))))) ≤ ((0 : Int)))) = (.bool ((decide (Rt.seg ⟨a1, a2⟩ ⟨b1, b2⟩ ⟨p1, p2⟩ ≤ r * r)))))))) ∧ ((decide (((Rt.sg (((((b1) - (a1))) * (((p1) - (a1))) + (((b2) - (a2))) * (((p2) - (a2))))))) ≤ ((0 : Int)))) = false → ((szR (((((b1) - (a1))) * (((p1) - (a1))) + (((b2) - (a2))) * (((p2) - (a2))))) ≤ 1000000 ∧ szR (((((b1) - (a1))) * (((b1) - (a1))) + (((b2) - (a2))) * (((b2) - (a2))))) ≤ 1000000) ∧ (((decide (((Rt.sg ((((((b1) - (a1))) * (((p1) - (a1))) + (((b2) - (a2))) * (((p2) - (a2))))) - (((((b1) - (a1))) * (((b1) - (a1))) + (((b2) - (a2))) * (((b2) - (a2)))))))) ≥ ((0 : Int)))) = true → ((szR (b1) ≤ 100000 ∧ szR (b2) ≤ 100000 ∧ szR (p1) ≤ 100000 ∧ szR (p2) ≤ 100000) ∧ ((szR (((p1) - (b1))) ≤ 100000 ∧ szR (((p2) - (b2))) ≤ 100000 ∧ szR (((p1) - (b1))) ≤ 100000 ∧ szR (((p2) - (b2))) ≤ 100000) ∧ ((szR (((((p1) - (b1))) * (((p1) - (b1))) + (((p2) - (b2))) * (((p2) - (b2))))) ≤ 1000000 ∧ szR (((r) * (r))) ≤ 1000000) ∧ (Value.bool (decide (((Rt.sg ((((((p1) - (b1))) * (((p1) - (b1))) + (((p2) - (b2))) * (((p2) - (b2))))) - (((r) * (r)))))) ≤ ((0 : Int)))) = (.bool ((decide (Rt.seg ⟨a1, a2⟩ ⟨b1, b2⟩ ⟨p1, p2⟩ ≤ r * r))))))))) ∧ ((decide (((Rt.sg ((((((b1) - (a1))) * (((p1) - (a1))) + (((b2) - (a2))) * (((p2) - (a2))))) - (((((b1) - (a1))) * (((b1) - (a1))) + (((b2) - (a2))) * (((b2) - (a2)))))))) ≥ ((0 : Int)))) = false → (((szR (((b1) - (a1))) ≤ 100000 ∧ szR (((b2) - (a2))) ≤ 100000) ∧ szR (((p1) - (a1))) ≤ 100000 ∧ szR (((p2) - (a2))) ≤ 100000) ∧ ((szR (((((b1) - (a1))) * (((p2) - (a2))) - (((b2) - (a2))) * (((p1) - (a1))))) ≤ 1000000) ∧ ((szR (((r) * (r))) ≤ 1000000 ∧ szR (((((b1) - (a1))) * (((b1) - (a1))) + (((b2) - (a2))) * (((b2) - (a2))))) ≤ 1000000) ∧ ((szR (((((((b1) - (a1))) * (((p2) - (a2))) - (((b2) - (a2))) * (((p1) - (a1))))) * (((((b1) - (a1))) * (((p2) - (a2))) - (((b2) - (a2))) * (((p1) - (a1))))))) ≤ 1000000 ∧ szR (((((r) * (r))) * (((((b1) - (a1))) * (((b1) - (a1))) + (((b2) - (a2))) * (((b2) - (a2))))))) ≤ 1000000) ∧ (Value.bool (decide (((Rt.sg ((((((((b1) - (a1))) * (((p2) - (a2))) - (((b2) - (a2))) * (((p1) - (a1))))) * (((((b1) - (a1))) * (((p2) - (a2))) - (((b2) - (a2))) * (((p1) - (a1))))))) - (((((r) * (r))) * (((((b1) - (a1))) * (((b1) - (a1))) + (((b2) - (a2))) * (((b2) - (a2)))))))))) ≤ ((0 : Int)))) = (.bool ((decide (Rt.seg ⟨a1, a2⟩ ⟨b1, b2⟩ ⟨p1, p2⟩ ≤ r * r)))))))))))))))))))) = owes LT XT2 [] Tryz.f42 (Tryz.f42.body.getD .skip) [.g [.R (a1), .R (a2)], .g [.R (b1), .R (b2)], .g [.R (p1), .R (p2)], .g [.R (r)]] (.k (.c (.v (.bool ((decide (Rt.seg ⟨a1, a2⟩ ⟨b1, b2⟩ ⟨p1, p2⟩ ≤ r * r))))))) by kernel_rfl) ?_
  obtain ⟨h1, h2, h3, h4, h5, h6, h7⟩ := hp
  ((repeat' first | apply And.intro | (intro _)) <;> first | trivial | rfl | (first | omega | (apply Nat.le_trans; (focus (repeat' first | assumption | apply szR_sub_le | apply szR_add_le | apply szR_mul_le)); omega)) | skip)
  · rename_i hA
    have kA := Rt.sg_le.1 (of_decide_eq_true hA)
    rw [seg1 kA]
    exact congrArg Value.bool (decide_eq_decide.2 Rt.sub_sg_le)
  · rename_i hA hB
    have kA := fun c => of_decide_eq_false hA (Rt.sg_le.2 c)
    have kB := sub_sg_ge.1 (of_decide_eq_true hB)
    rw [seg2 kA kB]
    exact congrArg Value.bool (decide_eq_decide.2 Rt.sub_sg_le)
  · rename_i hA hB
    have kA := fun c => of_decide_eq_false hA (Rt.sg_le.2 c)
    have kB := fun c => of_decide_eq_false hB (sub_sg_ge.2 c)
    have hL : 0 < (b1 - a1) * (b1 - a1) + (b2 - a2) * (b2 - a2) := by
      exact Std.lt_trans (Rat.not_le.1 kA) (Rat.not_le.1 kB)
    rw [seg3 kA kB]
    exact congrArg Value.bool (decide_eq_decide.2 (Rt.sub_sg_le.trans (Rt.le_div hL).symm))
set_option maxHeartbeats 4000000 in
theorem cKnear_ok : CtrOK Tryz.prog cKnear := .of (by kernel_rfl) (fun bs w xs vs pre r hr hA hG h hp => by
  simp only [cKnear] at h
  split at h
  · cases h
    exact ctr_calls mixed LT_ok XT2_ok Tryz.func42 (by kernel_rfl) hr hA hG rfl rfl (cKnear_owes _ _ _ _ _ _ _ hp)
  · cases h) (fun xs α pre φ r => by simp only [cKnear]; split <;> (intro h; cases h))
def XT3 : List Ctr := XT2 ++ [cKnear]
theorem XT3_ok : ∀ c ∈ XT3, CtrOK Tryz.prog c := ok_app XT2_ok (by
  intro c hc
  simp only [List.mem_cons, List.not_mem_nil, or_false] at hc
  rcases hc with rfl
  · exact cKnear_ok)
def cKpass : Ctr := ⟨23, fun | [.c (.pt (l)), .g [.R (v1), .R (v2)], .g [.R (r)]] => .yes (Rt.okp l ∧ szR v1 ≤ 90 ∧ szR v2 ≤ 90 ∧ szR r ≤ 90) (.k (.c (.v (.bool ((Rt.edB l ⟨v1, v2⟩ (r * r) l.length)))))) | _ => .no⟩
theorem cKpass_owes (l : List (Int × Int)) (v1 v2 r : Rat) (hp : Rt.okp l ∧ szR v1 ≤ 90 ∧ szR v2 ≤ 90 ∧ szR r ≤ 90) : owes LT XT3 [.inv 2 (Nat) (fun ξ => ⟨[.k (.c (.pt (l))), .u, .u, .u, .k (.c (.bx 0 0)), .k (.c (.bx 1 0)), .u, .k (.c (.v (.int .i64 ((ξ : Int))))), .u, .u, .u, .u, .u, .u, .u, .u, .u, .u, .u, .u, .u, .u, .u, .u, .u, .u], [⟨29, [.R (v1), .R (v2)]⟩, ⟨27, [.R (r)]⟩]⟩) (fun _ ξ => (ξ ≤ l.length ∧ Rt.edB l ⟨v1, v2⟩ (r * r) ξ = false)) (fun ξ => l.length - ξ)] Tryz.f23 (Tryz.f23.body.getD .skip) [.c (.pt (l)), .g [.R (v1), .R (v2)], .g [.R (r)]] (.k (.c (.v (.bool ((Rt.edB l ⟨v1, v2⟩ (r * r) l.length)))))) := by
  refine Eq.mp (show ((∃ x1 : Nat, (((x1 ≤ l.length ∧ Rt.edB l ⟨v1, v2⟩ (r * r) x1 = false)) ∧ (((l = l) ∧ ((True) ∧ ((True) ∧ ((Value.int .i64 ((0 : Int)) = (.int .i64 ((x1 : Int)))) ∧ (True))))) ∧ (((v1 = v1) ∧ ((v2 = v2) ∧ (True))) ∧ (((r = r) ∧ (True)) ∧ (True)))))) ∧ (∀ x1 : Nat, ((x1 ≤ l.length ∧ Rt.edB l ⟨v1, v2⟩ (r * r) x1 = false) → (((decide (((x1 : Int)) < (((l).length : Int)))) = true → ((0 ≤ (x1 : Int) ∧ (x1 : Int) < ((l).length : Int)) ∧ (((-9223372036854775808 ≤ (((l).getD ((x1 : Int)).toNat (0, 0)).1) ∧ (((l).getD ((x1 : Int)).toNat (0, 0)).1) ≤ 9223372036854775807) ∧ -9223372036854775808 ≤ (((l).getD ((x1 : Int)).toNat (0, 0)).2) ∧ (((l).getD ((x1 : Int)).toNat (0, 0)).2) ≤ 9223372036854775807) ∧ (((0 ≤ (x1 : Int) ∧ (x1 : Int) < ((l).length : Int)) ∧ (l).length ≤ 1000000000) ∧ (((-9223372036854775808 ≤ (((l).getD (Rt.nxt (l) ((x1 : Int)).toNat) (0, 0)).1) ∧ (((l).getD (Rt.nxt (l) ((x1 : Int)).toNat) (0, 0)).1) ≤ 9223372036854775807) ∧ -9223372036854775808 ≤ (((l).getD (Rt.nxt (l) ((x1 : Int)).toNat) (0, 0)).2) ∧ (((l).getD (Rt.nxt (l) ((x1 : Int)).toNat) (0, 0)).2) ≤ 9223372036854775807) ∧ ((szR ((((((l).getD ((x1 : Int)).toNat (0, 0)).1 : Int)) : Rat)) ≤ 100 ∧ szR ((((((l).getD ((x1 : Int)).toNat (0, 0)).2 : Int)) : Rat)) ≤ 100 ∧ szR ((((((l).getD (Rt.nxt (l) ((x1 : Int)).toNat) (0, 0)).1 : Int)) : Rat)) ≤ 100 ∧ szR ((((((l).getD (Rt.nxt (l) ((x1 : Int)).toNat) (0, 0)).2 : Int)) : Rat)) ≤ 100 ∧ szR (v1) ≤ 100 ∧ szR (v2) ≤ 100 ∧ szR (r) ≤ 100) ∧ ((((decide (Rt.seg ⟨((((((l).getD ((x1 : Int)).toNat (0, 0)).1 : Int)) : Rat)), ((((((l).getD ((x1 : Int)).toNat (0, 0)).2 : Int)) : Rat))⟩ ⟨((((((l).getD (Rt.nxt (l) ((x1 : Int)).toNat) (0, 0)).1 : Int)) : Rat)), ((((((l).getD (Rt.nxt (l) ((x1 : Int)).toNat) (0, 0)).2 : Int)) : Rat))⟩ ⟨(v1), (v2)⟩ ≤ (r) * (r)))) = true → (Value.bool (true) = (.bool ((Rt.edB l ⟨v1, v2⟩ (r * r) l.length))))) ∧ (((decide (Rt.seg ⟨((((((l).getD ((x1 : Int)).toNat (0, 0)).1 : Int)) : Rat)), ((((((l).getD ((x1 : Int)).toNat (0, 0)).2 : Int)) : Rat))⟩ ⟨((((((l).getD (Rt.nxt (l) ((x1 : Int)).toNat) (0, 0)).1 : Int)) : Rat)), ((((((l).getD (Rt.nxt (l) ((x1 : Int)).toNat) (0, 0)).2 : Int)) : Rat))⟩ ⟨(v1), (v2)⟩ ≤ (r) * (r)))) = false → ((inR .i64 (((x1 : Int)) + ((1 : Int)))) ∧ (∃ y1 : Nat, (((y1 ≤ l.length ∧ Rt.edB l ⟨v1, v2⟩ (r * r) y1 = false)) ∧ ((l.length - y1 < l.length - x1) ∧ (((l = l) ∧ ((True) ∧ ((True) ∧ ((Value.int .i64 (((x1 : Int)) + ((1 : Int))) = (.int .i64 ((y1 : Int)))) ∧ (True))))) ∧ (((v1 = v1) ∧ ((v2 = v2) ∧ (True))) ∧ (((r = r) ∧ (True)) ∧ (True)))))))))))))))) ∧ ((decide (((x1 : Int)) < (((l).length : Int)))) = false → (Value.bool (false) = (.bool ((Rt.edB l ⟨v1, v2⟩ (r * r) l.length))))))))) = owes LT XT3 [.inv 2 (Nat) (fun ξ => ⟨[.k (.c (.pt (l))), .u, .u, .u, .k (.c (.bx 0 0)), .k (.c (.bx 1 0)), .u, .k (.c (.v (.int .i64 ((ξ : Int))))), .u, .u, .u, .u, .u, .u, .u, .u, .u, .u, .u, .u, .u, .u, .u, .u, .u, .u], [⟨29, [.R (v1), .R (v2)]⟩, ⟨27, [.R (r)]⟩]⟩) (fun _ ξ => (ξ ≤ l.length ∧ Rt.edB l ⟨v1, v2⟩ (r * r) ξ = false)) (fun ξ => l.length - ξ)] Tryz.f23 (Tryz.f23.body.getD .skip) [.c (.pt (l)), .g [.R (v1), .R (v2)], .g [.R (r)]] (.k (.c (.v (.bool ((Rt.edB l ⟨v1, v2⟩ (r * r) l.length)))))) by kernel_rfl) ?_
  obtain ⟨ho, h1, h2, h3⟩ := hp
  refine ⟨⟨0, ⟨Nat.zero_le _, rfl⟩, by simp, by simp, by simp, trivial⟩, ?_⟩
  rintro k ⟨hk, he⟩
  simp only [Int.toNat_natCast]
  have A := ho.1 k
  have B := ho.1 (Rt.nxt l k)
  have sa1 := szR_int A.1
  have sa2 := szR_int A.2
  have sb1 := szR_int B.1
  have sb2 := szR_int B.2
  have hlen := ho.2
  refine ⟨fun h => ?_, fun h => ?_⟩
  · have hkl : k < l.length := by simpa using h
    have hs : Rt.edB l ⟨v1, v2⟩ (r * r) (k + 1) = decide (Rt.seg (Rt.pt l k) (Rt.pt l (Rt.nxt l k)) ⟨v1, v2⟩ ≤ r * r) := by
      show (Rt.edB l ⟨v1, v2⟩ (r * r) k || _) = _
      rw [he, Bool.false_or]
    refine ⟨⟨by omega, by omega⟩, A, ⟨⟨by omega, by omega⟩, hlen⟩, B, ⟨by omega, by omega, by omega, by omega, by omega, by omega, by omega⟩, fun c => ?_, fun c => ?_⟩
    · rw [Rt.edB_true (k := k + 1) hkl (hs.trans c)]
    · exact ⟨by simp only [inR]; omega, k + 1, ⟨hkl, hs.trans c⟩, by omega, by simp, by simp, by simp, trivial⟩
  · have hkl : k = l.length := by
      have := of_decide_eq_false h
      omega
    subst hkl
    rw [he]
theorem cKpass_ok : CtrOK Tryz.prog cKpass := .of (by kernel_rfl) (fun bs w xs vs pre r hr hA hG h hp => by
  simp only [cKpass] at h
  split at h
  · cases h
    exact ctr_calls mixed LT_ok XT3_ok Tryz.func23 (by kernel_rfl) hr hA hG rfl rfl (cKpass_owes _ _ _ _ hp)
  · cases h) (fun xs α pre φ r => by simp only [cKpass]; split <;> (intro h; cases h))
def XT4 : List Ctr := XT3 ++ [cKpass]
theorem XT4_ok : ∀ c ∈ XT4, CtrOK Tryz.prog c := ok_app XT3_ok (by
  intro c hc
  simp only [List.mem_cons, List.not_mem_nil, or_false] at hc
  rcases hc with rfl
  · exact cKpass_ok)
def cKcov : Ctr := ⟨9, fun | [.c (.pp (ps)), .c (.v (.int .i64 (r))), .g [.R (v1), .R (v2)]] => .yes ((∀ j, Rt.okp (ps.getD j [])) ∧ ps.length ≤ 1000000000 ∧ (-9223372036854775808 ≤ r ∧ r ≤ 9223372036854775807) ∧ szR v1 ≤ 90 ∧ szR v2 ≤ 90) (.k (.c (.v (.bool ((Rt.covB ps r ⟨v1, v2⟩)))))) | _ => .no⟩
theorem cKcov_owes (ps : List (List (Int × Int))) (r : Int) (v1 v2 : Rat) (hp : (∀ j, Rt.okp (ps.getD j [])) ∧ ps.length ≤ 1000000000 ∧ (-9223372036854775808 ≤ r ∧ r ≤ 9223372036854775807) ∧ szR v1 ≤ 90 ∧ szR v2 ≤ 90) : owes LT XT4 [.inv 4 (Nat) (fun ξ => ⟨[.k (.c (.pp (ps))), .k (.c (.v (.int .i64 (r)))), .u, .u, .u, .k (.c (.bx 0 0)), .u, .k (.c (.v (.int .i64 ((ξ : Int))))), .u, .u, .u, .u, .u, .u, .u, .u, .u, .u, .u, .u, .u, .u, .u, .u], [⟨29, [.R (v1), .R (v2)]⟩]⟩) (fun _ ξ => (ξ ≤ ps.length ∧ Rt.cvB ps ⟨v1, v2⟩ ((r : Rat) * (r : Rat)) ξ = false)) (fun ξ => ps.length - ξ)] Tryz.f9 (Tryz.f9.body.getD .skip) [.c (.pp (ps)), .c (.v (.int .i64 (r))), .g [.R (v1), .R (v2)]] (.k (.c (.v (.bool ((Rt.covB ps r ⟨v1, v2⟩)))))) := by
  refine Eq.mp (show (((decide ((r) < ((0 : Int)))) = true → (Value.bool (false) = (.bool ((Rt.covB ps r ⟨v1, v2⟩))))) ∧ ((decide ((r) < ((0 : Int)))) = false → ((∃ x1 : Nat, (((x1 ≤ ps.length ∧ Rt.cvB ps ⟨v1, v2⟩ ((r : Rat) * (r : Rat)) x1 = false)) ∧ (((ps = ps) ∧ ((Value.int .i64 (r) = (.int .i64 (r))) ∧ ((True) ∧ ((Value.int .i64 ((0 : Int)) = (.int .i64 ((x1 : Int)))) ∧ (True))))) ∧ (((v1 = v1) ∧ ((v2 = v2) ∧ (True))) ∧ (True))))) ∧ (∀ x1 : Nat, ((x1 ≤ ps.length ∧ Rt.cvB ps ⟨v1, v2⟩ ((r : Rat) * (r : Rat)) x1 = false) → (((decide (((x1 : Int)) < (((ps).length : Int)))) = true → ((0 ≤ (x1 : Int) ∧ (x1 : Int) < ((ps).length : Int)) ∧ ((-9223372036854775808 ≤ (r) ∧ (r) ≤ 9223372036854775807) ∧ ((Rt.okp (((ps).getD ((x1 : Int)).toNat [])) ∧ szR (v1) ≤ 90 ∧ szR (v2) ≤ 90 ∧ szR (((r) : Rat)) ≤ 90) ∧ ((((Rt.edB (((ps).getD ((x1 : Int)).toNat [])) ⟨(v1), (v2)⟩ ((((r) : Rat)) * (((r) : Rat))) (((ps).getD ((x1 : Int)).toNat [])).length)) = true → (Value.bool (true) = (.bool ((Rt.covB ps r ⟨v1, v2⟩))))) ∧ (((Rt.edB (((ps).getD ((x1 : Int)).toNat [])) ⟨(v1), (v2)⟩ ((((r) : Rat)) * (((r) : Rat))) (((ps).getD ((x1 : Int)).toNat [])).length)) = false → ((inR .i64 (((x1 : Int)) + ((1 : Int)))) ∧ (∃ y1 : Nat, (((y1 ≤ ps.length ∧ Rt.cvB ps ⟨v1, v2⟩ ((r : Rat) * (r : Rat)) y1 = false)) ∧ ((ps.length - y1 < ps.length - x1) ∧ (((ps = ps) ∧ ((Value.int .i64 (r) = (.int .i64 (r))) ∧ ((True) ∧ ((Value.int .i64 (((x1 : Int)) + ((1 : Int))) = (.int .i64 ((y1 : Int)))) ∧ (True))))) ∧ (((v1 = v1) ∧ ((v2 = v2) ∧ (True))) ∧ (True))))))))))))) ∧ ((decide (((x1 : Int)) < (((ps).length : Int)))) = false → (Value.bool (false) = (.bool ((Rt.covB ps r ⟨v1, v2⟩))))))))))) = owes LT XT4 [.inv 4 (Nat) (fun ξ => ⟨[.k (.c (.pp (ps))), .k (.c (.v (.int .i64 (r)))), .u, .u, .u, .k (.c (.bx 0 0)), .u, .k (.c (.v (.int .i64 ((ξ : Int))))), .u, .u, .u, .u, .u, .u, .u, .u, .u, .u, .u, .u, .u, .u, .u, .u], [⟨29, [.R (v1), .R (v2)]⟩]⟩) (fun _ ξ => (ξ ≤ ps.length ∧ Rt.cvB ps ⟨v1, v2⟩ ((r : Rat) * (r : Rat)) ξ = false)) (fun ξ => ps.length - ξ)] Tryz.f9 (Tryz.f9.body.getD .skip) [.c (.pp (ps)), .c (.v (.int .i64 (r))), .g [.R (v1), .R (v2)]] (.k (.c (.v (.bool ((Rt.covB ps r ⟨v1, v2⟩)))))) by kernel_rfl) ?_
  obtain ⟨hps, hn, hr, hv1, hv2⟩ := hp
  have hr3 : szR (r : Rat) ≤ 3 := szR_int hr
  refine ⟨fun h => ?_, fun h => ?_⟩
  · unfold Rt.covB
    rw [h]
    rfl
  have hcov : Rt.covB ps r ⟨v1, v2⟩ = Rt.cvB ps ⟨v1, v2⟩ ((r : Rat) * (r : Rat)) ps.length := by
    unfold Rt.covB
    rw [h]
    rfl
  rw [hcov]
  refine ⟨⟨0, ⟨Nat.zero_le _, rfl⟩, by simp, by simp, trivial⟩, ?_⟩
  rintro j ⟨hj, hcj⟩
  simp only [Int.toNat_natCast]
  refine ⟨fun h2 => ?_, fun h2 => ?_⟩
  · have hjl : j < ps.length := by simpa using h2
    have hcs : Rt.cvB ps ⟨v1, v2⟩ ((r : Rat) * (r : Rat)) (j + 1) = Rt.edB (ps.getD j []) ⟨v1, v2⟩ ((r : Rat) * (r : Rat)) (ps.getD j []).length := by
      show (Rt.cvB ps ⟨v1, v2⟩ ((r : Rat) * (r : Rat)) j || _) = _
      rw [hcj, Bool.false_or]
    refine ⟨⟨by omega, by omega⟩, hr, ⟨hps j, hv1, hv2, by omega⟩, fun c => ?_, fun c => ?_⟩
    · rw [Rt.cvB_true (k := j + 1) hjl (hcs.trans c)]
    · exact ⟨by simp only [inR]; omega, j + 1, ⟨hjl, hcs.trans c⟩, by omega, by simp, by simp, trivial⟩
  · have hjl : j = ps.length := by
      have := of_decide_eq_false h2
      omega
    subst hjl
    rw [hcj]
theorem cKcov_ok : CtrOK Tryz.prog cKcov := .of (by kernel_rfl) (fun bs w xs vs pre r hr hA hG h hp => by
  simp only [cKcov] at h
  split at h
  · cases h
    exact ctr_calls mixed LT_ok XT4_ok Tryz.func9 (by kernel_rfl) hr hA hG rfl rfl (cKcov_owes _ _ _ _ hp)
  · cases h) (fun xs α pre φ r => by simp only [cKcov]; split <;> (intro h; cases h))
theorem wB_zero {v a b : Rt.V2} (h : (decide (Rt.sg (a.y - v.y) ≥ 0) == decide (Rt.sg (b.y - v.y) ≥ 0)) = true) : Rt.wB v a b = 0 := by
  rw [beq_iff_eq, decide_eq_decide, sub_sg_ge, sub_sg_ge] at h
  exact if_pos h
theorem wB_ne {v a b : Rt.V2} (h : (decide (Rt.sg (a.y - v.y) ≥ 0) == decide (Rt.sg (b.y - v.y) ≥ 0)) = false) : Rt.wB v a b = (if v.y ≤ b.y ∧ 0 < Rt.side a b v then 1 else 0) + (if v.y ≤ a.y ∧ Rt.side a b v < 0 then -1 else 0) := by
  rw [beq_eq_false_iff_ne, ne_eq, decide_eq_decide, sub_sg_ge, sub_sg_ge] at h
  exact if_neg h
theorem wB_c1 {v b : Rt.V2} {s : Int} : (bif decide (Rt.sg (b.y - v.y) ≥ 0) then decide (s > 0) else false) = true ↔ v.y ≤ b.y ∧ 0 < s := by
  have := @sub_sg_ge b.y v.y
  by_cases h : Rt.sg (b.y - v.y) ≥ 0
  · simp [h, this.1 h]
  · have h2 : ¬ v.y ≤ b.y := fun c => h (this.2 c)
    simp [h, h2]
theorem wB_c2 {v b : Rt.V2} {s : Int} : (bif decide (Rt.sg (b.y - v.y) ≥ 0) then decide (s < 0) else false) = true ↔ v.y ≤ b.y ∧ s < 0 := by
  have := @sub_sg_ge b.y v.y
  by_cases h : Rt.sg (b.y - v.y) ≥ 0
  · simp [h, this.1 h]
  · have h2 : ¬ v.y ≤ b.y := fun c => h (this.2 c)
    simp [h, h2]
theorem wB_11 {v a b : Rt.V2} (c1 : (bif decide (Rt.sg (b.y - v.y) ≥ 0) then decide (Rt.side a b v > 0) else false) = true) (c2 : (bif decide (Rt.sg (a.y - v.y) ≥ 0) then decide (Rt.side a b v < 0) else false) = true) : False := by
  have h1 := (wB_c1.1 c1).2
  have h2 := (wB_c2.1 c2).2
  omega
section
variable {v a b : Rt.V2} (h : (decide (Rt.sg (a.y - v.y) ≥ 0) == decide (Rt.sg (b.y - v.y) ≥ 0)) = false)
include h
theorem wB_10 (c1 : (bif decide (Rt.sg (b.y - v.y) ≥ 0) then decide (Rt.side a b v > 0) else false) = true) (c2 : (bif decide (Rt.sg (a.y - v.y) ≥ 0) then decide (Rt.side a b v < 0) else false) = false) : Rt.wB v a b = 1 := by
  rw [wB_ne h, if_pos (wB_c1.1 c1), if_neg (fun c => by rw [wB_c2.2 c] at c2; cases c2)]; rfl
theorem wB_01 (c1 : (bif decide (Rt.sg (b.y - v.y) ≥ 0) then decide (Rt.side a b v > 0) else false) = false) (c2 : (bif decide (Rt.sg (a.y - v.y) ≥ 0) then decide (Rt.side a b v < 0) else false) = true) : Rt.wB v a b = -1 := by
  rw [wB_ne h, if_pos (wB_c2.1 c2), if_neg (fun c => by rw [wB_c1.2 c] at c1; cases c1)]; rfl
theorem wB_00 (c1 : (bif decide (Rt.sg (b.y - v.y) ≥ 0) then decide (Rt.side a b v > 0) else false) = false) (c2 : (bif decide (Rt.sg (a.y - v.y) ≥ 0) then decide (Rt.side a b v < 0) else false) = false) : Rt.wB v a b = 0 := by
  rw [wB_ne h, if_neg (fun c => by rw [wB_c1.2 c] at c1; cases c1), if_neg (fun c => by rw [wB_c2.2 c] at c2; cases c2)]; rfl
end
theorem wB_bound (v a b : Rt.V2) : -1 ≤ Rt.wB v a b ∧ Rt.wB v a b ≤ 1 := by
  unfold Rt.wB
  split
  · omega
  · split <;> split <;> omega
theorem sumB_bound (f : Nat → Int) (hf : ∀ i, -1 ≤ f i ∧ f i ≤ 1) : ∀ k : Nat, -(k : Int) ≤ Rt.sumN f k ∧ Rt.sumN f k ≤ k
  | 0 => by unfold Rt.sumN; omega
  | k + 1 => by
    have := sumB_bound f hf k
    have := hf k
    unfold Rt.sumN
    omega
theorem on_iff {l : List (Int × Int)} {v : Rt.V2} : Rt.edB l v (((0 : Int) : Rat) * ((0 : Int) : Rat)) l.length = true ↔ Rt.onP l v := by
  have hz : ((0 : Int) : Rat) * ((0 : Int) : Rat) = 0 := by simp
  rw [hz, Rt.edB_iff]
  constructor
  · rintro ⟨i, hi, h⟩
    exact ⟨i, hi, Rat.le_antisymm h (Rt.seg_nonneg _ _ _)⟩
  · rintro ⟨i, hi, h⟩
    refine ⟨i, hi, ?_⟩
    unfold Rt.nxt
    rw [h]
    exact Rat.le_refl
def cKwind : Ctr := ⟨13, fun | [.c (.pt (l)), .g [.R (v1), .R (v2)]] => .yes (Rt.okp l ∧ szR v1 ≤ 90 ∧ szR v2 ≤ 90) (.t [.c (.v (.int .i64 ((Rt.windN l ⟨v1, v2⟩)))), .c (.v (.int .i64 ((Rt.windE l ⟨v1, v2⟩))))]) | _ => .no⟩
set_option maxHeartbeats 4000000 in
theorem cKwind_owes (l : List (Int × Int)) (v1 v2 : Rat) (hp : Rt.okp l ∧ szR v1 ≤ 90 ∧ szR v2 ≤ 90) : owes LT XT4 [.inv 5 (Nat) (fun ξ => ⟨[.k (.c (.pt (l))), .u, .u, .k (.c (.bx 0 0)), .u, .u, .k (.c (.v (.int .i64 ((Rt.sumN (fun i => Rt.wB ⟨v1, v2⟩ (Rt.pt l i) (Rt.pt l (Rt.nxt l i))) ξ))))), .k (.c (.v (.int .i64 ((ξ : Int))))), .u, .u, .u, .u, .u, .u, .u, .u, .u, .u, .u, .u, .u, .u, .u, .u, .u, .u, .u, .u, .u, .u, .u, .u, .u, .u, .u, .u, .u, .u, .u, .u, .u, .u, .u, .u, .u, .u, .u, .u, .u, .u, .u, .u, .u, .u, .u, .u, .u, .u, .u, .u, .u, .u, .u, .u, .u, .u, .u, .u, .u, .u, .u, .u, .u, .u, .u], [⟨29, [.R (v1), .R (v2)]⟩]⟩) (fun _ ξ => (ξ ≤ l.length)) (fun ξ => l.length - ξ)] Tryz.f13 (Tryz.f13.body.getD .skip) [.c (.pt (l)), .g [.R (v1), .R (v2)]] (.t [.c (.v (.int .i64 ((Rt.windN l ⟨v1, v2⟩)))), .c (.v (.int .i64 ((Rt.windE l ⟨v1, v2⟩))))]) := by
  refine Eq.mp (show (((((((l).length : Int)) == ((0 : Int))) == false) = true → (-9223372036854775808 ≤ ((0 : Int)) ∧ ((0 : Int)) ≤ 9223372036854775807)) ∧ (((((((l).length : Int)) == ((0 : Int))) == false) = true → (Rt.okp (l) ∧ szR (v1) ≤ 90 ∧ szR (v2) ≤ 90 ∧ szR ((((0 : Int)) : Rat)) ≤ 90)) ∧ (((bif ((((l).length : Int)) == ((0 : Int))) then (true) else ((Rt.edB (l) ⟨(v1), (v2)⟩ (((((0 : Int)) : Rat)) * ((((0 : Int)) : Rat))) (l).length))) = true → ((Value.int .i64 ((0 : Int)) = (.int .i64 ((Rt.windN l ⟨v1, v2⟩)))) ∧ ((Value.int .i64 ((1 : Int)) = (.int .i64 ((Rt.windE l ⟨v1, v2⟩)))) ∧ (True)))) ∧ ((bif ((((l).length : Int)) == ((0 : Int))) then (true) else ((Rt.edB (l) ⟨(v1), (v2)⟩ (((((0 : Int)) : Rat)) * ((((0 : Int)) : Rat))) (l).length))) = false → ((∃ x1 : Nat, (((x1 ≤ l.length)) ∧ (((l = l) ∧ ((True) ∧ ((Value.int .i64 ((0 : Int)) = (.int .i64 ((Rt.sumN (fun i => Rt.wB ⟨v1, v2⟩ (Rt.pt l i) (Rt.pt l (Rt.nxt l i))) x1)))) ∧ ((Value.int .i64 ((0 : Int)) = (.int .i64 ((x1 : Int)))) ∧ (True))))) ∧ (((v1 = v1) ∧ ((v2 = v2) ∧ (True))) ∧ (True))))) ∧ (∀ x1 : Nat, ((x1 ≤ l.length) → (((decide (((x1 : Int)) < (((l).length : Int)))) = true → ((0 ≤ (x1 : Int) ∧ (x1 : Int) < ((l).length : Int)) ∧ (((-9223372036854775808 ≤ (((l).getD ((x1 : Int)).toNat (0, 0)).1) ∧ (((l).getD ((x1 : Int)).toNat (0, 0)).1) ≤ 9223372036854775807) ∧ -9223372036854775808 ≤ (((l).getD ((x1 : Int)).toNat (0, 0)).2) ∧ (((l).getD ((x1 : Int)).toNat (0, 0)).2) ≤ 9223372036854775807) ∧ (((0 ≤ (x1 : Int) ∧ (x1 : Int) < ((l).length : Int)) ∧ (l).length ≤ 1000000000) ∧ (((-9223372036854775808 ≤ (((l).getD (Rt.nxt (l) ((x1 : Int)).toNat) (0, 0)).1) ∧ (((l).getD (Rt.nxt (l) ((x1 : Int)).toNat) (0, 0)).1) ≤ 9223372036854775807) ∧ -9223372036854775808 ≤ (((l).getD (Rt.nxt (l) ((x1 : Int)).toNat) (0, 0)).2) ∧ (((l).getD (Rt.nxt (l) ((x1 : Int)).toNat) (0, 0)).2) ≤ 9223372036854775807) ∧ ((szR ((((((l).getD ((x1 : Int)).toNat (0, 0)).2 : Int)) : Rat)) ≤ 1000000 ∧ szR (v2) ≤ 1000000) ∧ ((szR ((((((l).getD (Rt.nxt (l) ((x1 : Int)).toNat) (0, 0)).2 : Int)) : Rat)) ≤ 1000000 ∧ szR (v2) ≤ 1000000) ∧ ((((decide (((Rt.sg (((((((l).getD ((x1 : Int)).toNat (0, 0)).2 : Int)) : Rat)) - (v2)))) ≥ ((0 : Int)))) == (decide (((Rt.sg (((((((l).getD (Rt.nxt (l) ((x1 : Int)).toNat) (0, 0)).2 : Int)) : Rat)) - (v2)))) ≥ ((0 : Int))))) = true → ((inR .i64 (((x1 : Int)) + ((1 : Int)))) ∧ (∃ y1 : Nat, (((y1 ≤ l.length)) ∧ ((l.length - y1 < l.length - x1) ∧ (((l = l) ∧ ((True) ∧ ((Value.int .i64 ((Rt.sumN (fun i => Rt.wB ⟨v1, v2⟩ (Rt.pt l i) (Rt.pt l (Rt.nxt l i))) x1)) = (.int .i64 ((Rt.sumN (fun i => Rt.wB ⟨v1, v2⟩ (Rt.pt l i) (Rt.pt l (Rt.nxt l i))) y1)))) ∧ ((Value.int .i64 (((x1 : Int)) + ((1 : Int))) = (.int .i64 ((y1 : Int)))) ∧ (True))))) ∧ (((v1 = v1) ∧ ((v2 = v2) ∧ (True))) ∧ (True)))))))) ∧ (((decide (((Rt.sg (((((((l).getD ((x1 : Int)).toNat (0, 0)).2 : Int)) : Rat)) - (v2)))) ≥ ((0 : Int)))) == (decide (((Rt.sg (((((((l).getD (Rt.nxt (l) ((x1 : Int)).toNat) (0, 0)).2 : Int)) : Rat)) - (v2)))) ≥ ((0 : Int))))) = false → ((szR ((((((l).getD ((x1 : Int)).toNat (0, 0)).1 : Int)) : Rat)) ≤ 100000 ∧ szR ((((((l).getD ((x1 : Int)).toNat (0, 0)).2 : Int)) : Rat)) ≤ 100000 ∧ szR ((((((l).getD (Rt.nxt (l) ((x1 : Int)).toNat) (0, 0)).1 : Int)) : Rat)) ≤ 100000 ∧ szR ((((((l).getD (Rt.nxt (l) ((x1 : Int)).toNat) (0, 0)).2 : Int)) : Rat)) ≤ 100000) ∧ ((szR ((((((l).getD ((x1 : Int)).toNat (0, 0)).1 : Int)) : Rat)) ≤ 100000 ∧ szR ((((((l).getD ((x1 : Int)).toNat (0, 0)).2 : Int)) : Rat)) ≤ 100000 ∧ szR (v1) ≤ 100000 ∧ szR (v2) ≤ 100000) ∧ (((szR ((((((((l).getD (Rt.nxt (l) ((x1 : Int)).toNat) (0, 0)).1 : Int)) : Rat)) - ((((((l).getD ((x1 : Int)).toNat (0, 0)).1 : Int)) : Rat)))) ≤ 100000 ∧ szR ((((((((l).getD (Rt.nxt (l) ((x1 : Int)).toNat) (0, 0)).2 : Int)) : Rat)) - ((((((l).getD ((x1 : Int)).toNat (0, 0)).2 : Int)) : Rat)))) ≤ 100000) ∧ szR (((v1) - ((((((l).getD ((x1 : Int)).toNat (0, 0)).1 : Int)) : Rat)))) ≤ 100000 ∧ szR (((v2) - ((((((l).getD ((x1 : Int)).toNat (0, 0)).2 : Int)) : Rat)))) ≤ 100000) ∧ ((True) ∧ (((bif (decide (((Rt.sg (((((((l).getD (Rt.nxt (l) ((x1 : Int)).toNat) (0, 0)).2 : Int)) : Rat)) - (v2)))) ≥ ((0 : Int)))) then (decide (((Rt.sg ((((((((((l).getD (Rt.nxt (l) ((x1 : Int)).toNat) (0, 0)).1 : Int)) : Rat)) - ((((((l).getD ((x1 : Int)).toNat (0, 0)).1 : Int)) : Rat)))) * (((v2) - ((((((l).getD ((x1 : Int)).toNat (0, 0)).2 : Int)) : Rat)))) - ((((((((l).getD (Rt.nxt (l) ((x1 : Int)).toNat) (0, 0)).2 : Int)) : Rat)) - ((((((l).getD ((x1 : Int)).toNat (0, 0)).2 : Int)) : Rat)))) * (((v1) - ((((((l).getD ((x1 : Int)).toNat (0, 0)).1 : Int)) : Rat)))))))) > ((0 : Int)))) else (false)) = true → ((inR .i64 (((Rt.sumN (fun i => Rt.wB ⟨v1, v2⟩ (Rt.pt l i) (Rt.pt l (Rt.nxt l i))) x1)) + ((1 : Int)))) ∧ (((bif (decide (((Rt.sg (((((((l).getD ((x1 : Int)).toNat (0, 0)).2 : Int)) : Rat)) - (v2)))) ≥ ((0 : Int)))) then (decide (((Rt.sg ((((((((((l).getD (Rt.nxt (l) ((x1 : Int)).toNat) (0, 0)).1 : Int)) : Rat)) - ((((((l).getD ((x1 : Int)).toNat (0, 0)).1 : Int)) : Rat)))) * (((v2) - ((((((l).getD ((x1 : Int)).toNat (0, 0)).2 : Int)) : Rat)))) - ((((((((l).getD (Rt.nxt (l) ((x1 : Int)).toNat) (0, 0)).2 : Int)) : Rat)) - ((((((l).getD ((x1 : Int)).toNat (0, 0)).2 : Int)) : Rat)))) * (((v1) - ((((((l).getD ((x1 : Int)).toNat (0, 0)).1 : Int)) : Rat)))))))) < ((0 : Int)))) else (false)) = true → ((inR .i64 ((((Rt.sumN (fun i => Rt.wB ⟨v1, v2⟩ (Rt.pt l i) (Rt.pt l (Rt.nxt l i))) x1)) + ((1 : Int))) - ((1 : Int)))) ∧ ((inR .i64 (((x1 : Int)) + ((1 : Int)))) ∧ (∃ y1 : Nat, (((y1 ≤ l.length)) ∧ ((l.length - y1 < l.length - x1) ∧ (((l = l) ∧ ((True) ∧ ((Value.int .i64 ((((Rt.sumN (fun i => Rt.wB ⟨v1, v2⟩ (Rt.pt l i) (Rt.pt l (Rt.nxt l i))) x1)) + ((1 : Int))) - ((1 : Int))) = (.int .i64 ((Rt.sumN (fun i => Rt.wB ⟨v1, v2⟩ (Rt.pt l i) (Rt.pt l (Rt.nxt l i))) y1)))) ∧ ((Value.int .i64 (((x1 : Int)) + ((1 : Int))) = (.int .i64 ((y1 : Int)))) ∧ (True))))) ∧ (((v1 = v1) ∧ ((v2 = v2) ∧ (True))) ∧ (True))))))))) ∧ ((bif (decide (((Rt.sg (((((((l).getD ((x1 : Int)).toNat (0, 0)).2 : Int)) : Rat)) - (v2)))) ≥ ((0 : Int)))) then (decide (((Rt.sg ((((((((((l).getD (Rt.nxt (l) ((x1 : Int)).toNat) (0, 0)).1 : Int)) : Rat)) - ((((((l).getD ((x1 : Int)).toNat (0, 0)).1 : Int)) : Rat)))) * (((v2) - ((((((l).getD ((x1 : Int)).toNat (0, 0)).2 : Int)) : Rat)))) - ((((((((l).getD (Rt.nxt (l) ((x1 : Int)).toNat) (0, 0)).2 : Int)) : Rat)) - ((((((l).getD ((x1 : Int)).toNat (0, 0)).2 : Int)) : Rat)))) * (((v1) - ((((((l).getD ((x1 : Int)).toNat (0, 0)).1 : Int)) : Rat)))))))) < ((0 : Int)))) else (false)) = false → ((inR .i64 (((x1 : Int)) + ((1 : Int)))) ∧ (∃ y1 : Nat, (((y1 ≤ l.length)) ∧ ((l.length - y1 < l.length - x1) ∧ (((l = l) ∧ ((True) ∧ ((Value.int .i64 (((Rt.sumN (fun i => Rt.wB ⟨v1, v2⟩ (Rt.pt l i) (Rt.pt l (Rt.nxt l i))) x1)) + ((1 : Int))) = (.int .i64 ((Rt.sumN (fun i => Rt.wB ⟨v1, v2⟩ (Rt.pt l i) (Rt.pt l (Rt.nxt l i))) y1)))) ∧ ((Value.int .i64 (((x1 : Int)) + ((1 : Int))) = (.int .i64 ((y1 : Int)))) ∧ (True))))) ∧ (((v1 = v1) ∧ ((v2 = v2) ∧ (True))) ∧ (True))))))))))) ∧ ((bif (decide (((Rt.sg (((((((l).getD (Rt.nxt (l) ((x1 : Int)).toNat) (0, 0)).2 : Int)) : Rat)) - (v2)))) ≥ ((0 : Int)))) then (decide (((Rt.sg ((((((((((l).getD (Rt.nxt (l) ((x1 : Int)).toNat) (0, 0)).1 : Int)) : Rat)) - ((((((l).getD ((x1 : Int)).toNat (0, 0)).1 : Int)) : Rat)))) * (((v2) - ((((((l).getD ((x1 : Int)).toNat (0, 0)).2 : Int)) : Rat)))) - ((((((((l).getD (Rt.nxt (l) ((x1 : Int)).toNat) (0, 0)).2 : Int)) : Rat)) - ((((((l).getD ((x1 : Int)).toNat (0, 0)).2 : Int)) : Rat)))) * (((v1) - ((((((l).getD ((x1 : Int)).toNat (0, 0)).1 : Int)) : Rat)))))))) > ((0 : Int)))) else (false)) = false → (((bif (decide (((Rt.sg (((((((l).getD ((x1 : Int)).toNat (0, 0)).2 : Int)) : Rat)) - (v2)))) ≥ ((0 : Int)))) then (decide (((Rt.sg ((((((((((l).getD (Rt.nxt (l) ((x1 : Int)).toNat) (0, 0)).1 : Int)) : Rat)) - ((((((l).getD ((x1 : Int)).toNat (0, 0)).1 : Int)) : Rat)))) * (((v2) - ((((((l).getD ((x1 : Int)).toNat (0, 0)).2 : Int)) : Rat)))) - ((((((((l).getD (Rt.nxt (l) ((x1 : Int)).toNat) (0, 0)).2 : Int)) : Rat)) - ((((((l).getD ((x1 : Int)).toNat (0, 0)).2 : Int)) : Rat)))) * (((v1) - ((((((l).getD ((x1 : Int)).toNat (0, 0)).1 : Int)) : Rat)))))))) < ((0 : Int)))) else (false)) = true → ((inR .i64 (((Rt.sumN (fun i => Rt.wB ⟨v1, v2⟩ (Rt.pt l i) (Rt.pt l (Rt.nxt l i))) x1)) - ((1 : Int)))) ∧ ((inR .i64 (((x1 : Int)) + ((1 : Int)))) ∧ (∃ y1 : Nat, (((y1 ≤ l.length)) ∧ ((l.length - y1 < l.length - x1) ∧ (((l = l) ∧ ((True) ∧ ((Value.int .i64 (((Rt.sumN (fun i => Rt.wB ⟨v1, v2⟩ (Rt.pt l i) (Rt.pt l (Rt.nxt l i))) x1)) - ((1 : Int))) = (.int .i64 ((Rt.sumN (fun i => Rt.wB ⟨v1, v2⟩ (Rt.pt l i) (Rt.pt l (Rt.nxt l i))) y1)))) ∧ ((Value.int .i64 (((x1 : Int)) + ((1 : Int))) = (.int .i64 ((y1 : Int)))) ∧ (True))))) ∧ (((v1 = v1) ∧ ((v2 = v2) ∧ (True))) ∧ (True))))))))) ∧ ((bif (decide (((Rt.sg (((((((l).getD ((x1 : Int)).toNat (0, 0)).2 : Int)) : Rat)) - (v2)))) ≥ ((0 : Int)))) then (decide (((Rt.sg ((((((((((l).getD (Rt.nxt (l) ((x1 : Int)).toNat) (0, 0)).1 : Int)) : Rat)) - ((((((l).getD ((x1 : Int)).toNat (0, 0)).1 : Int)) : Rat)))) * (((v2) - ((((((l).getD ((x1 : Int)).toNat (0, 0)).2 : Int)) : Rat)))) - ((((((((l).getD (Rt.nxt (l) ((x1 : Int)).toNat) (0, 0)).2 : Int)) : Rat)) - ((((((l).getD ((x1 : Int)).toNat (0, 0)).2 : Int)) : Rat)))) * (((v1) - ((((((l).getD ((x1 : Int)).toNat (0, 0)).1 : Int)) : Rat)))))))) < ((0 : Int)))) else (false)) = false → ((inR .i64 (((x1 : Int)) + ((1 : Int)))) ∧ (∃ y1 : Nat, (((y1 ≤ l.length)) ∧ ((l.length - y1 < l.length - x1) ∧ (((l = l) ∧ ((True) ∧ ((Value.int .i64 ((Rt.sumN (fun i => Rt.wB ⟨v1, v2⟩ (Rt.pt l i) (Rt.pt l (Rt.nxt l i))) x1)) = (.int .i64 ((Rt.sumN (fun i => Rt.wB ⟨v1, v2⟩ (Rt.pt l i) (Rt.pt l (Rt.nxt l i))) y1)))) ∧ ((Value.int .i64 (((x1 : Int)) + ((1 : Int))) = (.int .i64 ((y1 : Int)))) ∧ (True))))) ∧ (((v1 = v1) ∧ ((v2 = v2) ∧ (True))) ∧ (True)))))))))))))))))))))))) ∧ ((decide (((x1 : Int)) < (((l).length : Int)))) = false → ((Value.int .i64 ((Rt.sumN (fun i => Rt.wB ⟨v1, v2⟩ (Rt.pt l i) (Rt.pt l (Rt.nxt l i))) x1)) = (.int .i64 ((Rt.windN l ⟨v1, v2⟩)))) ∧ ((Value.int .i64 ((0 : Int)) = (.int .i64 ((Rt.windE l ⟨v1, v2⟩)))) ∧ (True)))))))))))) = owes LT XT4 [.inv 5 (Nat) (fun ξ => ⟨[.k (.c (.pt (l))), .u, .u, .k (.c (.bx 0 0)), .u, .u, .k (.c (.v (.int .i64 ((Rt.sumN (fun i => Rt.wB ⟨v1, v2⟩ (Rt.pt l i) (Rt.pt l (Rt.nxt l i))) ξ))))), .k (.c (.v (.int .i64 ((ξ : Int))))), .u, .u, .u, .u, .u, .u, .u, .u, .u, .u, .u, .u, .u, .u, .u, .u, .u, .u, .u, .u, .u, .u, .u, .u, .u, .u, .u, .u, .u, .u, .u, .u, .u, .u, .u, .u, .u, .u, .u, .u, .u, .u, .u, .u, .u, .u, .u, .u, .u, .u, .u, .u, .u, .u, .u, .u, .u, .u, .u, .u, .u, .u, .u, .u, .u, .u, .u], [⟨29, [.R (v1), .R (v2)]⟩]⟩) (fun _ ξ => (ξ ≤ l.length)) (fun ξ => l.length - ξ)] Tryz.f13 (Tryz.f13.body.getD .skip) [.c (.pt (l)), .g [.R (v1), .R (v2)]] (.t [.c (.v (.int .i64 ((Rt.windN l ⟨v1, v2⟩)))), .c (.v (.int .i64 ((Rt.windE l ⟨v1, v2⟩))))]) by kernel_rfl) ?_
  obtain ⟨ho, h1, h2⟩ := hp
  have hb0 : ((l.length : Int) == 0) = true ↔ l = [] := by
    rw [beq_iff_eq]
    constructor
    · intro h; exact List.length_eq_zero_iff.1 (by omega)
    · rintro rfl; rfl
  have z0 : szR (((0 : Int) : Int) : Rat) ≤ 90 := Nat.le_trans (szR_int (by omega)) (by decide)
  have hb := sumB_bound (fun i => Rt.wB ⟨v1, v2⟩ (Rt.pt l i) (Rt.pt l (Rt.nxt l i))) (fun i => wB_bound _ _ _)
  refine ⟨fun _ => ⟨by omega, by omega⟩, fun _ => ⟨ho, h1, h2, z0⟩, fun h => ?_, fun h => ?_⟩
  · have hc : l = [] ∨ Rt.onP l ⟨v1, v2⟩ := by
      cases e : ((l.length : Int) == 0) with
      | true => exact .inl (hb0.1 e)
      | false =>
        rw [e] at h
        exact .inr (on_iff.1 h)
    rw [Rt.windN_on, Rt.windE_on, if_pos hc, if_pos hc]
    exact ⟨rfl, rfl, trivial⟩
  have hne : ¬ l = [] := fun e => by
    rw [hb0.2 e] at h
    cases h
  have hb1 : ((l.length : Int) == 0) = false := by
    cases e : ((l.length : Int) == 0) with
    | true => exact absurd (hb0.1 e) hne
    | false => rfl
  rw [hb1] at h
  have hon : ¬ Rt.onP l ⟨v1, v2⟩ := fun e => by
    have := on_iff.2 e
    rw [show Rt.edB l ⟨v1, v2⟩ (((0 : Int) : Rat) * ((0 : Int) : Rat)) l.length = false from h] at this
    cases this
  have hc : ¬ (l = [] ∨ Rt.onP l ⟨v1, v2⟩) := fun c => c.elim hne hon
  rw [Rt.windN_on, Rt.windE_on, if_neg hc, if_neg hc]
  have hw := Rt.wind_eq ⟨v1, v2⟩ (Rt.pt l) l.length (fun i hi e => hon ⟨i, hi, e⟩)
  refine ⟨⟨0, Nat.zero_le _, by refine ⟨?_, ?_, rfl, ?_, ?_⟩ <;> simp, by simp, trivial⟩, ?_⟩
  intro k hk
  simp only [Int.toNat_natCast]
  have A := ho.1 k
  have B := ho.1 (Rt.nxt l k)
  have sa1 := szR_int A.1
  have sa2 := szR_int A.2
  have sb1 := szR_int B.1
  have sb2 := szR_int B.2
  have hlen := ho.2
  have hk1 := hb k
  have hk2 := hb (k + 1)
  have hst : Rt.sumN (fun i => Rt.wB ⟨v1, v2⟩ (Rt.pt l i) (Rt.pt l (Rt.nxt l i))) (k + 1) = Rt.sumN (fun i => Rt.wB ⟨v1, v2⟩ (Rt.pt l i) (Rt.pt l (Rt.nxt l i))) k + Rt.wB ⟨v1, v2⟩ (Rt.pt l k) (Rt.pt l (Rt.nxt l k)) := rfl
  refine ⟨fun hlt => ?_, fun hlt => ?_⟩
  · have hkl : k < l.length := by simpa using hlt
    have fin : ∀ z : Int, z = Rt.sumN (fun i => Rt.wB ⟨v1, v2⟩ (Rt.pt l i) (Rt.pt l (Rt.nxt l i))) (k + 1) → Value.int .i64 z = .int .i64 (Rt.sumN (fun i => Rt.wB ⟨v1, v2⟩ (Rt.pt l i) (Rt.pt l (Rt.nxt l i))) (k + 1)) := fun z e => by rw [e]
    refine ⟨⟨by omega, by omega⟩, A, ⟨⟨by omega, by omega⟩, hlen⟩, B, ⟨by omega, by omega⟩, ⟨by omega, by omega⟩, fun c => ?_, fun c => ?_⟩
    · have e := wB_zero (v := ⟨v1, v2⟩) (a := Rt.pt l k) (b := Rt.pt l (Rt.nxt l k)) c
      rw [e] at hst
      exact ⟨by simp only [inR]; omega, k + 1, hkl, by omega, by refine ⟨?_, ?_, fin _ (by omega), ?_, ?_⟩ <;> simp, by simp, trivial⟩
    · refine ⟨by ((repeat' first | apply And.intro | (intro _)) <;> first | trivial | rfl | (first | omega | (apply Nat.le_trans; (focus (repeat' first | assumption | apply szR_sub_le | apply szR_add_le | apply szR_mul_le)); omega)) | skip), by ((repeat' first | apply And.intro | (intro _)) <;> first | trivial | rfl | (first | omega | (apply Nat.le_trans; (focus (repeat' first | assumption | apply szR_sub_le | apply szR_add_le | apply szR_mul_le)); omega)) | skip), by ((repeat' first | apply And.intro | (intro _)) <;> first | trivial | rfl | (first | omega | (apply Nat.le_trans; (focus (repeat' first | assumption | apply szR_sub_le | apply szR_add_le | apply szR_mul_le)); omega)) | skip), trivial, fun c1 => ?_, fun c1 => ?_⟩
      · refine ⟨by simp only [inR]; omega, fun c2 => ?_, fun c2 => ?_⟩
        · exact (wB_11 (v := ⟨v1, v2⟩) (a := Rt.pt l k) (b := Rt.pt l (Rt.nxt l k)) c1 c2).elim
        · have e := wB_10 (v := ⟨v1, v2⟩) (a := Rt.pt l k) (b := Rt.pt l (Rt.nxt l k)) c c1 c2
          rw [e] at hst
          exact ⟨by simp only [inR]; omega, k + 1, hkl, by omega, by refine ⟨?_, ?_, fin _ (by omega), ?_, ?_⟩ <;> simp, by simp, trivial⟩
      · refine ⟨fun c2 => ?_, fun c2 => ?_⟩
        · have e := wB_01 (v := ⟨v1, v2⟩) (a := Rt.pt l k) (b := Rt.pt l (Rt.nxt l k)) c c1 c2
          rw [e] at hst
          exact ⟨by simp only [inR]; omega, by simp only [inR]; omega, k + 1, hkl, by omega, by refine ⟨?_, ?_, fin _ (by omega), ?_, ?_⟩ <;> simp, by simp, trivial⟩
        · have e := wB_00 (v := ⟨v1, v2⟩) (a := Rt.pt l k) (b := Rt.pt l (Rt.nxt l k)) c c1 c2
          rw [e] at hst
          exact ⟨by simp only [inR]; omega, k + 1, hkl, by omega, by refine ⟨?_, ?_, fin _ (by omega), ?_, ?_⟩ <;> simp, by simp, trivial⟩
  · have hkl : k = l.length := by
      have := of_decide_eq_false hlt
      omega
    subst hkl
    rw [hw]
    refine ⟨?_, ?_, trivial⟩ <;> first | trivial | rfl
theorem cKwind_ok : CtrOK Tryz.prog cKwind := .of (by kernel_rfl) (fun bs w xs vs pre r hr hA hG h hp => by
  simp only [cKwind] at h
  split at h
  · cases h
    exact ctr_calls mixed LT_ok XT4_ok Tryz.func13 (by kernel_rfl) hr hA hG rfl rfl (cKwind_owes _ _ _ hp)
  · cases h) (fun xs α pre φ r => by simp only [cKwind]; split <;> (intro h; cases h))
/-- At most three short paths. -/
def few3 (ps : List (List (Int × Int))) : Bool := decide ((ps.length : Int) ≤ 3) && ps.all fun p => fewB p 8
def XT5 : List Ctr := XT4 ++ [cWfew]
theorem XT5_ok : ∀ c ∈ XT5, CtrOK Tryz.prog c := ok_app XT4_ok (by
  intro c hc
  simp only [List.mem_cons, List.not_mem_nil, or_false] at hc
  rcases hc with rfl
  · exact cWfew_ok)
def cKlfew : Ctr := ⟨6, fun | [.c (.pp (ps))] => .yes (True) (.k (.c (.v (.bool ((few3 ps)))))) | _ => .no⟩
theorem cKlfew_owes (ps : List (List (Int × Int))) : owes LT XT5 [.inv 4 (Nat) (fun ξ => ⟨[.k (.c (.pp (ps))), .u, .u, .u, .u, .u, .u, .u, .k (.c (.pp (ps))), .k (.c (.v (.int .i64 (((ps).length : Int))))), .k (.c (.v (.int .i64 ((ξ : Int))))), .u, .u, .u, .u, .u, .u, .u], []⟩) (fun _ ξ => (ξ ≤ ps.length ∧ (ps.take ξ).all (fun p => fewB p 8) = true)) (fun ξ => ps.length - ξ)] Tryz.f6 (Tryz.f6.body.getD .skip) [.c (.pp (ps))] (.k (.c (.v (.bool ((few3 ps)))))) := by
  refine Eq.mp (show (((decide ((((ps).length : Int)) > ((3 : Int)))) = true → (Value.bool (false) = (.bool ((few3 ps))))) ∧ ((decide ((((ps).length : Int)) > ((3 : Int)))) = false → ((∃ x1 : Nat, (((x1 ≤ ps.length ∧ (ps.take x1).all (fun p => fewB p 8) = true)) ∧ (((ps = ps) ∧ ((ps = ps) ∧ ((Value.int .i64 (((ps).length : Int)) = (.int .i64 (((ps).length : Int)))) ∧ ((Value.int .i64 ((0 : Int)) = (.int .i64 ((x1 : Int)))) ∧ (True))))) ∧ (True)))) ∧ (∀ x1 : Nat, ((x1 ≤ ps.length ∧ (ps.take x1).all (fun p => fewB p 8) = true) → (((decide (((x1 : Int)) < (((ps).length : Int)))) = true → ((0 ≤ (x1 : Int) ∧ (x1 : Int) < ((ps).length : Int)) ∧ (((8 : Int) ≤ 1000000) ∧ (((!(fewB (((ps).getD ((x1 : Int)).toNat [])) ((8 : Int)))) = true → (Value.bool (false) = (.bool ((few3 ps))))) ∧ ((!(fewB (((ps).getD ((x1 : Int)).toNat [])) ((8 : Int)))) = false → ((inR .i64 (((x1 : Int)) + ((1 : Int)))) ∧ (∃ y1 : Nat, (((y1 ≤ ps.length ∧ (ps.take y1).all (fun p => fewB p 8) = true)) ∧ ((ps.length - y1 < ps.length - x1) ∧ (((ps = ps) ∧ ((ps = ps) ∧ ((Value.int .i64 (((ps).length : Int)) = (.int .i64 (((ps).length : Int)))) ∧ ((Value.int .i64 (((x1 : Int)) + ((1 : Int))) = (.int .i64 ((y1 : Int)))) ∧ (True))))) ∧ (True))))))))))) ∧ ((decide (((x1 : Int)) < (((ps).length : Int)))) = false → (Value.bool (true) = (.bool ((few3 ps))))))))))) = owes LT XT5 [.inv 4 (Nat) (fun ξ => ⟨[.k (.c (.pp (ps))), .u, .u, .u, .u, .u, .u, .u, .k (.c (.pp (ps))), .k (.c (.v (.int .i64 (((ps).length : Int))))), .k (.c (.v (.int .i64 ((ξ : Int))))), .u, .u, .u, .u, .u, .u, .u], []⟩) (fun _ ξ => (ξ ≤ ps.length ∧ (ps.take ξ).all (fun p => fewB p 8) = true)) (fun ξ => ps.length - ξ)] Tryz.f6 (Tryz.f6.body.getD .skip) [.c (.pp (ps))] (.k (.c (.v (.bool ((few3 ps)))))) by kernel_rfl) ?_
  refine ⟨fun h => ?_, fun h => ⟨⟨0, ⟨Nat.zero_le _, by simp⟩, by simp, trivial⟩, ?_⟩⟩
  · have h3 : decide ((ps.length : Int) ≤ 3) = false := by
      have h5 : (ps.length : Int) > 3 := of_decide_eq_true h
      rw [decide_eq_false_iff_not]; omega
    unfold few3
    rw [h3]
    rfl
  rintro k ⟨hk, hall⟩
  have h3 : decide ((ps.length : Int) ≤ 3) = true := by
    have h5 : ¬ (ps.length : Int) > 3 := of_decide_eq_false h
    rw [decide_eq_true_iff]; omega
  simp only [Int.toNat_natCast]
  refine ⟨fun h2 => ?_, fun h2 => ?_⟩
  · have hkl : k < ps.length := by
      have h5 : (k : Int) < (ps.length : Int) := of_decide_eq_true h2
      omega
    have hl3 : ps.length ≤ 3 := by
      have h5 : (ps.length : Int) ≤ 3 := of_decide_eq_true h3
      omega
    have eg : ps.getD k [] = ps[k] := by simp [List.getD_eq_getElem?_getD, hkl]
    rw [eg]
    refine ⟨⟨by omega, by omega⟩, by decide, fun c => ?_, fun c => ⟨by simp only [inR]; omega, k + 1, ⟨hkl, ?_⟩, by omega, by simp, trivial⟩⟩
    · have ha : ps.all (fun p => fewB p 8) = false := by
        rw [List.all_eq_false]
        exact ⟨ps[k], List.getElem_mem hkl, fun (e : fewB ps[k] 8 = true) => by rw [e] at c; cases c⟩
      unfold few3
      rw [ha, Bool.and_false]
    · have hb : fewB ps[k] 8 = true := by
        cases e : fewB ps[k] 8 with
        | true => rfl
        | false => rw [e] at c; cases c
      rw [List.take_succ_eq_append_getElem hkl, List.all_append, hall]
      simp [hb]
  · have hkl : k = ps.length := by
      have h5 : ¬ (k : Int) < (ps.length : Int) := of_decide_eq_false h2
      omega
    subst hkl
    rw [List.take_length] at hall
    unfold few3
    rw [h3, hall]
    rfl
theorem cKlfew_ok : CtrOK Tryz.prog cKlfew := .of (by kernel_rfl) (fun bs w xs vs pre r hr hA hG h hp => by
  simp only [cKlfew] at h
  split at h
  · cases h
    exact ctr_calls mixed LT_ok XT5_ok Tryz.func6 (by kernel_rfl) hr hA hG rfl rfl (cKlfew_owes _)
  · cases h) (fun xs α pre φ r => by simp only [cKlfew]; split <;> (intro h; cases h))
end Vc
end Go.Proofs.YtlkhkldgmlfhkaaGreat

namespace Go.Proofs.YtlkhkldgmlfhkaaGreat
open Go.RowKit Rt
set_option maxRecDepth 8000

theorem edB_mono {l : List (Int × Int)} {v : V2} {R R' : Rat} {n : Nat} (hR : R ≤ R') (h : edB l v R n = true) : edB l v R' n = true := by
  obtain ⟨i, hi, h2⟩ := edB_iff.1 h
  exact edB_iff.2 ⟨i, hi, Rat.le_trans h2 hR⟩
theorem covB_nonneg {ps : List (List (Int × Int))} {r : Int} {v : V2} (h : covB ps r v = true) : 0 ≤ r ∧ cvB ps v ((r : Rat) * (r : Rat)) ps.length = true := by
  unfold covB at h
  cases e : decide (r < 0) with
  | true => rw [e] at h; cases h
  | false =>
    rw [e] at h
    have := of_decide_eq_false e
    exact ⟨by omega, h⟩
theorem covB_of {ps : List (List (Int × Int))} {r : Int} {v : V2} (h0 : 0 ≤ r) (h : cvB ps v ((r : Rat) * (r : Rat)) ps.length = true) : covB ps r v = true := by
  unfold covB
  have e : decide (r < 0) = false := by simp; omega
  rw [e]
  exact h
theorem covB_more {ps : List (List (Int × Int))} {q : List (Int × Int)} {r : Int} {v : V2} (h : covB ps r v = true) : covB (q :: ps) r v = true := by
  obtain ⟨h0, h1⟩ := covB_nonneg h
  obtain ⟨j, hj, h2⟩ := cvB_iff.1 h1
  exact covB_of h0 (cvB_iff.2 ⟨j + 1, by simpa using hj, by simpa using h2⟩)
theorem covB_wide {ps : List (List (Int × Int))} {r : Int} {v : V2} (h : covB ps r v = true) : covB ps (r + 1) v = true := by
  obtain ⟨h0, h1⟩ := covB_nonneg h
  obtain ⟨j, hj, h2⟩ := cvB_iff.1 h1
  refine covB_of (by omega) (cvB_iff.2 ⟨j, hj, edB_mono ?_ h2⟩)
  have h3 : (0 : Rat) ≤ (r : Rat) := Rat.intCast_nonneg.2 h0
  rw [Rat.intCast_add]
  generalize (r : Rat) = R at *
  have e : (R + ((1 : Int) : Rat)) * (R + ((1 : Int) : Rat)) = R * R + (2 * R + 1) := by
    have : ((1 : Int) : Rat) = 1 := rfl
    rw [this]; grind
  rw [e]
  grind
theorem few3_spec {ps : List (List (Int × Int))} (h : Vc.few3 ps = true) : ps.length ≤ 3 ∧ ∀ j, okp (ps.getD j []) := by
  unfold Vc.few3 at h
  simp only [Bool.and_eq_true, decide_eq_true_eq, List.all_eq_true] at h
  refine ⟨by omega, fun j => ?_⟩
  rcases Nat.lt_or_ge j ps.length with hj | hj
  · have e : ps.getD j [] = ps[j] := by simp [List.getD_eq_getElem?_getD, hj]
    rw [e]
    obtain ⟨h1, h2⟩ := few_spec (h.2 _ (List.getElem_mem hj))
    exact okp_of h2 (by omega)
  · have e : ps.getD j [] = [] := by simp [List.getD_eq_getElem?_getD, hj]
    rw [e]
    exact okp_small [] (by simp) (by simp)
theorem okp_cons {q : List (Int × Int)} {ps : List (List (Int × Int))} (hq : okp q) (h : ∀ j, okp (ps.getD j [])) : ∀ j, okp ((q :: ps).getD j []) := fun j => by
  cases j with
  | zero => exact hq
  | succ j => simpa using h j

theorem wlfew (p : Value) (ps : List (List (Int × Int))) (w : World) (hp : Vc.SlQ w.heap.size w p ps) :
    Calls Tryz.prog 6 #[p] w fun e w' => e = .returned (.bool (Vc.few3 ps)) ∧ Ext w w' := by
  refine (Vc.cKlfew_ok.yes ⟨w.heap.size, [], [], []⟩ w [.c (.pp ps)] [p] _ _ ⟨hp, trivial⟩ rfl rfl rfl trivial).mono ?_
  rintro e w' ⟨v', rfl, hx, rfl, _⟩
  exact ⟨rfl, hx⟩
theorem rcov (q v : Value) (ps : List (List (Int × Int))) (r : Int) (x y : Rat) (w : World) (hq : Vc.SlQ w.heap.size w q ps) (hv : IsV w x y v) (h : (∀ j, Rt.okp (ps.getD j [])) ∧ ps.length ≤ 1000000000 ∧ (-9223372036854775808 ≤ r ∧ r ≤ 9223372036854775807) ∧ Vc.szR x ≤ 90 ∧ Vc.szR y ≤ 90) :
    Calls Tryz.prog 9 #[q, .int .i64 r, v] w fun e w' => e = .returned (.bool (Rt.covB ps r ⟨x, y⟩)) ∧ Ext w w' := by
  refine (Vc.cKcov_ok.yes ⟨w.heap.size, [], [], []⟩ w [.c (.pp ps), .c (.v (.int .i64 r)), .g [.R x, .R y]] [q, .int .i64 r, v] _ _ ⟨hq, ⟨rfl, rfl⟩, Vc.nobxK_rel rfl rfl rfl hv, trivial⟩ rfl rfl rfl h).mono ?_
  rintro e w' ⟨v', rfl, hx, rfl, _⟩
  exact ⟨rfl, hx⟩

set_option maxHeartbeats 4000000 in
theorem covered_no (v vc : Value) (vs : List Sl3) (ps : List (List (Int × Int))) (m : Int) (r : Raw) (w : World) (h : PQ w v vs ps) (hr : IsRaw w r vc) (hc : Vc.few3 ps = false ∨ r.small = false ∨ m > 10000000) :
    Calls Tryz.prog 3 #[v, .int .i64 m, vc] w fun e w' => e = .returned (.bool true) ∧ Ext w w' := by
  obtain ⟨ad, nn, cap, b, off, rfl, rfl, h3, h4, h5, h6⟩ := id h.sl
  have H := Lib.hid h
  obtain ⟨p1, k1, q1, p2, k2, q2, p3, k3, q3, p4, k4, q4, rfl⟩ := raw_form hr
  obtain ⟨W0, hW0, hb0, hE0, -⟩ := row_alloc w #[.bool r.b, .slice p1 k1 q1, .bool r.c, .slice p2 k2 q2, .bool r.b1, .slice p3 k3 q3, .bool r.c1, .slice p4 k4 q4] 29
  have HBX := Lib.hid hb0; have HE0 := Lib.hid hE0
  clear hb0 hE0
  have HR := Lib.hid hr
  clear h h3 h4 h5 h6 hr
  cases hf : Vc.few3 ps with
  | false =>
    have HF : Hid (Vc.few3 ps = false) := Lib.hid hf
    clear hf hc
    go_enter Tryz.func3, Tryz.ntmps3
    go_wp2_with fail
    refine (awake31_any _).mono ?_
    rintro e w1 ⟨rfl, x1⟩
    have H1 := Lib.hid (H.out.later (HE0.out.trans x1)); have X1 := Lib.hid x1
    clear x1
    go_wp2_with fail
    refine (wlfew _ ps _ H1.out.slQ).mono ?_
    rintro e w2 ⟨rfl, x2⟩
    rw [HF.out]
    go_wp2_with fail
    refine (awake31_any _).mono ?_
    rintro e w9 ⟨rfl, x9⟩
    go_wp2_with fail
    go_ret
    exact ⟨rfl, ((HE0.out.trans X1.out).trans x2).trans x9⟩
  | true =>
    have HF : Hid (Vc.few3 ps = true) := Lib.hid hf
    cases hs : r.small with
    | false =>
      have HS : Hid (r.small = false) := Lib.hid hs
      clear hf hc hs
      go_enter Tryz.func3, Tryz.ntmps3
      go_wp2_with fail
      refine (awake31_any _).mono ?_
      rintro e w1 ⟨rfl, x1⟩
      have H1 := Lib.hid (H.out.later (HE0.out.trans x1)); have X1 := Lib.hid x1
      clear x1
      go_wp2_with fail
      refine (wlfew _ ps _ H1.out.slQ).mono ?_
      rintro e w2 ⟨rfl, x2⟩
      rw [HF.out]
      have X2 := Lib.hid (X1.out.trans x2)
      clear x2
      obtain ⟨d00, d01, d02, d03, d04, d05, d06, d07⟩ := cells8 (heap_keep HBX.out X2.out)
      go_wp2_with fail
      refine (wsmall _ r _ (HR.out.later (HE0.out.trans X2.out))).mono ?_
      rintro e w3 ⟨rfl, x3⟩
      rw [HS.out]
      clear d00 d01 d02 d03 d04 d05 d06 d07
      go_wp2_with fail
      refine (awake31_any _).mono ?_
      rintro e w9 ⟨rfl, x9⟩
      go_wp2_with fail
      go_ret
      exact ⟨rfl, ((HE0.out.trans X2.out).trans x3).trans x9⟩
    | true =>
      have HS : Hid (r.small = true) := Lib.hid hs
      have hm : m > 10000000 := (hc.resolve_left (by rw [hf]; simp)).resolve_left (by rw [hs]; simp)
      have hmd : decide (m > 10000000) = true := by simp; omega
      clear hf hc hs
      go_enter Tryz.func3, Tryz.ntmps3
      go_wp2_with fail
      refine (awake31_any _).mono ?_
      rintro e w1 ⟨rfl, x1⟩
      have H1 := Lib.hid (H.out.later (HE0.out.trans x1)); have X1 := Lib.hid x1
      clear x1
      go_wp2_with fail
      refine (wlfew _ ps _ H1.out.slQ).mono ?_
      rintro e w2 ⟨rfl, x2⟩
      rw [HF.out]
      have X2 := Lib.hid (X1.out.trans x2)
      clear x2
      obtain ⟨d00, d01, d02, d03, d04, d05, d06, d07⟩ := cells8 (heap_keep HBX.out X2.out)
      go_wp2_with fail
      refine (wsmall _ r _ (HR.out.later (HE0.out.trans X2.out))).mono ?_
      rintro e w3 ⟨rfl, x3⟩
      rw [HS.out]
      clear d00 d01 d02 d03 d04 d05 d06 d07
      go_wp2_with fail
      refine (awake31_any _).mono ?_
      rintro e w9 ⟨rfl, x9⟩
      go_wp2_with fail
      go_ret
      exact ⟨rfl, ((HE0.out.trans X2.out).trans x3).trans x9⟩

theorem Tryz.info_sl : (Tryz.prog.info? 36).map (fun i => (i.zero, i.size, i.bytes)) = some (some (.slice none 0 0), 1, 24) := by kernel_rfl

set_option maxHeartbeats 16000000 in
theorem covered_yes (v vc : Value) (vs : List Sl3) (ps : List (List (Int × Int))) (m : Int) (r : Raw) (w : World) (h : PQ w v vs ps) (hr : IsRaw w r vc) (hm1 : -9223372036854775808 ≤ m) (hm : m ≤ 10000000) (hf : Vc.few3 ps = true) (hs : r.small = true) :
    Calls Tryz.prog 3 #[v, .int .i64 m, vc] w fun e w' => e = .returned (.bool true) ∧ Ext w w' := by
  obtain ⟨x, y, hv, sx, sy⟩ := hr.vec hs
  obtain ⟨hn3, hok⟩ := few3_spec hf
  have hvs : vs.length ≤ 3 := by rw [← h.len]; exact hn3
  obtain ⟨ad, nn, cap, b, off, rfl, rfl, h3, h4, h5, h6⟩ := id h.sl
  have H := Lib.hid h
  obtain ⟨p1, k1, q1, p2, k2, q2, p3, k3, q3, p4, k4, q4, rfl⟩ := raw_form hr
  obtain ⟨W0, hW0, hb0, hE0, -⟩ := row_alloc w #[.bool r.b, .slice p1 k1 q1, .bool r.c, .slice p2 k2 q2, .bool r.b1, .slice p3 k3 q3, .bool r.c1, .slice p4 k4 q4] 29
  have HBX := Lib.hid hb0; have HE0 := Lib.hid hE0
  clear hb0 hE0
  have HR := Lib.hid hr; have HF : Hid (Vc.few3 ps = true) := Lib.hid hf; have HS : Hid (r.small = true) := Lib.hid hs
  have HV := Lib.hid hv
  have HO := Lib.hid hok
  have HX : Hid (Vc.szR x ≤ 90) := Lib.hid (by omega)
  have HY : Hid (Vc.szR y ≤ 90) := Lib.hid (by omega)
  have HN : Hid (ps.length ≤ 3) := Lib.hid hn3
  have HNV : Hid (vs.length ≤ 3) := Lib.hid hvs
  have HM : Hid (-9223372036854775808 ≤ m ∧ m ≤ 10000000) := Lib.hid ⟨hm1, hm⟩
  have hmd : decide (m > 10000000) = false := by simp; omega
  obtain ⟨cv, ecv⟩ : ∃ cv, covB ps m ⟨x, y⟩ = cv := ⟨_, rfl⟩
  have HCV := Lib.hid ecv
  clear h h3 h4 h5 h6 hr hf hs hv sx sy hn3 hok hvs ecv
  go_enter Tryz.func3, Tryz.ntmps3
  go_wp2_with fail
  refine (awake31_any _).mono ?_
  rintro e w1 ⟨rfl, x1⟩
  have H1 := Lib.hid (H.out.later (HE0.out.trans x1)); have X1 := Lib.hid x1
  clear x1
  go_wp2_with fail
  refine (wlfew _ ps _ H1.out.slQ).mono ?_
  rintro e w2 ⟨rfl, x2⟩
  rw [HF.out]
  have X2 := Lib.hid (X1.out.trans x2); have H2 := Lib.hid (H1.out.later x2)
  clear x2
  obtain ⟨d00, d01, d02, d03, d04, d05, d06, d07⟩ := cells8 (heap_keep HBX.out X2.out)
  go_wp2_with fail
  refine (wsmall _ r _ (HR.out.later (HE0.out.trans X2.out))).mono ?_
  rintro e w3 ⟨rfl, x3⟩
  rw [HS.out]
  clear d00 d01 d02 d03 d04 d05 d06 d07
  have X3 := Lib.hid (X2.out.trans x3); have H3 := Lib.hid (H2.out.later x3)
  clear x3
  obtain ⟨d10, d11, d12, d13, d14, d15, d16, d17⟩ := cells8 (heap_keep HBX.out X3.out)
  go_wp2_with fail
  refine (wcov _ _ ps m x y _ H3.out.slQ (HV.out.later (HE0.out.trans X3.out)) ⟨HO.out, by have := HN.out; omega, ⟨HM.out.1, by have := HM.out.2; omega⟩, HX.out, HY.out⟩).mono ?_
  rintro e w4 ⟨rfl, x4⟩
  rw [HCV.out]
  clear d10 d11 d12 d13 d14 d15 d16 d17
  have X4 := Lib.hid (X3.out.trans x4); have H4 := Lib.hid (H3.out.later x4)
  clear x4
  obtain ⟨d20, d21, d22, d23, d24, d25, d26, d27⟩ := cells8 (heap_keep HBX.out X4.out)
  go_wp2_with fail
  refine (rcov _ _ ps m x y _ H4.out.slQ (HV.out.later (HE0.out.trans X4.out)) ⟨HO.out, by have := HN.out; omega, ⟨HM.out.1, by have := HM.out.2; omega⟩, HX.out, HY.out⟩).mono ?_
  rintro e w5 ⟨rfl, x5⟩
  rw [HCV.out]
  clear d20 d21 d22 d23 d24 d25 d26 d27
  have X5 := Lib.hid (X4.out.trans x5); have H5 := Lib.hid (H4.out.later x5)
  clear x5
  obtain ⟨W1, hW1, hb1, hE1, -⟩ := row_alloc w5 #[.int .i64 5, .int .i64 7] 35
  have HP : Hid (SlT W1 (.slice (some ⟨w5.heap.size, 0, none⟩) 1 1) [(5, 7)]) := Lib.hid (by rw [← hW1]; exact slG_lit gC_len w5 35 [(5, 7)])
  obtain ⟨W2, hW2, hb2, hE2, -⟩ := row_alloc W1 #[.slice (some ⟨w5.heap.size, 0, none⟩) 1 1] 36
  have HQ : Hid (OwnG W1.heap.size 36 1 oneV W2 (.slice (some ⟨W1.heap.size, 0, none⟩) 1 1) [(some ⟨w5.heap.size, 0, none⟩, 1, 1)]) := Lib.hid (by
    rw [← hW2]
    exact World.ownsRow_lit (base := W1.heap.size) (e := 36) (size := 1) W1 #[.slice (some ⟨w5.heap.size, 0, none⟩) 1 1] 1 (Nat.le_refl _) (by decide) rfl)
  have H6 := Lib.hid (H5.out.later (hE1.trans hE2)); have H51 := Lib.hid (H5.out.later hE1); have X51 := Lib.hid (X5.out.trans hE1); have HE2 := Lib.hid hE2
  have HL : Hid (W1.heap.size ≤ W2.heap.size) := Lib.hid hE2.size
  have HMX : Hid ([((some ⟨w5.heap.size, 0, none⟩, 1, 1) : Sl3)].length + vs.length ≤ maxLen) := Lib.hid (by have := HNV.out; unfold maxLen; simp; omega)
  have HBY : Hid (([((some ⟨w5.heap.size, 0, none⟩, 1, 1) : Sl3)].length + vs.length) * 24 ≤ 140737488355328) := Lib.hid (by have := HNV.out; simp; omega)
  clear hb1 hE1 hb2 hE2
  cases cv with
  | false =>
    go_wp2_with ((at_builtin; refine appG_at rfl _ _ rfl Tryz.underlying22 Tryz.info_sl rfl (by decide) oneV_len oneV_one W1.heap.size _ _ [(some ⟨w5.heap.size, 0, none⟩, 1, 1)] vs rfl rfl HQ.out H6.out.sl HMX.out HBY.out HL.out ?_; intro v6 w6 own6 hg6 hloc6; have E1 : Ext W1 w6 := HE2.out.grown hg6 (fun i hi => by cases hi; exact Nat.le_refl _)))
    go_ret
    exact ⟨rfl, HE0.out.trans (X51.out.trans E1)⟩
  | true =>
    have HC2 := Lib.hid (covB_wide HCV.out)
    have HC3 := Lib.hid (covB_more (q := [(5, 7)]) HCV.out)
    have HOQ : Hid (∀ j, okp (([(5, 7)] :: ps).getD j [])) := Lib.hid (okp_cons (okp_small _ (by decide) (by decide)) HO.out)
    have hmb : -9223372036854775808 ≤ m + 1 ∧ m + 1 ≤ 9223372036854775807 := by have := HM.out; omega
    go_wp2_with ((at_builtin; refine appG_at rfl _ _ rfl Tryz.underlying22 Tryz.info_sl rfl (by decide) oneV_len oneV_one W1.heap.size _ _ [(some ⟨w5.heap.size, 0, none⟩, 1, 1)] vs rfl rfl HQ.out H6.out.sl HMX.out HBY.out HL.out ?_; intro v6 w6 own6 hg6 hloc6; have E1 : Ext W1 w6 := HE2.out.grown hg6 (fun i hi => by cases hi; exact Nat.le_refl _); have X7 := Lib.hid (X51.out.trans E1); have OW := Lib.hid own6; have HE1 := Lib.hid E1; clear own6 hg6 hloc6 E1; obtain ⟨d00, d01, d02, d03, d04, d05, d06, d07⟩ := cells8 (heap_keep HBX.out X7.out)))
    have own6 := OW.out
    rw [List.singleton_append] at own6
    have HPQ : Hid (PQ w6 v6 ((some ⟨w5.heap.size, 0, none⟩, 1, 1) :: vs) ([(5, 7)] :: ps)) := Lib.hid (by
      refine ⟨own6.sl oneV_len, by simp [H51.out.len], fun i u p hu hp => ?_⟩
      cases i with
      | zero =>
        simp only [List.getElem?_cons_zero, Option.some.injEq] at hu hp
        subst hu hp
        exact HP.out.later HE1.out
      | succ i => exact (H51.out.el i u p (by simpa using hu) (by simpa using hp)).later HE1.out)
    have H7 := Lib.hid (H51.out.later HE1.out)
    clear own6
    refine (wcov _ _ ps (m + 1) x y _ H7.out.slQ (HV.out.later (HE0.out.trans X7.out)) ⟨HO.out, by have := HN.out; omega, by have := HM.out; omega, HX.out, HY.out⟩).mono ?_
    rintro e w8 ⟨rfl, x8⟩
    rw [HC2.out]
    clear d00 d01 d02 d03 d04 d05 d06 d07
    have X8 := Lib.hid (X7.out.trans x8); have HPQ8 := Lib.hid (HPQ.out.later x8)
    clear x8
    obtain ⟨d00, d01, d02, d03, d04, d05, d06, d07⟩ := cells8 (heap_keep HBX.out X8.out)
    go_wp2_with fail
    refine (wcov _ _ ([(5, 7)] :: ps) m x y _ HPQ8.out.slQ (HV.out.later (HE0.out.trans X8.out)) ⟨HOQ.out, by have := HN.out; simp; omega, ⟨HM.out.1, by have := HM.out.2; omega⟩, HX.out, HY.out⟩).mono ?_
    rintro e w9 ⟨rfl, x9⟩
    rw [HC3.out]
    clear d00 d01 d02 d03 d04 d05 d06 d07
    go_wp2_with fail
    go_ret
    exact ⟨rfl, (HE0.out.trans X8.out).trans x9⟩

theorem covered_walk (v vc : Value) (vs : List Sl3) (ps : List (List (Int × Int))) (m : Int) (r : Raw) (w : World) (h : PQ w v vs ps) (hr : IsRaw w r vc) (hm : -9223372036854775808 ≤ m ∧ m ≤ 9223372036854775807) :
    Calls Tryz.prog 3 #[v, .int .i64 m, vc] w fun e w' => e = .returned (.bool true) ∧ Ext w w' := by
  cases hf : Vc.few3 ps with
  | false => exact covered_no v vc vs ps m r w h hr (.inl hf)
  | true =>
    cases hs : r.small with
    | false => exact covered_no v vc vs ps m r w h hr (.inr (.inl hs))
    | true =>
      by_cases h7 : m > 10000000
      · exact covered_no v vc vs ps m r w h hr (.inr (.inr h7))
      · exact covered_yes v vc vs ps m r w h hr hm.1 (by omega) hf hs
end Go.Proofs.YtlkhkldgmlfhkaaGreat

namespace Go.Proofs.YtlkhkldgmlfhkaaGreat
open Go.ChangeShapes Go.WideShapes Go.ChangeAt Go.RowKit Go.Joins

set_option maxRecDepth 100000 in
theorem liftContourCovered (os : Os) (started : os.Started) (H : Type) (enc : TypeId × Value → H) :
    ReturnsInHanded {} Tryz.checked os 3 .any (Rows.contourCoveredSpec.pre6 enc Tryz.prog Tryz.f3 Rows.contourCoveredRow.domain false) (Rows.contourCoveredSpec.post enc Tryz.prog Tryz.f3 false true false false) := by
  refine returnsInHanded_of_change (C := Tryz.checked) Tryz.own started (by kernel_rfl) Tryz.func3
    (ChangeSpec.witness6 (enc := enc) (C := Tryz.checked) false ⟨#[], #[.slice none 0 0, .int .i64 0, .agg #[.bool false, .slice none 0 0, .bool false, .slice none 0 0, .bool false, .slice none 0 0, .bool false, .slice none 0 0]], []⟩ 8 (by kernel_rfl) (by kernel_rfl) (by kernel_rfl) (by kernel_rfl)) ?_
  intro W base args ds gs before hval0 hW hcnd _
  have hval : ∀ (j : Nat) t v, Tryz.f3.params[j]? = some t → args[j]? = some v → Value.okWide Tryz.prog W .any base t v := hval0
  have hW' := hW
  obtain ⟨p, q, hA0, hV, rfl, hfz, hnd⟩ := hW
  have hA : DataW.TrodAll enc Tryz.prog W 0 (fun _ => true) true Tryz.f3.params.toList args.toList ds p := hA0
  rw [Tryz.params3] at hA hval
  obtain ⟨v0, vs0, d0, ds0, p0, q0, hargs, rfl, rfl, h0, r0⟩ := trodAll_cons hA
  obtain ⟨v1, vs1, d1, ds1, p1, q1, rfl, rfl, rfl, h1, r1⟩ := trodAll_cons r0
  obtain ⟨v2, vs2, d2, ds2, p2, q2, rfl, rfl, rfl, h2, r2⟩ := trodAll_cons r1
  obtain ⟨rfl, rfl, rfl⟩ := trodAll_nil r2
  obtain rfl : args = #[v0, v1, v2] := by cases args; simp_all
  obtain ⟨rfl, rfl⟩ := trodVars_none hV
  have lt0 : ∀ x ∈ p0, x.block < W.heap.size := by obtain ⟨m, hm⟩ := h0; exact DataW.trod_lt m _ _ _ hm
  have lt1 : ∀ x ∈ p1, x.block < W.heap.size := by obtain ⟨m, hm⟩ := h1; exact DataW.trod_lt m _ _ _ hm
  have lt2 : ∀ x ∈ p2, x.block < W.heap.size := by obtain ⟨m, hm⟩ := h2; exact DataW.trod_lt m _ _ _ hm
  obtain ⟨l0, m0_, a0⟩ := paths_of (hval 0 22 v0 rfl rfl) h0
  obtain ⟨x1, e1, b1⟩ := int_of (hval 1 2 v1 rfl rfl) h1
  subst e1
  obtain ⟨r2_, a2_⟩ := vec_of (hval 2 29 v2 rfl rfl) h2
  clear hA0 hval0
  refine (covered_walk v0 v2 l0 m0_ x1 r2_ W a0 a2_ (wf64 b1)).mono fun e W' ⟨he, bel⟩ => ?_
  subst he
  exact ⟨_, rfl, _, _, _, [], _, [], hW', trodAll_mk1 (shut_bool Tryz.underlying4 _), (trodAll_cons_mk (Below.trod Tryz.laidOut (by kernel_rfl) (of_decide_eq_true (by kernel_rfl)) h0 bel.out lt0) (trodAll_cons_mk (Below.trod Tryz.laidOut (by kernel_rfl) (of_decide_eq_true (by kernel_rfl)) h1 bel.out lt1) (trodAll_cons_mk (Below.trod Tryz.laidOut (by kernel_rfl) (of_decide_eq_true (by kernel_rfl)) h2 bel.out lt2) trodAll_mk0))), rfl, bel.out.frame _, fun h => by cases h⟩

/-- The statement. -/
theorem kcovered_holds : Rows.ContourCoveredSaid :=
  OpenClaim.holds_of_wide 3 Tryz.f3 rfl rfl rfl rfl rfl rfl rfl ⟨rfl, rfl, rfl, rfl, rfl⟩ rfl rfl rfl rfl rfl (by kernel_rfl) Tryz.func3 (by kernel_rfl)
    (of_decide_eq_true (by kernel_rfl)) (by unfold Func.isWrapper; first | (rw [if_pos (by decide +kernel)]; kernel_rfl) | (rw [if_neg (by decide +kernel)]; exact ⟨rfl, rfl⟩))
    (fun os started H enc _ => liftContourCovered os started H enc)

#print axioms kcovered_holds
end Go.Proofs.YtlkhkldgmlfhkaaGreat
