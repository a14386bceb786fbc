/-
  What the laws of chapter 31 are told of their arguments: paths, numbers.
  What the laws of chapter 31 are told of their arguments: vectors, truth values.
  ContourWinding: Winding returns the winding number of a closed path around a point, or ErrInvalid; that of the reversed path is the opposite one: for every input the law returns true, and its arguments stay as they were. No condition.
-/
import Derived.Test.YtlkhkldgmlfhkaaGreatQW19
import Derived.ProofKit
import Derived.OpenShut
import Derived.Lib.SmallJoins
import Derived.ChangeOld
import Derived.Laws.AppendOwnNone
import Derived.Deep.Slices
import Derived.Test.YtlkhkldgmlfhkaaGreatQW20
import Derived.Test.YtlkhkldgmlfhkaaGreatRows
namespace Go.Proofs.YtlkhkldgmlfhkaaGreat
open Go.ChangeShapes Go.WideShapes Go.ChangeAt Go.RowKit Go.Joins Go.Deep
set_option maxRecDepth 8000

theorem Tryz.own : ownKnob Tryz.prog.godebug = none := by kernel_rfl
theorem Tryz.laidOut : laidOutB Tryz.prog = true := by kernel_rfl
theorem Addr.add_none (b off i : Nat) : (⟨b, off, none⟩ : Addr).add i = ⟨b, off + i, none⟩ := addr_plain b off i

section
variable {H : Type} {enc : TypeId × Value → H} {W : World} {base : Nat} {v : Value} {d : DataW H} {p : List MemPlace} {t : TypeId}

theorem wf64 {x : Int} (h : (Lit.int .i64 x).wf = true) : -9223372036854775808 ≤ x ∧ x ≤ 9223372036854775807 := by
  simp only [Lit.wf, Bool.and_eq_true, decide_eq_true_eq] at h
  exact h

theorem int1_of {n : Nat} {c : Value} {y : Option (DataW H × List MemPlace)} (hy : y.isSome = true) (ht : Tryz.prog.underlying t = some (.int .i64)) (h : DataW.trod enc Tryz.prog W 0 (fun _ => true) true n t [c] = y) : ∃ x : Int, c = .int .i64 x ∧ -9223372036854775808 ≤ x ∧ x ≤ 9223372036854775807 := by
  cases y with
  | none => cases hy
  | some y =>
    obtain ⟨x, h1, _, h2⟩ := DataW.trod_int ht h
    have := wf64 h2
    simp at h1
    exact ⟨x, h1, this⟩

theorem some_of {α : Type} {l : List α} {i n : Nat} (h : l.length = n) (hi : i < n) : (l[i]?).isSome = true := by
  rw [List.getElem?_eq_getElem (by omega)]; rfl

/-- A slice whose elements are rows of cells. -/
theorem row_of {α : Type} {e : TypeId} {k fuel : Nat} (cells : α → List Value) (Q : α → Prop) (z : α) {cs : List Value} {x : DataW H × List MemPlace}
    (ht : Tryz.prog.underlying t = some (.slice e)) (hk : Tryz.prog.cellsOf e = k) (hk0 : 0 < k) (hone : ∀ m, ∃ u, (cells m)[0]? = some u)
    (hel : ∀ {n : Nat} {cs : List Value} {y : DataW H × List MemPlace}, DataW.trod enc Tryz.prog W 0 (fun _ => true) true n e cs = some y → ∃ m, Q m ∧ cs = cells m)
    (h : DataW.trod enc Tryz.prog W 0 (fun _ => true) true fuel t cs = some x) :
    ∃ (a : Option Addr) (n cap b off : Nat) (l : List α), cs = [.slice a n cap] ∧ n = l.length ∧ (n = 0 ∨ a = some ⟨b, off, none⟩) ∧ n ≤ cap ∧ (a = none → cap = 0) ∧ n ≤ 9223372036854775807 ∧ (∀ m ∈ l, Q m) ∧ (∀ i, i < n → b < W.heap.size ∧ ∀ j, j < k → W.cell? ⟨b, off + i * k + j, none⟩ = (cells (l.getD i z))[j]?) ∧
      ((x.1.weights Tryz.prog t).all (· ≤ reachBytes) = true → n * Tryz.prog.bytesOf e ≤ reachBytes) := by
  rcases open_slice ht h with ⟨hcs, _⟩ | ⟨a, len, cap, m, n, D, Pl, hcs, _, hl, hm, hmm, hx, hel2⟩
  · exact ⟨none, 0, 0, 0, 0, [], hcs, rfl, .inl rfl, Nat.le_refl _, fun _ => rfl, by omega, fun m hm => by simp at hm, fun i hi => by omega, fun _ => by omega⟩
  · rw [if_pos rfl] at hmm
    subst hmm
    have hex : ∀ i, i < len → ∃ mo : α, Q mo ∧ ∀ j, j < k → W.cell? ((a.add (i * k)).add j) = (cells mo)[j]? := fun i hil => by
      obtain ⟨cs', hc, htr⟩ := hel2 i (by omega)
      obtain ⟨mo, hw, rfl⟩ := hel htr
      rw [hk] at hc
      obtain ⟨_, _, hat⟩ := World.cells?_some hc
      exact ⟨mo, hw, hat⟩
    obtain ⟨b, off, sp⟩ := a
    have hsp : len = 0 ∨ sp = none := by
      by_cases h0 : len = 0
      · exact .inl h0
      · right
        obtain ⟨mo, _, hc⟩ := hex 0 (by omega)
        have hc := hc 0 hk0
        obtain ⟨u, hy⟩ := hone mo
        rw [hy] at hc
        cases sp with
        | none => rfl
        | some s =>
          rw [show ((⟨b, off, some s⟩ : Addr).add (0 * k)).add 0 = ⟨b, off, some s⟩ from by simp [Addr.add]] at hc
          unfold World.cell? at hc
          split at hc
          · simp at hc
          · cases hc
    obtain ⟨f, hf⟩ : ∃ f : Nat → α, ∀ i, i < len → Q (f i) ∧ ∀ j, j < k → W.cell? (((⟨b, off, sp⟩ : Addr).add (i * k)).add j) = (cells (f i))[j]? := by
      refine ⟨fun i => if h : i < len then Classical.choose (hex i h) else z, fun i hi => ?_⟩
      simp only [hi, dif_pos]
      exact Classical.choose_spec (hex i hi)
    have hlen : ((List.range len).map f).length = len := by simp
    have hget : ∀ i, i < len → ((List.range len).map f).getD i z = f i := fun i hi => by simp [hi]
    unfold maxLen at hm
    refine ⟨some ⟨b, off, sp⟩, len, m, b, off, (List.range len).map f, hcs, hlen.symm, ?_, hl, (fun h => by cases h), by omega, fun mo hmo => ?_, fun i hi => ?_, fun hw => ?_⟩
    · rcases hsp with h | h
      · exact .inl h
      · subst h; exact .inr rfl
    · obtain ⟨i, hi, rfl⟩ := List.mem_map.1 hmo
      exact (hf i (List.mem_range.1 hi)).1
    · rcases hsp with h | h
      · omega
      · subst h
        rw [hget i hi]
        have hc := (hf i hi).2
        have hc' : ∀ j, j < k → W.cell? ⟨b, off + i * k + j, none⟩ = (cells (f i))[j]? := fun j hj => by
          have := hc j hj
          rw [Addr.add_none, Addr.add_none] at this
          exact this
        refine ⟨?_, hc'⟩
        obtain ⟨u, hy⟩ := hone (f i)
        exact World.block_lt_of_cell? W ⟨b, off + i * k + 0, none⟩ ((hc' 0 hk0).trans hy)
    · rw [hx] at hw
      simp only [DataW.weights, ht, List.all_cons, Bool.and_eq_true, decide_eq_true_eq] at hw
      have h1 := hw.1
      simp only [List.length_map, List.length_range] at h1
      refine Nat.le_trans (Nat.mul_le_mul_right _ ?_) h1
      omega


theorem int_of (hv : Value.okWide Tryz.prog W .any base 2 v) (h : DataW.Trod enc Tryz.prog W 0 (fun _ => true) true 2 v d p) : ∃ x : Int, v = .int .i64 x ∧ (Lit.int .i64 x).wf = true := by
  obtain ⟨x, h1, _, _, h4⟩ := open_int Tryz.underlying2 hv h; exact ⟨x, h1, h4⟩
/-- A number of a position. -/
def rng (x : Int) : Prop := -9223372036854775808 ≤ x ∧ x ≤ 9223372036854775807
theorem grid_of {n : Nat} {cs : List Value} {y : DataW H × List MemPlace} (h : DataW.trod enc Tryz.prog W 0 (fun _ => true) true n 35 cs = some y) : ∃ m : Int × Int, (rng m.1 ∧ rng m.2) ∧ cs = gC m := by
  obtain ⟨ys, m, _, _, hs, hl, hf⟩ := DataW.trod_struct Tryz.underlying35 h
  have k1 : Tryz.prog.cellsOf 2 = 1 := by kernel_rfl
  have k2 : Tryz.prog.cellsOf 35 = 2 := by kernel_rfl
  rw [k2] at hs
  match cs, hs with
  | [c0, c1], _ =>
    have f0 : DataW.trod enc Tryz.prog W 0 (fun _ => true) true m 2 (([c0, c1].drop 0).take (Tryz.prog.cellsOf 2)) = ys[0]? := hf 0 _ rfl
    have f1 : DataW.trod enc Tryz.prog W 0 (fun _ => true) true m 2 (([c0, c1].drop 1).take (Tryz.prog.cellsOf 2)) = ys[1]? := hf 1 _ rfl
    rw [k1] at f0 f1
    simp only [List.drop_zero, List.drop_succ_cons, List.take_succ_cons, List.take_zero] at f0 f1
    obtain ⟨x, rfl, hx⟩ := int1_of (some_of hl (by decide)) Tryz.underlying2 f0
    obtain ⟨y, rfl, hy⟩ := int1_of (some_of hl (by decide)) Tryz.underlying2 f1
    exact ⟨(x, y), ⟨hx, hy⟩, rfl⟩
theorem slT_row {v : Value} {a : Option Addr} {n cap b off : Nat} {l : List (Int × Int)} (hcs : v = .slice a n cap) (hn : n = l.length) (g3 : n = 0 ∨ a = some ⟨b, off, none⟩) (g5 : n ≤ cap) (g6 : a = none → cap = 0) (g8 : ∀ i, i < n → b < W.heap.size ∧ ∀ j, j < 2 → W.cell? ⟨b, off + i * 2 + j, none⟩ = (gC (l.getD i (0, 0)))[j]?) : SlT W v l := by
  subst hcs
  refine ⟨a, n, cap, b, off, rfl, hn, g3, g6, g5, fun i x hx => ?_⟩
  have hi : i < l.length := by
    rcases Nat.lt_or_ge i l.length with h' | h'
    · exact h'
    · rw [List.getElem?_eq_none h'] at hx; cases hx
  obtain ⟨q1, q2⟩ := g8 i (by omega)
  refine ⟨q1, fun r u hu => ?_⟩
  have hr : r < 2 := by
    rcases Nat.lt_or_ge r (gC x).length with h' | h'
    · exact h'
    · rw [List.getElem?_eq_none h'] at hu; cases hu
  rw [q2 r hr]
  have : l.getD i (0, 0) = x := by simp [List.getD_eq_getElem?_getD, hx]
  rw [this]; exact hu
/-- A path that comes in. -/
theorem path_of (hv : Value.okWide Tryz.prog W .any base 36 v) (h : DataW.Trod enc Tryz.prog W 0 (fun _ => true) true 36 v d p) :
    ∃ l : List (Int × Int), SlT W v l ∧ (∀ m ∈ l, rng m.1 ∧ rng m.2) ∧ l.length ≤ 9223372036854775807 := by
  obtain ⟨a0, len, cap, rfl⟩ := okWide_slice Tryz.underlying36 hv
  obtain ⟨fuel, hf⟩ := h
  obtain ⟨aa, n, c, b, off, wl, hcs, hn, g3, g5, g6, g7, gq, g8, _⟩ := row_of gC (fun m => rng m.1 ∧ rng m.2) (0, 0) Tryz.underlying36 (k := 2) (by kernel_rfl) (by decide) (fun m => ⟨_, rfl⟩) grid_of hf
  simp [Value.cells] at hcs
  exact ⟨wl, slT_row (by simp [hcs]) hn g3 g5 g6 g8, gq, by rw [← hn]; exact g7⟩
end
end Go.Proofs.YtlkhkldgmlfhkaaGreat

namespace Go.Proofs.YtlkhkldgmlfhkaaGreat
open Go.ChangeShapes Go.WideShapes Go.ChangeAt Go.RowKit Go.Joins Go.Deep
set_option maxRecDepth 8000

section
variable {H : Type} {enc : TypeId × Value → H} {W : World} {base : Nat} {v : Value} {d : DataW H} {p : List MemPlace} {t : TypeId}

theorem bool_of (hv : Value.okWide Tryz.prog W .any base 4 v) (h : DataW.Trod enc Tryz.prog W 0 (fun _ => true) true 4 v d p) : ∃ x : Bool, v = .bool x := by
  obtain ⟨x, h1, _⟩ := open_bool Tryz.underlying4 hv h; exact ⟨x, h1⟩
theorem slG_row {α : Type} {f : α → List Value} {k : Nat} (hf : ∀ x, (f x).length = k) (z : α) {v : Value} {a : Option Addr} {n cap b off : Nat} {l : List α} (hcs : v = .slice a n cap) (hn : n = l.length) (g3 : n = 0 ∨ a = some ⟨b, off, none⟩) (g5 : n ≤ cap) (g6 : a = none → cap = 0) (g8 : ∀ i, i < n → b < W.heap.size ∧ ∀ j, j < k → W.cell? ⟨b, off + i * k + j, none⟩ = (f (l.getD i z))[j]?) : SlG k f W v l := by
  subst hcs
  refine ⟨a, n, cap, b, off, rfl, hn, g3, g6, g5, fun i x hx => ?_⟩
  have hi : i < l.length := by
    rcases Nat.lt_or_ge i l.length with h' | h'
    · exact h'
    · rw [List.getElem?_eq_none h'] at hx; cases hx
  obtain ⟨q1, q2⟩ := g8 i (by omega)
  refine ⟨q1, fun r u hu => ?_⟩
  have hr : r < k := by
    rcases Nat.lt_or_ge r (f x).length with h' | h'
    · rw [hf] at h'; exact h'
    · rw [List.getElem?_eq_none h'] at hu; cases hu
  rw [q2 r hr]
  have : l.getD i z = x := by simp [List.getD_eq_getElem?_getD, hx]
  rw [this]; exact hu
theorem u32_of {n : Nat} {cs : List Value} {y : DataW H × List MemPlace} (h : DataW.trod enc Tryz.prog W 0 (fun _ => true) true n 84 cs = some y) : ∃ m : Nat, True ∧ cs = uC m := by
  obtain ⟨x, h1, _, h2⟩ := DataW.trod_int Tryz.underlying84 h
  simp only [Lit.wf, Bool.and_eq_true, decide_eq_true_eq] at h2
  have h3 : (0 : Int) ≤ x := h2.1
  refine ⟨x.toNat, trivial, ?_⟩
  rw [h1]
  unfold uC
  rw [Int.toNat_of_nonneg h3]
theorem limbs_of {n : Nat} {cs : List Value} {y : DataW H × List MemPlace} (h : DataW.trod enc Tryz.prog W 0 (fun _ => true) true n 23 cs = some y) : ∃ (u : Value) (l : List Nat), cs = [u] ∧ SlU W u l := by
  obtain ⟨aa, n, c, b, off, wl, hcs, hn, g3, g5, g6, g7, gq, g8, _⟩ := row_of uC (fun _ => True) 0 Tryz.underlying23 (k := 1) (by kernel_rfl) (by decide) (fun m => ⟨_, rfl⟩) u32_of h
  exact ⟨_, wl, hcs, slG_row uC_len 0 rfl hn g3 g5 g6 g8⟩
theorem bool1_of {n : Nat} {cs : List Value} {y : DataW H × List MemPlace} (h : DataW.trod enc Tryz.prog W 0 (fun _ => true) true n 4 cs = some y) : ∃ x : Bool, cs = [.bool x] := by
  obtain ⟨b, h1, _⟩ := DataW.trod_bool Tryz.underlying4 h; exact ⟨b, h1⟩
theorem of_some {α : Type} {l : List α} {i n : Nat} {o : Option α} (h : l.length = n) (hi : i < n) (e : o = l[i]?) : ∃ x, o = some x := by
  rw [e, List.getElem?_eq_getElem (by omega)]; exact ⟨_, rfl⟩
theorem big_of {n : Nat} {cs : List Value} {y : DataW H × List MemPlace} (h : DataW.trod enc Tryz.prog W 0 (fun _ => true) true n 25 cs = some y) : ∃ (b : Bool) (u : Value) (l : List Nat), cs = [.bool b, u] ∧ SlU W u l := by
  obtain ⟨ys, m, _, _, hs, hl, hf⟩ := DataW.trod_struct Tryz.underlying25 h
  have k1 : Tryz.prog.cellsOf 4 = 1 := by kernel_rfl
  have k2 : Tryz.prog.cellsOf 23 = 1 := by kernel_rfl
  have k3 : Tryz.prog.cellsOf 25 = 2 := by kernel_rfl
  rw [k3] at hs
  match cs, hs with
  | [c0, c1], _ =>
    have f0 : DataW.trod enc Tryz.prog W 0 (fun _ => true) true m 4 (([c0, c1].drop 0).take (Tryz.prog.cellsOf 4)) = ys[0]? := hf 0 _ rfl
    have f1 : DataW.trod enc Tryz.prog W 0 (fun _ => true) true m 23 (([c0, c1].drop 1).take (Tryz.prog.cellsOf 23)) = ys[1]? := hf 1 _ rfl
    rw [k1] at f0
    rw [k2] at f1
    simp only [List.drop_zero, List.drop_succ_cons, List.take_succ_cons, List.take_zero] at f0 f1
    obtain ⟨_, e0⟩ := of_some hl (by decide) f0
    obtain ⟨_, e1⟩ := of_some hl (by decide) f1
    obtain ⟨b, g0⟩ := bool1_of e0
    obtain ⟨u, l, g1, g2⟩ := limbs_of e1
    simp only [List.cons.injEq, and_true] at g0 g1
    subst g0 g1
    exact ⟨b, _, l, rfl, g2⟩
theorem rat_of {n : Nat} {cs : List Value} {y : DataW H × List MemPlace} (h : DataW.trod enc Tryz.prog W 0 (fun _ => true) true n 27 cs = some y) : ∃ (b : Bool) (u : Value) (l : List Nat) (c : Bool) (u2 : Value) (m : List Nat), cs = [.bool b, u, .bool c, u2] ∧ SlU W u l ∧ SlU W u2 m := by
  obtain ⟨ys, m, _, _, hs, hl, hf⟩ := DataW.trod_struct Tryz.underlying27 h
  have k2 : Tryz.prog.cellsOf 25 = 2 := by kernel_rfl
  have k3 : Tryz.prog.cellsOf 27 = 4 := by kernel_rfl
  rw [k3] at hs
  match cs, hs with
  | [c0, c1, c2, c3], _ =>
    have f0 : DataW.trod enc Tryz.prog W 0 (fun _ => true) true m 25 (([c0, c1, c2, c3].drop 0).take (Tryz.prog.cellsOf 25)) = ys[0]? := hf 0 _ rfl
    have f1 : DataW.trod enc Tryz.prog W 0 (fun _ => true) true m 25 (([c0, c1, c2, c3].drop 2).take (Tryz.prog.cellsOf 25)) = ys[1]? := hf 1 _ rfl
    rw [k2] at f0 f1
    simp only [List.drop_zero, List.drop_succ_cons, List.take_succ_cons, List.take_zero] at f0 f1
    obtain ⟨_, e0⟩ := of_some hl (by decide) f0
    obtain ⟨_, e1⟩ := of_some hl (by decide) f1
    obtain ⟨b, u, l, g0, s0⟩ := big_of e0
    obtain ⟨b1, u1, l1, g1, s1⟩ := big_of e1
    simp only [List.cons.injEq, and_true] at g0 g1
    obtain ⟨rfl, rfl⟩ := g0
    obtain ⟨rfl, rfl⟩ := g1
    exact ⟨_, _, _, _, _, _, rfl, s0, s1⟩
theorem vec_of (hv : Value.okWide Tryz.prog W .any base 29 v) (h : DataW.Trod enc Tryz.prog W 0 (fun _ => true) true 29 v d p) : ∃ r : Raw, IsRaw W r v := by
  simp only [Value.okWide, Tryz.underlying29] at hv
  obtain ⟨cs, rfl, _, _⟩ := hv
  obtain ⟨fuel, hf⟩ := h
  obtain ⟨ys, m, _, _, hs, hl, hf⟩ := DataW.trod_struct Tryz.underlying29 hf
  have k2 : Tryz.prog.cellsOf 27 = 4 := by kernel_rfl
  have k3 : Tryz.prog.cellsOf 29 = 8 := by kernel_rfl
  obtain ⟨cs⟩ := cs
  simp only [Value.cells] at hs hf
  rw [k3] at hs
  match cs, hs with
  | [c0, c1, c2, c3, c4, c5, c6, c7], _ =>
    have f0 : DataW.trod enc Tryz.prog W 0 (fun _ => true) true m 27 (([c0, c1, c2, c3, c4, c5, c6, c7].drop 0).take (Tryz.prog.cellsOf 27)) = ys[0]? := hf 0 _ rfl
    have f1 : DataW.trod enc Tryz.prog W 0 (fun _ => true) true m 27 (([c0, c1, c2, c3, c4, c5, c6, c7].drop 4).take (Tryz.prog.cellsOf 27)) = ys[1]? := hf 1 _ rfl
    rw [k2] at f0 f1
    simp only [List.drop_zero, List.drop_succ_cons, List.take_succ_cons, List.take_zero] at f0 f1
    obtain ⟨_, e0⟩ := of_some hl (by decide) f0
    obtain ⟨_, e1⟩ := of_some hl (by decide) f1
    obtain ⟨b, u, l, c, u2, m2, g0, s0, t0⟩ := rat_of e0
    obtain ⟨b1, u1, l1, c1, u3, m3, g1, s1, t1⟩ := rat_of e1
    simp only [List.cons.injEq, and_true] at g0 g1
    obtain ⟨rfl, rfl, rfl, rfl⟩ := g0
    obtain ⟨rfl, rfl, rfl, rfl⟩ := g1
    exact ⟨⟨b, l, c, m2, b1, l1, c1, m3⟩, _, rfl, ⟨rfl, rfl⟩, ⟨s0, Vc.Away.none rfl rfl _ _⟩, ⟨rfl, rfl⟩, ⟨t0, Vc.Away.none rfl rfl _ _⟩, ⟨rfl, rfl⟩, ⟨s1, Vc.Away.none rfl rfl _ _⟩, ⟨rfl, rfl⟩, ⟨t1, Vc.Away.none rfl rfl _ _⟩, trivial⟩
end
end Go.Proofs.YtlkhkldgmlfhkaaGreat

namespace Go.Proofs.YtlkhkldgmlfhkaaGreat
open Go.ChangeShapes Go.WideShapes Go.ChangeAt Go.RowKit Go.Joins

set_option maxRecDepth 100000 in
theorem liftContourWinding (os : Os) (started : os.Started) (H : Type) (enc : TypeId × Value → H) :
    ReturnsInHanded {} Tryz.checked os 4 .any (Rows.contourWindingSpec.pre6 enc Tryz.prog Tryz.f4 Rows.contourWindingRow.domain false) (Rows.contourWindingSpec.post enc Tryz.prog Tryz.f4 false true false false) := by
  refine returnsInHanded_of_change (C := Tryz.checked) Tryz.own started (by kernel_rfl) Tryz.func4
    (ChangeSpec.witness6 (enc := enc) (C := Tryz.checked) false ⟨#[], #[.slice none 0 0, .agg #[.bool false, .slice none 0 0, .bool false, .slice none 0 0, .bool false, .slice none 0 0, .bool false, .slice none 0 0]], []⟩ 8 (by kernel_rfl) (by kernel_rfl) (by kernel_rfl) (by kernel_rfl)) ?_
  intro W base args ds gs before hval0 hW hcnd _
  have hval : ∀ (j : Nat) t v, Tryz.f4.params[j]? = some t → args[j]? = some v → Value.okWide Tryz.prog W .any base t v := hval0
  have hW' := hW
  obtain ⟨p, q, hA0, hV, rfl, hfz, hnd⟩ := hW
  have hA : DataW.TrodAll enc Tryz.prog W 0 (fun _ => true) true Tryz.f4.params.toList args.toList ds p := hA0
  rw [Tryz.params4] at hA hval
  obtain ⟨v0, vs0, d0, ds0, p0, q0, hargs, rfl, rfl, h0, r0⟩ := trodAll_cons hA
  obtain ⟨v1, vs1, d1, ds1, p1, q1, rfl, rfl, rfl, h1, r1⟩ := trodAll_cons r0
  obtain ⟨rfl, rfl, rfl⟩ := trodAll_nil r1
  obtain rfl : args = #[v0, v1] := by cases args; simp_all
  obtain ⟨rfl, rfl⟩ := trodVars_none hV
  have lt0 : ∀ x ∈ p0, x.block < W.heap.size := by obtain ⟨m, hm⟩ := h0; exact DataW.trod_lt m _ _ _ hm
  have lt1 : ∀ x ∈ p1, x.block < W.heap.size := by obtain ⟨m, hm⟩ := h1; exact DataW.trod_lt m _ _ _ hm
  obtain ⟨l0, a0, w0, n0⟩ := path_of (hval 0 36 v0 rfl rfl) h0
  obtain ⟨r1_, a1_⟩ := vec_of (hval 1 29 v1 rfl rfl) h1
  clear hA0 hval0
  refine (winding_walk v0 v1 l0 r1_ W a0 a1_).mono fun e W' ⟨he, bel⟩ => ?_
  subst he
  exact ⟨_, rfl, _, _, _, [], _, [], hW', trodAll_mk1 (shut_bool Tryz.underlying4 _), (trodAll_cons_mk (Below.trod Tryz.laidOut (by kernel_rfl) (of_decide_eq_true (by kernel_rfl)) h0 bel.out lt0) (trodAll_cons_mk (Below.trod Tryz.laidOut (by kernel_rfl) (of_decide_eq_true (by kernel_rfl)) h1 bel.out lt1) trodAll_mk0)), rfl, bel.out.frame _, fun h => by cases h⟩

/-- The statement. -/
theorem kwinding_holds : Rows.ContourWindingSaid :=
  OpenClaim.holds_of_wide 4 Tryz.f4 rfl rfl rfl rfl rfl rfl rfl ⟨rfl, rfl, rfl, rfl, rfl⟩ rfl rfl rfl rfl rfl (by kernel_rfl) Tryz.func4 (by kernel_rfl)
    (of_decide_eq_true (by kernel_rfl)) (by unfold Func.isWrapper; first | (rw [if_pos (by decide +kernel)]; kernel_rfl) | (rw [if_neg (by decide +kernel)]; exact ⟨rfl, rfl⟩))
    (fun os started H enc _ => liftContourWinding os started H enc)

#print axioms kwinding_holds
end Go.Proofs.YtlkhkldgmlfhkaaGreat
