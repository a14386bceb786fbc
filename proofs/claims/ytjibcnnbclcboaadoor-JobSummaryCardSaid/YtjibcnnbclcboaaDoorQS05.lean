/-
  What a law is told of an argument: a slice of numbers.
-/
import Derived.Test.YtjibcnnbclcboaaDoorQS03
import Derived.Test.YtjibcnnbclcboaaDoorQS04
import Derived.ProofKit
import Derived.OpenShut
import Derived.Lib.SmallJoins
import Derived.ChangeOld
import Derived.Laws.AppendOwnNone
namespace Go.Proofs.YtjibcnnbclcboaaDoor
open Go.ChangeShapes Go.WideShapes Go.ChangeAt Go.RowKit Go.Joins
set_option maxRecDepth 8000

theorem Tryd.own : ownKnob Tryd.prog.godebug = none := by kernel_rfl
theorem Tryd.laidOut : laidOutB Tryd.prog = true := by kernel_rfl

theorem Addr.add_none (b off i : Nat) : (⟨b, off, none⟩ : Addr).add i = ⟨b, off + i, none⟩ := by
  unfold Addr.add
  split
  · rename_i h; subst h; rfl
  · rfl

/-- A slice that came in: nil, or the numbers lie behind its address. -/
def ArgI (w : World) (v : Value) (l : List Int) : Prop :=
  (v = .slice none 0 0 ∧ l = []) ∨ ∃ (x : Addr) (cap : Nat), v = .slice (some x) l.length cap ∧ l.length ≤ maxLen ∧ (l.length = 0 ∨ x.spot = none) ∧ ∀ i, i < l.length → x.block < w.heap.size ∧ w.cell? ⟨x.block, x.off + i, none⟩ = some (.int .i64 (l.getD i 0))

theorem ArgI.later {w w' : World} {v : Value} {l : List Int} (h : ArgI w v l) (he : Ext w w') : ArgI w' v l := by
  rcases h with h | ⟨x, cap, h1, h0, h3, h2⟩
  · exact .inl h
  · refine .inr ⟨x, cap, h1, h0, h3, fun i hi => ?_⟩
    obtain ⟨p, q⟩ := h2 i hi
    exact ⟨Nat.lt_of_lt_of_le p he.size, by rw [he.cell (p := ⟨x.block, x.off + i, none⟩) p]; exact q⟩

theorem ArgI.sl {w : World} {v : Value} {l : List Int} (h : ArgI w v l) : SlI w v l := by
  rcases h with ⟨rfl, rfl⟩ | ⟨⟨b, off, sp⟩, cap, rfl, h0, h3, h2⟩
  · exact ⟨none, 0, 0, 0, 0, rfl, rfl, .inl rfl, fun i hi => by omega⟩
  · refine ⟨_, _, cap, b, off, rfl, rfl, ?_, h2⟩
    rcases h3 with h3 | h3
    · exact .inl h3
    · simp only at h3; subst h3; exact .inr rfl

/-- A slice of int64 that is read is such a one. -/
theorem argI_of {H : Type} {enc : TypeId × Value → H} {W : World} {base : Nat} {v : Value} {d : DataW H} {p : List MemPlace}
    (hv : Value.okWide Tryd.prog W .any base 96 v) (h : DataW.Trod enc Tryd.prog W 0 (fun _ => true) true 96 v d p) : ∃ l, ArgI W v l := by
  have hlt : ∀ x ∈ p, x.block < W.heap.size := by obtain ⟨m, hm⟩ := h; exact DataW.trod_lt m _ _ _ hm
  obtain ⟨a0, len, cap, rfl⟩ := okWide_slice Tryd.underlying96 hv
  obtain ⟨fuel, hf⟩ := h
  rcases open_ints Tryd.underlying96 Tryd.underlying2 (by kernel_rfl) hf with ⟨hcs, _⟩ | ⟨x, l, c, zs, hcs, _, hl, hm, hz, _, hcell, hwz⟩
  · simp [Value.cells] at hcs
    obtain ⟨rfl, rfl, rfl⟩ := hcs
    exact ⟨[], .inl ⟨rfl, rfl⟩⟩
  · simp [Value.cells] at hcs
    obtain ⟨rfl, rfl, rfl⟩ := hcs
    have hz' : zs.length = cap := by simpa using hz
    have hlen : (zs.take len).length = len := by rw [List.length_take]; omega
    have hsp : len = 0 ∨ x.spot = none := by
      by_cases h0 : len = 0
      · exact .inl h0
      · have hc := hcell 0 (by omega)
        obtain ⟨b, off, sp⟩ := x
        cases sp with
        | none => exact .inr rfl
        | some s =>
          rw [show (⟨b, off, some s⟩ : Addr).add 0 = ⟨b, off, some s⟩ from by simp [Addr.add]] at hc
          unfold World.cell? at hc
          split at hc
          · simp at hc
          · cases hc
    refine ⟨zs.take len, .inr ⟨x, cap, by rw [hlen], by rw [hlen]; omega, by rw [hlen]; exact hsp, fun i hi => ?_⟩⟩
    rw [hlen] at hi
    have hc := hcell i (by omega)
    obtain ⟨b, off, sp⟩ := x
    rcases hsp with h | h
    · omega
    · simp only at h
      subst h
      rw [Addr.add_none] at hc
      have hbl : (⟨b, off + i, none⟩ : Addr).block < W.heap.size := World.block_lt_of_cell? W ⟨b, off + i, none⟩ hc
      refine ⟨hbl, ?_⟩
      rw [hc]
      simp [List.getElem?_take_of_lt hi]

end Go.Proofs.YtjibcnnbclcboaaDoor
