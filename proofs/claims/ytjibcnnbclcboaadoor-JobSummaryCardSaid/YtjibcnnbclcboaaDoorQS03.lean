/-
  Walks: Stop of layer 49.
  Walks: Smooth of layer 49, in the program and in the reference.
  Walks: Smooth of layer 49, in the reference; limits that are not valid.
  Walks: Position of layer 49.
  Walks: Position of layer 49, continued.
  Walks: theirs, Same, Sum, far, between, Position of the reference of layer 49.
  Walks: Position of the reference of layer 49.
  Walks: awake of layer 49's statements.
-/
import Derived.Test.YtjibcnnbclcboaaDoorQS02
import Derived.Deep.Onto
namespace Go.Proofs.YtjibcnnbclcboaaDoor
open Go.RowKit
set_option maxRecDepth 8000

theorem Tryd.info_i64 : (Tryd.prog.info? 2).map (fun i => (i.zero, i.size, i.bytes)) = some (some (.int .i64 0), 1, 8) := by kernel_rfl

/-- A slice of the call's own that holds these numbers. -/
def Own (B : Nat) (w : World) (v : Value) (l : List Int) : Prop := w.ownsRow B 2 1 v l.length (l.map (Value.int .i64))
theorem Own.later {B : Nat} {w w' : World} {v : Value} {l : List Int} (h : Own B w v l) (he : Ext w w') : Own B w' v l := by
  refine World.ownsRow.kept h (row := none) ⟨he.out.os, he.out.tape, he.out.output, he.size, fun k hk _ => he.out.block k hk⟩ ?_
  cases h' : v.ownBlock <;> simp
theorem Own.set {B : Nat} {w : World} {v : Value} {l : List Int} (h : Own B w v l) {a : Addr} (ha : v.ownBlock ≠ some a.block) (u : Value) : Own B (w.setCell a u) v l := ownsRow_setCell_other h ha u
theorem Own.nil (B : Nat) (w : World) : Own B w (.slice none 0 0) [] := World.ownsRow_nil _ _ _ _
/-- A slice of numbers and an error code are returned. -/
def RetInts (w : World) (l : List Int) (c : Int) (e : Ending) (w' : World) : Prop := ∃ v, e = .returned (.tuple #[v, .int .i64 c]) ∧ Own w.heap.size w' v l ∧ Ext w w'

theorem DBox.grown {w wr w1 : World} {N M : Nat} {s a j v b : Int} {row : Option Nat} (h : DBox w wr N M s a j v b) (hg : wr.grownBy w1 row) (h1 : row ≠ some N) (h2 : row ≠ some M) (h3 : ∀ k, row = some k → w.heap.size ≤ k) : DBox w w1 N M s a j v b where
  ext := Below.grown h.ext.out hg h.ext.size h3
  old := h.old
  nm := h.nm
  nlt := Nat.lt_of_lt_of_le h.nlt hg.size
  mlt := Nat.lt_of_lt_of_le h.mlt hg.size
  c0 := by rw [World.cell?_of_block (hg.block N h.nlt (Ne.symm h1))]; exact h.c0
  c1 := by rw [World.cell?_of_block (hg.block N h.nlt (Ne.symm h1))]; exact h.c1
  c2 := by rw [World.cell?_of_block (hg.block N h.nlt (Ne.symm h1))]; exact h.c2
  d0 := by rw [World.cell?_of_block (hg.block M h.mlt (Ne.symm h2))]; exact h.d0
  d1 := by rw [World.cell?_of_block (hg.block M h.mlt (Ne.symm h2))]; exact h.d1
  f0 := by rw [World.frozen?_of_block (hg.block M h.mlt (Ne.symm h2))]; exact h.f0
  f1 := by rw [World.frozen?_of_block (hg.block M h.mlt (Ne.symm h2))]; exact h.f1

/-- A new box for the state. -/
theorem DBox.anew {w wr : World} {N M : Nat} {s a j v b : Int} (h : DBox w wr N M s a j v b) (t : TypeId) (x y : Int) : DBox w (wr.alloc (.cells #[.int .i64 x, .int .i64 y] t)) N wr.heap.size s a j x y := by
  have hl := h.later ((Ext.refl wr).alloc (.cells #[.int .i64 x, .int .i64 y] t))
  exact { ext := hl.ext, old := h.ext.size, nm := by have := h.nlt; omega, nlt := hl.nlt, mlt := by simp, c0 := hl.c0, c1 := hl.c1, c2 := hl.c2, d0 := by simp [go_sem], d1 := by simp [go_sem], f0 := by simp [go_sem], f1 := by simp [go_sem] }

set_option maxHeartbeats 1000000 in
theorem stop_no (s a j p q : Int) (w : World) (h : mvg s a j p q = false) :
    Calls Tryd.prog 56 #[.int .i64 p, .int .i64 q, Lm s a j] w (RetInts w [] 1) := by
  go_enter Tryd.func56, Tryd.ntmps56
  go_wp2_with fail
  refine (moving_any s a j p q _).mono ?_
  rintro e w1 ⟨rfl, he⟩
  go_wp2
  go_ret2
  exact ⟨_, rfl, World.ownsRow_nil _ _ _ _, ((Ext.refl w).alloc _).trans he⟩

def addrOf : Value → Addr | .pointer (some a) => a | _ => ⟨0, 0, none⟩

/-- The relation of Stop's loop. -/
def StopRel (w : World) (s a j q b : Int) (o t : Value) (wr : World) : Prop :=
  ∃ (x y : Int) (M : Nat) (l : List Int), t = .pointer (some ⟨M, 0, none⟩) ∧ DBox w wr w.heap.size M s a j x y ∧ saf s a j x y = true ∧ l ++ stops s a j x y = stops s a j q b ∧ Own (w.heap.size + 1) wr o l ∧ o.ownBlock ≠ some M

set_option maxHeartbeats 1000000 in
theorem stop_yes (s a j p q : Int) (w : World) (h : mvg s a j p q = true) :
    Calls Tryd.prog 56 #[.int .i64 p, .int .i64 q, Lm s a j] w (RetInts w (stops s a j q (q - p)) 0) := by
  obtain ⟨hv, ⟨p1, p2⟩, ⟨q1, q2⟩, hs⟩ := (mvg_iff _ _ _ _ _).1 h
  obtain ⟨⟨s1, s2⟩, -, -⟩ := (vld_iff _ _ _).1 hv
  have HV := Lib.hid hv; clear hv
  have HS := Lib.hid hs; clear hs
  obtain ⟨i0, hi, hz0, hz1, hz2⟩ := info_parts Tryd.info_i64
  go_enter Tryd.func56, Tryd.ntmps56
  go_wp2_with fail
  refine (moving_any s a j p q _).mono ?_
  rintro e w1 ⟨rfl, he⟩
  obtain ⟨k0, k1, k2⟩ := box_cells he
  go_wp2
  go_loopw [8, 9] (fun o t wr => StopRel w s a j q (q - p) o t wr) (fun _ t wr => mu s (cellInt wr (addrOf t)) (cellInt wr ⟨(addrOf t).block, 1, none⟩))
  case atStart =>
    refine ⟨q, q - p, w1.heap.size, [], rfl, ?_, HS.out, rfl, World.ownsRow_nil _ _ _ _, by simp [Value.ownBlock]⟩
    have hz := he.size
    simp at hz
    exact { ext := (((Ext.refl w).alloc _).trans he).alloc _, old := by omega, nm := by omega, nlt := by simp; omega, mlt := by simp, c0 := by rw [World.cell?_alloc_past _ _ _ (show w.heap.size < w1.heap.size by omega)]; exact k0, c1 := by rw [World.cell?_alloc_past _ _ _ (show w.heap.size < w1.heap.size by omega)]; exact k1, c2 := by rw [World.cell?_alloc_past _ _ _ (show w.heap.size < w1.heap.size by omega)]; exact k2, d0 := by simp [go_sem], d1 := by simp [go_sem], f0 := by simp [go_sem], f1 := by simp [go_sem] }
  case round =>
    obtain ⟨x, y, M, l, rfl, hb, hxy, hl, hown, hne⟩ := hrel
    clear he k0 k1 k2
    have c0 := hb.c0; have c1 := hb.c1; have c2 := hb.c2; have d0 := hb.d0; have d1 := hb.d1
    have m0 := cellInt_of d0
    have m1 := cellInt_of d1
    by_cases h0 : x = 0 ∧ y = 0
    · obtain ⟨rfl, rfl⟩ := h0
      rw [stops_rest, List.append_nil] at hl
      have HL := Lib.hid hl
      clear hl m0 m1
      go_wp2
      go_ret2
      refine ⟨_, rfl, ?_, hb.ext⟩
      rw [← HL.out]
      exact World.ownsRow.mono hown (by omega)
    · have hm := mu_lt s a j x y HV.out hxy h0
      have hd := stops_cons s a j x y HV.out hxy h0
      have hxy2 := (brk_props s a j x y HV.out hxy).1
      have hlen := stops_len s a j q (q - p) HV.out HS.out
      have hlen2 : l.length ≤ 200002 := by rw [← hl, List.length_append] at hlen; omega
      obtain ⟨⟨v1, v2⟩, -, -⟩ := (saf_iff _ _ _ _ _).1 hxy2
      have H := Lib.hid (And.intro hl (And.intro hm (And.intro hd (And.intro hxy2 (And.intro m0 (And.intro m1 hxy))))))
      clear hl hm hd hxy2 m0 m1 hxy hlen
      rcases (show (¬ x = 0) ∨ (x = 0 ∧ ¬ y = 0) by omega) with hx | ⟨rfl, hy⟩
      · clear h0
        by_cases hpos : 0 < x + brk a j x y
        · go_wp2_with fail
          refine (brake_any s a j _ _ _ HV.out H.out.2.2.2.2.2.2).mono ?_
          rintro e w2 ⟨rfl, he2⟩
          have hb1 := hb.later he2
          have hb2 := hb1.set (x + brk a j x y) (brk a j x y)
          have hown2 := ((hown.later he2).set (a := ⟨M, 0, none⟩) hne (.int .i64 (x + brk a j x y))).set (a := ⟨M, 1, none⟩) hne (.int .i64 (brk a j x y))
          have c0' := hb1.c0; have c1' := hb1.c1; have c2' := hb1.c2; have d0' := hb1.d0; have d1' := hb1.d1; have f0' := hb1.f0; have f1' := hb1.f1
          have hz2' : w.heap.size < w2.heap.size := hb1.nlt
          have hM2 : M < w2.heap.size := hb1.mlt
          go_wp2_with ((at_builtin; refine wpList_append_own _ rfl _ _ 96 rfl (w.heap.size + 1) 2 i0 (.int .i64 0) 1 8 Tryd.underlying96 hi hz0 hz1 hz2 rfl (by decide) _ _ _ rfl (World.ownsRow.alloc hown2 _) ⟨w2.heap.size, 0, none⟩ 1 1 [.int .i64 (x + brk a j x y)] rfl rfl ?c1 ?c2 ?c3 ?c4 ?c5 ?_))
          case c1 =>
            intro k u hk
            cases k with
            | zero => simp at hk; subst hk; simp [go_sem, Addr.add]
            | succ k => simp at hk
          case c2 => simp [Value.oneCell']
          case c3 => simp [maxLen]; omega
          case c4 => omega
          case c5 => simp; omega
          intro v' w3 hown4 hgrow _
          have hb3 := (hb2.later ((Ext.refl _).alloc (.cells #[.int .i64 (x + brk a j x y)] 2))).grown hgrow (fun h => by have := World.ownsRow.lt hown2 _ h; omega) hne (fun k h => by have := World.ownsRow.lt hown2 _ h; omega)
          have hE3 := hb3.mlt
          have hnew := hb3.anew 144 (x + brk a j x y) (brk a j x y)
          have hown5 : Own (w.heap.size + 1) w3 v' (l ++ [x + brk a j x y]) := by
            unfold Own; rw [List.length_append, List.map_append]; exact hown4
          have hown6 := hown5.later ((Ext.refl w3).alloc (.cells #[.int .i64 (x + brk a j x y), .int .i64 (brk a j x y)] 144))
          have hlt := World.ownsRow.lt hown5
          have c0'' := hb3.c0; have c1'' := hb3.c1; have c2'' := hb3.c2; have d0'' := hb3.d0; have d1'' := hb3.d1
          have HLT := Lib.hid hlt
          clear hlt hown4 hown5 hown2 hown hgrow c0 c1 c2 d0 d1 c0' c1' c2' d0' d1' f0' f1' he2
          go_wp2
          obtain ⟨g1, g2, g3, g4, g5, g6, -⟩ := H.out
          rw [if_pos hpos] at g3
          go_roundw
          case rel =>
            refine ⟨x + brk a j x y, brk a j x y, w3.heap.size, l ++ [x + brk a j x y], rfl, hnew, g4, ?_, hown6, fun h => ?_⟩
            · rw [← g1, g3]; simp
            · have := HLT.out _ h; omega
          case measure =>
            simp only [addrOf]
            rw [g5, g6, cellInt_of hnew.d0, cellInt_of hnew.d1]; exact g2
        · go_wp2_with fail
          refine (brake_any s a j _ _ _ HV.out H.out.2.2.2.2.2.2).mono ?_
          rintro e w2 ⟨rfl, he2⟩
          have hb1 := hb.later he2
          have hb2 := hb1.set (x + brk a j x y) (brk a j x y)
          have hown2 := ((hown.later he2).set (a := ⟨M, 0, none⟩) hne (.int .i64 (x + brk a j x y))).set (a := ⟨M, 1, none⟩) hne (.int .i64 (brk a j x y))
          have c0' := hb1.c0; have c1' := hb1.c1; have c2' := hb1.c2; have d0' := hb1.d0; have d1' := hb1.d1; have f0' := hb1.f0; have f1' := hb1.f1
          have hnew := hb2.anew 144 (x + brk a j x y) (brk a j x y)
          have hown6 := hown2.later ((Ext.refl _).alloc (.cells #[.int .i64 (x + brk a j x y), .int .i64 (brk a j x y)] 144))
          have HLT := Lib.hid (World.ownsRow.lt hown2)
          clear hown2 hown
          go_wp2
          obtain ⟨g1, g2, g3, g4, g5, g6, -⟩ := H.out
          rw [if_neg (by omega)] at g3
          have hsz : ((w2.setCell ⟨M, 0, none⟩ (.int .i64 (x + brk a j x y))).setCell ⟨M, 1, none⟩ (.int .i64 (brk a j x y))).heap.size = w2.heap.size := by simp
          go_roundw
          case rel =>
            refine ⟨x + brk a j x y, brk a j x y, _, l, ?_, hnew, g4, ?_, hown6, fun h => ?_⟩
            · rw [hsz]
            · rw [← g1, g3]
            · have := HLT.out _ h; omega
          case measure =>
            rw [hsz] at hnew
            simp only [addrOf]
            rw [g5, g6, cellInt_of hnew.d0, cellInt_of hnew.d1]; exact g2
      · clear h0
        simp only [Int.zero_add] at v1 v2 H
        by_cases hpos : 0 < brk a j 0 y
        · go_wp2_with fail
          refine (brake_any s a j _ _ _ HV.out H.out.2.2.2.2.2.2).mono ?_
          rintro e w2 ⟨rfl, he2⟩
          have hb1 := hb.later he2
          have hb2 := hb1.set (brk a j 0 y) (brk a j 0 y)
          have hown2 := ((hown.later he2).set (a := ⟨M, 0, none⟩) hne (.int .i64 (brk a j 0 y))).set (a := ⟨M, 1, none⟩) hne (.int .i64 (brk a j 0 y))
          have c0' := hb1.c0; have c1' := hb1.c1; have c2' := hb1.c2; have d0' := hb1.d0; have d1' := hb1.d1; have f0' := hb1.f0; have f1' := hb1.f1
          have hz2' : w.heap.size < w2.heap.size := hb1.nlt
          have hM2 : M < w2.heap.size := hb1.mlt
          go_wp2_with ((at_builtin; refine wpList_append_own _ rfl _ _ 96 rfl (w.heap.size + 1) 2 i0 (.int .i64 0) 1 8 Tryd.underlying96 hi hz0 hz1 hz2 rfl (by decide) _ _ _ rfl (World.ownsRow.alloc hown2 _) ⟨w2.heap.size, 0, none⟩ 1 1 [.int .i64 (brk a j 0 y)] rfl rfl ?c1 ?c2 ?c3 ?c4 ?c5 ?_))
          case c1 =>
            intro k u hk
            cases k with
            | zero => simp at hk; subst hk; simp [go_sem, Addr.add]
            | succ k => simp at hk
          case c2 => simp [Value.oneCell']
          case c3 => simp [maxLen]; omega
          case c4 => omega
          case c5 => simp; omega
          intro v' w3 hown4 hgrow _
          have hb3 := (hb2.later ((Ext.refl _).alloc (.cells #[.int .i64 (brk a j 0 y)] 2))).grown hgrow (fun h => by have := World.ownsRow.lt hown2 _ h; omega) hne (fun k h => by have := World.ownsRow.lt hown2 _ h; omega)
          have hE3 := hb3.mlt
          have hnew := hb3.anew 144 (brk a j 0 y) (brk a j 0 y)
          have hown5 : Own (w.heap.size + 1) w3 v' (l ++ [brk a j 0 y]) := by
            unfold Own; rw [List.length_append, List.map_append]; exact hown4
          have hown6 := hown5.later ((Ext.refl w3).alloc (.cells #[.int .i64 (brk a j 0 y), .int .i64 (brk a j 0 y)] 144))
          have hlt := World.ownsRow.lt hown5
          have c0'' := hb3.c0; have c1'' := hb3.c1; have c2'' := hb3.c2; have d0'' := hb3.d0; have d1'' := hb3.d1
          have HLT := Lib.hid hlt
          clear hlt hown4 hown5 hown2 hown hgrow c0 c1 c2 d0 d1 c0' c1' c2' d0' d1' f0' f1' he2
          go_wp2
          obtain ⟨g1, g2, g3, g4, g5, g6, -⟩ := H.out
          rw [if_pos hpos] at g3
          go_roundw
          case rel =>
            refine ⟨brk a j 0 y, brk a j 0 y, w3.heap.size, l ++ [brk a j 0 y], rfl, hnew, g4, ?_, hown6, fun h => ?_⟩
            · rw [← g1, g3]; simp
            · have := HLT.out _ h; omega
          case measure =>
            simp only [addrOf]
            rw [g5, g6, cellInt_of hnew.d0, cellInt_of hnew.d1]; exact g2
        · go_wp2_with fail
          refine (brake_any s a j _ _ _ HV.out H.out.2.2.2.2.2.2).mono ?_
          rintro e w2 ⟨rfl, he2⟩
          have hb1 := hb.later he2
          have hb2 := hb1.set (brk a j 0 y) (brk a j 0 y)
          have hown2 := ((hown.later he2).set (a := ⟨M, 0, none⟩) hne (.int .i64 (brk a j 0 y))).set (a := ⟨M, 1, none⟩) hne (.int .i64 (brk a j 0 y))
          have c0' := hb1.c0; have c1' := hb1.c1; have c2' := hb1.c2; have d0' := hb1.d0; have d1' := hb1.d1; have f0' := hb1.f0; have f1' := hb1.f1
          have hnew := hb2.anew 144 (brk a j 0 y) (brk a j 0 y)
          have hown6 := hown2.later ((Ext.refl _).alloc (.cells #[.int .i64 (brk a j 0 y), .int .i64 (brk a j 0 y)] 144))
          have HLT := Lib.hid (World.ownsRow.lt hown2)
          clear hown2 hown
          go_wp2
          obtain ⟨g1, g2, g3, g4, g5, g6, -⟩ := H.out
          rw [if_neg (by omega)] at g3
          have hsz : ((w2.setCell ⟨M, 0, none⟩ (.int .i64 (brk a j 0 y))).setCell ⟨M, 1, none⟩ (.int .i64 (brk a j 0 y))).heap.size = w2.heap.size := by simp
          go_roundw
          case rel =>
            refine ⟨brk a j 0 y, brk a j 0 y, _, l, ?_, hnew, g4, ?_, hown6, fun h => ?_⟩
            · rw [hsz]
            · rw [← g1, g3]
            · have := HLT.out _ h; omega
          case measure =>
            rw [hsz] at hnew
            simp only [addrOf]
            rw [g5, g6, cellInt_of hnew.d0, cellInt_of hnew.d1]; exact g2

end Go.Proofs.YtjibcnnbclcboaaDoor

namespace Go.Proofs.YtjibcnnbclcboaaDoor
open Go.RowKit
set_option maxRecDepth 8000

/-- A slice that reads as a list of numbers. -/
def SlI (w : World) (v : Value) (l : List Int) : Prop :=
  ∃ (a : Option Addr) (n cap b off : Nat), v = .slice a n cap ∧ n = l.length ∧ (n = 0 ∨ a = some ⟨b, off, none⟩) ∧ ∀ i, i < n → b < w.heap.size ∧ w.cell? ⟨b, off + i, none⟩ = some (.int .i64 (l.getD i 0))

theorem SlI.later {w w' : World} {v : Value} {l : List Int} (h : SlI w v l) (he : Ext w w') : SlI w' v l := by
  obtain ⟨a, n, cap, b, off, h1, h2, h3, h4⟩ := h
  refine ⟨a, n, cap, b, off, h1, h2, h3, fun i hi => ?_⟩
  obtain ⟨p, q⟩ := h4 i hi
  exact ⟨Nat.lt_of_lt_of_le p he.size, by rw [he.cell p]; exact q⟩

theorem Own.sl {B : Nat} {w : World} {v : Value} {l : List Int} (h : Own B w v l) : SlI w v l := by
  obtain ⟨h1, h2⟩ := h
  rcases h2 with ⟨rfl, h3⟩ | ⟨g, cap, cur, rfl, h3, h4, h5, h6, h7, h8⟩
  · exact ⟨none, 0, 0, 0, 0, rfl, h3.symm, .inl rfl, fun i hi => by omega⟩
  · refine ⟨_, _, cap, g, 0, rfl, rfl, .inr rfl, fun i hi => ⟨?_, ?_⟩⟩
    · rcases Nat.lt_or_ge g w.heap.size with h' | h'
      · exact h'
      · rw [Array.getElem?_eq_none h'] at h4; cases h4
    · have e : cur[i]? = some (.int .i64 (l.getD i 0)) := by
        have : (cur.toList.take (l.length * 1))[i]? = (l.map (Value.int .i64))[i]? := by rw [h8]
        rw [List.getElem?_take_of_lt (by omega)] at this
        simpa [hi] using this
      simp [World.cell?, h4, e]

set_option maxHeartbeats 2000000 in
theorem smooth_core (ad : Option Addr) (cap b off : Nat) (l : List Int) (s a j : Int) (w : World) (hv : vld s a j = true) (hn : l.length ≤ 1000000000000) (had : l.length = 0 ∨ ad = some ⟨b, off, none⟩)
    (hc : ∀ i, i < l.length → b < w.heap.size ∧ w.cell? ⟨b, off + i, none⟩ = some (.int .i64 (l.getD i 0))) :
    Calls Tryd.prog 76 #[.slice ad l.length cap, Lm s a j] w fun e w' => e = .returned (.bool (smth s a j l)) ∧ Ext w w' := by
  have hs := (vld_iff s a j).1 hv
  have HV := Lib.hid hv; clear hv
  have HC := Lib.hid hc; clear hc
  have HAD := Lib.hid had; clear had
  have he1 : smth s a j l = smGo s a j 0 0 (l ++ [0, 0]) := by simp [smth, HV.out]
  have HE := Lib.hid he1; clear he1
  generalize hN : l.length = n at hn
  have HN := Lib.hid hN; clear hN
  obtain ⟨⟨s1, s2⟩, ⟨a1, a2⟩, ⟨j1, j2⟩⟩ := hs
  go_enter Tryd.func76, Tryd.ntmps76
  go_wp2_with fail
  refine (valid_yes s a j _ HV.out).mono ?_
  rintro e w1 ⟨rfl, he⟩
  obtain ⟨k0, k1, k2⟩ := box_cells he
  go_wp2
  go_loopw [15] (fun t wr => ∃ (k : Nat) (x y : Int), k ≤ n + 2 ∧ t = .int .i64 k ∧ DBox w wr w.heap.size w1.heap.size s a j x y ∧ 0 ≤ x ∧ x ≤ s ∧ -a ≤ y ∧ y ≤ a ∧ smGo s a j 0 0 (l ++ [0, 0]) = smGo s a j x y ((l ++ [0, 0]).drop k)) (fun t _ => n + 2 - (intOf t).toNat)
  case atStart =>
    have hz := he.size
    simp at hz
    refine ⟨0, 0, 0, by omega, rfl, ?_, by omega, by omega, by omega, by omega, rfl⟩
    exact { ext := (((Ext.refl w).alloc _).trans he).alloc _, old := by omega, nm := by omega, nlt := by simp; omega, mlt := by simp, c0 := by rw [World.cell?_alloc_past _ _ _ (show w.heap.size < w1.heap.size by omega)]; exact k0, c1 := by rw [World.cell?_alloc_past _ _ _ (show w.heap.size < w1.heap.size by omega)]; exact k1, c2 := by rw [World.cell?_alloc_past _ _ _ (show w.heap.size < w1.heap.size by omega)]; exact k2, d0 := by simp [go_sem], d1 := by simp [go_sem], f0 := by simp [go_sem], f1 := by simp [go_sem] }
  case round =>
    obtain ⟨k, x, y, hk, rfl, hb, x1, x2, y1, y2, hsm⟩ := hrel
    clear he k0 k1 k2
    have c0 := hb.c0; have c1 := hb.c1; have c2 := hb.c2; have d0 := hb.d0; have d1 := hb.d1; have f0 := hb.f0; have f1 := hb.f1
    by_cases hlt : k < n + 2
    · have hdr := getD_app2 l k (by rw [HN.out]; exact hlt)
      rw [HN.out] at hdr
      by_cases hkn : k < n
      · rw [if_pos hkn] at hdr
        obtain ⟨hbn, hcell⟩ := HC.out k (by rw [HN.out]; exact hkn)
        have hcell' := hcell
        rw [← hb.ext.cell (p := ⟨b, off + k, none⟩) hbn] at hcell'
        obtain rfl : ad = some ⟨b, off, none⟩ := (HAD.out).resolve_left (by rw [HN.out]; omega)
        clear hcell
        generalize l.getD k 0 = e at hdr hcell'
        have G := Lib.hid (And.intro hsm (And.intro hdr trivial))
        clear hsm hdr
        cases t1 : inR e 0 s
        · have hf : smth s a j l = false := by rw [HE.out, G.out.1, G.out.2.1]; simp [smGo, t1]
          have HF := Lib.hid hf; clear hf
          go_wp2_with ((go_at_call 85; refine (within_any _ _ _ _).mono ?_; rintro e w' ⟨rfl, rfl⟩))
          go_ret
          exact ⟨ret_bool HF.out.symm, hb.ext⟩
        obtain ⟨e1, e2⟩ := (inR_iff _ _ _).1 t1
        cases t2 : inR (e - x) (-a) a
        · have hf : smth s a j l = false := by rw [HE.out, G.out.1, G.out.2.1]; simp [smGo, t1, t2]
          have HF := Lib.hid hf; clear hf
          go_wp2_with ((go_at_call 85; refine (within_any _ _ _ _).mono ?_; rintro e w' ⟨rfl, rfl⟩))
          go_ret
          exact ⟨ret_bool HF.out.symm, hb.ext⟩
        obtain ⟨e3, e4⟩ := (inR_iff _ _ _).1 t2
        cases t3 : inR (e - x - y) (-j) j
        · have hf : smth s a j l = false := by rw [HE.out, G.out.1, G.out.2.1]; simp [smGo, t1, t2, t3]
          have HF := Lib.hid hf; clear hf
          go_wp2_with ((go_at_call 85; refine (within_any _ _ _ _).mono ?_; rintro e w' ⟨rfl, rfl⟩))
          go_ret
          exact ⟨ret_bool HF.out.symm, hb.ext⟩
        have hg : smGo s a j 0 0 (l ++ [0, 0]) = smGo s a j e (e - x) ((l ++ [0, 0]).drop (k + 1)) := by rw [G.out.1, G.out.2.1]; simp [smGo, t1, t2, t3]
        have HG := Lib.hid hg; clear hg
        go_wp2_with ((go_at_call 85; refine (within_any _ _ _ _).mono ?_; rintro e w' ⟨rfl, rfl⟩))
        go_roundw
        case rel => exact ⟨k + 1, e, e - x, by omega, by go_num, hb.set e (e - x), by omega, by omega, by omega, by omega, HG.out⟩
        case measure => simp [intOf]; omega
      · rw [if_neg hkn] at hdr
        obtain ⟨e, he0⟩ : ∃ e : Int, e = 0 := ⟨0, rfl⟩
        rw [← he0] at hdr
        have G := Lib.hid (And.intro hsm (And.intro hdr trivial))
        clear hsm hdr
        subst he0
        cases t1 : inR 0 0 s
        · have hf : smth s a j l = false := by rw [HE.out, G.out.1, G.out.2.1]; simp [smGo, t1]
          have HF := Lib.hid hf; clear hf
          go_wp2_with ((go_at_call 85; refine (within_any _ _ _ _).mono ?_; rintro e w' ⟨rfl, rfl⟩))
          go_ret
          exact ⟨ret_bool HF.out.symm, hb.ext⟩
        obtain ⟨e1, e2⟩ := (inR_iff _ _ _).1 t1
        cases t2 : inR (-x) (-a) a
        · have hf : smth s a j l = false := by rw [HE.out, G.out.1, G.out.2.1]; simp [smGo, t1, t2]
          have HF := Lib.hid hf; clear hf
          go_wp2_with ((go_at_call 85; refine (within_any _ _ _ _).mono ?_; rintro e w' ⟨rfl, rfl⟩))
          go_ret
          exact ⟨ret_bool HF.out.symm, hb.ext⟩
        obtain ⟨e3, e4⟩ := (inR_iff _ _ _).1 t2
        cases t3 : inR (-x - y) (-j) j
        · have hf : smth s a j l = false := by rw [HE.out, G.out.1, G.out.2.1]; simp [smGo, t1, t2, t3]
          have HF := Lib.hid hf; clear hf
          go_wp2_with ((go_at_call 85; refine (within_any _ _ _ _).mono ?_; rintro e w' ⟨rfl, rfl⟩))
          go_ret
          exact ⟨ret_bool HF.out.symm, hb.ext⟩
        have hg : smGo s a j 0 0 (l ++ [0, 0]) = smGo s a j 0 (-x) ((l ++ [0, 0]).drop (k + 1)) := by rw [G.out.1, G.out.2.1]; simp [smGo, t1, t2, t3]
        have HG := Lib.hid hg; clear hg
        go_wp2_with ((go_at_call 85; refine (within_any _ _ _ _).mono ?_; rintro e w' ⟨rfl, rfl⟩))
        go_roundw
        case rel => exact ⟨k + 1, 0, -x, by omega, by go_num, hb.set 0 (-x), by omega, by omega, by omega, by omega, HG.out⟩
        case measure => simp [intOf]; omega
    · have hk2 : k = n + 2 := by omega
      have hf : smth s a j l = true := by
        rw [HE.out, hsm, List.drop_of_length_le (by simp [HN.out, hk2])]; rfl
      have HF := Lib.hid hf; clear hf hsm hk2
      go_wp2
      go_ret
      exact ⟨ret_bool HF.out.symm, hb.ext⟩

end Go.Proofs.YtjibcnnbclcboaaDoor

namespace Go.Proofs.YtjibcnnbclcboaaDoor
open Go.RowKit
set_option maxRecDepth 8000

/-- A box of limits in a world that extends w. -/
structure LBox (w wr : World) (N : Nat) (s a j : Int) : Prop where
  ext : Ext w wr
  nlt : N < wr.heap.size
  c0 : wr.cell? ⟨N, 0, none⟩ = some (.int .i64 s)
  c1 : wr.cell? ⟨N, 1, none⟩ = some (.int .i64 a)
  c2 : wr.cell? ⟨N, 2, none⟩ = some (.int .i64 j)
theorem LBox.later {w wr w1 : World} {N : Nat} {s a j : Int} (h : LBox w wr N s a j) (he : Ext wr w1) : LBox w w1 N s a j where
  ext := h.ext.trans he
  nlt := Nat.lt_of_lt_of_le h.nlt he.size
  c0 := by rw [he.cell h.nlt]; exact h.c0
  c1 := by rw [he.cell h.nlt]; exact h.c1
  c2 := by rw [he.cell h.nlt]; exact h.c2
theorem LBox.mk' {w w1 : World} {s a j : Int} {t : TypeId} (he : Ext (w.alloc (.cells #[.int .i64 s, .int .i64 a, .int .i64 j] t)) w1) : LBox w w1 w.heap.size s a j := by
  obtain ⟨k0, k1, k2⟩ := box_cells he
  have hz := he.size
  simp at hz
  exact ⟨((Ext.refl w).alloc _).trans he, by omega, k0, k1, k2⟩

set_option maxHeartbeats 400000 in
theorem smooth_no (v : Value) (l : List Int) (s a j : Int) (w : World) (hv : vld s a j = false) :
    Calls Tryd.prog 76 #[v, Lm s a j] w fun e w' => e = .returned (.bool (smth s a j l)) ∧ Ext w w' := by
  have he1 : smth s a j l = false := by simp [smth, hv]
  rw [he1]; clear he1
  have HV := Lib.hid hv; clear hv
  go_enter Tryd.func76, Tryd.ntmps76
  go_wp2_with fail
  refine (valid_no s a j _ HV.out).mono ?_
  rintro e w1 ⟨rfl, he⟩
  go_wp2
  go_ret
  exact ⟨rfl, ((Ext.refl w).alloc _).trans he⟩

theorem smooth_any (v : Value) (l : List Int) (s a j : Int) (w : World) (h : SlI w v l) (hn : l.length ≤ 1000000000000) :
    Calls Tryd.prog 76 #[v, Lm s a j] w fun e w' => e = .returned (.bool (smth s a j l)) ∧ Ext w w' := by
  cases hv : vld s a j
  · exact smooth_no v l s a j w hv
  · obtain ⟨ad, n, cap, b, off, rfl, rfl, h3, h4⟩ := h
    exact smooth_core ad cap b off l s a j w hv hn h3 h4
end Go.Proofs.YtjibcnnbclcboaaDoor

namespace Go.Proofs.YtjibcnnbclcboaaDoor
open Go.RowKit
set_option maxRecDepth 8000

/-- A position as a value. -/
abbrev Ps (x y z : Int) : Value := .agg #[.int .i64 x, .int .i64 y, .int .i64 z]
/-- A coordinate between two. -/
def btw (a b p n : Int) : Int := a + (2 * (b - a) * p + n) / (2 * n)
/-- Is a number in range? -/
def near (n : Int) : Bool := inR n (-40000000) 40000000

theorem btw_bounds (a b p n : Int) (a1 : -40000000 ≤ a) (a2 : a ≤ 40000000) (b1 : -40000000 ≤ b) (b2 : b ≤ 40000000) (p0 : 0 ≤ p) (pn : p ≤ n) (n1 : 1 ≤ n) (n2 : n ≤ 40000000) :
    -3200000000000000 ≤ (b - a) * p ∧ (b - a) * p ≤ 3200000000000000 ∧ -40000000 ≤ btw a b p n ∧ btw a b p n ≤ 40000000 := by
  have e1 : -(80000000 * 40000000) ≤ (b - a) * p := by
    have : -((b - a) * p) ≤ 80000000 * 40000000 := by
      rw [← Int.neg_mul]
      by_cases h : 0 ≤ -(b - a)
      · exact Int.mul_le_mul (by omega) (by omega) (by omega) (by omega)
      · have : -(b - a) * p ≤ 0 := by
          have := Int.mul_nonneg (show 0 ≤ b - a by omega) p0
          rw [Int.neg_mul]; omega
        omega
    omega
  have e2 : (b - a) * p ≤ 80000000 * 40000000 := by
    by_cases h : 0 ≤ b - a
    · exact Int.mul_le_mul (by omega) (by omega) (by omega) (by omega)
    · have : (b - a) * p ≤ 0 := by
        have := Int.mul_nonneg (show 0 ≤ -(b - a) by omega) p0
        rw [Int.neg_mul] at this; omega
      omega
  refine ⟨by omega, by omega, ?_⟩
  unfold btw
  have e3 : 2 * (b - a) * p = 2 * ((b - a) * p) := Int.mul_assoc _ _ _
  rw [e3]
  -- |(b - a) p| ≤ |b - a| n
  have key : (0 ≤ b - a → 0 ≤ (b - a) * p ∧ (b - a) * p ≤ (b - a) * n) ∧ (b - a ≤ 0 → (b - a) * n ≤ (b - a) * p ∧ (b - a) * p ≤ 0) := by
    refine ⟨fun h => ⟨Int.mul_nonneg h p0, Int.mul_le_mul_of_nonneg_left pn h⟩, fun h => ?_⟩
    have h1 := Int.mul_nonneg (show 0 ≤ -(b - a) by omega) p0
    have h2 := Int.mul_le_mul_of_nonneg_left pn (show 0 ≤ -(b - a) by omega)
    rw [Int.neg_mul] at h1 h2
    rw [Int.neg_mul] at h2
    omega
  have lo : ∀ q : Int, 2 * ((b - a) * p) + n ≥ q * (2 * n) → q ≤ (2 * ((b - a) * p) + n) / (2 * n) := fun q h => Int.le_ediv_of_mul_le (by omega) h
  have hi : ∀ q : Int, 2 * ((b - a) * p) + n < (q + 1) * (2 * n) → (2 * ((b - a) * p) + n) / (2 * n) ≤ q := fun q h => by
    have := Int.ediv_lt_of_lt_mul (show 0 < 2 * n by omega) h; omega
  by_cases h : 0 ≤ b - a
  · obtain ⟨k1, k2⟩ := key.1 h
    have h1 := lo 0 (by omega)
    have h2 := hi (b - a) (by
      have : (b - a + 1) * (2 * n) = 2 * ((b - a) * n) + 2 * n := by rw [Int.add_mul, Int.mul_left_comm]; omega
      omega)
    omega
  · obtain ⟨k1, k2⟩ := key.2 (by omega)
    have h1 := lo (b - a) (by
      have : (b - a) * (2 * n) = 2 * ((b - a) * n) := Int.mul_left_comm _ _ _
      omega)
    have h2 := hi 0 (by omega)
    omega

set_option maxHeartbeats 1000000 in
theorem at_any (a b p n : Int) (u v : Addr) (w : World) (a1 : -40000000 ≤ a) (a2 : a ≤ 40000000) (b1 : -40000000 ≤ b) (b2 : b ≤ 40000000) (p0 : 0 ≤ p) (pn : p ≤ n) (n1 : 1 ≤ n) (n2 : n ≤ 40000000)
    (hu : w.cell? u = some (.int .i64 p)) (hv : w.cell? v = some (.int .i64 n)) :
    Calls Tryd.prog 86 #[.int .i64 a, .int .i64 b, .pointer (some u), .pointer (some v)] w fun e w' => e = .returned (.int .i64 (btw a b p n)) ∧ w = w' := by
  obtain ⟨k1, k2, k3, k4⟩ := btw_bounds a b p n a1 a2 b1 b2 p0 pn n1 n2
  have e3 : 2 * (b - a) * p = 2 * ((b - a) * p) := Int.mul_assoc _ _ _
  have E3 := Lib.hid e3; clear e3
  have l1 : -6400000000000000 ≤ 2 * (b - a) * p := by rw [E3.out]; omega
  have l2 : 2 * (b - a) * p ≤ 6400000000000000 := by rw [E3.out]; omega
  unfold btw at *
  go_enter Tryd.func86, Tryd.ntmps86
  go_wp2_with ((go_at_call 87; refine (floor_any _ _ _ (by omega) (by omega) (by omega) (by omega)).mono ?_; rintro e w' ⟨rfl, rfl⟩))
  go_ret
  exact ⟨rfl, rfl⟩

end Go.Proofs.YtjibcnnbclcboaaDoor

namespace Go.Proofs.YtjibcnnbclcboaaDoor
open Go.RowKit
set_option maxRecDepth 8000

set_option maxHeartbeats 1000000 in
theorem pos_bad (ax ay az bx cy bz p n : Int) (w : World) (h : n < 1 ∨ p < 0 ∨ n < p) :
    Calls Tryd.prog 71 #[Ps ax ay az, Ps bx cy bz, .int .i64 p, .int .i64 n] w fun e w' => e = .returned (.tuple #[Ps 0 0 0, .int .i64 1]) ∧ Ext w w' := by
  rcases (show n < 1 ∨ (¬ n < 1 ∧ p < 0) ∨ (¬ n < 1 ∧ ¬ p < 0 ∧ n < p) by omega) with h1 | ⟨h1, h2⟩ | ⟨h1, h2, h3⟩
  · clear h
    go_enter Tryd.func71, Tryd.ntmps71
    go_wp2
    refine bodyPost_ret (v := .tuple #[Ps 0 0 0, .int .i64 1]) (by simp [results, Tryd.results71, go_sem]) rfl ⟨rfl, ?_⟩
    exact (((((Ext.refl w).alloc _).alloc _).alloc _).alloc _).alloc _
  · have h1' : decide (n < 1) = false := by simpa using h1
    clear h
    go_enter Tryd.func71, Tryd.ntmps71
    go_wp2
    refine bodyPost_ret (v := .tuple #[Ps 0 0 0, .int .i64 1]) (by simp [results, Tryd.results71, go_sem]) rfl ⟨rfl, ?_⟩
    exact (((((Ext.refl w).alloc _).alloc _).alloc _).alloc _).alloc _
  · have h1' : decide (n < 1) = false := by simpa using h1
    have h2' : decide (p < 0) = false := by simpa using h2
    clear h
    go_enter Tryd.func71, Tryd.ntmps71
    go_wp2
    refine bodyPost_ret (v := .tuple #[Ps 0 0 0, .int .i64 1]) (by simp [results, Tryd.results71, go_sem]) rfl ⟨rfl, ?_⟩
    exact (((((Ext.refl w).alloc _).alloc _).alloc _).alloc _).alloc _

/-- The numbers that Position looks at. -/
def lookAt (ax ay az bx cy bz n : Int) : List Int := [n, ax, ay, az, bx, cy, bz]

/-- The boxes of Position. -/
structure PBox (w W : World) (ax ay az bx cy bz p n : Int) : Prop where
  ext : Ext w W
  a0 : ∀ x : Later W, x.w.cell? ⟨w.heap.size, 0, none⟩ = some (.int .i64 ax)
  a1 : ∀ x : Later W, x.w.cell? ⟨w.heap.size, 1, none⟩ = some (.int .i64 ay)
  a2 : ∀ x : Later W, x.w.cell? ⟨w.heap.size, 2, none⟩ = some (.int .i64 az)
  b0 : ∀ x : Later W, x.w.cell? ⟨w.heap.size + 1, 0, none⟩ = some (.int .i64 bx)
  b1 : ∀ x : Later W, x.w.cell? ⟨w.heap.size + 1, 1, none⟩ = some (.int .i64 cy)
  b2 : ∀ x : Later W, x.w.cell? ⟨w.heap.size + 1, 2, none⟩ = some (.int .i64 bz)
  c : ∀ x : Later W, x.w.cell? ⟨w.heap.size + 1 + 1, 0, none⟩ = some (.int .i64 p)
  d : ∀ x : Later W, x.w.cell? ⟨w.heap.size + 1 + 1 + 1, 0, none⟩ = some (.int .i64 n)
  r0 : ∀ x : Later W, x.w.cell? ⟨w.heap.size + 1 + 1 + 1 + 1, 0, none⟩ = some (.int .i64 0)
  r1 : ∀ x : Later W, x.w.cell? ⟨w.heap.size + 1 + 1 + 1 + 1, 1, none⟩ = some (.int .i64 0)
  r2 : ∀ x : Later W, x.w.cell? ⟨w.heap.size + 1 + 1 + 1 + 1, 2, none⟩ = some (.int .i64 0)
  f0 : ∀ x : Later W, x.w.frozen? ⟨w.heap.size + 1 + 1 + 1 + 1, 0, none⟩ = false
  f1 : ∀ x : Later W, x.w.frozen? ⟨w.heap.size + 1 + 1 + 1 + 1, 1, none⟩ = false
  f2 : ∀ x : Later W, x.w.frozen? ⟨w.heap.size + 1 + 1 + 1 + 1, 2, none⟩ = false
  l : ∀ k, k < 7 → W.cell? ⟨w.heap.size + 1 + 1 + 1 + 1 + 1, k, none⟩ = some (.int .i64 ((lookAt ax ay az bx cy bz n).getD k 0))

theorem pos_boxes {w : World} (ax ay az bx cy bz p n : Int) (t t2 : TypeId) : ∃ W : World, (((((w.alloc (.cells #[.int .i64 ax, .int .i64 ay, .int .i64 az] t)).alloc (.cells #[.int .i64 bx, .int .i64 cy, .int .i64 bz] t)).alloc (.cells #[.int .i64 p] t2)).alloc (.cells #[.int .i64 n] t2)).alloc (.cells #[.int .i64 0, .int .i64 0, .int .i64 0] t)).alloc (.cells #[.int .i64 n, .int .i64 ax, .int .i64 ay, .int .i64 az, .int .i64 bx, .int .i64 cy, .int .i64 bz] t2) = W ∧ PBox w W ax ay az bx cy bz p n := by
  refine ⟨_, rfl, ?_⟩
  exact {
    ext := ((((((Ext.refl w).alloc _).alloc _).alloc _).alloc _).alloc _).alloc _
    a0 := Later.cell (by simp [go_sem])
    a1 := Later.cell (by simp [go_sem])
    a2 := Later.cell (by simp [go_sem])
    b0 := Later.cell (by simp [go_sem])
    b1 := Later.cell (by simp [go_sem])
    b2 := Later.cell (by simp [go_sem])
    c := Later.cell (by simp [go_sem])
    d := Later.cell (by simp [go_sem])
    r0 := Later.cell (by simp [go_sem])
    r1 := Later.cell (by simp [go_sem])
    r2 := Later.cell (by simp [go_sem])
    f0 := Later.frozen (by simp) (by simp [go_sem])
    f1 := Later.frozen (by simp) (by simp [go_sem])
    f2 := Later.frozen (by simp) (by simp [go_sem])
    l := fun k hk => by
      have : k = 0 ∨ k = 1 ∨ k = 2 ∨ k = 3 ∨ k = 4 ∨ k = 5 ∨ k = 6 := by omega
      rcases this with rfl | rfl | rfl | rfl | rfl | rfl | rfl <;> simp [go_sem, lookAt] }

/-- What Position returns, where the arguments are valid. -/
def posV (ax ay az bx cy bz p n : Int) : Value := if (lookAt ax ay az bx cy bz n).all near then .tuple #[Ps (btw ax bx p n) (btw ay cy p n) (btw az bz p n), .int .i64 0] else .tuple #[Ps 0 0 0, .int .i64 11]
theorem posV_far {ax ay az bx cy bz p n : Int} (h : (lookAt ax ay az bx cy bz n).all near = false) : posV ax ay az bx cy bz p n = .tuple #[Ps 0 0 0, .int .i64 11] := by simp [posV, h]
theorem posV_near {ax ay az bx cy bz p n : Int} (h : (lookAt ax ay az bx cy bz n).all near = true) : posV ax ay az bx cy bz p n = .tuple #[Ps (btw ax bx p n) (btw ay cy p n) (btw az bz p n), .int .i64 0] := by simp [posV, h]
theorem ret_val {a b : Value} (h : a = b) : Ending.returned a = .returned b := by rw [h]

theorem all_of_getD {l : List Int} (m : Nat) (hm : l.length = m) (h : ∀ i, i < m → near (l.getD i 0) = true) : l.all near = true := by
  rw [List.all_eq_true]
  intro x hx
  obtain ⟨i, hi, rfl⟩ := List.mem_iff_getElem.1 hx
  have := h i (by omega)
  simpa [hi] using this
theorem not_all_of_getD {l : List Int} {k : Nat} (hk : k < l.length) (h : near (l.getD k 0) = false) : l.all near = false := by
  cases h' : l.all near
  · rfl
  · rw [List.all_eq_true] at h'
    have := h' l[k] (List.getElem_mem hk)
    simp [hk, this] at h

set_option maxHeartbeats 2000000 in
theorem pos_walk (ax ay az bx cy bz p n : Int) (w : World) (h1 : ¬ n < 1) (h2 : ¬ p < 0) (h3 : ¬ n < p) :
    Calls Tryd.prog 71 #[Ps ax ay az, Ps bx cy bz, .int .i64 p, .int .i64 n] w fun e w' => e = .returned (posV ax ay az bx cy bz p n) ∧ Ext w w' := by
  have h1' : decide (n < 1) = false := by simpa using h1
  have h2' : decide (p < 0) = false := by simpa using h2
  have h3' : decide (n < p) = false := by simpa using h3
  go_enter Tryd.func71, Tryd.ntmps71
  go_wp2
  obtain ⟨W, hW, B⟩ := pos_boxes (w := w) ax ay az bx cy bz p n 40 2
  rw [hW]; clear hW
  go_loop [40] (fun t => ∃ k : Nat, k ≤ 7 ∧ t = .int .i64 k ∧ ∀ i, i < k → near ((lookAt ax ay az bx cy bz n).getD i 0) = true) (fun t => 7 - (intOf t).toNat)
  case atStart => exact ⟨0, by omega, rfl, fun i hi => by omega⟩
  case round =>
    obtain ⟨k, hk, rfl, hall⟩ := hrel
    by_cases hlt : k < 7
    · have hcell := B.l k hlt
      cases hn : near ((lookAt ax ay az bx cy bz n).getD k 0)
      · have hf := posV_far (p := p) (not_all_of_getD (l := lookAt ax ay az bx cy bz n) hlt hn)
        have HF := Lib.hid hf; clear hf hall
        unfold near at hn
        generalize (lookAt ax ay az bx cy bz n).getD k 0 = q at hcell hn
        have r0 := B.r0 (Later.self W); have r1 := B.r1 (Later.self W); have r2 := B.r2 (Later.self W); have f0 := B.f0 (Later.self W); have f1 := B.f1 (Later.self W); have f2 := B.f2 (Later.self W)
        change W.cell? _ = _ at r0 r1 r2
        change W.frozen? _ = _ at f0 f1 f2
        go_wp2_with ((go_at_call 85; refine (within_any _ _ _ _).mono ?_; rintro e w' ⟨rfl, rfl⟩))
        refine bodyPost_ret (v := .tuple #[Ps 0 0 0, .int .i64 11]) (by simp [results, Tryd.results71, go_sem, r0, r1, r2]) rfl ⟨ret_val HF.out.symm, ?_⟩
        exact ((B.ext.setCell (by simp; omega) _).setCell (by simp; omega) _).setCell (by simp; omega) _
      · have HN := Lib.hid hn
        have HA := Lib.hid hall
        clear hall
        unfold near at hn
        generalize (lookAt ax ay az bx cy bz n).getD k 0 = q at hcell hn
        go_wp2_with ((go_at_call 85; refine (within_any _ _ _ _).mono ?_; rintro e w' ⟨rfl, rfl⟩))
        go_round
        case rel => 
          refine ⟨k + 1, by omega, by go_num, fun i hi => ?_⟩
          by_cases hik : i = k
          · subst hik; exact HN.out
          · exact HA.out i (by omega)
        case measure => simp [intOf]; omega
    · obtain rfl : k = 7 := by omega
      have hall' := all_of_getD (l := lookAt ax ay az bx cy bz n) 7 rfl hall
      have hv := posV_near (p := p) hall'
      have HV := Lib.hid hv; clear hv
      simp only [lookAt, List.all_cons, List.all_nil, Bool.and_true, Bool.and_eq_true, near, inR_iff] at hall'
      obtain ⟨⟨n1, n2⟩, ⟨ax1, ax2⟩, ⟨ay1, ay2⟩, ⟨az1, az2⟩, ⟨bx1, bx2⟩, ⟨cy1, cy2⟩, ⟨bz1, bz2⟩⟩ := hall'
      clear hall
      have a0 := B.a0; have a1 := B.a1; have a2 := B.a2; have b0 := B.b0; have b1 := B.b1; have b2 := B.b2; have c := B.c; have d := B.d
      go_wp2
      refine wp_region_tail 19 (by kernel_rfl) (by kernel_rfl) (by kernel_rfl) ?_
      simp only [List.take_succ_cons, List.take_zero, List.drop_succ_cons, List.drop_zero]
      repeat (go_big_quiet_step ((go_at_call 86; exact Calls.later_same (at_any _ _ p n _ _ _ (by omega) (by omega) (by omega) (by omega) (by omega) (by omega) (by omega) (by omega) (c _) (d _)))))
      refine wpQuiet_nil ?_
      rintro _ ⟨x, rfl⟩
      have r0 := B.r0; have r1 := B.r1; have r2 := B.r2; have f0 := B.f0; have f1 := B.f1; have f2 := B.f2
      go_wp2
      refine bodyPost_ret (v := .tuple #[Ps (btw ax bx p n) (btw ay cy p n) (btw az bz p n), .int .i64 0]) (by simp [results, Tryd.results71, go_sem, r0, r1, r2]) rfl ⟨ret_val HV.out.symm, ?_⟩
      exact (((B.ext.trans x.ext).setCell (by simp; omega) _).setCell (by simp; omega) _).setCell (by simp; omega) _

end Go.Proofs.YtjibcnnbclcboaaDoor

namespace Go.Proofs.YtjibcnnbclcboaaDoor
open Go.RowKit

theorem sum_take_le {l : List Int} (h0 : ∀ x ∈ l, 0 ≤ x) (k : Nat) : 0 ≤ (l.take k).sum ∧ (l.take k).sum ≤ l.sum := by
  have hnn : ∀ m : List Int, (∀ x ∈ m, 0 ≤ x) → 0 ≤ m.sum := by
    intro m
    induction m with
    | nil => intro _; simp
    | cons x m ih => intro h; rw [List.sum_cons]; have := h x (by simp); have := ih (fun y hy => h y (by simp [hy])); omega
  have h1 := hnn (l.take k) (fun x hx => h0 x (List.mem_of_mem_take hx))
  have h2 := hnn (l.drop k) (fun x hx => h0 x (List.mem_of_mem_drop hx))
  have h3 : l.sum = (l.take k).sum + (l.drop k).sum := by rw [← List.sum_append, List.take_append_drop]
  omega

end Go.Proofs.YtjibcnnbclcboaaDoor

namespace Go.Proofs.YtjibcnnbclcboaaDoor
open Go.RowKit
set_option maxRecDepth 8000

/-- The boxes of the reference's Position. -/
structure QBox (w W : World) (ax ay az bx cy bz : Int) : Prop where
  ext : Ext w W
  a0 : ∀ x : Later W, x.w.cell? ⟨w.heap.size, 0, none⟩ = some (.int .i64 ax)
  a1 : ∀ x : Later W, x.w.cell? ⟨w.heap.size, 1, none⟩ = some (.int .i64 ay)
  a2 : ∀ x : Later W, x.w.cell? ⟨w.heap.size, 2, none⟩ = some (.int .i64 az)
  b0 : ∀ x : Later W, x.w.cell? ⟨w.heap.size + 1, 0, none⟩ = some (.int .i64 bx)
  b1 : ∀ x : Later W, x.w.cell? ⟨w.heap.size + 1, 1, none⟩ = some (.int .i64 cy)
  b2 : ∀ x : Later W, x.w.cell? ⟨w.heap.size + 1, 2, none⟩ = some (.int .i64 bz)
  r0 : ∀ x : Later W, x.w.cell? ⟨w.heap.size + 1 + 1, 0, none⟩ = some (.int .i64 0)
  r1 : ∀ x : Later W, x.w.cell? ⟨w.heap.size + 1 + 1, 1, none⟩ = some (.int .i64 0)
  r2 : ∀ x : Later W, x.w.cell? ⟨w.heap.size + 1 + 1, 2, none⟩ = some (.int .i64 0)
  f0 : ∀ x : Later W, x.w.frozen? ⟨w.heap.size + 1 + 1, 0, none⟩ = false
  f1 : ∀ x : Later W, x.w.frozen? ⟨w.heap.size + 1 + 1, 1, none⟩ = false
  f2 : ∀ x : Later W, x.w.frozen? ⟨w.heap.size + 1 + 1, 2, none⟩ = false

theorem rpos_boxes {w : World} (ax ay az bx cy bz : Int) (t : TypeId) : ∃ W : World, ((w.alloc (.cells #[.int .i64 ax, .int .i64 ay, .int .i64 az] t)).alloc (.cells #[.int .i64 bx, .int .i64 cy, .int .i64 bz] t)).alloc (.cells #[.int .i64 0, .int .i64 0, .int .i64 0] t) = W ∧ QBox w W ax ay az bx cy bz := by
  refine ⟨_, rfl, ?_⟩
  exact {
    ext := (((Ext.refl w).alloc _).alloc _).alloc _
    a0 := Later.cell (by simp [go_sem])
    a1 := Later.cell (by simp [go_sem])
    a2 := Later.cell (by simp [go_sem])
    b0 := Later.cell (by simp [go_sem])
    b1 := Later.cell (by simp [go_sem])
    b2 := Later.cell (by simp [go_sem])
    r0 := Later.cell (by simp [go_sem])
    r1 := Later.cell (by simp [go_sem])
    r2 := Later.cell (by simp [go_sem])
    f0 := Later.frozen (by simp) (by simp [go_sem])
    f1 := Later.frozen (by simp) (by simp [go_sem])
    f2 := Later.frozen (by simp) (by simp [go_sem]) }

/-- What Position returns. -/
def posR (ax ay az bx cy bz p n : Int) : Value := if n < 1 ∨ p < 0 ∨ n < p then .tuple #[Ps 0 0 0, .int .i64 1] else posV ax ay az bx cy bz p n

theorem pos_any (ax ay az bx cy bz p n : Int) (w : World) :
    Calls Tryd.prog 71 #[Ps ax ay az, Ps bx cy bz, .int .i64 p, .int .i64 n] w fun e w' => e = .returned (posR ax ay az bx cy bz p n) ∧ Ext w w' := by
  by_cases h : n < 1 ∨ p < 0 ∨ n < p
  · rw [show posR ax ay az bx cy bz p n = _ from if_pos h]; exact pos_bad ax ay az bx cy bz p n w h
  · rw [show posR ax ay az bx cy bz p n = _ from if_neg h]; exact pos_walk ax ay az bx cy bz p n w (by omega) (by omega) (by omega)

end Go.Proofs.YtjibcnnbclcboaaDoor

namespace Go.Proofs.YtjibcnnbclcboaaDoor
open Go.RowKit
set_option maxRecDepth 8000

theorem ex_vld : vld 10 3 2 = true := by decide +kernel
theorem ex_tickN : tickN 17 10 3 2 = 17 := by decide +kernel
theorem ex_tickE : tickE 17 10 3 2 = 0 := by decide +kernel
theorem ex_mvg : mvg 10 3 2 4 4 = true := by decide +kernel
theorem ex_stops : stops 10 3 2 4 (4 - 4) = [2] := by decide +kernel
theorem ex_dsum : dsum 10 3 2 4 (4 - 4) = 2 := by decide +kernel
theorem ex_smth1 : smth 10 3 2 [2, 4, 5, 4, 2] = true := by decide +kernel
theorem ex_smth2 : smth 10 3 2 [3, 4] = false := by decide +kernel
theorem ex_pos : posR 0 0 0 3 (-3) 1 1 2 = .tuple #[Ps 2 (-1) 1, .int .i64 0] := by
  have h1 : (lookAt 0 0 0 3 (-3) 1 2).all near = true := by decide +kernel
  have h2 : btw 0 3 1 2 = 2 := by decide +kernel
  have h3 : btw 0 (-3) 1 2 = -1 := by decide +kernel
  have h4 : btw 0 1 1 2 = 1 := by decide +kernel
  unfold posR
  rw [if_neg (by decide), posV_near h1, h2, h3, h4]

/-- A literal slice. -/
theorem SlI.lit {w w' : World} {cs : Array Value} (l : List Int) (t : TypeId) (n cap b : Nat) (hn : n = l.length) (hb : b = w.heap.size) (hcs : cs = (l.map (Value.int .i64)).toArray) (he : Ext (w.alloc (.cells cs t)) w') : SlI w' (.slice (some ⟨b, 0, none⟩) n cap) l := by
  subst hn; subst hb; subst hcs
  refine ⟨_, _, cap, w.heap.size, 0, rfl, rfl, .inr rfl, fun i hi => ?_⟩
  have hz := he.size
  simp at hz
  refine ⟨by omega, ?_⟩
  rw [he.cell (by simp)]
  simp [go_sem, hi]

end Go.Proofs.YtjibcnnbclcboaaDoor
