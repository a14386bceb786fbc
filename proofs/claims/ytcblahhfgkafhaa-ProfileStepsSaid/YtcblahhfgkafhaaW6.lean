/-
  Walks: Stop of layer 49.
-/
import Derived.Test.YtcblahhfgkafhaaW5
import Derived.Deep.Onto
namespace Go.Proofs.Ytcblahhfgkafhaa
open Go.RowKit

theorem Try.info_i64 : (Try.prog.info? 2).map (fun i => (i.zero, i.size, i.bytes)) = some (some (.int .i64 0), 1, 8) := by kernel_rfl

/-- A slice of the call's own that holds these numbers. -/
def Own (B : Nat) (w : World) (v : Value) (l : List Int) : Prop := w.ownsRow B 2 1 v l.length (l.map (Value.int .i64))
theorem Own.later {B : Nat} {w w' : World} {v : Value} {l : List Int} (h : Own B w v l) (he : Ext w w') : Own B w' v l := by
  refine World.ownsRow.kept h (row := none) ⟨he.out.os, he.out.tape, he.out.output, he.size, fun k hk _ => he.out.block k hk⟩ ?_
  cases h' : v.ownBlock <;> simp
theorem Own.set {B : Nat} {w : World} {v : Value} {l : List Int} (h : Own B w v l) {a : Addr} (ha : v.ownBlock ≠ some a.block) (u : Value) : Own B (w.setCell a u) v l := ownsRow_setCell_other h ha u
theorem Own.nil (B : Nat) (w : World) : Own B w (.slice none 0 0) [] := World.ownsRow_nil _ _ _ _
/-- A slice of numbers and an error code are returned. -/
def RetInts (w : World) (l : List Int) (c : Int) (e : Ending) (w' : World) : Prop := ∃ v, e = .returned (.tuple #[v, .int .i64 c]) ∧ Own w.heap.size w' v l ∧ Ext w w'

theorem DBox.grown {w wr w1 : World} {N M : Nat} {s a j v b : Int} {row : Option Nat} (h : DBox w wr N M s a j v b) (hg : wr.grownBy w1 row) (h1 : row ≠ some N) (h2 : row ≠ some M) (h3 : ∀ k, row = some k → w.heap.size ≤ k) : DBox w w1 N M s a j v b where
  ext := Below.grown h.ext.out hg h.ext.size h3
  old := h.old
  nm := h.nm
  nlt := Nat.lt_of_lt_of_le h.nlt hg.size
  mlt := Nat.lt_of_lt_of_le h.mlt hg.size
  c0 := by rw [World.cell?_of_block (hg.block N h.nlt (Ne.symm h1))]; exact h.c0
  c1 := by rw [World.cell?_of_block (hg.block N h.nlt (Ne.symm h1))]; exact h.c1
  c2 := by rw [World.cell?_of_block (hg.block N h.nlt (Ne.symm h1))]; exact h.c2
  d0 := by rw [World.cell?_of_block (hg.block M h.mlt (Ne.symm h2))]; exact h.d0
  d1 := by rw [World.cell?_of_block (hg.block M h.mlt (Ne.symm h2))]; exact h.d1
  f0 := by rw [World.frozen?_of_block (hg.block M h.mlt (Ne.symm h2))]; exact h.f0
  f1 := by rw [World.frozen?_of_block (hg.block M h.mlt (Ne.symm h2))]; exact h.f1

/-- A new box for the state. -/
theorem DBox.anew {w wr : World} {N M : Nat} {s a j v b : Int} (h : DBox w wr N M s a j v b) (t : TypeId) (x y : Int) : DBox w (wr.alloc (.cells #[.int .i64 x, .int .i64 y] t)) N wr.heap.size s a j x y := by
  have hl := h.later ((Ext.refl wr).alloc (.cells #[.int .i64 x, .int .i64 y] t))
  exact { ext := hl.ext, old := h.ext.size, nm := by have := h.nlt; omega, nlt := hl.nlt, mlt := by simp, c0 := hl.c0, c1 := hl.c1, c2 := hl.c2, d0 := by simp [go_sem], d1 := by simp [go_sem], f0 := by simp [go_sem], f1 := by simp [go_sem] }

set_option maxHeartbeats 1000000 in
theorem stop_no (s a j p q : Int) (w : World) (h : mvg s a j p q = false) :
    Calls Try.prog 20 #[.int .i64 p, .int .i64 q, Lm s a j] w (RetInts w [] 1) := by
  go_enter Try.func20, Try.ntmps20
  go_wp2_with fail
  refine (moving_any s a j p q _).mono ?_
  rintro e w1 ⟨rfl, he⟩
  go_wp2
  go_ret2
  exact ⟨_, rfl, World.ownsRow_nil _ _ _ _, ((Ext.refl w).alloc _).trans he⟩

def addrOf : Value → Addr | .pointer (some a) => a | _ => ⟨0, 0, none⟩

/-- The relation of Stop's loop. -/
def StopRel (w : World) (s a j q b : Int) (o t : Value) (wr : World) : Prop :=
  ∃ (x y : Int) (M : Nat) (l : List Int), t = .pointer (some ⟨M, 0, none⟩) ∧ DBox w wr w.heap.size M s a j x y ∧ saf s a j x y = true ∧ l ++ stops s a j x y = stops s a j q b ∧ Own (w.heap.size + 1) wr o l ∧ o.ownBlock ≠ some M

set_option maxHeartbeats 1000000 in
theorem stop_yes (s a j p q : Int) (w : World) (h : mvg s a j p q = true) :
    Calls Try.prog 20 #[.int .i64 p, .int .i64 q, Lm s a j] w (RetInts w (stops s a j q (q - p)) 0) := by
  obtain ⟨hv, ⟨p1, p2⟩, ⟨q1, q2⟩, hs⟩ := (mvg_iff _ _ _ _ _).1 h
  obtain ⟨⟨s1, s2⟩, -, -⟩ := (vld_iff _ _ _).1 hv
  have HV := Lib.hid hv; clear hv
  have HS := Lib.hid hs; clear hs
  obtain ⟨i0, hi, hz0, hz1, hz2⟩ := info_parts Try.info_i64
  go_enter Try.func20, Try.ntmps20
  go_wp2_with fail
  refine (moving_any s a j p q _).mono ?_
  rintro e w1 ⟨rfl, he⟩
  obtain ⟨k0, k1, k2⟩ := box_cells he
  go_wp2
  go_loopw [8, 9] (fun o t wr => StopRel w s a j q (q - p) o t wr) (fun _ t wr => mu s (cellInt wr (addrOf t)) (cellInt wr ⟨(addrOf t).block, 1, none⟩))
  case atStart =>
    refine ⟨q, q - p, w1.heap.size, [], rfl, ?_, HS.out, rfl, World.ownsRow_nil _ _ _ _, by simp [Value.ownBlock]⟩
    have hz := he.size
    simp at hz
    exact { ext := (((Ext.refl w).alloc _).trans he).alloc _, old := by omega, nm := by omega, nlt := by simp; omega, mlt := by simp, c0 := by rw [World.cell?_alloc_past _ _ _ (show w.heap.size < w1.heap.size by omega)]; exact k0, c1 := by rw [World.cell?_alloc_past _ _ _ (show w.heap.size < w1.heap.size by omega)]; exact k1, c2 := by rw [World.cell?_alloc_past _ _ _ (show w.heap.size < w1.heap.size by omega)]; exact k2, d0 := by simp [go_sem], d1 := by simp [go_sem], f0 := by simp [go_sem], f1 := by simp [go_sem] }
  case round =>
    obtain ⟨x, y, M, l, rfl, hb, hxy, hl, hown, hne⟩ := hrel
    clear he k0 k1 k2
    have c0 := hb.c0; have c1 := hb.c1; have c2 := hb.c2; have d0 := hb.d0; have d1 := hb.d1
    have m0 := cellInt_of d0
    have m1 := cellInt_of d1
    by_cases h0 : x = 0 ∧ y = 0
    · obtain ⟨rfl, rfl⟩ := h0
      rw [stops_rest, List.append_nil] at hl
      have HL := Lib.hid hl
      clear hl m0 m1
      go_wp2
      go_ret2
      refine ⟨_, rfl, ?_, hb.ext⟩
      rw [← HL.out]
      exact World.ownsRow.mono hown (by omega)
    · have hm := mu_lt s a j x y HV.out hxy h0
      have hd := stops_cons s a j x y HV.out hxy h0
      have hxy2 := (brk_props s a j x y HV.out hxy).1
      have hlen := stops_len s a j q (q - p) HV.out HS.out
      have hlen2 : l.length ≤ 200002 := by rw [← hl, List.length_append] at hlen; omega
      obtain ⟨⟨v1, v2⟩, -, -⟩ := (saf_iff _ _ _ _ _).1 hxy2
      have H := Lib.hid (And.intro hl (And.intro hm (And.intro hd (And.intro hxy2 (And.intro m0 (And.intro m1 hxy))))))
      clear hl hm hd hxy2 m0 m1 hxy hlen
      rcases (show (¬ x = 0) ∨ (x = 0 ∧ ¬ y = 0) by omega) with hx | ⟨rfl, hy⟩
      · clear h0
        by_cases hpos : 0 < x + brk a j x y
        · go_wp2_with fail
          refine (brake_any s a j _ _ _ HV.out H.out.2.2.2.2.2.2).mono ?_
          rintro e w2 ⟨rfl, he2⟩
          have hb1 := hb.later he2
          have hb2 := hb1.set (x + brk a j x y) (brk a j x y)
          have hown2 := ((hown.later he2).set (a := ⟨M, 0, none⟩) hne (.int .i64 (x + brk a j x y))).set (a := ⟨M, 1, none⟩) hne (.int .i64 (brk a j x y))
          have c0' := hb1.c0; have c1' := hb1.c1; have c2' := hb1.c2; have d0' := hb1.d0; have d1' := hb1.d1; have f0' := hb1.f0; have f1' := hb1.f1
          have hz2' : w.heap.size < w2.heap.size := hb1.nlt
          have hM2 : M < w2.heap.size := hb1.mlt
          go_wp2_with ((at_builtin; refine wpList_append_own _ rfl _ _ 34 rfl (w.heap.size + 1) 2 i0 (.int .i64 0) 1 8 Try.underlying34 hi hz0 hz1 hz2 rfl (by decide) _ _ _ rfl (World.ownsRow.alloc hown2 _) ⟨w2.heap.size, 0, none⟩ 1 1 [.int .i64 (x + brk a j x y)] rfl rfl ?c1 ?c2 ?c3 ?c4 ?c5 ?_))
          case c1 =>
            intro k u hk
            cases k with
            | zero => simp at hk; subst hk; simp [go_sem, Addr.add]
            | succ k => simp at hk
          case c2 => simp [Value.oneCell']
          case c3 => simp [maxLen]; omega
          case c4 => omega
          case c5 => simp; omega
          intro v' w3 hown4 hgrow _
          have hb3 := (hb2.later ((Ext.refl _).alloc (.cells #[.int .i64 (x + brk a j x y)] 2))).grown hgrow (fun h => by have := World.ownsRow.lt hown2 _ h; omega) hne (fun k h => by have := World.ownsRow.lt hown2 _ h; omega)
          have hE3 := hb3.mlt
          have hnew := hb3.anew 59 (x + brk a j x y) (brk a j x y)
          have hown5 : Own (w.heap.size + 1) w3 v' (l ++ [x + brk a j x y]) := by
            unfold Own; rw [List.length_append, List.map_append]; exact hown4
          have hown6 := hown5.later ((Ext.refl w3).alloc (.cells #[.int .i64 (x + brk a j x y), .int .i64 (brk a j x y)] 59))
          have hlt := World.ownsRow.lt hown5
          have c0'' := hb3.c0; have c1'' := hb3.c1; have c2'' := hb3.c2; have d0'' := hb3.d0; have d1'' := hb3.d1
          have HLT := Lib.hid hlt
          clear hlt hown4 hown5 hown2 hown hgrow c0 c1 c2 d0 d1 c0' c1' c2' d0' d1' f0' f1' he2
          go_wp2
          obtain ⟨g1, g2, g3, g4, g5, g6, -⟩ := H.out
          rw [if_pos hpos] at g3
          go_roundw
          case rel =>
            refine ⟨x + brk a j x y, brk a j x y, w3.heap.size, l ++ [x + brk a j x y], rfl, hnew, g4, ?_, hown6, fun h => ?_⟩
            · rw [← g1, g3]; simp
            · have := HLT.out _ h; omega
          case measure =>
            simp only [addrOf]
            rw [g5, g6, cellInt_of hnew.d0, cellInt_of hnew.d1]; exact g2
        · go_wp2_with fail
          refine (brake_any s a j _ _ _ HV.out H.out.2.2.2.2.2.2).mono ?_
          rintro e w2 ⟨rfl, he2⟩
          have hb1 := hb.later he2
          have hb2 := hb1.set (x + brk a j x y) (brk a j x y)
          have hown2 := ((hown.later he2).set (a := ⟨M, 0, none⟩) hne (.int .i64 (x + brk a j x y))).set (a := ⟨M, 1, none⟩) hne (.int .i64 (brk a j x y))
          have c0' := hb1.c0; have c1' := hb1.c1; have c2' := hb1.c2; have d0' := hb1.d0; have d1' := hb1.d1; have f0' := hb1.f0; have f1' := hb1.f1
          have hnew := hb2.anew 59 (x + brk a j x y) (brk a j x y)
          have hown6 := hown2.later ((Ext.refl _).alloc (.cells #[.int .i64 (x + brk a j x y), .int .i64 (brk a j x y)] 59))
          have HLT := Lib.hid (World.ownsRow.lt hown2)
          clear hown2 hown
          go_wp2
          obtain ⟨g1, g2, g3, g4, g5, g6, -⟩ := H.out
          rw [if_neg (by omega)] at g3
          have hsz : ((w2.setCell ⟨M, 0, none⟩ (.int .i64 (x + brk a j x y))).setCell ⟨M, 1, none⟩ (.int .i64 (brk a j x y))).heap.size = w2.heap.size := by simp
          go_roundw
          case rel =>
            refine ⟨x + brk a j x y, brk a j x y, _, l, ?_, hnew, g4, ?_, hown6, fun h => ?_⟩
            · rw [hsz]
            · rw [← g1, g3]
            · have := HLT.out _ h; omega
          case measure =>
            rw [hsz] at hnew
            simp only [addrOf]
            rw [g5, g6, cellInt_of hnew.d0, cellInt_of hnew.d1]; exact g2
      · clear h0
        simp only [Int.zero_add] at v1 v2 H
        by_cases hpos : 0 < brk a j 0 y
        · go_wp2_with fail
          refine (brake_any s a j _ _ _ HV.out H.out.2.2.2.2.2.2).mono ?_
          rintro e w2 ⟨rfl, he2⟩
          have hb1 := hb.later he2
          have hb2 := hb1.set (brk a j 0 y) (brk a j 0 y)
          have hown2 := ((hown.later he2).set (a := ⟨M, 0, none⟩) hne (.int .i64 (brk a j 0 y))).set (a := ⟨M, 1, none⟩) hne (.int .i64 (brk a j 0 y))
          have c0' := hb1.c0; have c1' := hb1.c1; have c2' := hb1.c2; have d0' := hb1.d0; have d1' := hb1.d1; have f0' := hb1.f0; have f1' := hb1.f1
          have hz2' : w.heap.size < w2.heap.size := hb1.nlt
          have hM2 : M < w2.heap.size := hb1.mlt
          go_wp2_with ((at_builtin; refine wpList_append_own _ rfl _ _ 34 rfl (w.heap.size + 1) 2 i0 (.int .i64 0) 1 8 Try.underlying34 hi hz0 hz1 hz2 rfl (by decide) _ _ _ rfl (World.ownsRow.alloc hown2 _) ⟨w2.heap.size, 0, none⟩ 1 1 [.int .i64 (brk a j 0 y)] rfl rfl ?c1 ?c2 ?c3 ?c4 ?c5 ?_))
          case c1 =>
            intro k u hk
            cases k with
            | zero => simp at hk; subst hk; simp [go_sem, Addr.add]
            | succ k => simp at hk
          case c2 => simp [Value.oneCell']
          case c3 => simp [maxLen]; omega
          case c4 => omega
          case c5 => simp; omega
          intro v' w3 hown4 hgrow _
          have hb3 := (hb2.later ((Ext.refl _).alloc (.cells #[.int .i64 (brk a j 0 y)] 2))).grown hgrow (fun h => by have := World.ownsRow.lt hown2 _ h; omega) hne (fun k h => by have := World.ownsRow.lt hown2 _ h; omega)
          have hE3 := hb3.mlt
          have hnew := hb3.anew 59 (brk a j 0 y) (brk a j 0 y)
          have hown5 : Own (w.heap.size + 1) w3 v' (l ++ [brk a j 0 y]) := by
            unfold Own; rw [List.length_append, List.map_append]; exact hown4
          have hown6 := hown5.later ((Ext.refl w3).alloc (.cells #[.int .i64 (brk a j 0 y), .int .i64 (brk a j 0 y)] 59))
          have hlt := World.ownsRow.lt hown5
          have c0'' := hb3.c0; have c1'' := hb3.c1; have c2'' := hb3.c2; have d0'' := hb3.d0; have d1'' := hb3.d1
          have HLT := Lib.hid hlt
          clear hlt hown4 hown5 hown2 hown hgrow c0 c1 c2 d0 d1 c0' c1' c2' d0' d1' f0' f1' he2
          go_wp2
          obtain ⟨g1, g2, g3, g4, g5, g6, -⟩ := H.out
          rw [if_pos hpos] at g3
          go_roundw
          case rel =>
            refine ⟨brk a j 0 y, brk a j 0 y, w3.heap.size, l ++ [brk a j 0 y], rfl, hnew, g4, ?_, hown6, fun h => ?_⟩
            · rw [← g1, g3]; simp
            · have := HLT.out _ h; omega
          case measure =>
            simp only [addrOf]
            rw [g5, g6, cellInt_of hnew.d0, cellInt_of hnew.d1]; exact g2
        · go_wp2_with fail
          refine (brake_any s a j _ _ _ HV.out H.out.2.2.2.2.2.2).mono ?_
          rintro e w2 ⟨rfl, he2⟩
          have hb1 := hb.later he2
          have hb2 := hb1.set (brk a j 0 y) (brk a j 0 y)
          have hown2 := ((hown.later he2).set (a := ⟨M, 0, none⟩) hne (.int .i64 (brk a j 0 y))).set (a := ⟨M, 1, none⟩) hne (.int .i64 (brk a j 0 y))
          have c0' := hb1.c0; have c1' := hb1.c1; have c2' := hb1.c2; have d0' := hb1.d0; have d1' := hb1.d1; have f0' := hb1.f0; have f1' := hb1.f1
          have hnew := hb2.anew 59 (brk a j 0 y) (brk a j 0 y)
          have hown6 := hown2.later ((Ext.refl _).alloc (.cells #[.int .i64 (brk a j 0 y), .int .i64 (brk a j 0 y)] 59))
          have HLT := Lib.hid (World.ownsRow.lt hown2)
          clear hown2 hown
          go_wp2
          obtain ⟨g1, g2, g3, g4, g5, g6, -⟩ := H.out
          rw [if_neg (by omega)] at g3
          have hsz : ((w2.setCell ⟨M, 0, none⟩ (.int .i64 (brk a j 0 y))).setCell ⟨M, 1, none⟩ (.int .i64 (brk a j 0 y))).heap.size = w2.heap.size := by simp
          go_roundw
          case rel =>
            refine ⟨brk a j 0 y, brk a j 0 y, _, l, ?_, hnew, g4, ?_, hown6, fun h => ?_⟩
            · rw [hsz]
            · rw [← g1, g3]
            · have := HLT.out _ h; omega
          case measure =>
            rw [hsz] at hnew
            simp only [addrOf]
            rw [g5, g6, cellInt_of hnew.d0, cellInt_of hnew.d1]; exact g2

end Go.Proofs.Ytcblahhfgkafhaa
