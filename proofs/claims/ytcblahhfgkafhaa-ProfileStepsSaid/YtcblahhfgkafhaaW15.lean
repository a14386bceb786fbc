/-
  Walks: Stop of the reference of layer 49.
-/
import Derived.Test.YtcblahhfgkafhaaW14
namespace Go.Proofs.Ytcblahhfgkafhaa
open Go.RowKit

/-- A slice of numbers is returned. -/
def RetInts1 (w : World) (l : List Int) (e : Ending) (w' : World) : Prop := ∃ v, e = .returned v ∧ Own w.heap.size w' v l ∧ Ext w w'

theorem LBox.grown {w wr w1 : World} {N : Nat} {s a j : Int} {row : Option Nat} (h : LBox w wr N s a j) (hg : wr.grownBy w1 row) (h1 : row ≠ some N) (h3 : ∀ k, row = some k → w.heap.size ≤ k) : LBox w w1 N s a j where
  ext := Below.grown h.ext.out hg h.ext.size h3
  nlt := Nat.lt_of_lt_of_le h.nlt hg.size
  c0 := by rw [World.cell?_of_block (hg.block N h.nlt (Ne.symm h1))]; exact h.c0
  c1 := by rw [World.cell?_of_block (hg.block N h.nlt (Ne.symm h1))]; exact h.c1
  c2 := by rw [World.cell?_of_block (hg.block N h.nlt (Ne.symm h1))]; exact h.c2

/-- Less than the next acceleration while braking leads to no safe state. -/
theorem brk_least (s a j v b x : Int) (hj : 2 ≤ j) (b1 : -a ≤ b) (b2 : b ≤ a) (h1 : max (-a) (b - j) ≤ x) (h2 : x < brk a j v b) : saf s a j (v + x) x = false := by
  obtain ⟨c1, c2, c3⟩ := brk_walk a j v b hj b1 b2
  have h3 := c3 x h1 (by omega)
  cases hs : saf s a j (v + x) x
  · rfl
  · obtain ⟨⟨v1, v2⟩, ⟨x1, x2⟩, h4⟩ := (saf_iff _ _ _ _ _).1 hs
    by_cases hx : 0 < x
    · have := fad_zero j (-x) (by omega)
      omega
    · rw [if_neg hx] at h4
      omega

/-- The relation of the outer loop. -/
def RStopRel (w : World) (s a j q b : Int) (o t u : Value) (wr : World) : Prop :=
  ∃ (x y : Int) (l : List Int), t = .int .i64 x ∧ u = .int .i64 y ∧ LBox w wr w.heap.size s a j ∧ saf s a j x y = true ∧ l ++ stops s a j x y = stops s a j q b ∧ Own (w.heap.size + 1) wr o l

set_option maxHeartbeats 2000000 in
theorem rstop_yes (s a j p q : Int) (w : World) (h : mvg s a j p q = true) :
    Calls Try.prog 23 #[.int .i64 p, .int .i64 q, Lm s a j] w (RetInts1 w (stops s a j q (q - p))) := by
  obtain ⟨hv, ⟨p1, p2⟩, ⟨q1, q2⟩, hs⟩ := (mvg_iff _ _ _ _ _).1 h
  obtain ⟨⟨s1, s2⟩, ⟨a1, a2⟩, ⟨j1, j2⟩⟩ := (vld_iff _ _ _).1 hv
  clear h
  have HV := Lib.hid hv; clear hv
  have HS := Lib.hid hs; clear hs
  obtain ⟨i0, hi, hz0, hz1, hz2⟩ := info_parts Try.info_i64
  go_enter Try.func23, Try.ntmps23
  go_wp2
  go_loopw [7, 8, 9] (fun o t u wr => RStopRel w s a j q (q - p) o t u wr) (fun _ t u _ => mu s (intOf t) (intOf u))
  case atStart => exact ⟨q, q - p, [], rfl, rfl, LBox.mk' (Ext.refl _), HS.out, rfl, World.ownsRow_nil _ _ _ _⟩
  case round =>
    obtain ⟨x, y, l, rfl, rfl, hb, hxy, hl, hown⟩ := hrel
    have c0 := hb.c0; have c1 := hb.c1; have c2 := hb.c2
    by_cases h0 : x = 0 ∧ y = 0
    · obtain ⟨rfl, rfl⟩ := h0
      rw [stops_rest, List.append_nil] at hl
      have HL := Lib.hid hl
      clear hl
      go_wp2
      go_ret
      refine ⟨_, rfl, ?_, hb.ext⟩
      rw [← HL.out]
      exact World.ownsRow.mono hown (by omega)
    · have hm := mu_lt s a j x y HV.out hxy h0
      have hd := stops_cons s a j x y HV.out hxy h0
      have hxy2 := (brk_props s a j x y HV.out hxy).1
      have hlen := stops_len s a j q (q - p) HV.out HS.out
      have hlen2 : l.length ≤ 200002 := by rw [← hl, List.length_append] at hlen; omega
      obtain ⟨⟨v1, v2⟩, ⟨v3, v4⟩, -⟩ := (saf_iff _ _ _ _ _).1 hxy2
      obtain ⟨⟨x1, x2⟩, ⟨y1, y2⟩, -⟩ := (saf_iff _ _ _ _ _).1 hxy
      obtain ⟨d1, d2, -⟩ := brk_walk a j x y j1 y1 y2
      have H := Lib.hid (And.intro hl (And.intro hm (And.intro hd (And.intro hxy2 hxy))))
      clear hl hm hd hxy2 hxy hlen
      have hne : (x != 0) = true ∨ ((x != 0) = false ∧ (y != 0) = true) := by
        by_cases hx : x = 0
        · right; simp [hx]; omega
        · left; simpa using hx
      obtain ⟨wo, rfl⟩ : ∃ wo : World, wo = wr := ⟨_, rfl⟩
      rcases hne with hne | ⟨hne1, hne2⟩ <;> rcases (show -a < y - j ∨ y - j ≤ -a by omega) with hmx | hmx
      all_goals
        clear h0
        go_wp2
        go_loopw [10] (fun t wr => ∃ (z : Int) (k : Later wo), t = .int .i64 z ∧ wr = k.w ∧ -a ≤ z ∧ y - j ≤ z ∧ z ≤ brk a j x y) (fun t _ => (brk a j x y - intOf t).toNat)
        case atStart => exact ⟨_, Later.self wo, rfl, rfl, by omega, by omega, by omega⟩
        case round =>
          obtain ⟨z, k, rfl, rfl, z1, z3, z2⟩ := hrel
          have hbk := hb.later k.ext
          have e0 := hbk.c0; have e1 := hbk.c1; have e2 := hbk.c2
          by_cases hz : z < brk a j x y
          · have hsf := brk_least s a j x y z j1 y1 y2 (by omega) hz
            go_wp2_with fail
            refine (rsafe_any s a j _ _ _ HV.out).mono ?_
            rintro e w2 ⟨rfl, he2⟩
            rw [hsf]
            clear hsf
            go_wp2
            go_roundw
            case rel => exact ⟨z + 1, ⟨w2, k.ext.trans he2⟩, by go_num, rfl, by omega, by omega, by omega⟩
            case measure => simp [intOf]; omega
          · obtain rfl : z = brk a j x y := by omega
            have hsf := H.out.2.2.2.1
            go_wp2_with fail
            refine (rsafe_any s a j _ _ _ HV.out).mono ?_
            rintro e w2 ⟨rfl, he2⟩
            rw [hsf]
            clear hsf
            have hb2 := hbk.later he2
            have hown2 := (hown.later k.ext).later he2
            have hz2' : w.heap.size < w2.heap.size := hb2.nlt
            by_cases hpos : x + brk a j x y = 0
            · have hpb : (x + brk a j x y != 0) = false := by simpa using hpos
              have HP := Lib.hid hpos
              clear hpos
              go_wp2
              obtain ⟨g1, g2, g3, g4, -⟩ := H.out
              rw [if_neg (by have := HP.out; omega)] at g3
              go_roundw
              case rel => exact ⟨x + brk a j x y, brk a j x y, l, by go_num, by go_num, hb2, g4, by rw [← g1, g3], hown2⟩
              case measure => simp [intOf]; exact g2
            · have hpb : (x + brk a j x y != 0) = true := by simpa using hpos
              go_wp2_with ((at_builtin; refine wpList_append_own _ rfl _ _ 34 rfl (w.heap.size + 1) 2 i0 (.int .i64 0) 1 8 Try.underlying34 hi hz0 hz1 hz2 rfl (by decide) _ _ _ rfl (World.ownsRow.alloc hown2 _) ⟨w2.heap.size, 0, none⟩ 1 1 [.int .i64 (x + brk a j x y)] rfl rfl ?c1 ?c2 ?c3 ?c4 ?c5 ?_))
              case c1 =>
                intro k u hk
                cases k with
                | zero => simp at hk; subst hk; simp [go_sem, Addr.add]
                | succ k => simp at hk
              case c2 => simp [Value.oneCell']
              case c3 => simp [maxLen]; omega
              case c4 => omega
              case c5 => simp; omega
              intro v' w3 hown4 hgrow _
              have hb3 := (hb2.later ((Ext.refl _).alloc (.cells #[.int .i64 (x + brk a j x y)] 2))).grown hgrow (fun h => by have := World.ownsRow.lt hown2 _ h; omega) (fun k h => by have := World.ownsRow.lt hown2 _ h; omega)
              have hown5 : Own (w.heap.size + 1) w3 v' (l ++ [x + brk a j x y]) := by
                unfold Own; rw [List.length_append, List.map_append]; exact hown4
              clear hown4 hown2 hgrow
              go_wp2
              obtain ⟨g1, g2, g3, g4, -⟩ := H.out
              rw [if_pos (by omega)] at g3
              go_roundw
              case rel => exact ⟨x + brk a j x y, brk a j x y, l ++ [x + brk a j x y], by go_num, by go_num, hb3, g4, by rw [← g1, g3]; simp, hown5⟩
              case measure => simp [intOf]; exact g2

end Go.Proofs.Ytcblahhfgkafhaa
