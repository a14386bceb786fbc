/-
  Walks: fast of layer 49.
-/
import Derived.Test.YtcblahhfgkafhaaW17
import Derived.Test.YtcblahhfgkafhaaW8
import Derived.Test.YtcblahhfgkafhaaApp
namespace Go.Proofs.Ytcblahhfgkafhaa
open Go.RowKit

theorem SlI.form' {w : World} {v : Value} {l : List Int} (h : SlI w v l) : ∃ ad cap, v = .slice ad l.length cap := by
  obtain ⟨a, n, cap, b, off, rfl, rfl, _, _⟩ := h; exact ⟨a, cap, rfl⟩

/-- What fast returns. -/
def RetFast (w : World) (s a j : Int) (o : Option (List Int)) (e : Ending) (w' : World) : Prop :=
  match o with
  | none => e = .returned (.tuple #[.slice none 0 0, .bool false]) ∧ Ext w w'
  | some l => ∃ v, e = .returned (.tuple #[v, .bool (smth s a j l)]) ∧ Own w.heap.size w' v l ∧ Ext w w'

theorem fastGo_done (s a j most : Int) (k : Nat) (v b rest : Int) (out : List Int) (h : ¬ 0 < rest) : fastGo s a j most k v b rest out = some out := by
  cases k with
  | zero => rfl
  | succ k => simp [fastGo, h]

/-- The relation of fast's loop. -/
def FastRel (w : World) (M : Nat) (s a j most : Int) (R : Option (List Int)) (o t : Value) (wr : World) : Prop :=
  ∃ (v b rest : Int) (l : List Int) (k : Nat), t = .int .i64 rest ∧ DBox w wr w.heap.size M s a j v b ∧ saf s a j v b = true ∧ 0 ≤ rest ∧ rest ≤ 1000000000000 ∧ rest.toNat ≤ k ∧ (l.length : Int) ≤ most ∧
    fastGo s a j most k v b rest l = R ∧ Own (w.heap.size + 1) wr o l ∧ o.ownBlock ≠ some M

set_option maxHeartbeats 2000000 in
theorem fast_no (s a j n most : Int) (w : World) (hv : vld s a j = true) (h : 5000 < most ∨ 100 < s / a + a / j) :
    Calls Try.prog 42 #[Lm s a j, .int .i64 n, .int .i64 most] w (RetFast w s a j none) := by
  obtain ⟨⟨s1, s2⟩, ⟨a1, a2⟩, ⟨j1, j2⟩⟩ := (vld_iff s a j).1 hv
  clear hv
  have q1 : 0 ≤ s / a := Int.ediv_nonneg (by omega) (by omega)
  have q2 : s / a ≤ s := Int.ediv_le_self _ (by omega)
  have q3 : 0 ≤ a / j := Int.ediv_nonneg (by omega) (by omega)
  have q4 : a / j ≤ a := Int.ediv_le_self _ (by omega)
  by_cases hm : 5000 < most
  · clear h
    go_enter Try.func42, Try.ntmps42
    go_wp2
    refine wp_region_later (by kernel_rfl) (by kernel_rfl) ?_
    repeat (go_big_quiet_step (fail))
    refine wpQuiet_nil ?_
    rintro _ ⟨y, rfl⟩
    go_wp2
    go_ret2
    exact ⟨rfl, ((Ext.refl w).alloc _).trans y.ext⟩
  · have hm' : decide (5000 < most) = false := by simpa using hm
    have hq : 100 < s / a + a / j := by omega
    clear h
    have k0 : ∀ x : Later (w.alloc (.cells #[.int .i64 s, .int .i64 a, .int .i64 j] 28)), x.w.cell? ⟨w.heap.size, 0, none⟩ = some (.int .i64 s) := Later.cell (by simp [go_sem])
    have k1 : ∀ x : Later (w.alloc (.cells #[.int .i64 s, .int .i64 a, .int .i64 j] 28)), x.w.cell? ⟨w.heap.size, 1, none⟩ = some (.int .i64 a) := Later.cell (by simp [go_sem])
    have k2 : ∀ x : Later (w.alloc (.cells #[.int .i64 s, .int .i64 a, .int .i64 j] 28)), x.w.cell? ⟨w.heap.size, 2, none⟩ = some (.int .i64 j) := Later.cell (by simp [go_sem])
    go_enter Try.func42, Try.ntmps42
    go_wp2
    refine wp_region_later (by kernel_rfl) (by kernel_rfl) ?_
    repeat (go_big_quiet_step (fail))
    refine wpQuiet_nil ?_
    rintro _ ⟨y, rfl⟩
    go_wp2
    go_ret2
    exact ⟨rfl, ((Ext.refl w).alloc _).trans y.ext⟩

set_option maxHeartbeats 2000000 in
theorem fast_yes (s a j n most : Int) (w : World) (hv : vld s a j = true) (hm : ¬ 5000 < most) (hq : ¬ 100 < s / a + a / j) (n0 : 0 ≤ n) (n1 : n ≤ 1000000000000) (m0 : 0 ≤ most) :
    Calls Try.prog 42 #[Lm s a j, .int .i64 n, .int .i64 most] w (RetFast w s a j (fastL s a j n most)) := by
  obtain ⟨⟨s1, s2⟩, ⟨a1, a2⟩, ⟨j1, j2⟩⟩ := (vld_iff s a j).1 hv
  have HV := Lib.hid hv; clear hv
  have q1 : 0 ≤ s / a := Int.ediv_nonneg (by omega) (by omega)
  have q2 : s / a ≤ s := Int.ediv_le_self _ (by omega)
  have q3 : 0 ≤ a / j := Int.ediv_nonneg (by omega) (by omega)
  have q4 : a / j ≤ a := Int.ediv_le_self _ (by omega)
  have hm' : decide (5000 < most) = false := by simpa using hm
  have hq' : decide (100 < s / a + a / j) = false := by simpa using hq
  have e : fastL s a j n most = fastGo s a j most n.toNat 0 0 n [] := by unfold fastL; rw [if_neg (by omega)]
  rw [e]; clear e
  have k0 : ∀ x : Later (w.alloc (.cells #[.int .i64 s, .int .i64 a, .int .i64 j] 28)), x.w.cell? ⟨w.heap.size, 0, none⟩ = some (.int .i64 s) := Later.cell (by simp [go_sem])
  have k1 : ∀ x : Later (w.alloc (.cells #[.int .i64 s, .int .i64 a, .int .i64 j] 28)), x.w.cell? ⟨w.heap.size, 1, none⟩ = some (.int .i64 a) := Later.cell (by simp [go_sem])
  have k2 : ∀ x : Later (w.alloc (.cells #[.int .i64 s, .int .i64 a, .int .i64 j] 28)), x.w.cell? ⟨w.heap.size, 2, none⟩ = some (.int .i64 j) := Later.cell (by simp [go_sem])
  generalize hR : fastGo s a j most n.toNat 0 0 n [] = R
  have HR := Lib.hid hR; clear hR
  go_enter Try.func42, Try.ntmps42
  go_wp2
  refine wp_region_later (by kernel_rfl) (by kernel_rfl) ?_
  repeat (go_big_quiet_step (fail))
  refine wpQuiet_nil ?_
  rintro _ ⟨y, rfl⟩
  have b1 := LBox.mk' y.ext
  clear k0 k1 k2
  generalize y.w = w1 at b1 ⊢
  clear y
  have hs00 : saf s a j 0 0 = true := by
    rw [saf_iff, if_neg (by omega), fad_zero j _ (by omega)]; omega
  have HS := Lib.hid hs00; clear hs00
  go_wp2
  go_loopw [8, 10] (fun o t wr => FastRel w w1.heap.size s a j most R o t wr) (fun _ t _ => (intOf t).toNat)
  case atStart =>
    have hlt := b1.nlt
    refine ⟨0, 0, n, [], n.toNat, rfl, ?_, HS.out, n0, n1, Nat.le_refl _, by simpa using m0, HR.out, World.ownsRow_nil _ _ _ _, by simp [Value.ownBlock]⟩
    have hl := b1.later ((Ext.refl w1).alloc (.cells #[.int .i64 0, .int .i64 0] 59))
    exact { ext := hl.ext, old := b1.ext.size, nm := by omega, nlt := hl.nlt, mlt := by simp, c0 := hl.c0, c1 := hl.c1, c2 := hl.c2, d0 := by simp [go_sem], d1 := by simp [go_sem], f0 := by simp [go_sem], f1 := by simp [go_sem] }
  case round =>
    clear HR HS
    obtain ⟨v, b, rest, l, k, rfl, hb, hs, r0, r1, hk, hlen, hgo, hown, hne⟩ := hrel
    generalize w1.heap.size = M at hb hne ⊢
    clear b1
    have c0 := hb.c0; have c1 := hb.c1; have c2 := hb.c2; have d0 := hb.d0; have d1 := hb.d1; have f0 := hb.f0; have f1 := hb.f1
    have l5 : l.length ≤ 5000 := by omega
    by_cases hr : 0 < rest
    · obtain ⟨k, rfl⟩ : ∃ k', k = k' + 1 := ⟨k - 1, by omega⟩
      simp only [fastGo, if_pos hr] at hgo
      have HS := Lib.hid hs; clear hs
      cases hn : nxt s a j v b rest with
      | none =>
        rw [hn] at hgo
        simp only at hgo
        have hV : nextV s a j v b rest = .tuple #[.agg #[.int .i64 0, .int .i64 0], .bool false] := by unfold nextV; rw [hn]
        have HG := Lib.hid hgo; clear hgo hn
        go_wp2_with fail
        refine (next_any s a j v b rest _ HV.out HS.out (by omega) r1).mono ?_
        rw [hV]
        rintro e w2 ⟨rfl, he2⟩
        clear hV
        have hE := (hb.later he2).ext
        go_wp2
        go_ret2
        rw [← HG.out]
        exact ⟨rfl, hE.alloc _⟩
      | some c =>
        rw [hn] at hgo
        simp only at hgo
        have hV : nextV s a j v b rest = .tuple #[.agg #[.int .i64 (v + c), .int .i64 c], .bool true] := by unfold nextV; rw [hn]
        obtain ⟨n2, n3, n4⟩ := nxt_some hn
        obtain ⟨g1, g2, g3⟩ := fitsB_saf n4
        have g4 : 1 ≤ v + c := by unfold nlo at n2; omega
        have HS2 := Lib.hid g2
        clear hn n2 n3 n4 g2 g3
        by_cases hmost : (l.length : Int) = most
        · rw [if_pos hmost] at hgo
          have hbm : ((l.length : Int) == most) = true := by simpa using hmost
          have HG := Lib.hid hgo; clear hgo hmost
          obtain ⟨ad, cap, hform⟩ := hown.sl.form'
          subst hform
          generalize l.length = L at *
          go_wp2_with fail
          refine (next_any s a j v b rest _ HV.out HS.out (by omega) r1).mono ?_
          rw [hV]
          rintro e w2 ⟨rfl, he2⟩
          clear hV
          have hE := (hb.later he2).ext
          go_wp2
          go_ret2
          rw [← HG.out]
          exact ⟨rfl, hE.alloc _⟩
        · rw [if_neg hmost] at hgo
          have hbm : ((l.length : Int) == most) = false := by simpa using hmost
          have HG := Lib.hid hgo; clear hgo
          have hlen2 : (l.length : Int) + 1 ≤ most := by omega
          clear hmost
          obtain ⟨ad, cap, hform⟩ := hown.sl.form'
          subst hform
          obtain ⟨L, hL⟩ : ∃ L, l.length = L := ⟨_, rfl⟩
          have HL := Lib.hid hL
          rw [hL] at hbm hlen2 l5 hlen hown hne ⊢
          clear hL
          obtain ⟨i0, hi, hz0, hz1, hz2⟩ := info_parts Try.info_i64
          go_wp2_with fail
          refine (next_any s a j v b rest _ HV.out HS.out (by omega) r1).mono ?_
          rw [hV]
          rintro e w2 ⟨rfl, he2⟩
          clear hV
          have hb2 := hb.later he2
          have hb3 := hb2.set (v + c) c
          have hE4 := ((Ext.refl ((w2.setCell ⟨M, 0, none⟩ (.int .i64 (v + c))).setCell ⟨M, 1, none⟩ (.int .i64 c))).alloc (.cells #[.int .i64 (v + c), .int .i64 c] 59)).alloc (.cells #[.int .i64 (v + c)] 2)
          have hb4 := hb3.later hE4
          have hown2 := (((hown.later he2).set (a := ⟨M, 0, none⟩) hne (.int .i64 (v + c))).set (a := ⟨M, 1, none⟩) hne (.int .i64 c)).later hE4
          have hlit : ArgI ((((w2.setCell ⟨M, 0, none⟩ (.int .i64 (v + c))).setCell ⟨M, 1, none⟩ (.int .i64 c)).alloc (.cells #[.int .i64 (v + c), .int .i64 c] 59)).alloc (.cells #[.int .i64 (v + c)] 2)) (.slice (some ⟨w2.heap.size + 1, 0, none⟩) 1 1) [v + c] := ArgI.lit [v + c] 2 1 1 _ rfl (by simp) rfl (by simp [maxLen]) (Ext.refl _)
          clear c0 c1 c2 d0 d1 f0 f1
          have c0 := hb2.c0; have c1 := hb2.c1; have c2 := hb2.c2; have d0 := hb2.d0; have d1 := hb2.d1; have f0 := hb2.f0; have f1 := hb2.f1
          have hM2 : M < w2.heap.size := hb2.mlt
          have hN2 : w.heap.size < w2.heap.size := hb2.nlt
          have hMne : ¬ M = w2.heap.size := by omega
          go_wp2_with ((at_builtin; refine app_at rfl _ _ rfl (w.heap.size + 1) _ _ l [v + c] rfl rfl hown2 hlit ?c1 ?c2 ?_))
          case c1 => simp; have := HL.out; omega
          case c2 => simp; omega
          intro v' w3 hown4 hgrow hat
          have hb5 := hb4.grown hgrow (fun h => by have := World.ownsRow.lt hown2 _ h; omega) hne (fun k h => by have := World.ownsRow.lt hown2 _ h; omega)
          have hlt5 := World.ownsRow.lt hown4
          have hnew : v'.ownBlock ≠ some M := by
            rcases hat with h | h
            · rw [h]; exact hne
            · rw [h]; simp; omega
          clear hat hown2 hlit hb4 hb3 hE4 hgrow hown hne c0 c1 c2 d0 d1 f0 f1 hb hb2 he2 hM2 hN2 hMne
          have d0 := hb5.d0; have d1 := hb5.d1
          have HLT := Lib.hid hlt5; clear hlt5
          go_wp2
          go_roundw
          case rel => exact ⟨v + c, c, rest - (v + c), l ++ [v + c], k, by go_num, hb5, HS2.out, by omega, by omega, by omega, by simp; have := HL.out; omega, HG.out, hown4, hnew⟩
          case measure => simp [intOf]; omega
    · rw [fastGo_done _ _ _ _ _ _ _ _ _ hr] at hgo
      have HG := Lib.hid hgo; clear hgo hs
      go_wp2_with fail
      refine (smooth_any _ l s a j _ hown.sl (by omega)).mono ?_
      rintro e w2 ⟨rfl, he2⟩
      have hE := (hb.later he2).ext
      have hown2 := hown.later he2
      go_wp2
      go_ret2
      rw [← HG.out]
      exact ⟨_, rfl, World.ownsRow.mono hown2 (by omega), hE⟩

end Go.Proofs.Ytcblahhfgkafhaa
