/-
  Walks: Steps of layer 49.
-/
import Derived.Test.YtcblahhfgkafhaaW18
import Derived.Test.YtcblahhfgkafhaaW15
namespace Go.Proofs.Ytcblahhfgkafhaa
open Go.RowKit

/-- The error of Steps. -/
def stepsE (n s a j : Int) : Int := if tickE n s a j = 0 then (if 100000 < tickN n s a j then 3 else 0) else tickE n s a j

theorem tickE_zero {n s a j : Int} (h : tickE n s a j = 0) : vld s a j = true ∧ 0 ≤ n ∧ n ≤ 1000000000000 := by
  unfold tickE at h
  split at h
  · omega
  · rename_i h1
    split at h
    · omega
    · cases hv : vld s a j
      · exact absurd (.inl hv) h1
      · exact ⟨rfl, by omega, by omega⟩
theorem tickN_eq {n s a j : Int} (h : tickE n s a j = 0) : tickN n s a j = (n + smp s a j - 1) / smp s a j := by
  obtain ⟨h1, h2, h3⟩ := tickE_zero h
  unfold tickN
  rw [if_neg (by rw [h1]; simp; omega)]

theorem simpGo_done (u : Int) (k : Nat) (rest : Int) (out : List Int) (h : ¬ 0 < rest) : simpGo u k rest out = out := by
  cases k with
  | zero => rfl
  | succ k => simp [simpGo, h]

set_option maxHeartbeats 1000000 in
theorem steps_err (n s a j : Int) (w : World) (h : ¬ tickE n s a j = 0) :
    Calls Try.prog 29 #[.int .i64 n, Lm s a j] w (RetInts w [] (tickE n s a j)) := by
  have hb : (tickE n s a j != 0) = true := by simpa using h
  clear h
  go_enter Try.func29, Try.ntmps29
  go_wp2_with fail
  refine (ticks_any n s a j _).mono ?_
  rintro e w1 ⟨rfl, he⟩
  go_wp2
  go_ret2
  exact ⟨_, rfl, World.ownsRow_nil _ _ _ _, ((Ext.refl w).alloc _).trans he⟩

set_option maxHeartbeats 1000000 in
theorem steps_large (n s a j : Int) (w : World) (h : tickE n s a j = 0) (hl : 100000 < tickN n s a j) :
    Calls Try.prog 29 #[.int .i64 n, Lm s a j] w (RetInts w [] 3) := by
  have H := Lib.hid h; clear h
  go_enter Try.func29, Try.ntmps29
  go_wp2_with fail
  refine (ticks_any n s a j _).mono ?_
  rw [H.out]
  rintro e w1 ⟨rfl, he⟩
  go_wp2
  go_ret2
  exact ⟨_, rfl, World.ownsRow_nil _ _ _ _, ((Ext.refl w).alloc _).trans he⟩

/-- What fast returns, at any limits. -/
theorem fast_any (s a j n most : Int) (w : World) (hv : vld s a j = true) (n0 : 0 ≤ n) (n1 : n ≤ 1000000000000) (m0 : 0 ≤ most) :
    Calls Try.prog 42 #[Lm s a j, .int .i64 n, .int .i64 most] w (RetFast w s a j (fastL s a j n most)) := by
  by_cases h : 5000 < most ∨ 100 < s / a + a / j
  · have : fastL s a j n most = none := by unfold fastL; rw [if_pos h]
    rw [this]; exact fast_no s a j n most w hv h
  · exact fast_yes s a j n most w hv (by omega) (by omega) n0 n1 m0

set_option maxHeartbeats 1000000 in
theorem steps_fast (n s a j : Int) (l : List Int) (w : World) (h : tickE n s a j = 0) (hl : ¬ 100000 < tickN n s a j) (t0 : 0 ≤ tickN n s a j) (hf : fastL s a j n (tickN n s a j) = some l) (hs : smth s a j l = true) :
    Calls Try.prog 29 #[.int .i64 n, Lm s a j] w (RetInts w l 0) := by
  obtain ⟨hv, n0, n1⟩ := tickE_zero h
  have H := Lib.hid (And.intro h (And.intro hv (And.intro hf hs))); clear h hv hf hs
  have hl' : decide (100000 < tickN n s a j) = false := by simpa using hl
  generalize hT : tickN n s a j = T at *
  have HT := Lib.hid hT; clear hT
  go_enter Try.func29, Try.ntmps29
  go_wp2_with fail
  refine (ticks_any n s a j _).mono ?_
  rw [H.out.1, HT.out]
  rintro e w1 ⟨rfl, he⟩
  have b1 := LBox.mk' he
  have k0 := b1.c0; have k1 := b1.c1; have k2 := b1.c2
  go_wp2_with fail
  refine (fast_any s a j n T _ H.out.2.1 n0 n1 t0).mono ?_
  rw [H.out.2.2.1]
  rintro e w2 ⟨v, rfl, hown, he2⟩
  rw [H.out.2.2.2]
  have hE := b1.ext.trans he2
  have hz := b1.ext.size
  go_wp2
  go_ret2
  exact ⟨_, rfl, World.ownsRow.mono hown hz, hE⟩

/-- The relation of the simple loop. -/
def SimpRel (w : World) (u n s a j : Int) (R : List Int) (o t : Value) (wr : World) : Prop :=
  ∃ (rest : Int) (l : List Int) (k : Nat), t = .int .i64 rest ∧ LBox w wr w.heap.size s a j ∧ 0 ≤ rest ∧ rest + l.length ≤ n ∧ rest.toNat ≤ k ∧ simpGo u k rest l = R ∧ Own (w.heap.size + 1) wr o l

set_option maxHeartbeats 2000000 in
theorem steps_simple (n s a j : Int) (w : World) (h : tickE n s a j = 0) (hl : ¬ 100000 < tickN n s a j) (t0 : 0 ≤ tickN n s a j) (hf : fastL s a j n (tickN n s a j) = none ∨ ∃ l, fastL s a j n (tickN n s a j) = some l ∧ smth s a j l = false) :
    Calls Try.prog 29 #[.int .i64 n, Lm s a j] w (RetInts w (simpGo (smp s a j) n.toNat n []) 0) := by
  obtain ⟨hv, n0, n1⟩ := tickE_zero h
  obtain ⟨⟨s1, s2⟩, ⟨a1, a2⟩, ⟨j1, j2⟩⟩ := (vld_iff s a j).1 hv
  obtain ⟨u1, u2, u3, u4⟩ := smp_bounds s a j s1 a1 j1
  have H := Lib.hid (And.intro h (And.intro hv hf)); clear h hv hf
  have hl' : decide (100000 < tickN n s a j) = false := by simpa using hl
  generalize hT : tickN n s a j = T at *
  have HT := Lib.hid hT; clear hT
  obtain ⟨i0, hi, hz0, hz1, hz2⟩ := info_parts Try.info_i64
  generalize hR : simpGo (smp s a j) n.toNat n [] = R
  have HR := Lib.hid hR; clear hR
  go_enter Try.func29, Try.ntmps29
  go_wp2_with fail
  refine (ticks_any n s a j _).mono ?_
  rw [H.out.1, HT.out]
  rintro e w1 ⟨rfl, he⟩
  have b1 := LBox.mk' he
  have k0 := b1.c0; have k1 := b1.c1; have k2 := b1.c2
  go_wp2_with fail
  have hfast : Calls Try.prog 42 #[Lm s a j, .int .i64 n, .int .i64 T] w1 fun e w2 => (∃ v, e = .returned (.tuple #[v, .bool false])) ∧ Ext w1 w2 := by
    refine (fast_any s a j n T _ H.out.2.1 n0 n1 t0).mono ?_
    intro e w2 hr
    rcases H.out.2.2 with h | ⟨l, h, h'⟩
    · rw [h] at hr; exact ⟨⟨_, hr.1⟩, hr.2⟩
    · rw [h] at hr
      obtain ⟨v, e1, _, e3⟩ := hr
      rw [h'] at e1
      exact ⟨⟨v, e1⟩, e3⟩
  refine hfast.mono ?_
  rintro e w2 ⟨⟨v, rfl⟩, he2⟩
  clear hfast
  have b2 := b1.later he2
  clear b1 he2 k0 k1 k2 he
  have k0 := b2.c0; have k1 := b2.c1; have k2 := b2.c2
  go_wp2_with fail
  refine (simple_any s a j _ j1 j2).mono ?_
  rintro e w3 ⟨rfl, he3⟩
  have b3 := b2.later he3
  clear b2 he3 k0 k1 k2
  generalize smp s a j = u at *
  go_wp2
  go_loopw [10, 12] (fun o t wr => SimpRel w u n s a j R o t wr) (fun _ t _ => (intOf t).toNat)
  case atStart => exact ⟨n, [], n.toNat, rfl, b3, n0, by simp, Nat.le_refl _, HR.out, World.ownsRow_nil _ _ _ _⟩
  case round =>
    clear HR
    obtain ⟨rest, l, k, rfl, hb, r0, hlen, hk, hgo, hown⟩ := hrel
    clear b3
    by_cases hr : 0 < rest
    · obtain ⟨k, rfl⟩ : ∃ k', k = k' + 1 := ⟨k - 1, by omega⟩
      simp only [simpGo, if_pos hr] at hgo
      have m1 : 0 ≤ (rest - 1) % u := Int.emod_nonneg _ (by omega)
      have m2 : (rest - 1) % u < u := Int.emod_lt_of_pos _ (by omega)
      have m3 : (rest - 1) % u ≤ rest - 1 := by
        have := Int.emod_lt_of_pos (rest - 1) (show 0 < u by omega)
        have h5 := Int.mul_ediv_add_emod (rest - 1) u
        have h6 : 0 ≤ u * ((rest - 1) / u) := Int.mul_nonneg (by omega) (Int.ediv_nonneg (by omega) (by omega))
        omega
      have HG := Lib.hid hgo; clear hgo
      have hz : w.heap.size < wr.heap.size := hb.nlt
      have hlen1 : (l.length : Int) ≤ 1000000000000 := by omega
      have hE4 := (Ext.refl wr).alloc (.cells #[.int .i64 ((rest - 1) % u + 1)] 2)
      have hlit : ArgI (wr.alloc (.cells #[.int .i64 ((rest - 1) % u + 1)] 2)) (.slice (some ⟨wr.heap.size, 0, none⟩) 1 1) [(rest - 1) % u + 1] := ArgI.lit [(rest - 1) % u + 1] 2 1 1 _ rfl rfl rfl (by simp [maxLen]) (Ext.refl _)
      have hown2 := hown.later hE4
      go_wp2_with ((at_builtin; refine app_at rfl _ _ rfl (w.heap.size + 1) _ _ l [(rest - 1) % u + 1] rfl rfl hown2 hlit ?c1 ?c2 ?_))
      case c1 => simp; omega
      case c2 => simp; omega
      intro v' w5 hown5 hgrow hat
      have hb5 := (hb.later hE4).grown hgrow (fun h => by have := World.ownsRow.lt hown2 _ h; omega) (fun k h => by have := World.ownsRow.lt hown2 _ h; omega)
      obtain ⟨ad, n', cap, bb, off, hform, hn', had, hc⟩ := hown5.sl
      have hn2 : n' = l.length + 1 := by simpa using hn'
      subst hn2
      obtain ⟨hbl, hcell⟩ := hc l.length (by omega)
      obtain rfl : ad = some ⟨bb, off, none⟩ := had.resolve_left (by omega)
      have hgd : (l ++ [(rest - 1) % u + 1]).getD l.length 0 = (rest - 1) % u + 1 := by simp
      rw [hgd] at hcell
      clear hgd hc hn' had hat hown2 hlit hE4 hgrow hown hb
      have HF := Lib.hid hform
      rw [hform] at hown5
      rw [hform]
      clear hform
      generalize hx : (rest - 1) % u + 1 = x at *
      have x1 : 1 ≤ x := by omega
      have x2 : x ≤ rest := by omega
      clear hx m1 m2 m3
      obtain ⟨L, hL⟩ : ∃ L, l.length = L := ⟨_, rfl⟩
      have HL := Lib.hid hL
      rw [hL] at hlen hlen1 hcell hown5 ⊢
      clear hL HF
      go_wp2
      go_roundw
      case rel =>
        refine ⟨rest - x, l ++ [x], k, by go_num, hb5, by omega, ?_, by omega, HG.out, hown5⟩
        rw [List.length_append, HL.out]; simp; omega
      case measure => simp [intOf]; omega
    · rw [simpGo_done _ _ _ _ hr] at hgo
      have HG := Lib.hid hgo; clear hgo
      have hE := hb.ext
      go_wp2
      go_ret2
      refine ⟨_, rfl, ?_, hE⟩
      rw [← HG.out]
      exact World.ownsRow.mono hown (by omega)

end Go.Proofs.Ytcblahhfgkafhaa
