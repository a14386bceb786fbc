/-
  append(a slice of the call's own, a slice of numbers...): one law for every source, nil included.
  Walks: fast of layer 49.
  Walks: slow; Safe and Brakes of the reference of layer 49.
  Walks: Stop of the reference of layer 49.
  Walks: Steps of layer 49.
  The plain mathematics of layer 49, continued: what is true of the lists of Steps.
  ProfileStop, walked.
  ProfileSteps, walked.
  The square root of a float is small: enough of IEEE arithmetic for int64(math.Sqrt(float64(sum))).
  Plain laws of layer 50: lengths.
-/
import Derived.Test.YtjibcnnbclcboaaDoorQS05
import Derived.Maps.AppendAt
import Derived.Test.YtjibcnnbclcboaaDoorQS02
import Derived.Test.YtjibcnnbclcboaaDoorQS03
import Derived.Test.YtjibcnnbclcboaaDoorQS01
namespace Go.Proofs.YtjibcnnbclcboaaDoor
open Go.RowKit
set_option maxRecDepth 8000

theorem Own.arg {B : Nat} {w : World} {v : Value} {l : List Int} (h : Own B w v l) (hl : l.length ≤ maxLen) : ArgI w v l := by
  have hsl := h.sl
  obtain ⟨h1, h2⟩ := h
  rcases h2 with ⟨rfl, h3⟩ | ⟨g, cap, cur, rfl, h3, h4, h5, h6, h7, h8⟩
  · exact .inl ⟨rfl, List.length_eq_zero_iff.1 h3⟩
  · obtain ⟨a, n, cap', b, off, e1, e2, e3, e4⟩ := hsl
    simp only [Value.slice.injEq] at e1
    obtain ⟨rfl, rfl, rfl⟩ := e1
    refine .inr ⟨_, _, rfl, hl, .inr rfl, fun i hi => ?_⟩
    rcases e3 with e3 | e3
    · omega
    · simp only [Option.some.injEq, Addr.mk.injEq] at e3
      obtain ⟨rfl, rfl, _⟩ := e3
      exact e4 i hi

/-- append. -/
theorem app_arg {w : World} {ops : Array Oper} {rest : List Oper} {o : Oper} {A : Act} {Q : Exit → Act → World → Prop} (hg : o.guard = none) (x y : Operand)
    (ho : o.op = .call { callee := .builtin .append, args := #[x, y], argTypes := #[96, 96] }) (base : Nat) (v v2 : Value) (l l2 : List Int) (hx : A.eval x = v) (hy : A.eval y = v2)
    (hown : Own base w v l) (harg : ArgI w v2 l2) (h63 : l.length + l2.length ≤ 1000000000000) (hbase : base ≤ w.heap.size)
    (hk : ∀ v' w3, Own base w3 v' (l ++ l2) → w.grownBy w3 v.ownBlock → wpList Tryd.prog ops Q rest (A.put o.dst v') w3) : wpList Tryd.prog ops Q (o :: rest) A w := by
  obtain ⟨i0, hi, hz0, hz1, hz2⟩ := info_parts Tryd.info_i64
  rcases harg with ⟨h1, h2⟩ | ⟨x2, c, h1, h2, h3, h4⟩
  · subst h1; subst h2
    refine wpList_append_own_none hg _ _ 96 ho base 2 i0 1 Tryd.underlying96 hi _ _ _ hx hown hy (hk _ _ (by rw [List.append_nil]; exact hown) ⟨rfl, rfl, rfl, Nat.le_refl _, fun _ _ _ => rfl⟩)
  · subst h1
    refine wpList_append_own w hg _ _ 96 ho base 2 i0 (.int .i64 0) 1 8 Tryd.underlying96 hi hz0 hz1 hz2 rfl (by decide) _ _ _ hx hown x2 _ _ (l2.map (Value.int .i64)) hy (by rw [List.length_map, Nat.mul_one]) (fun k u hk' => ?_) (by simp [Value.oneCell']) (by simp [maxLen]; omega) (by omega) hbase (fun v' w3 ho3 hg3 _ => hk v' w3 ?_ hg3)
    · have kl : k < l2.length := by
        rcases Nat.lt_or_ge k l2.length with h | h
        · exact h
        · simp [h] at hk'
      simp [kl] at hk'
      obtain ⟨b, off, sp⟩ := x2
      have hsp := h3.resolve_left (by omega)
      simp only at hsp
      subst hsp
      rw [Addr.add_none, (h4 k kl).2, ← hk']
      simp [kl]
    · unfold Own; rw [List.length_append, List.map_append]; exact ho3

/-- append, and where the new slice lies. -/
theorem app_at {w : World} {ops : Array Oper} {rest : List Oper} {o : Oper} {A : Act} {Q : Exit → Act → World → Prop} (hg : o.guard = none) (x y : Operand)
    (ho : o.op = .call { callee := .builtin .append, args := #[x, y], argTypes := #[96, 96] }) (base : Nat) (v v2 : Value) (l l2 : List Int) (hx : A.eval x = v) (hy : A.eval y = v2)
    (hown : Own base w v l) (harg : ArgI w v2 l2) (h63 : l.length + l2.length ≤ 1000000000000) (hbase : base ≤ w.heap.size)
    (hk : ∀ v' w3, Own base w3 v' (l ++ l2) → w.grownBy w3 v.ownBlock → (v'.ownBlock = v.ownBlock ∨ v'.ownBlock = some w.heap.size) → wpList Tryd.prog ops Q rest (A.put o.dst v') w3) : wpList Tryd.prog ops Q (o :: rest) A w := by
  obtain ⟨i0, hi, hz0, hz1, hz2⟩ := info_parts Tryd.info_i64
  rcases harg with ⟨h1, h2⟩ | ⟨x2, c, h1, h2, h3, h4⟩
  · subst h1; subst h2
    refine wpList_append_own_none hg _ _ 96 ho base 2 i0 1 Tryd.underlying96 hi _ _ _ hx hown hy (hk _ _ (by rw [List.append_nil]; exact hown) ⟨rfl, rfl, rfl, Nat.le_refl _, fun _ _ _ => rfl⟩ (.inl rfl))
  · subst h1
    refine wpList_append_own_at w hg _ _ 96 ho base 2 i0 (.int .i64 0) 1 8 Tryd.underlying96 hi hz0 hz1 hz2 rfl (by decide) _ _ _ hx hown x2 _ _ (l2.map (Value.int .i64)) hy (by rw [List.length_map, Nat.mul_one]) (fun k u hk' => ?_) (by simp [Value.oneCell']) (by simp [maxLen]; omega) (by omega) hbase (fun v' w3 ho3 hg3 _ hat => hk v' w3 ?_ hg3 hat)
    · have kl : k < l2.length := by
        rcases Nat.lt_or_ge k l2.length with h | h
        · exact h
        · simp [h] at hk'
      simp [kl] at hk'
      obtain ⟨b, off, sp⟩ := x2
      have hsp := h3.resolve_left (by omega)
      simp only at hsp
      subst hsp
      rw [Addr.add_none, (h4 k kl).2, ← hk']
      simp [kl]
    · unfold Own; rw [List.length_append, List.map_append]; exact ho3

/-- A literal slice as a source. -/
theorem ArgI.lit {w w' : World} {cs : Array Value} (l : List Int) (t : TypeId) (n cap b : Nat) (hn : n = l.length) (hb : b = w.heap.size) (hcs : cs = (l.map (Value.int .i64)).toArray) (hl : l.length ≤ maxLen) (he : Ext (w.alloc (.cells cs t)) w') : ArgI w' (.slice (some ⟨b, 0, none⟩) n cap) l := by
  subst hn; subst hb; subst hcs
  refine .inr ⟨_, cap, rfl, hl, .inr rfl, fun i hi => ?_⟩
  have hz := he.size
  simp at hz
  refine ⟨by show w.heap.size < w'.heap.size; omega, ?_⟩
  rw [he.cell (by simp)]
  simp [go_sem, hi]

/-- A slice of the call's own, made just now. -/
theorem Own.made {w : World} (l : List Int) : Own w.heap.size (w.alloc (.cells (l.map (Value.int .i64)).toArray 2)) (.slice (some ⟨w.heap.size, 0, none⟩) l.length l.length) l ∨ maxLen < l.length := by
  by_cases h : l.length ≤ maxLen
  · left
    have := World.ownsRow_lit (base := w.heap.size) (e := 2) (size := 1) w (l.map (Value.int .i64)).toArray l.length (Nat.le_refl _) h (by simp)
    simpa [Own] using this
  · right; omega

end Go.Proofs.YtjibcnnbclcboaaDoor

namespace Go.Proofs.YtjibcnnbclcboaaDoor
open Go.RowKit
set_option maxRecDepth 8000

theorem SlI.form' {w : World} {v : Value} {l : List Int} (h : SlI w v l) : ∃ ad cap, v = .slice ad l.length cap := by
  obtain ⟨a, n, cap, b, off, rfl, rfl, _, _⟩ := h; exact ⟨a, cap, rfl⟩

/-- What fast returns. -/
def RetFast (w : World) (s a j : Int) (o : Option (List Int)) (e : Ending) (w' : World) : Prop :=
  match o with
  | none => e = .returned (.tuple #[.slice none 0 0, .bool false]) ∧ Ext w w'
  | some l => ∃ v, e = .returned (.tuple #[v, .bool (smth s a j l)]) ∧ Own w.heap.size w' v l ∧ Ext w w'

theorem fastGo_done (s a j most : Int) (k : Nat) (v b rest : Int) (out : List Int) (h : ¬ 0 < rest) : fastGo s a j most k v b rest out = some out := by
  cases k with
  | zero => rfl
  | succ k => simp [fastGo, h]

/-- The relation of fast's loop. -/
def FastRel (w : World) (M : Nat) (s a j most : Int) (R : Option (List Int)) (o t : Value) (wr : World) : Prop :=
  ∃ (v b rest : Int) (l : List Int) (k : Nat), t = .int .i64 rest ∧ DBox w wr w.heap.size M s a j v b ∧ saf s a j v b = true ∧ 0 ≤ rest ∧ rest ≤ 1000000000000 ∧ rest.toNat ≤ k ∧ (l.length : Int) ≤ most ∧
    fastGo s a j most k v b rest l = R ∧ Own (w.heap.size + 1) wr o l ∧ o.ownBlock ≠ some M

set_option maxHeartbeats 2000000 in
theorem fast_no (s a j n most : Int) (w : World) (hv : vld s a j = true) (h : 5000 < most ∨ 100 < s / a + a / j) :
    Calls Tryd.prog 58 #[Lm s a j, .int .i64 n, .int .i64 most] w (RetFast w s a j none) := by
  obtain ⟨⟨s1, s2⟩, ⟨a1, a2⟩, ⟨j1, j2⟩⟩ := (vld_iff s a j).1 hv
  clear hv
  have q1 : 0 ≤ s / a := Int.ediv_nonneg (by omega) (by omega)
  have q2 : s / a ≤ s := Int.ediv_le_self _ (by omega)
  have q3 : 0 ≤ a / j := Int.ediv_nonneg (by omega) (by omega)
  have q4 : a / j ≤ a := Int.ediv_le_self _ (by omega)
  by_cases hm : 5000 < most
  · clear h
    go_enter Tryd.func58, Tryd.ntmps58
    go_wp2
    refine wp_region_later (by kernel_rfl) (by kernel_rfl) ?_
    repeat (go_big_quiet_step (fail))
    refine wpQuiet_nil ?_
    rintro _ ⟨y, rfl⟩
    go_wp2
    go_ret2
    exact ⟨rfl, ((Ext.refl w).alloc _).trans y.ext⟩
  · have hm' : decide (5000 < most) = false := by simpa using hm
    have hq : 100 < s / a + a / j := by omega
    clear h
    have k0 : ∀ x : Later (w.alloc (.cells #[.int .i64 s, .int .i64 a, .int .i64 j] 54)), x.w.cell? ⟨w.heap.size, 0, none⟩ = some (.int .i64 s) := Later.cell (by simp [go_sem])
    have k1 : ∀ x : Later (w.alloc (.cells #[.int .i64 s, .int .i64 a, .int .i64 j] 54)), x.w.cell? ⟨w.heap.size, 1, none⟩ = some (.int .i64 a) := Later.cell (by simp [go_sem])
    have k2 : ∀ x : Later (w.alloc (.cells #[.int .i64 s, .int .i64 a, .int .i64 j] 54)), x.w.cell? ⟨w.heap.size, 2, none⟩ = some (.int .i64 j) := Later.cell (by simp [go_sem])
    go_enter Tryd.func58, Tryd.ntmps58
    go_wp2
    refine wp_region_later (by kernel_rfl) (by kernel_rfl) ?_
    repeat (go_big_quiet_step (fail))
    refine wpQuiet_nil ?_
    rintro _ ⟨y, rfl⟩
    go_wp2
    go_ret2
    exact ⟨rfl, ((Ext.refl w).alloc _).trans y.ext⟩

set_option maxHeartbeats 2000000 in
theorem fast_yes (s a j n most : Int) (w : World) (hv : vld s a j = true) (hm : ¬ 5000 < most) (hq : ¬ 100 < s / a + a / j) (n0 : 0 ≤ n) (n1 : n ≤ 1000000000000) (m0 : 0 ≤ most) :
    Calls Tryd.prog 58 #[Lm s a j, .int .i64 n, .int .i64 most] w (RetFast w s a j (fastL s a j n most)) := by
  obtain ⟨⟨s1, s2⟩, ⟨a1, a2⟩, ⟨j1, j2⟩⟩ := (vld_iff s a j).1 hv
  have HV := Lib.hid hv; clear hv
  have q1 : 0 ≤ s / a := Int.ediv_nonneg (by omega) (by omega)
  have q2 : s / a ≤ s := Int.ediv_le_self _ (by omega)
  have q3 : 0 ≤ a / j := Int.ediv_nonneg (by omega) (by omega)
  have q4 : a / j ≤ a := Int.ediv_le_self _ (by omega)
  have hm' : decide (5000 < most) = false := by simpa using hm
  have hq' : decide (100 < s / a + a / j) = false := by simpa using hq
  have e : fastL s a j n most = fastGo s a j most n.toNat 0 0 n [] := by unfold fastL; rw [if_neg (by omega)]
  rw [e]; clear e
  have k0 : ∀ x : Later (w.alloc (.cells #[.int .i64 s, .int .i64 a, .int .i64 j] 54)), x.w.cell? ⟨w.heap.size, 0, none⟩ = some (.int .i64 s) := Later.cell (by simp [go_sem])
  have k1 : ∀ x : Later (w.alloc (.cells #[.int .i64 s, .int .i64 a, .int .i64 j] 54)), x.w.cell? ⟨w.heap.size, 1, none⟩ = some (.int .i64 a) := Later.cell (by simp [go_sem])
  have k2 : ∀ x : Later (w.alloc (.cells #[.int .i64 s, .int .i64 a, .int .i64 j] 54)), x.w.cell? ⟨w.heap.size, 2, none⟩ = some (.int .i64 j) := Later.cell (by simp [go_sem])
  generalize hR : fastGo s a j most n.toNat 0 0 n [] = R
  have HR := Lib.hid hR; clear hR
  go_enter Tryd.func58, Tryd.ntmps58
  go_wp2
  refine wp_region_later (by kernel_rfl) (by kernel_rfl) ?_
  repeat (go_big_quiet_step (fail))
  refine wpQuiet_nil ?_
  rintro _ ⟨y, rfl⟩
  have b1 := LBox.mk' y.ext
  clear k0 k1 k2
  generalize y.w = w1 at b1 ⊢
  clear y
  have hs00 : saf s a j 0 0 = true := by
    rw [saf_iff, if_neg (by omega), fad_zero j _ (by omega)]; omega
  have HS := Lib.hid hs00; clear hs00
  go_wp2
  go_loopw [8, 10] (fun o t wr => FastRel w w1.heap.size s a j most R o t wr) (fun _ t _ => (intOf t).toNat)
  case atStart =>
    have hlt := b1.nlt
    refine ⟨0, 0, n, [], n.toNat, rfl, ?_, HS.out, n0, n1, Nat.le_refl _, by simpa using m0, HR.out, World.ownsRow_nil _ _ _ _, by simp [Value.ownBlock]⟩
    have hl := b1.later ((Ext.refl w1).alloc (.cells #[.int .i64 0, .int .i64 0] 144))
    exact { ext := hl.ext, old := b1.ext.size, nm := by omega, nlt := hl.nlt, mlt := by simp, c0 := hl.c0, c1 := hl.c1, c2 := hl.c2, d0 := by simp [go_sem], d1 := by simp [go_sem], f0 := by simp [go_sem], f1 := by simp [go_sem] }
  case round =>
    clear HR HS
    obtain ⟨v, b, rest, l, k, rfl, hb, hs, r0, r1, hk, hlen, hgo, hown, hne⟩ := hrel
    generalize w1.heap.size = M at hb hne ⊢
    clear b1
    have c0 := hb.c0; have c1 := hb.c1; have c2 := hb.c2; have d0 := hb.d0; have d1 := hb.d1; have f0 := hb.f0; have f1 := hb.f1
    have l5 : l.length ≤ 5000 := by omega
    by_cases hr : 0 < rest
    · obtain ⟨k, rfl⟩ : ∃ k', k = k' + 1 := ⟨k - 1, by omega⟩
      simp only [fastGo, if_pos hr] at hgo
      have HS := Lib.hid hs; clear hs
      cases hn : nxt s a j v b rest with
      | none =>
        rw [hn] at hgo
        simp only at hgo
        have hV : nextV s a j v b rest = .tuple #[.agg #[.int .i64 0, .int .i64 0], .bool false] := by unfold nextV; rw [hn]
        have HG := Lib.hid hgo; clear hgo hn
        go_wp2_with fail
        refine (next_any s a j v b rest _ HV.out HS.out (by omega) r1).mono ?_
        rw [hV]
        rintro e w2 ⟨rfl, he2⟩
        clear hV
        have hE := (hb.later he2).ext
        go_wp2
        go_ret2
        rw [← HG.out]
        exact ⟨rfl, hE.alloc _⟩
      | some c =>
        rw [hn] at hgo
        simp only at hgo
        have hV : nextV s a j v b rest = .tuple #[.agg #[.int .i64 (v + c), .int .i64 c], .bool true] := by unfold nextV; rw [hn]
        obtain ⟨n2, n3, n4⟩ := nxt_some hn
        obtain ⟨g1, g2, g3⟩ := fitsB_saf n4
        have g4 : 1 ≤ v + c := by unfold nlo at n2; omega
        have HS2 := Lib.hid g2
        clear hn n2 n3 n4 g2 g3
        by_cases hmost : (l.length : Int) = most
        · rw [if_pos hmost] at hgo
          have hbm : ((l.length : Int) == most) = true := by simpa using hmost
          have HG := Lib.hid hgo; clear hgo hmost
          obtain ⟨ad, cap, hform⟩ := hown.sl.form'
          subst hform
          generalize l.length = L at *
          go_wp2_with fail
          refine (next_any s a j v b rest _ HV.out HS.out (by omega) r1).mono ?_
          rw [hV]
          rintro e w2 ⟨rfl, he2⟩
          clear hV
          have hE := (hb.later he2).ext
          go_wp2
          go_ret2
          rw [← HG.out]
          exact ⟨rfl, hE.alloc _⟩
        · rw [if_neg hmost] at hgo
          have hbm : ((l.length : Int) == most) = false := by simpa using hmost
          have HG := Lib.hid hgo; clear hgo
          have hlen2 : (l.length : Int) + 1 ≤ most := by omega
          clear hmost
          obtain ⟨ad, cap, hform⟩ := hown.sl.form'
          subst hform
          obtain ⟨L, hL⟩ : ∃ L, l.length = L := ⟨_, rfl⟩
          have HL := Lib.hid hL
          rw [hL] at hbm hlen2 l5 hlen hown hne ⊢
          clear hL
          obtain ⟨i0, hi, hz0, hz1, hz2⟩ := info_parts Tryd.info_i64
          go_wp2_with fail
          refine (next_any s a j v b rest _ HV.out HS.out (by omega) r1).mono ?_
          rw [hV]
          rintro e w2 ⟨rfl, he2⟩
          clear hV
          have hb2 := hb.later he2
          have hb3 := hb2.set (v + c) c
          have hE4 := ((Ext.refl ((w2.setCell ⟨M, 0, none⟩ (.int .i64 (v + c))).setCell ⟨M, 1, none⟩ (.int .i64 c))).alloc (.cells #[.int .i64 (v + c), .int .i64 c] 144)).alloc (.cells #[.int .i64 (v + c)] 2)
          have hb4 := hb3.later hE4
          have hown2 := (((hown.later he2).set (a := ⟨M, 0, none⟩) hne (.int .i64 (v + c))).set (a := ⟨M, 1, none⟩) hne (.int .i64 c)).later hE4
          have hlit : ArgI ((((w2.setCell ⟨M, 0, none⟩ (.int .i64 (v + c))).setCell ⟨M, 1, none⟩ (.int .i64 c)).alloc (.cells #[.int .i64 (v + c), .int .i64 c] 144)).alloc (.cells #[.int .i64 (v + c)] 2)) (.slice (some ⟨w2.heap.size + 1, 0, none⟩) 1 1) [v + c] := ArgI.lit [v + c] 2 1 1 _ rfl (by simp) rfl (by simp [maxLen]) (Ext.refl _)
          clear c0 c1 c2 d0 d1 f0 f1
          have c0 := hb2.c0; have c1 := hb2.c1; have c2 := hb2.c2; have d0 := hb2.d0; have d1 := hb2.d1; have f0 := hb2.f0; have f1 := hb2.f1
          have hM2 : M < w2.heap.size := hb2.mlt
          have hN2 : w.heap.size < w2.heap.size := hb2.nlt
          have hMne : ¬ M = w2.heap.size := by omega
          go_wp2_with ((at_builtin; refine app_at rfl _ _ rfl (w.heap.size + 1) _ _ l [v + c] rfl rfl hown2 hlit ?c1 ?c2 ?_))
          case c1 => simp; have := HL.out; omega
          case c2 => simp; omega
          intro v' w3 hown4 hgrow hat
          have hb5 := hb4.grown hgrow (fun h => by have := World.ownsRow.lt hown2 _ h; omega) hne (fun k h => by have := World.ownsRow.lt hown2 _ h; omega)
          have hlt5 := World.ownsRow.lt hown4
          have hnew : v'.ownBlock ≠ some M := by
            rcases hat with h | h
            · rw [h]; exact hne
            · rw [h]; simp; omega
          clear hat hown2 hlit hb4 hb3 hE4 hgrow hown hne c0 c1 c2 d0 d1 f0 f1 hb hb2 he2 hM2 hN2 hMne
          have d0 := hb5.d0; have d1 := hb5.d1
          have HLT := Lib.hid hlt5; clear hlt5
          go_wp2
          go_roundw
          case rel => exact ⟨v + c, c, rest - (v + c), l ++ [v + c], k, by go_num, hb5, HS2.out, by omega, by omega, by omega, by simp; have := HL.out; omega, HG.out, hown4, hnew⟩
          case measure => simp [intOf]; omega
    · rw [fastGo_done _ _ _ _ _ _ _ _ _ hr] at hgo
      have HG := Lib.hid hgo; clear hgo hs
      go_wp2_with fail
      refine (smooth_any _ l s a j _ hown.sl (by omega)).mono ?_
      rintro e w2 ⟨rfl, he2⟩
      have hE := (hb.later he2).ext
      have hown2 := hown.later he2
      go_wp2
      go_ret2
      rw [← HG.out]
      exact ⟨_, rfl, World.ownsRow.mono hown2 (by omega), hE⟩

end Go.Proofs.YtjibcnnbclcboaaDoor

namespace Go.Proofs.YtjibcnnbclcboaaDoor
open Go.RowKit

/-- Small limits. -/
def slw (s a j : Int) : Bool := decide (s ≤ 300) && decide (a ≤ 300) && decide (j ≤ 300)

/-- The error of Stop. -/
def bcode (s a j p q : Int) : Int := if mvg s a j p q then 0 else 1

end Go.Proofs.YtjibcnnbclcboaaDoor

namespace Go.Proofs.YtjibcnnbclcboaaDoor
open Go.RowKit

/-- A slice of numbers is returned. -/
def RetInts1 (w : World) (l : List Int) (e : Ending) (w' : World) : Prop := ∃ v, e = .returned v ∧ Own w.heap.size w' v l ∧ Ext w w'

theorem LBox.grown {w wr w1 : World} {N : Nat} {s a j : Int} {row : Option Nat} (h : LBox w wr N s a j) (hg : wr.grownBy w1 row) (h1 : row ≠ some N) (h3 : ∀ k, row = some k → w.heap.size ≤ k) : LBox w w1 N s a j where
  ext := Below.grown h.ext.out hg h.ext.size h3
  nlt := Nat.lt_of_lt_of_le h.nlt hg.size
  c0 := by rw [World.cell?_of_block (hg.block N h.nlt (Ne.symm h1))]; exact h.c0
  c1 := by rw [World.cell?_of_block (hg.block N h.nlt (Ne.symm h1))]; exact h.c1
  c2 := by rw [World.cell?_of_block (hg.block N h.nlt (Ne.symm h1))]; exact h.c2

/-- Less than the next acceleration while braking leads to no safe state. -/
theorem brk_least (s a j v b x : Int) (hj : 2 ≤ j) (b1 : -a ≤ b) (b2 : b ≤ a) (h1 : max (-a) (b - j) ≤ x) (h2 : x < brk a j v b) : saf s a j (v + x) x = false := by
  obtain ⟨c1, c2, c3⟩ := brk_walk a j v b hj b1 b2
  have h3 := c3 x h1 (by omega)
  cases hs : saf s a j (v + x) x
  · rfl
  · obtain ⟨⟨v1, v2⟩, ⟨x1, x2⟩, h4⟩ := (saf_iff _ _ _ _ _).1 hs
    by_cases hx : 0 < x
    · have := fad_zero j (-x) (by omega)
      omega
    · rw [if_neg hx] at h4
      omega

/-- The relation of the outer loop. -/
def RStopRel (w : World) (s a j q b : Int) (o t u : Value) (wr : World) : Prop :=
  ∃ (x y : Int) (l : List Int), t = .int .i64 x ∧ u = .int .i64 y ∧ LBox w wr w.heap.size s a j ∧ saf s a j x y = true ∧ l ++ stops s a j x y = stops s a j q b ∧ Own (w.heap.size + 1) wr o l

end Go.Proofs.YtjibcnnbclcboaaDoor

namespace Go.Proofs.YtjibcnnbclcboaaDoor
open Go.RowKit
set_option maxRecDepth 8000

/-- The error of Steps. -/
def stepsE (n s a j : Int) : Int := if tickE n s a j = 0 then (if 100000 < tickN n s a j then 3 else 0) else tickE n s a j

theorem tickE_zero {n s a j : Int} (h : tickE n s a j = 0) : vld s a j = true ∧ 0 ≤ n ∧ n ≤ 1000000000000 := by
  unfold tickE at h
  split at h
  · omega
  · rename_i h1
    split at h
    · omega
    · cases hv : vld s a j
      · exact absurd (.inl hv) h1
      · exact ⟨rfl, by omega, by omega⟩
theorem tickN_eq {n s a j : Int} (h : tickE n s a j = 0) : tickN n s a j = (n + smp s a j - 1) / smp s a j := by
  obtain ⟨h1, h2, h3⟩ := tickE_zero h
  unfold tickN
  rw [if_neg (by rw [h1]; simp; omega)]

theorem simpGo_done (u : Int) (k : Nat) (rest : Int) (out : List Int) (h : ¬ 0 < rest) : simpGo u k rest out = out := by
  cases k with
  | zero => rfl
  | succ k => simp [simpGo, h]

set_option maxHeartbeats 1000000 in
theorem steps_err (n s a j : Int) (w : World) (h : ¬ tickE n s a j = 0) :
    Calls Tryd.prog 37 #[.int .i64 n, Lm s a j] w (RetInts w [] (tickE n s a j)) := by
  have hb : (tickE n s a j != 0) = true := by simpa using h
  clear h
  go_enter Tryd.func37, Tryd.ntmps37
  go_wp2_with fail
  refine (ticks_any n s a j _).mono ?_
  rintro e w1 ⟨rfl, he⟩
  go_wp2
  go_ret2
  exact ⟨_, rfl, World.ownsRow_nil _ _ _ _, ((Ext.refl w).alloc _).trans he⟩

set_option maxHeartbeats 1000000 in
theorem steps_large (n s a j : Int) (w : World) (h : tickE n s a j = 0) (hl : 100000 < tickN n s a j) :
    Calls Tryd.prog 37 #[.int .i64 n, Lm s a j] w (RetInts w [] 3) := by
  have H := Lib.hid h; clear h
  go_enter Tryd.func37, Tryd.ntmps37
  go_wp2_with fail
  refine (ticks_any n s a j _).mono ?_
  rw [H.out]
  rintro e w1 ⟨rfl, he⟩
  go_wp2
  go_ret2
  exact ⟨_, rfl, World.ownsRow_nil _ _ _ _, ((Ext.refl w).alloc _).trans he⟩

/-- What fast returns, at any limits. -/
theorem fast_any (s a j n most : Int) (w : World) (hv : vld s a j = true) (n0 : 0 ≤ n) (n1 : n ≤ 1000000000000) (m0 : 0 ≤ most) :
    Calls Tryd.prog 58 #[Lm s a j, .int .i64 n, .int .i64 most] w (RetFast w s a j (fastL s a j n most)) := by
  by_cases h : 5000 < most ∨ 100 < s / a + a / j
  · have : fastL s a j n most = none := by unfold fastL; rw [if_pos h]
    rw [this]; exact fast_no s a j n most w hv h
  · exact fast_yes s a j n most w hv (by omega) (by omega) n0 n1 m0

set_option maxHeartbeats 1000000 in
theorem steps_fast (n s a j : Int) (l : List Int) (w : World) (h : tickE n s a j = 0) (hl : ¬ 100000 < tickN n s a j) (t0 : 0 ≤ tickN n s a j) (hf : fastL s a j n (tickN n s a j) = some l) (hs : smth s a j l = true) :
    Calls Tryd.prog 37 #[.int .i64 n, Lm s a j] w (RetInts w l 0) := by
  obtain ⟨hv, n0, n1⟩ := tickE_zero h
  have H := Lib.hid (And.intro h (And.intro hv (And.intro hf hs))); clear h hv hf hs
  have hl' : decide (100000 < tickN n s a j) = false := by simpa using hl
  generalize hT : tickN n s a j = T at *
  have HT := Lib.hid hT; clear hT
  go_enter Tryd.func37, Tryd.ntmps37
  go_wp2_with fail
  refine (ticks_any n s a j _).mono ?_
  rw [H.out.1, HT.out]
  rintro e w1 ⟨rfl, he⟩
  have b1 := LBox.mk' he
  have k0 := b1.c0; have k1 := b1.c1; have k2 := b1.c2
  go_wp2_with fail
  refine (fast_any s a j n T _ H.out.2.1 n0 n1 t0).mono ?_
  rw [H.out.2.2.1]
  rintro e w2 ⟨v, rfl, hown, he2⟩
  rw [H.out.2.2.2]
  have hE := b1.ext.trans he2
  have hz := b1.ext.size
  go_wp2
  go_ret2
  exact ⟨_, rfl, World.ownsRow.mono hown hz, hE⟩

/-- The relation of the simple loop. -/
def SimpRel (w : World) (u n s a j : Int) (R : List Int) (o t : Value) (wr : World) : Prop :=
  ∃ (rest : Int) (l : List Int) (k : Nat), t = .int .i64 rest ∧ LBox w wr w.heap.size s a j ∧ 0 ≤ rest ∧ rest + l.length ≤ n ∧ rest.toNat ≤ k ∧ simpGo u k rest l = R ∧ Own (w.heap.size + 1) wr o l

set_option maxHeartbeats 2000000 in
theorem steps_simple (n s a j : Int) (w : World) (h : tickE n s a j = 0) (hl : ¬ 100000 < tickN n s a j) (t0 : 0 ≤ tickN n s a j) (hf : fastL s a j n (tickN n s a j) = none ∨ ∃ l, fastL s a j n (tickN n s a j) = some l ∧ smth s a j l = false) :
    Calls Tryd.prog 37 #[.int .i64 n, Lm s a j] w (RetInts w (simpGo (smp s a j) n.toNat n []) 0) := by
  obtain ⟨hv, n0, n1⟩ := tickE_zero h
  obtain ⟨⟨s1, s2⟩, ⟨a1, a2⟩, ⟨j1, j2⟩⟩ := (vld_iff s a j).1 hv
  obtain ⟨u1, u2, u3, u4⟩ := smp_bounds s a j s1 a1 j1
  have H := Lib.hid (And.intro h (And.intro hv hf)); clear h hv hf
  have hl' : decide (100000 < tickN n s a j) = false := by simpa using hl
  generalize hT : tickN n s a j = T at *
  have HT := Lib.hid hT; clear hT
  obtain ⟨i0, hi, hz0, hz1, hz2⟩ := info_parts Tryd.info_i64
  generalize hR : simpGo (smp s a j) n.toNat n [] = R
  have HR := Lib.hid hR; clear hR
  go_enter Tryd.func37, Tryd.ntmps37
  go_wp2_with fail
  refine (ticks_any n s a j _).mono ?_
  rw [H.out.1, HT.out]
  rintro e w1 ⟨rfl, he⟩
  have b1 := LBox.mk' he
  have k0 := b1.c0; have k1 := b1.c1; have k2 := b1.c2
  go_wp2_with fail
  have hfast : Calls Tryd.prog 58 #[Lm s a j, .int .i64 n, .int .i64 T] w1 fun e w2 => (∃ v, e = .returned (.tuple #[v, .bool false])) ∧ Ext w1 w2 := by
    refine (fast_any s a j n T _ H.out.2.1 n0 n1 t0).mono ?_
    intro e w2 hr
    rcases H.out.2.2 with h | ⟨l, h, h'⟩
    · rw [h] at hr; exact ⟨⟨_, hr.1⟩, hr.2⟩
    · rw [h] at hr
      obtain ⟨v, e1, _, e3⟩ := hr
      rw [h'] at e1
      exact ⟨⟨v, e1⟩, e3⟩
  refine hfast.mono ?_
  rintro e w2 ⟨⟨v, rfl⟩, he2⟩
  clear hfast
  have b2 := b1.later he2
  clear b1 he2 k0 k1 k2 he
  have k0 := b2.c0; have k1 := b2.c1; have k2 := b2.c2
  go_wp2_with fail
  refine (simple_any s a j _ j1 j2).mono ?_
  rintro e w3 ⟨rfl, he3⟩
  have b3 := b2.later he3
  clear b2 he3 k0 k1 k2
  generalize smp s a j = u at *
  go_wp2
  go_loopw [10, 12] (fun o t wr => SimpRel w u n s a j R o t wr) (fun _ t _ => (intOf t).toNat)
  case atStart => exact ⟨n, [], n.toNat, rfl, b3, n0, by simp, Nat.le_refl _, HR.out, World.ownsRow_nil _ _ _ _⟩
  case round =>
    clear HR
    obtain ⟨rest, l, k, rfl, hb, r0, hlen, hk, hgo, hown⟩ := hrel
    clear b3
    by_cases hr : 0 < rest
    · obtain ⟨k, rfl⟩ : ∃ k', k = k' + 1 := ⟨k - 1, by omega⟩
      simp only [simpGo, if_pos hr] at hgo
      have m1 : 0 ≤ (rest - 1) % u := Int.emod_nonneg _ (by omega)
      have m2 : (rest - 1) % u < u := Int.emod_lt_of_pos _ (by omega)
      have m3 : (rest - 1) % u ≤ rest - 1 := by
        have := Int.emod_lt_of_pos (rest - 1) (show 0 < u by omega)
        have h5 := Int.mul_ediv_add_emod (rest - 1) u
        have h6 : 0 ≤ u * ((rest - 1) / u) := Int.mul_nonneg (by omega) (Int.ediv_nonneg (by omega) (by omega))
        omega
      have HG := Lib.hid hgo; clear hgo
      have hz : w.heap.size < wr.heap.size := hb.nlt
      have hlen1 : (l.length : Int) ≤ 1000000000000 := by omega
      have hE4 := (Ext.refl wr).alloc (.cells #[.int .i64 ((rest - 1) % u + 1)] 2)
      have hlit : ArgI (wr.alloc (.cells #[.int .i64 ((rest - 1) % u + 1)] 2)) (.slice (some ⟨wr.heap.size, 0, none⟩) 1 1) [(rest - 1) % u + 1] := ArgI.lit [(rest - 1) % u + 1] 2 1 1 _ rfl rfl rfl (by simp [maxLen]) (Ext.refl _)
      have hown2 := hown.later hE4
      go_wp2_with ((at_builtin; refine app_at rfl _ _ rfl (w.heap.size + 1) _ _ l [(rest - 1) % u + 1] rfl rfl hown2 hlit ?c1 ?c2 ?_))
      case c1 => simp; omega
      case c2 => simp; omega
      intro v' w5 hown5 hgrow hat
      have hb5 := (hb.later hE4).grown hgrow (fun h => by have := World.ownsRow.lt hown2 _ h; omega) (fun k h => by have := World.ownsRow.lt hown2 _ h; omega)
      obtain ⟨ad, n', cap, bb, off, hform, hn', had, hc⟩ := hown5.sl
      have hn2 : n' = l.length + 1 := by simpa using hn'
      subst hn2
      obtain ⟨hbl, hcell⟩ := hc l.length (by omega)
      obtain rfl : ad = some ⟨bb, off, none⟩ := had.resolve_left (by omega)
      have hgd : (l ++ [(rest - 1) % u + 1]).getD l.length 0 = (rest - 1) % u + 1 := by simp
      rw [hgd] at hcell
      clear hgd hc hn' had hat hown2 hlit hE4 hgrow hown hb
      have HF := Lib.hid hform
      rw [hform] at hown5
      rw [hform]
      clear hform
      generalize hx : (rest - 1) % u + 1 = x at *
      have x1 : 1 ≤ x := by omega
      have x2 : x ≤ rest := by omega
      clear hx m1 m2 m3
      obtain ⟨L, hL⟩ : ∃ L, l.length = L := ⟨_, rfl⟩
      have HL := Lib.hid hL
      rw [hL] at hlen hlen1 hcell hown5 ⊢
      clear hL HF
      go_wp2
      go_roundw
      case rel =>
        refine ⟨rest - x, l ++ [x], k, by go_num, hb5, by omega, ?_, by omega, HG.out, hown5⟩
        rw [List.length_append, HL.out]; simp; omega
      case measure => simp [intOf]; omega
    · rw [simpGo_done _ _ _ _ hr] at hgo
      have HG := Lib.hid hgo; clear hgo
      have hE := hb.ext
      go_wp2
      go_ret2
      refine ⟨_, rfl, ?_, hE⟩
      rw [← HG.out]
      exact World.ownsRow.mono hown (by omega)

end Go.Proofs.YtjibcnnbclcboaaDoor

namespace Go.Proofs.YtjibcnnbclcboaaDoor

theorem fastGo_props (s a j most N : Int) : ∀ (k : Nat) (v b rest : Int) (out l : List Int), fastGo s a j most k v b rest out = some l → (∀ x ∈ out, 0 < x) → out.sum + rest = N → (out.length : Int) ≤ most → 0 ≤ rest → rest.toNat ≤ k →
    (∀ x ∈ l, 0 < x) ∧ l.sum = N ∧ (l.length : Int) ≤ most := by
  intro k
  induction k with
  | zero =>
    intro v b rest out l h h1 h2 h3 h4 h5
    simp only [fastGo, Option.some.injEq] at h
    subst h
    exact ⟨h1, by omega, h3⟩
  | succ k ih =>
    intro v b rest out l h h1 h2 h3 h4 h5
    simp only [fastGo] at h
    by_cases hr : 0 < rest
    · rw [if_pos hr] at h
      cases hn : nxt s a j v b rest with
      | none => rw [hn] at h; cases h
      | some c =>
        rw [hn] at h
        simp only at h
        split at h
        · cases h
        · obtain ⟨n2, n3, n4⟩ := nxt_some hn
          obtain ⟨g1, g2, g3⟩ := fitsB_saf n4
          have g4 : 1 ≤ v + c := by unfold nlo at n2; omega
          refine ih _ _ _ _ l h (fun x hx => ?_) ?_ ?_ (by omega) (by omega)
          · rcases List.mem_append.1 hx with hx | hx
            · exact h1 x hx
            · simp at hx; omega
          · rw [List.sum_append]; simp; omega
          · simp; omega
    · rw [if_neg hr] at h
      simp only [Option.some.injEq] at h
      subst h
      exact ⟨h1, by omega, h3⟩

theorem smGo_small (s a j u : Int) (h1 : u ≤ s) (h2 : u ≤ a) (h3 : 2 * u ≤ j) : ∀ (l : List Int) (v b : Int), 0 ≤ v → v ≤ u → -u ≤ b → b ≤ u → (∀ x ∈ l, 0 ≤ x ∧ x ≤ u) → smGo s a j v b l = true := by
  intro l
  induction l with
  | nil => intros; rfl
  | cons x l ih =>
    intro v b v1 v2 b1 b2 h
    obtain ⟨x1, x2⟩ := h x (by simp)
    simp only [smGo, Bool.and_eq_true, inR_iff]
    refine ⟨⟨⟨by omega, by omega⟩, by omega⟩, ih x (x - v) x1 x2 (by omega) (by omega) (fun y hy => h y (by simp [hy]))⟩

theorem cnt_step (rest u : Int) (hu : 1 ≤ u) (_hr : 0 < rest) : (rest - ((rest - 1) % u + 1) + u - 1) / u + 1 = (rest + u - 1) / u := by
  have h := Int.mul_ediv_add_emod (rest - 1) u
  have h1 := Int.emod_nonneg (rest - 1) (show u ≠ 0 by omega)
  have h2 := Int.emod_lt_of_pos (rest - 1) (show 0 < u by omega)
  generalize (rest - 1) / u = q at *
  generalize (rest - 1) % u = r at *
  have e1 : rest - (r + 1) + u - 1 = (u - 1) + u * q := by omega
  have e2 : rest + u - 1 = r + u * (q + 1) := by rw [Int.mul_add]; omega
  rw [e1, e2, Int.add_mul_ediv_left _ _ (by omega), Int.add_mul_ediv_left _ _ (by omega), Int.ediv_eq_zero_of_lt (by omega) (by omega), Int.ediv_eq_zero_of_lt h1 h2]
  omega

theorem simpGo_props (u N T : Int) (hu : 1 ≤ u) : ∀ (k : Nat) (rest : Int) (out : List Int), (∀ x ∈ out, 0 < x ∧ x ≤ u) → out.sum + rest = N → (out.length : Int) + (rest + u - 1) / u = T → 0 ≤ rest → rest.toNat ≤ k →
    (∀ x ∈ simpGo u k rest out, 0 < x ∧ x ≤ u) ∧ (simpGo u k rest out).sum = N ∧ ((simpGo u k rest out).length : Int) ≤ T := by
  intro k
  induction k with
  | zero =>
    intro rest out h1 h2 h3 h4 h5
    obtain rfl : rest = 0 := by omega
    have : (0 + u - 1) / u = 0 := Int.ediv_eq_zero_of_lt (by omega) (by omega)
    simp only [simpGo]
    exact ⟨h1, by omega, by omega⟩
  | succ k ih =>
    intro rest out h1 h2 h3 h4 h5
    simp only [simpGo]
    by_cases hr : 0 < rest
    · rw [if_pos hr]
      have m1 := Int.emod_nonneg (rest - 1) (show u ≠ 0 by omega)
      have m2 := Int.emod_lt_of_pos (rest - 1) (show 0 < u by omega)
      have m3 : (rest - 1) % u ≤ rest - 1 := by
        have h6 := Int.mul_ediv_add_emod (rest - 1) u
        have h7 : 0 ≤ u * ((rest - 1) / u) := Int.mul_nonneg (by omega) (Int.ediv_nonneg (by omega) (by omega))
        omega
      have hc := cnt_step rest u hu hr
      refine ih _ _ (fun x hx => ?_) ?_ ?_ (by omega) (by omega)
      · rcases List.mem_append.1 hx with hx | hx
        · exact h1 x hx
        · simp at hx; omega
      · rw [List.sum_append]; simp; omega
      · simp only [List.length_append, List.length_cons, List.length_nil]; omega
    · rw [if_neg hr]
      obtain rfl : rest = 0 := by omega
      have : (0 + u - 1) / u = 0 := Int.ediv_eq_zero_of_lt (by omega) (by omega)
      exact ⟨h1, by omega, by omega⟩

theorem smp_bounds' (s a j : Int) (hs : 1 ≤ s) (ha : 1 ≤ a) (hj : 2 ≤ j) : 1 ≤ smp s a j ∧ smp s a j ≤ s ∧ smp s a j ≤ a ∧ 2 * smp s a j ≤ j := by
  unfold smp; omega

/-- Steps: a smooth list of positive distances with the length as their sum, of at most Ticks elements. -/
theorem stepsL_props (n s a j : Int) (hv : vld s a j = true) (n0 : 0 ≤ n) :
    (∀ x ∈ stepsL n s a j, 0 < x) ∧ (stepsL n s a j).sum = n ∧ ((stepsL n s a j).length : Int) ≤ (n + smp s a j - 1) / smp s a j ∧ smth s a j (stepsL n s a j) = true := by
  obtain ⟨⟨s1, s2⟩, ⟨a1, a2⟩, ⟨j1, j2⟩⟩ := (vld_iff s a j).1 hv
  obtain ⟨u1, u2, u3, u4⟩ := smp_bounds' s a j s1 a1 j1
  have hT : 0 ≤ (n + smp s a j - 1) / smp s a j := Int.ediv_nonneg (by omega) (by omega)
  have hsimp : (∀ x ∈ simpGo (smp s a j) n.toNat n [], 0 < x) ∧ (simpGo (smp s a j) n.toNat n []).sum = n ∧ ((simpGo (smp s a j) n.toNat n []).length : Int) ≤ (n + smp s a j - 1) / smp s a j ∧ smth s a j (simpGo (smp s a j) n.toNat n []) = true := by
    obtain ⟨h1, h2, h3⟩ := simpGo_props (smp s a j) n ((n + smp s a j - 1) / smp s a j) u1 n.toNat n [] (by simp) (by simp) (by simp) n0 (Nat.le_refl _)
    refine ⟨fun x hx => (h1 x hx).1, h2, h3, ?_⟩
    unfold smth
    rw [hv, Bool.true_and]
    refine smGo_small s a j (smp s a j) u2 u3 u4 _ 0 0 (by omega) (by omega) (by omega) (by omega) fun x hx => ?_
    rcases List.mem_append.1 hx with hx | hx
    · have := h1 x hx; omega
    · simp at hx; omega
  unfold stepsL
  split
  · rename_i l hl
    split
    · rename_i hsm
      have hf : fastGo s a j ((n + smp s a j - 1) / smp s a j) n.toNat 0 0 n [] = some l := by
        unfold fastL stepsL.tickN' at hl
        split at hl
        · cases hl
        · exact hl
      obtain ⟨h1, h2, h3⟩ := fastGo_props s a j _ n n.toNat 0 0 n [] l hf (by simp) (by simp) (by simpa using hT) n0 (Nat.le_refl _)
      exact ⟨h1, h2, h3, hsm⟩
    · exact hsimp
  · exact hsimp

end Go.Proofs.YtjibcnnbclcboaaDoor

namespace Go.Proofs.YtjibcnnbclcboaaDoor
open Go.RowKit

theorem SlI.form {w : World} {v : Value} {l : List Int} (h : SlI w v l) : ∃ ad cap, v = .slice ad l.length cap := by
  obtain ⟨a, n, cap, b, off, rfl, rfl, _, _⟩ := h; exact ⟨a, cap, rfl⟩

end Go.Proofs.YtjibcnnbclcboaaDoor

namespace Go.Proofs.YtjibcnnbclcboaaDoor
open Go.RowKit

/-- What Steps returns. -/
def stepsR (n s a j : Int) : List Int := if stepsE n s a j = 0 then stepsL n s a j else []

theorem stepsE_zero {n s a j : Int} (h : stepsE n s a j = 0) : tickE n s a j = 0 ∧ ¬ 100000 < tickN n s a j := by
  unfold stepsE at h
  split at h
  · rename_i h1
    split at h
    · omega
    · exact ⟨h1, by assumption⟩
  · contradiction

theorem tickN_nonneg {n s a j : Int} (h : tickE n s a j = 0) : 0 ≤ tickN n s a j := by
  obtain ⟨hv, n0, n1⟩ := tickE_zero h
  obtain ⟨⟨s1, s2⟩, ⟨a1, a2⟩, ⟨j1, j2⟩⟩ := (vld_iff s a j).1 hv
  obtain ⟨u1, u2, u3, u4⟩ := smp_bounds s a j s1 a1 j1
  rw [tickN_eq h]
  exact Int.ediv_nonneg (by omega) (by omega)

theorem steps_any (n s a j : Int) (w : World) :
    Calls Tryd.prog 37 #[.int .i64 n, Lm s a j] w (RetInts w (stepsR n s a j) (stepsE n s a j)) := by
  by_cases h : tickE n s a j = 0
  · by_cases hl : 100000 < tickN n s a j
    · have e : stepsE n s a j = 3 := by simp [stepsE, h, hl]
      have e2 : stepsR n s a j = [] := by simp [stepsR, e]
      rw [e, e2]; exact steps_large n s a j w h hl
    · have e : stepsE n s a j = 0 := by simp [stepsE, h, hl]
      have e2 : stepsR n s a j = stepsL n s a j := by simp [stepsR, e]
      rw [e, e2]
      have t0 := tickN_nonneg h
      have hT : stepsL.tickN' n s a j = tickN n s a j := by rw [tickN_eq h]; rfl
      unfold stepsL
      rw [hT]
      cases hf : fastL s a j n (tickN n s a j) with
      | none => exact steps_simple n s a j w h hl t0 (.inl hf)
      | some l =>
        simp only
        cases hs : smth s a j l
        · exact steps_simple n s a j w h hl t0 (.inr ⟨l, hf, hs⟩)
        · exact steps_fast n s a j l w h hl t0 hf hs
  · have e : stepsE n s a j = tickE n s a j := by simp [stepsE, h]
    have e2 : stepsR n s a j = [] := by unfold stepsR; rw [if_neg (by rw [e]; exact h)]
    rw [e, e2]; exact steps_err n s a j w h

end Go.Proofs.YtjibcnnbclcboaaDoor

namespace Go.Proofs.YtjibcnnbclcboaaDoor
open Ieee

theorem rootFrom_lt (n : Nat) : ∀ todo r : Nat, Datum.rootFrom n todo r < r + 2 ^ todo
  | 0, r => by simp [Datum.rootFrom]
  | t + 1, r => by
    unfold Datum.rootFrom
    have e : 2 ^ (t + 1) = 2 ^ t + 2 ^ t := by rw [Nat.pow_succ]; omega
    have hp : 0 < 2 ^ t := Nat.two_pow_pos t
    simp only [Nat.shiftLeft_eq, Nat.one_mul]
    split
    · have := rootFrom_lt n t (r + 2 ^ t); omega
    · have := rootFrom_lt n t r; omega

theorem toNat_le_one (b : Bool) : b.toNat ≤ 1 := by cases b <;> simp

/-- What is kept of a magnitude has 53 digits, or is the next power of two. -/
theorem kept_le (mag : Nat) (place last : Int) (h : place + mag.log2 - 52 ≤ last) :
    Toward.even.cut false (mag <<< (place - last).toNat) (last - place).toNat ≤ 2 ^ 53 := by
  have hlt : mag < 2 ^ (mag.log2 + 1) := Nat.lt_log2_self
  unfold Toward.cut
  by_cases hc : last ≤ place
  · have e0 : (last - place).toNat = 0 := by omega
    rw [e0]
    simp only [Nat.zero_min, Nat.shiftLeft_zero, Nat.div_one, Nat.mod_one]
    have : mag <<< (place - last).toNat < 2 ^ 53 := by
      rw [Nat.shiftLeft_eq]
      have h1 : mag * 2 ^ (place - last).toNat < 2 ^ (mag.log2 + 1) * 2 ^ (place - last).toNat := Nat.mul_lt_mul_of_pos_right hlt (Nat.two_pow_pos _)
      rw [← Nat.pow_add] at h1
      exact Nat.lt_of_lt_of_le h1 (Nat.pow_le_pow_right (by decide) (by omega))
    have hf : (decide (1 < 2 * 0) || (1 == 2 * 0 && mag <<< (place - last).toNat % 2 == 1)) = false := by simp
    simp only [hf, Bool.toNat_false, Nat.add_zero]
    omega
  · have e0 : (place - last).toNat = 0 := by omega
    rw [e0, Nat.shiftLeft_zero]
    simp only [Nat.shiftLeft_eq, Nat.one_mul]
    have hD : mag.log2 + 1 ≤ min (last - place).toNat (mag.log2 + 2) + 53 := by omega
    generalize min (last - place).toNat (mag.log2 + 2) = D at hD ⊢
    have h1 : mag / 2 ^ D < 2 ^ 53 := by
      rw [Nat.div_lt_iff_lt_mul (Nat.two_pow_pos D), ← Nat.pow_add]
      exact Nat.lt_of_lt_of_le hlt (Nat.pow_le_pow_right (by decide) (by omega))
    have h2 := toNat_le_one (decide (2 ^ D < 2 * (mag % 2 ^ D)) || (2 ^ D == 2 * (mag % 2 ^ D) && mag / 2 ^ D % 2 == 1))
    omega

theorem double_least : Ieee.double.leastPlace = -1074 := by decide
theorem double_binade : Ieee.double.binade = 2 ^ 52 := by decide
theorem double_inf : Ieee.double.infRung = 2047 * 2 ^ 52 := by decide
theorem double_sign : Ieee.double.signWeight = 2 ^ 63 := by decide

/-- The rung of the nearest word. -/
theorem nearest_le (mag : Nat) (place : Int) (c : Nat) (h : place + mag.log2 - 52 + 1074 ≤ c) :
    Ieee.double.nearest false mag place ≤ (c + 2) * 2 ^ 52 := by
  unfold Format.nearest
  by_cases hm : mag = 0
  · rw [if_pos hm]; simp [Format.word]
  · rw [if_neg hm]
    have hk := kept_le mag place (max (place + mag.log2 - 52) (-1074)) (by omega)
    have hf : ((Ieee.double.fractionBits : Nat) : Int) = 52 := rfl
    simp only [double_least, double_binade, hf, Format.word, Bool.false_eq_true, if_false]
    have hl : (max (place + mag.log2 - 52) (-1074) - -1074).toNat ≤ c := by omega
    have hq := Nat.mul_le_mul_right (2 ^ 52) hl
    have he : (c + 2) * 2 ^ 52 = c * 2 ^ 52 + 2 ^ 53 := Nat.add_mul c 2 (2 ^ 52)
    rw [he]
    exact Nat.le_trans (Nat.min_le_left _ _) (Nat.add_le_add hq hk)

/-- What a word of a small rung reads as. -/
theorem read_small (r c : Nat) (h : r ≤ c * 2 ^ 52) (hc : c ≤ 2000) (hc1 : 1 ≤ c) : ∃ (m : Nat) (i : Int), Ieee.double.read r = .number false m i ∧ m < 2 ^ 53 ∧ i ≤ c - 1075 := by
  unfold Format.read
  rw [double_sign, double_binade, double_inf, double_least]
  have h63 : r < 2 ^ 63 := by omega
  have e1 : r / 2 ^ 63 = 0 := Nat.div_eq_of_lt h63
  have e2 : r % 2 ^ 63 = r := Nat.mod_eq_of_lt h63
  rw [e1, e2]
  have hneg : (0 % 2 == 1) = false := by decide
  simp only [hneg]
  by_cases h1 : r < 2 ^ 52
  · rw [if_pos h1]
    exact ⟨r, -1074, rfl, by omega, by omega⟩
  · rw [if_neg h1, if_pos (by omega)]
    have hd : r / 2 ^ 52 ≤ c := by rw [Nat.div_le_iff_le_mul_add_pred (by decide)]; omega
    refine ⟨2 ^ 52 + r % 2 ^ 52, _, rfl, ?_, ?_⟩
    · have := Nat.mod_lt r (y := 2 ^ 52) (by decide); omega
    · omega

/-- The root of a word that is less than a power of two. -/
theorem root_small (m : Nat) (i : Int) (hm : m < 2 ^ 53) (hi : i ≤ -1) : ∃ (mag : Nat) (place : Int),
    (Datum.number false m i).root 54 = some (.number false mag place) ∧ (mag = 0 ∨ place + mag.log2 ≤ 25) := by
  unfold Datum.root
  by_cases h0 : m = 0
  · subst h0; exact ⟨0, i, by simp, .inl rfl⟩
  · have hl : m.log2 < 53 := (Nat.log2_lt h0).2 hm
    simp only [if_neg h0, Bool.false_eq_true, if_false]
    refine ⟨_, _, rfl, .inr ?_⟩
    have hp : ((i - ((2 * 54 - m.log2 : Nat) : Int)) % 2).toNat ≤ 1 := by omega
    generalize ((i - ((2 * 54 - m.log2 : Nat) : Int)) % 2).toNat = t at hp ⊢
    have hn : m <<< (2 * 54 - m.log2 + t) ≠ 0 := by
      rw [Nat.shiftLeft_eq]
      exact Nat.mul_ne_zero h0 (Nat.pos_iff_ne_zero.1 (Nat.two_pow_pos _))
    have hlog : (m <<< (2 * 54 - m.log2 + t)).log2 < 110 := by
      rw [Nat.log2_lt hn, Nat.shiftLeft_eq]
      have : m < 2 ^ (m.log2 + 1) := Nat.lt_log2_self
      have h1 : m * 2 ^ (2 * 54 - m.log2 + t) < 2 ^ (m.log2 + 1) * 2 ^ (2 * 54 - m.log2 + t) := Nat.mul_lt_mul_of_pos_right this (Nat.two_pow_pos _)
      rw [← Nat.pow_add] at h1
      exact Nat.lt_of_lt_of_le h1 (Nat.pow_le_pow_right (by decide) (by omega))
    generalize m <<< (2 * 54 - m.log2 + t) = n at hn hlog ⊢
    have hw := rootFrom_lt n (n.log2 / 2 + 1) 0
    have hw2 : 2 ^ (n.log2 / 2 + 1) ≤ 2 ^ 55 := Nat.pow_le_pow_right (by decide) (by omega)
    generalize Datum.rootFrom n (n.log2 / 2 + 1) 0 = v at hw ⊢
    have hb := toNat_le_one (v * v != n)
    generalize (v * v != n).toNat = bt at hb ⊢
    have hmag : 2 * v + bt < 2 ^ 56 := by omega
    have hlg : (2 * v + bt).log2 < 56 := by
      by_cases hz : 2 * v + bt = 0
      · rw [hz]; decide
      · exact (Nat.log2_lt hz).2 hmag
    generalize (2 * v + bt).log2 = lg at hlg ⊢
    omega

/-- A number with a low place is a small integer. -/
theorem toInt_small (m : Nat) (i : Int) (hm : m < 2 ^ 53) (hi : i ≤ -24) : ∃ n : Nat, (Datum.number false m i).toInt .zero = some (n : Int) ∧ n < 2 ^ 29 := by
  unfold Datum.toInt Datum.integral
  have e0 : i.toNat = 0 := by omega
  simp only [e0, Nat.shiftLeft_zero]
  refine ⟨Toward.zero.cut false m (-i).toNat, by simp [Ieee.signed], ?_⟩
  unfold Toward.cut
  simp only [Bool.toNat_false, Nat.add_zero, Nat.shiftLeft_eq, Nat.one_mul]
  rw [Nat.div_lt_iff_lt_mul (Nat.two_pow_pos _), ← Nat.pow_add]
  by_cases hz : m = 0
  · subst hz; exact Nat.two_pow_pos _
  · have : m < 2 ^ (m.log2 + 1) := Nat.lt_log2_self
    by_cases hq : 53 ≤ 29 + min (-i).toNat (m.log2 + 2)
    · exact Nat.lt_of_lt_of_le hm (Nat.pow_le_pow_right (by decide) hq)
    · exact Nat.lt_of_lt_of_le this (Nat.pow_le_pow_right (by decide) (by omega))

theorem sqrt_small (s : Int) (h0 : 0 ≤ s) (h : s < 2 ^ 51) :
    ∃ r : Nat, FloatKind.f64.format.sqrt (FloatKind.f64.nearest s) = some r ∧ ∃ n : Nat, (FloatKind.f64.decode r).toInt .zero = some (n : Int) ∧ n < 2 ^ 29 := by
  have hneg : (decide (s < 0)) = false := by simp; omega
  unfold FloatKind.nearest FloatKind.encode FloatKind.decode FloatKind.format Format.write
  simp only [hneg]
  have hlog : (0 : Int) + s.natAbs.log2 - 52 + 1074 ≤ (1072 : Nat) := by
    by_cases hz : s.natAbs = 0
    · rw [hz]; decide
    · have : s.natAbs.log2 < 51 := (Nat.log2_lt hz).2 (by omega)
      omega
  have h1 := nearest_le s.natAbs 0 1072 hlog
  obtain ⟨m, i, e1, hm, hi⟩ := read_small _ 1074 h1 (by decide) (by decide)
  obtain ⟨mag, place, e2, hp⟩ := root_small m i hm (by omega)
  have hlog2 : place + mag.log2 - 52 + 1074 ≤ (1047 : Nat) ∨ mag = 0 := by omega
  have h2 : Ieee.double.nearest false mag place ≤ 1049 * 2 ^ 52 := by
    rcases hlog2 with hh | hh
    · exact nearest_le mag place 1047 hh
    · subst hh; simp [Format.nearest, Format.word]
  obtain ⟨m', i', e3, hm', hi'⟩ := read_small _ 1049 h2 (by decide) (by decide)
  obtain ⟨n, e4, hn⟩ := toInt_small m' i' hm' (by omega)
  refine ⟨Ieee.double.nearest false mag place, ?_, n, ?_, hn⟩
  · unfold Format.sqrt
    rw [e1]
    change Option.map _ (Datum.root 54 (Datum.number false m i)) = _
    rw [e2]; rfl
  · rw [e3]; exact e4

end Go.Proofs.YtjibcnnbclcboaaDoor

namespace Go.Proofs.YtjibcnnbclcboaaDoor

/-- A motion. -/
structure Mot where
  fx : Int
  fy : Int
  fz : Int
  tx : Int
  ty : Int
  tz : Int
  rate : Int
  tool : Int
  block : Int
  deriving DecidableEq

/-- The least number whose square is at least s, found by halving. -/
def csq (s : Int) : Nat → Int → Int → Int
  | 0, lo, _ => lo
  | k + 1, lo, hi => if lo < hi then (if s ≤ (lo + hi) / 2 * ((lo + hi) / 2) then csq s k lo ((lo + hi) / 2) else csq s k ((lo + hi) / 2 + 1) hi) else lo

def isLen (s n : Int) : Prop := 0 ≤ n ∧ s ≤ n * n ∧ (0 < n → (n - 1) * (n - 1) < s)

theorem sq_mono {a b : Int} (h0 : 0 ≤ a) (h : a ≤ b) : a * a ≤ b * b := Int.mul_le_mul h h h0 (by omega)

theorem isLen_unique {s n m : Int} (hn : isLen s n) (hm : isLen s m) : n = m := by
  obtain ⟨n0, n1, n2⟩ := hn
  obtain ⟨m0, m1, m2⟩ := hm
  rcases Int.lt_trichotomy n m with h | h | h
  · have := m2 (by omega)
    have := sq_mono n0 (show n ≤ m - 1 by omega)
    omega
  · exact h
  · have := n2 (by omega)
    have := sq_mono m0 (show m ≤ n - 1 by omega)
    omega

theorem csq_isLen (s : Int) : ∀ (k : Nat) (lo hi : Int), 0 ≤ lo → lo ≤ hi → s ≤ hi * hi → (0 < lo → (lo - 1) * (lo - 1) < s) → hi - lo < 2 ^ k → isLen s (csq s k lo hi)
  | 0, lo, hi, h0, h1, h2, h3, h4 => by
    have : hi = lo := by simp at h4; omega
    subst this
    exact ⟨h0, h2, h3⟩
  | k + 1, lo, hi, h0, h1, h2, h3, h4 => by
    have e : (2 : Int) ^ (k + 1) = 2 ^ k + 2 ^ k := by rw [Int.pow_succ]; omega
    rw [e] at h4
    unfold csq
    by_cases hl : lo < hi
    · rw [if_pos hl]
      by_cases hs : s ≤ (lo + hi) / 2 * ((lo + hi) / 2)
      · rw [if_pos hs]
        exact csq_isLen s k lo ((lo + hi) / 2) h0 (by omega) hs h3 (by omega)
      · rw [if_neg hs]
        exact csq_isLen s k ((lo + hi) / 2 + 1) hi (by omega) (by omega) h2 (fun _ => by rw [Int.add_sub_cancel]; omega) (by omega)
    · rw [if_neg hl]
      have : hi = lo := by omega
      subst this
      exact ⟨h0, h2, h3⟩

def Mot.sq (m : Mot) : Int := (m.tx - m.fx) * (m.tx - m.fx) + (m.ty - m.fy) * (m.ty - m.fy) + (m.tz - m.fz) * (m.tz - m.fz)

/-- The length of a motion, rounded up. -/
def Mot.len (m : Mot) : Int := csq m.sq 26 0 40000000

/-- A coordinate is in range. -/
def inG (x : Int) : Prop := -10000000 ≤ x ∧ x ≤ 10000000
instance (x : Int) : Decidable (inG x) := inferInstanceAs (Decidable (_ ∧ _))

/-- The coordinates of a motion are in range. -/
def Mot.rng (m : Mot) : Prop := (inG m.fx ∧ inG m.fy ∧ inG m.fz) ∧ inG m.tx ∧ inG m.ty ∧ inG m.tz
instance (m : Mot) : Decidable m.rng := inferInstanceAs (Decidable (_ ∧ _))

theorem sq_le {a b : Int} (ha : inG a) (hb : inG b) : 0 ≤ (a - b) * (a - b) ∧ (a - b) * (a - b) ≤ 400000000000000 := by
  obtain ⟨a1, a2⟩ := ha
  obtain ⟨b1, b2⟩ := hb
  by_cases h : 0 ≤ a - b
  · exact ⟨Int.mul_nonneg h h, Int.mul_le_mul (show a - b ≤ 20000000 by omega) (show a - b ≤ 20000000 by omega) h (by decide)⟩
  · have e : (a - b) * (a - b) = (b - a) * (b - a) := by rw [← Int.neg_sub b a, Int.neg_mul_neg]
    rw [e]
    exact ⟨Int.mul_nonneg (by omega) (by omega), Int.mul_le_mul (show b - a ≤ 20000000 by omega) (show b - a ≤ 20000000 by omega) (by omega) (by decide)⟩

theorem Mot.sq_bounds {m : Mot} (h : m.rng) : 0 ≤ m.sq ∧ m.sq ≤ 1200000000000000 := by
  obtain ⟨⟨x, y, z⟩, x', y', z'⟩ := h
  have h1 := sq_le x' x
  have h2 := sq_le y' y
  have h3 := sq_le z' z
  unfold Mot.sq
  omega

theorem Mot.len_is {m : Mot} (h : m.rng) : isLen m.sq m.len := by
  have := Mot.sq_bounds h
  exact csq_isLen _ 26 0 40000000 (by omega) (by omega) (by omega) (fun h => by omega) (by decide)

theorem isLen_le {s n c : Int} (h : isLen s n) (hc : 0 ≤ c) (hs : s ≤ c * c) : n ≤ c := by
  obtain ⟨n0, n1, n2⟩ := h
  rcases Int.lt_or_le c n with hl | hl
  · have := n2 (by omega)
    have := sq_mono hc (show c ≤ n - 1 by omega)
    omega
  · exact hl

theorem Mot.len_bounds {m : Mot} (h : m.rng) : 0 ≤ m.len ∧ m.len ≤ 40000000 := by
  have h1 := Mot.len_is h
  have h2 := Mot.sq_bounds h
  exact ⟨h1.1, isLen_le h1 (by decide) (by omega)⟩

/-- The greatest speed of a motion. -/
def Mot.spd (m : Mot) (s : Int) : Int := if 0 < m.rate ∧ m.rate < 1000 * s then (m.rate + 999) / 1000 else s

end Go.Proofs.YtjibcnnbclcboaaDoor
