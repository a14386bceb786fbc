/-
  ProfileSmooth: for every list of distances and all limits the law returns true. No condition.
-/
import Derived.Test.YtcblahhfgkafhaaArg
namespace Go.Proofs.Ytcblahhfgkafhaa
open Go.ChangeShapes Go.WideShapes Go.ChangeAt Go.RowKit Go.Joins

/-- A grown row of a slice of the call's own. -/
theorem ext_grown {w w1 w2 : World} {row : Option Nat} (h : Ext w w1) (hg : w1.grownBy w2 row) (hr : ∀ k, row = some k → w.heap.size ≤ k) : Ext w w2 := Below.grown h.out hg h.size hr

set_option maxHeartbeats 2000000 in
theorem lawSmooth (v : Value) (l : List Int) (s a j : Int) (w : World) (hv : ArgI w v l) :
    Calls Try.prog 4 #[v, Lm s a j] w fun e w' => e = .returned (.bool true) ∧ Ext w w' := by
  obtain ⟨i0, hi, hz0, hz1, hz2⟩ := info_parts Try.info_i64
  by_cases hl : l.length ≤ 60
  · obtain ⟨ad, n, cap, rfl, hn⟩ : ∃ ad n cap, v = .slice ad n cap ∧ n = l.length := by
      rcases hv with ⟨rfl, rfl⟩ | ⟨x, cap, rfl, h0, h3, h2⟩
      · exact ⟨_, _, _, rfl, rfl⟩
      · exact ⟨_, _, _, rfl, rfl⟩
    have hn60 : n ≤ 60 := by omega
    have HN := Lib.hid hn; clear hn
    go_enter Try.func4, Try.ntmps4
    go_wp2_with fail
    refine (awake_any _).mono ?_
    rintro e w1 ⟨rfl, he1⟩
    have b1 := LBox.mk' he1
    have v1 := hv.later b1.ext
    have k0 := Later.cell b1.c0; have k1 := Later.cell b1.c1; have k2 := Later.cell b1.c2
    clear he1
    have hgt : decide (60 < (n : Int)) = false := by rw [decide_eq_false_iff_not]; omega
    go_wp2_with fail
    refine wp_region_plan (fun w' => ∃ x : Later w1, w' = x.w) 10 [([1, 3, 6, 7], 0), ([], 2), ([], 4), ([], 5), ([], 8)] [9] (by kernel_rfl) (by kernel_rfl) (by kernel_rfl) ⟨⟨_, (Ext.refl w1).drew⟩, rfl⟩ ?_
    simp only [List.take_succ_cons, List.take_zero, List.map_cons, List.map_nil, pickSeg, pickOp, List.getElem?_cons_zero, List.getElem?_cons_succ, Option.getD_some]
    refine segs_cons fun K hK => ?_
    repeat (go_big_quiet_step (fail))
    refine wpQuiet_nil ?_
    go_wp2_with fail
    have hown0 : ((w1.alloc (.cells #[] 2)).drew).ownsRow w1.heap.size 2 1 (.slice (some ⟨w1.heap.size, 0, none⟩) 0 0) 0 [] := World.ownsRow_lit (base := w1.heap.size) (e := 2) (size := 1) w1 #[] 0 (Nat.le_refl _) (by decide) rfl
    have hE2 : Ext w1 ((w1.alloc (.cells #[] 2)).drew) := ((Ext.refl w1).alloc _).drew
    generalize (w1.alloc (.cells #[] 2)).drew = w2 at hown0 hE2 ⊢
    refine onlyK_normal (hK _ _ ⟨⟨w2, hE2⟩, rfl⟩ ?_); clear hK K
    -- the copy of the list
    have step : ∀ (K : Act → World → Prop) (o : Oper) (ops : Array Oper) (A : Act), o.guard = none → o.op = .call { callee := .builtin .append, args := #[.tmp 13, .tmp 14], argTypes := #[34, 34] } → A.eval (.tmp 13) = .slice (some ⟨w1.heap.size, 0, none⟩) 0 0 → A.eval (.tmp 14) = .slice ad n cap →
        (∀ v' w3, Own w1.heap.size w3 v' l → Ext w1 w3 → K (A.put o.dst v') w3) → wpList Try.prog ops (onlyK K) [o] A w2 := by
      intro K o ops A hg ho h13 h14 hk
      have v2 := v1.later hE2
      rcases v2 with ⟨h1, h2⟩ | ⟨x, c, h1, h2, h3, h4⟩
      · simp only [Value.slice.injEq] at h1
        obtain ⟨rfl, rfl, rfl⟩ := h1
        subst h2
        exact wpList_append_own_none hg _ _ 34 ho w1.heap.size 2 i0 1 Try.underlying34 hi _ _ _ h13 hown0 h14 (hk _ _ hown0 hE2)
      · simp only [Value.slice.injEq] at h1
        obtain ⟨rfl, h1, rfl⟩ := h1
        refine wpList_append_own w2 hg _ _ 34 ho w1.heap.size 2 i0 (.int .i64 0) 1 8 Try.underlying34 hi hz0 hz1 hz2 rfl (by decide) _ _ _ h13 hown0 x _ _ (l.map (Value.int .i64)) h14 (by rw [List.length_map, HN.out, Nat.mul_one]) (fun k u hk' => ?_) (by simp [Value.oneCell']) (by simp [maxLen]; omega) (by omega) hE2.size (fun v' w3 ho3 hg3 _ => hk v' w3 ?_ ?_)
        · obtain ⟨kl, hu⟩ : ∃ h : k < l.length, u = .int .i64 l[k] := by
            have hkl : k < l.length := by
              rcases Nat.lt_or_ge k l.length with h | h
              · exact h
              · simp [h] at hk'
            refine ⟨hkl, ?_⟩
            simp [hkl] at hk'
            exact hk'.symm
          obtain ⟨b, off, sp⟩ := x
          have hsp := h3.resolve_left (by omega)
          simp only at hsp
          subst hsp
          rw [Addr.add_none, (h4 k kl).2, hu]
          simp [kl]
        · unfold Own; rw [← HN.out]; simpa using ho3
        · exact ext_grown hE2 hg3 (fun k hk => by simp [Value.ownBlock] at hk; omega)
    refine segs_cons fun K hK => wpQuiet_nil ?_
    refine step K _ _ _ rfl rfl rfl rfl fun v' w3 own3 he3 => hK _ _ ⟨⟨w3, he3⟩, rfl⟩ ?_
    clear hK K step
    refine segs_cons fun K hK => wpQuiet_nil ?_
    go_wp2_with fail
    refine (theirs_any s a j _).mono ?_
    rintro e w4 ⟨rfl, he4⟩
    go_wp2_with fail
    refine onlyK_normal (hK _ _ ⟨⟨w4, he3.trans he4⟩, rfl⟩ ?_); clear hK K
    refine segs_cons fun K hK => wpQuiet_nil ?_
    go_wp2_with fail
    refine (smooth_any v' l s a j _ (own3.sl.later he4) (by omega)).mono ?_
    rintro e w5 ⟨rfl, he5⟩
    go_wp2_with fail
    refine onlyK_normal (hK _ _ ⟨⟨w5, (he3.trans he4).trans he5⟩, rfl⟩ ?_); clear hK K
    refine segs_cons fun K hK => wpQuiet_nil ?_
    go_wp2_with fail
    refine (rsmooth_any _ l s a j _ (v1.later ((he3.trans he4).trans he5)).sl (by omega)).mono ?_
    rintro e w6 ⟨rfl, he6⟩
    go_wp2_with fail
    refine onlyK_normal (hK _ _ ⟨⟨w6, ((he3.trans he4).trans he5).trans he6⟩, rfl⟩ ?_); clear hK K
    refine segs_last ?_
    simp only [List.drop_succ_cons, List.drop_zero]
    repeat (go_big_quiet_step (fail))
    refine wpQuiet_nil ?_
    go_wp2
    go_ret
    exact ⟨rfl, b1.ext.trans (((he3.trans he4).trans he5).trans he6)⟩
  · obtain ⟨ad, n, cap, rfl, hn⟩ : ∃ ad n cap, v = .slice ad n cap ∧ n = l.length := by
      rcases hv with ⟨rfl, rfl⟩ | ⟨x, cap, rfl, h0, h3, h2⟩
      · exact ⟨_, _, _, rfl, rfl⟩
      · exact ⟨_, _, _, rfl, rfl⟩
    have hgt : decide (60 < (n : Int)) = true := by rw [decide_eq_true_iff]; omega
    clear hn hv
    go_enter Try.func4, Try.ntmps4
    go_wp2_with fail
    refine (awake_any _).mono ?_
    rintro e w1 ⟨rfl, he1⟩
    go_wp2_with fail
    refine (awake_any _).mono ?_
    rintro e w2 ⟨rfl, he2⟩
    go_wp2
    go_ret
    exact ⟨rfl, (((Ext.refl w).alloc _).trans he1).trans he2⟩

end Go.Proofs.Ytcblahhfgkafhaa
