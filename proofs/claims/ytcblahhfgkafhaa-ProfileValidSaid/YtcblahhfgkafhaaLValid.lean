/-
  ProfileValid: for every length and all limits the law returns true. No condition.
-/
import Derived.Test.YtcblahhfgkafhaaW13
import Derived.ProofKit
import Derived.OpenShut
import Derived.Lib.SmallJoins
import Derived.ChangeOld
namespace Go.Proofs.Ytcblahhfgkafhaa
open Go.ChangeShapes Go.WideShapes Go.ChangeAt Go.RowKit Go.Joins

theorem Try.own : ownKnob Try.prog.godebug = none := by kernel_rfl
theorem Try.laidOut : laidOutB Try.prog = true := by kernel_rfl

set_option maxHeartbeats 1000000 in
theorem lawValid (n s a j : Int) (w : World) :
    Calls Try.prog 3 #[.int .i64 n, Lm s a j] w fun e w' => e = .returned (.bool true) ∧ Ext w w' := by
  go_enter Try.func3, Try.ntmps3
  go_wp2_with fail
  refine (awake_any _).mono ?_
  rintro e w1 ⟨rfl, he1⟩
  have b1 := LBox.mk' he1
  have k0 := b1.c0; have k1 := b1.c1; have k2 := b1.c2
  clear he1
  go_wp2_with fail
  refine (theirs_any s a j _).mono ?_
  rintro e w2 ⟨rfl, he2⟩
  have b2 := b1.later he2
  clear b1 he2
  go_wp2_with fail
  refine (ticks_any n s a j _).mono ?_
  rintro e w3 ⟨rfl, he3⟩
  have b3 := b2.later he3
  clear b2 he3 k0 k1 k2
  have k0 := b3.c0; have k1 := b3.c1; have k2 := b3.c2
  go_wp2_with fail
  refine (rticks_any n s a j _).mono ?_
  rintro e w4 ⟨rfl, he4⟩
  have b4 := b3.later he4
  clear b3 he4 k0 k1 k2
  have k0 := Later.cell b4.c0; have k1 := Later.cell b4.c1; have k2 := Later.cell b4.c2
  go_wp2
  refine wp_region_later (by kernel_rfl) (by kernel_rfl) ?_
  repeat (go_big_quiet_step (first | (go_at_call 13; exact Calls.later (theirs_any _ _ _ _)) | (go_at_call 15; exact Calls.later (valid_any _ _ _ _)) | (go_at_call 16; exact Calls.later (rvalid_any _ _ _ _))))
  refine wpQuiet_nil ?_
  rintro _ ⟨x, rfl⟩
  go_wp2
  go_ret
  exact ⟨rfl, b4.ext.trans x.ext⟩

set_option maxRecDepth 100000 in
theorem liftValid (os : Os) (started : os.Started) (H : Type) (enc : TypeId × Value → H) :
    ReturnsInHanded {} Try.checked os 3 .any (Rows.profileValidSpec.pre6 enc Try.prog Try.f3 Rows.profileValidRow.domain false) (Rows.profileValidSpec.post enc Try.prog Try.f3 false true false false) := by
  refine returnsInHanded_of_change (C := Try.checked) Try.own started (by kernel_rfl) Try.func3
    (ChangeSpec.witness6 (enc := enc) (C := Try.checked) false ⟨#[], #[.int .i64 0, .agg #[.int .i64 0, .int .i64 0, .int .i64 0]], []⟩ 8 (by kernel_rfl) (by kernel_rfl) (by kernel_rfl) (by kernel_rfl)) ?_
  intro W base args ds gs before hval0 hW hcnd _
  have hval : ∀ (j : Nat) t v, Try.f3.params[j]? = some t → args[j]? = some v → Value.okWide Try.prog W .any base t v := hval0
  have hW' := hW
  obtain ⟨p, q, hA0, hV, rfl, hfz, hnd⟩ := hW
  have hA : DataW.TrodAll enc Try.prog W 0 (fun _ => true) true Try.f3.params.toList args.toList ds p := hA0
  rw [Try.params3] at hA hval
  obtain ⟨v0, vs0, d0, ds0, p0, q0, hargs, rfl, rfl, h0, r0⟩ := trodAll_cons hA
  obtain ⟨v1, vs1, d1, ds1, p1, q1, rfl, rfl, rfl, h1, r1⟩ := trodAll_cons r0
  obtain ⟨rfl, rfl, rfl⟩ := trodAll_nil r1
  obtain rfl : args = #[v0, v1] := by cases args; simp_all
  obtain ⟨rfl, rfl⟩ := trodVars_none hV
  have lt0 : ∀ x ∈ p0, x.block < W.heap.size := by obtain ⟨m, hm⟩ := h0; exact DataW.trod_lt m _ _ _ hm
  have lt1 : ∀ x ∈ p1, x.block < W.heap.size := by obtain ⟨m, hm⟩ := h1; exact DataW.trod_lt m _ _ _ hm
  obtain ⟨n, e0⟩ : ∃ n, v0 = .int .i64 n := by
    obtain ⟨n, h, _⟩ := open_int Try.underlying2 (hval 0 2 v0 rfl rfl) h0; exact ⟨n, h⟩
  obtain ⟨s, a, j, e1⟩ : ∃ s a j, v1 = Lm s a j := by
    obtain ⟨c0, c1, c2, y0, y1, y2, m, h, _, _, hy0, hy1, hy2⟩ := open_agg3 Try.underlying23 (by kernel_rfl) (by kernel_rfl) (hval 1 23 v1 rfl rfl) h1
    obtain ⟨s, f0, _⟩ := DataW.trod_int Try.underlying2 hy0
    obtain ⟨a, f1, _⟩ := DataW.trod_int Try.underlying2 hy1
    obtain ⟨j, f2, _⟩ := DataW.trod_int Try.underlying2 hy2
    simp at f0 f1 f2
    exact ⟨s, a, j, by rw [h, f0, f1, f2]⟩
  subst e0; subst e1
  clear hA0 hval0
  refine (lawValid n s a j W).mono fun e W' ⟨he, bel⟩ => ?_
  subst he
  exact ⟨_, rfl, _, _, _, [], _, [], hW', trodAll_mk1 (shut_bool Try.underlying4 _), (trodAll_cons_mk (Below.trod Try.laidOut (by kernel_rfl) (of_decide_eq_true (by kernel_rfl)) h0 bel.out lt0) (trodAll_cons_mk (Below.trod Try.laidOut (by kernel_rfl) (of_decide_eq_true (by kernel_rfl)) h1 bel.out lt1) trodAll_mk0)), rfl, bel.out.frame _, fun h => by cases h⟩

/-- ProfileValid holds. -/
theorem valid_holds : Rows.ProfileValidSaid :=
  OpenClaim.holds_of_wide 3 Try.f3 rfl rfl rfl rfl rfl rfl rfl ⟨rfl, rfl, rfl, rfl, rfl⟩ rfl rfl rfl rfl rfl (by kernel_rfl) Try.func3 (by kernel_rfl)
    (of_decide_eq_true (by kernel_rfl)) (by unfold Func.isWrapper; first | (rw [if_pos (by decide +kernel)]; kernel_rfl) | (rw [if_neg (by decide +kernel)]; exact ⟨rfl, rfl⟩))
    (fun os started H enc _ => liftValid os started H enc)

#print axioms valid_holds
end Go.Proofs.Ytcblahhfgkafhaa
