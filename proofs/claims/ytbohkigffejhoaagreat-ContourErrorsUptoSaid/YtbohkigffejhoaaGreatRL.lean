/-
  ContourErrors: Paths returns ErrInvalid unless radius and step are positive, the tolerance is from 40 to the step, and step and tolerance are together at most the radius: for every input of bulk at most 1048576 the law returns true, and its arguments stay as they were. Condition: the bulk (a pocket of more than 2^41 corners is more than any machine holds).
-/
import Derived.Test.YtbohkigffejhoaaGreatR28
import Derived.Test.YtbohkigffejhoaaGreatRC
import Derived.JoinedCond
namespace Go.Proofs.YtbohkigffejhoaaGreat
open Go.ChangeShapes Go.WideShapes Go.ChangeAt Go.RowKit Go.Joins

theorem aIP (v0 : Value) (l : List (Int × Int)) (x y z r s t : Int) (W : World) (h0 : Vc.relK ⟨W.heap.size, [], [], []⟩ W (.g [.rd .C false l, .v (.int .i8 x), .v (.int .i8 y), .v (.int .i8 z)]) v0) (hc : Vc.C8 l x y z) (hn : l.length ≤ 2000000) (hr : rng r) (hs : rng s) (ht : rng t) :
    Calls Tryz.prog 4 #[v0, .agg #[.int .i64 r, .int .i64 s, .int .i64 t]] W fun e w' => e = .returned (.bool true) ∧ Ext W w' := by
  refine (Vc.aQV.ex ⟨W.heap.size, [], [], []⟩ W [.g [.rd .C false l, .v (.int .i8 x), .v (.int .i8 y), .v (.int .i8 z)], .g [.v (.int .i64 r), .v (.int .i64 s), .v (.int .i64 t)]] [v0, .agg #[.int .i64 r, .int .i64 s, .int .i64 t]] _ _ _ _
    ⟨h0, ⟨_, rfl, ⟨rfl, rfl⟩, ⟨rfl, rfl⟩, ⟨rfl, rfl⟩, trivial⟩, trivial⟩ rfl rfl rfl ⟨⟨hc, hn⟩, hr, hs, ht⟩).mono ?_
  rintro e w' ⟨v, rfl, hx, b, rfl, hv, _⟩
  exact ⟨by rw [hv], hx⟩

set_option maxRecDepth 100000 in
theorem a8m (os : Os) (started : os.Started) (H : Type) (enc : TypeId × Value → H) (F : Stop.Interp) :
    ReturnsInHanded {} Tryz.checked os 4 .any ((Rows.OpenSpec.upto Rows.contourErrorsSpec).pre6 enc Tryz.prog Tryz.f4 Rows.contourErrorsUptoRow.domain false) (((Rows.OpenSpec.upto Rows.contourErrorsSpec).at F).post enc Tryz.prog Tryz.f4 false true false false) := by
  refine returnsInHanded_of_cond (C := Tryz.checked) (s := Rows.OpenSpec.upto Rows.contourErrorsSpec) (k := Rows.uptoSmall) rfl Tryz.own started (by kernel_rfl) Tryz.func4
    (OpenSpec.witness (enc := enc) (C := Tryz.checked) (s := Rows.OpenSpec.upto Rows.contourErrorsSpec) (k := Rows.uptoSmall) rfl false ⟨#[], #[.agg #[.slice none 0 0, .int .i8 0, .int .i8 0, .int .i8 0], .agg #[.int .i64 0, .int .i64 0, .int .i64 0]], []⟩ 8 (by kernel_rfl) (by kernel_rfl) (by kernel_rfl)
      (x := ([.agg [.nil, .agg [.lit (.int .i8 0), .lit (.int .i8 0), .lit (.int .i8 0)]], .agg [.lit (.int .i64 0), .lit (.int .i64 0), .lit (.int .i64 0)]], [], [])) (by kernel_rfl) rfl (by kernel_rfl)) ?_
  intro W base args ds gs before hval0 hW _ hk _
  have hval : ∀ (j : Nat) t v, Tryz.f4.params[j]? = some t → args[j]? = some v → Value.okWide Tryz.prog W .any base t v := hval0
  have hW' := hW
  obtain ⟨p, q, hA0, hV, rfl, hfz, hnd⟩ := hW
  have hA : DataW.TrodAll enc Tryz.prog W 0 (fun _ => true) true Tryz.f4.params.toList args.toList ds p := hA0
  rw [Tryz.params4] at hA hval
  obtain ⟨v0, vs0, d0, ds0, p0, q0, hargs, rfl, rfl, h0, r0⟩ := trodAll_cons hA
  obtain ⟨v1, vs1, d1, ds1, p1, q1, rfl, rfl, rfl, h1, r1⟩ := trodAll_cons r0
  obtain ⟨rfl, rfl, rfl⟩ := trodAll_nil r1
  obtain rfl : args = #[v0, v1] := by cases args; simp_all
  obtain ⟨rfl, rfl⟩ := trodVars_none hV
  have lt0 : ∀ x ∈ p0, x.block < W.heap.size := by obtain ⟨m, hm⟩ := h0; exact DataW.trod_lt m _ _ _ hm
  have lt1 : ∀ x ∈ p1, x.block < W.heap.size := by obtain ⟨m, hm⟩ := h1; exact DataW.trod_lt m _ _ _ hm
  obtain ⟨l, x, y, z, g1, g2, g3⟩ := aOF (hval 0 58 v0 rfl rfl) h0
  obtain ⟨r, s, t, e1, b1, b2, b3⟩ := aSk (hval 1 59 v1 rfl rfl) h1
  subst e1
  have hb : Rows.uptoBulkAll ([d0, d1] ++ []) ≤ 1048576 := of_decide_eq_true hk
  have hn : l.length ≤ 2000000 := by
    have := aLW (d := d0) (l := [d0, d1] ++ []) (by simp)
    omega
  clear hA0 hval0
  refine (aIP v0 l x y z r s t W g1 g2 hn b1 b2 b3).mono fun e W' ⟨he, bel⟩ => ?_
  subst he
  exact ⟨_, rfl, _, _, _, [], _, [], hW', trodAll_mk1 (shut_bool Tryz.underlying4 _), (trodAll_cons_mk (Below.trod Tryz.laidOut (by kernel_rfl) (of_decide_eq_true (by kernel_rfl)) h0 bel.out lt0) (trodAll_cons_mk (Below.trod Tryz.laidOut (by kernel_rfl) (of_decide_eq_true (by kernel_rfl)) h1 bel.out lt1) trodAll_mk0)), rfl, bel.out.frame _, fun h => by cases h⟩

/-- The statement. -/
theorem kerrors_holds : Rows.ContourErrorsUptoSaid :=
  OpenClaim.holds_of_cond 4 Tryz.f4 rfl rfl rfl rfl rfl rfl rfl ⟨rfl, rfl, rfl, rfl, rfl⟩ rfl rfl rfl rfl rfl (by kernel_rfl) Tryz.func4 closedContourErrors
    (of_decide_eq_true (by kernel_rfl)) (by unfold Func.isWrapper; first | (rw [if_pos (by decide +kernel)]; kernel_rfl) | (rw [if_neg (by decide +kernel)]; exact ⟨rfl, rfl⟩))
    (fun os started H enc _ F => a8m os started H enc F)

#print axioms kerrors_holds
end Go.Proofs.YtbohkigffejhoaaGreat
