/-
  JobSummary: Summary returns the specified lines, and Safe reports whether there are motions and no faults: for every input the law returns true, and its arguments stay as they were. Condition: the listed tables of Go's library are as the program's text lays them (the card ties them).
-/
import Derived.Test.YtjibcnnbclcboaaDoorQS22
import Derived.Test.YtjibcnnbclcboaaDoorQS23
import Derived.Test.YtjibcnnbclcboaaDoorQS24
import Derived.Test.YtjibcnnbclcboaaDoorQS25
import Derived.Test.YtjibcnnbclcboaaDoorQS26
import Derived.Test.YtjibcnnbclcboaaDoorCards
import Derived.Test.YtjibcnnbclcboaaDoorTie
import Derived.OpenShut
import Derived.LaidMore
import Derived.Lay
import Derived.SevenTiedAt
import Derived.Stop.Joined
namespace Go.Proofs.YtjibcnnbclcboaaDoor
open Go.ChangeShapes Go.WideShapes Go.ChangeAt Go.RowKit Go.Joins

set_option maxHeartbeats 4000000 in
theorem jsum_many (vc : Value) (nf nt nm na : Nat) (l : List (Int × Int)) (w : World) (hl : SlG 2 pairC w vc l) (hlen : 20 < l.length) :
    Calls Tryd.prog 3 #[ListsV nf nt nm na vc] w fun e w' => e = .returned (.bool true) ∧ Ext w w' := by
  obtain ⟨a0, n0, c0, b0, o0, rfl, rfl, h3, h4, h5, h6⟩ := hl
  unfold ListsV
  obtain ⟨W1, hW1, hb1, hE1, -⟩ := row_alloc w #[.int .u8 nf, .int .u8 nt, .int .u8 nm, .int .u8 na, .slice a0 l.length c0] 24
  have HB1 := Lib.hid hb1; have HE1 := Lib.hid hE1
  have hq : decide (20 < l.length) = true := by simp; omega
  have hq2 : decide ((l.length : Int) > 20) = true := by simp; omega
  clear hb1 hE1 h6 h3 h4 h5 hlen
  go_enter Tryd.func3, Tryd.ntmps3
  go_wp2_with fail
  refine (awake_any _).mono ?_
  rintro e w2 ⟨rfl, x2⟩
  have hb2 := heap_ext x2 HB1.out
  have d4 := Lib.cell_of_heap hb2 4
  simp only [List.getElem?_toArray, List.getElem?_cons_succ, List.getElem?_cons_zero] at d4
  clear hb2
  go_wp2_with fail
  refine (awake_any _).mono ?_
  rintro e w3 ⟨rfl, x3⟩
  go_wp2_with fail
  go_ret
  exact ⟨rfl, (HE1.out.trans x2).trans x3⟩

theorem jsum_law (vc : Value) (nf nt nm na : Nat) (l : List (Int × Int)) (w : World) (hf : nf ≤ 255) (ht : nt ≤ 255) (hm : nm ≤ 255) (ha : na ≤ 255) (hl : SlG 2 pairC w vc l) (htab : Tab w) :
    Calls Tryd.prog 3 #[ListsV nf nt nm na vc] w fun e w' => e = .returned (.bool true) ∧ Ext w w' := by
  rcases Nat.lt_or_ge 20 l.length with h | h
  · exact jsum_many vc nf nt nm na l w hl h
  · by_cases hl0 : l = []
    · rcases Nat.eq_zero_or_pos nm with hm0 | hm0
      · exact jsum_n0 vc nf nt nm na l w hf ht hm ha hl h htab hl0 hm0
      · exact jsum_n1 vc nf nt nm na l w hf ht hm ha hl h htab hl0 hm0
    · rcases Nat.eq_zero_or_pos nm with hm0 | hm0
      · exact jsum_c0 vc nf nt nm na l w hf ht hm ha hl h htab hl0 hm0
      · exact jsum_c1 vc nf nt nm na l w hf ht hm ha hl h htab hl0 hm0

theorem tab_of_laid {W : World} (h : laidMetH Tryd.prog Rows.jobSummaryRow.laid W) : Tab W := by
  rw [MakeChecks.laidMetH_plain _ _ _ (by kernel_rfl)] at h
  obtain ⟨ps, hv, -, -⟩ := h
  obtain ⟨_, _, _, _, _, _, _, _, _, _, hv, _⟩ := hv
  obtain ⟨_, _, _, _, _, _, _, _, _, _, hv, _⟩ := hv
  obtain ⟨g', t', cs, fuel, p, q, hg', ht', hvar, hd, -, -⟩ := hv
  have hd' : DataW.trod (fun _ => ()) Tryd.prog W 0 (fun _ => true) false fuel t' cs.toList = some (Lib.tabData .u64 Lib.pow10Tab, p) := hd
  obtain rfl : t' = 129 := by
    have e : (Tryd.prog.globals[g']?).map (·.type) = some t' := ht'
    have e2 : Tryd.prog.globalNamed "internal/strconv.uint64pow10" = some g' := hg'
    have e3 : Tryd.prog.globalNamed "internal/strconv.uint64pow10" = some 0 := by kernel_rfl
    obtain rfl := Option.some.inj (e3.symm.trans e2)
    have e4 : (Tryd.prog.globals[(0 : Nat)]?).map (·.type) = some 129 := by kernel_rfl
    exact (Option.some.inj (e4.symm.trans e)).symm
  unfold Tab Lib.TabIs
  rw [hvar, ← Lib.cells_of_tab Tryd.underlying129 Tryd.underlying59 (by kernel_rfl) (by kernel_rfl) hd']

set_option maxRecDepth 100000 in
theorem liftJobSummary (os : Os) (started : os.Started) (H : Type) (enc : TypeId × Value → H) :
    ReturnsInHanded {} Tryd.checked os 3 .any (fun w args => (Rows.jobSummarySpec.pre enc Tryd.prog Tryd.f3 Rows.jobSummaryRow.domain false w args ∧ laidMetH Tryd.prog Rows.jobSummaryRow.laid w) ∧ sizedMet enc Tryd.prog Tryd.f3 (OpenSpec.ofChange Rows.jobSummarySpec) false w args) (Rows.jobSummarySpec.post enc Tryd.prog Tryd.f3 false true false false) := by
  refine returnsInHanded_of_change_and (C := Tryd.checked) (X := fun w _ => laidMetH Tryd.prog Rows.jobSummaryRow.laid w) (fun _ _ _ hh h => h.of_heap hh) Tryd.own started (by kernel_rfl) Tryd.func3
    (ChangeSpec.witness_shaped (enc := enc) (C := Tryd.checked) (os := os) (X := fun w _ => laidMetH Tryd.prog Rows.jobSummaryRow.laid w) false (World.laidAll Tryd.prog os Rows.jobSummaryRow.laid) #[.agg #[.int .u8 0, .int .u8 0, .int .u8 0, .int .u8 0, .slice none 0 0]] 8 (World.laidAll_os _ _ _)
      (World.shaped_of_ZipB (by kernel_rfl) (by kernel_rfl)) (by kernel_rfl) (by kernel_rfl) (by kernel_rfl)
      (by rw [MakeChecks.laidMetH_plain _ _ _ (by kernel_rfl)]; exact laidMet_laidAll _ (by kernel_rfl) (by kernel_rfl))) ?_
  intro W base args ds gs before hval0 hW _ hwt hla hlb
  have hval : ∀ (j : Nat) t v, Tryd.f3.params[j]? = some t → args[j]? = some v → Value.okWide Tryd.prog W .any base t v := hval0
  have hW' := hW
  obtain ⟨p, q, hA0, hV, rfl, hfz, hnd⟩ := hW
  have hA : DataW.TrodAll enc Tryd.prog W 0 (fun _ => true) true Tryd.f3.params.toList args.toList ds p := hA0
  rw [Tryd.params3] at hA hval
  obtain ⟨v0, vs0, d0, ds0, p0, q0, hargs, rfl, rfl, h0, r0⟩ := trodAll_cons hA
  obtain ⟨rfl, rfl, rfl⟩ := trodAll_nil r0
  obtain rfl : args = #[v0] := by cases args; simp_all
  obtain ⟨rfl, rfl⟩ := trodVars_none hV
  have lt0 : ∀ x ∈ p0, x.block < W.heap.size := by obtain ⟨m, hm⟩ := h0; exact DataW.trod_lt m _ _ _ hm
  obtain ⟨nf, nt, nm, na, vc, l, e0, a1, a2, a3, a4, a5, a6⟩ := lists_of (hval 0 24 v0 rfl rfl) h0
  subst e0
  have htab : Tab W := by first | exact tab_of_laid hla | exact tab_of_laid hlb
  clear hA0 hval0
  refine (jsum_law vc nf nt nm na l W a1 a2 a3 a4 a5 htab).mono fun e W' ⟨he, bel⟩ => ?_
  subst he
  exact ⟨_, rfl, _, _, _, [], _, [], hW', trodAll_mk1 (shut_bool Tryd.underlying4 _), (trodAll_cons_mk (Below.trod Tryd.laidOut (by kernel_rfl) (of_decide_eq_true (by kernel_rfl)) h0 bel.out lt0) trodAll_mk0), rfl, bel.out.frame _, fun h => by cases h⟩

/-- The row. -/
theorem jsummary_row : Rows.JobSummarySaid :=
  OpenClaim.holds_of_wide 3 Tryd.f3 rfl rfl rfl rfl rfl rfl rfl ⟨rfl, rfl, rfl, rfl, rfl⟩ rfl rfl rfl rfl rfl (by kernel_rfl) Tryd.func3 (by kernel_rfl)
    (of_decide_eq_true (by kernel_rfl)) (by unfold Func.isWrapper; first | (rw [if_pos (by decide +kernel)]; kernel_rfl) | (rw [if_neg (by decide +kernel)]; exact ⟨rfl, rfl⟩))
    (fun os started H enc _ => liftJobSummary os started H enc)

/-- The tied card. -/
theorem jsummary_holds : Rows.JobSummaryCardSaid :=
  Claim7.holds_tied_plain_at .later [] [.data, .data, .data, .data, .pinned] true Rows.jobSummaryCard.stood.harness false
    jsummary_row (fun _ h => by cases h) (by kernel_rfl) (fun _ h => by cases h) jobSummary_row_tie rfl ⟨rfl, rfl⟩ (by kernel_rfl) rfl
    (fun f fn hf hfn => by
      obtain rfl : f = 3 := Option.some.inj ((show Tryd.prog.funcNamed "swarf/swarflaw55.JobSummary" = some 3 by kernel_rfl).symm.trans hf) |>.symm
      obtain rfl : fn = Tryd.f3 := (Option.some.inj (Tryd.func3.symm.trans hfn)).symm
      exact ⟨by kernel_rfl, fun j t ht => by
        rw [Tryd.params3] at ht
        have hm : t ∈ [24] := by simpa using Array.mem_of_getElem? ht
        have hall : ([24].all fun u => !Tryd.prog.wantsStandIn u) = true := by kernel_rfl
        exact (show Tryd.prog.wantsStandIn t = false by simpa using List.all_eq_true.1 hall t hm)⟩)
    (by kernel_rfl)

#print axioms jsummary_holds
end Go.Proofs.YtjibcnnbclcboaaDoor
