/-
  The reckoner at work: distance; vectors of contour. (printed by gen/g3.py)
  Plain laws of closed paths: sums over edges, the opposite path, the two rules for crossings.
  Plain laws: the winding number as it is counted edge by edge.
  The reckoner at work: contour.Winding, contour.Covered. (printed by gen/g4.py)
-/
import Derived.Test.YtlkhkldgmlfhkaaGreatQW14
namespace Go.Proofs.YtlkhkldgmlfhkaaGreat
open Go.RowKit
namespace Vc
section
variable {p q : Rat} {a b : Nat}
theorem szR_mul_le (hp : szR p ≤ a) (hq : szR q ≤ b) : szR (p * q) ≤ 2 * a + 2 * b := by have := szR_mul p q; omega
theorem szR_add_le (hp : szR p ≤ a) (hq : szR q ≤ b) : szR (p + q) ≤ 3 * a + 3 * b + 1 := by have := szR_add p q; omega
theorem szR_sub_le (hp : szR p ≤ a) (hq : szR q ≤ b) : szR (p - q) ≤ 3 * a + 3 * b + 1 := by have := szR_sub p q; omega
end
section
variable {a1 a2 b1 b2 p1 p2 : Rat}
theorem seg1 (h : (b1 - a1) * (p1 - a1) + (b2 - a2) * (p2 - a2) ≤ 0) : Rt.seg ⟨a1, a2⟩ ⟨b1, b2⟩ ⟨p1, p2⟩ = (p1 - a1) * (p1 - a1) + (p2 - a2) * (p2 - a2) := if_pos h
theorem seg2 (h : ¬ (b1 - a1) * (p1 - a1) + (b2 - a2) * (p2 - a2) ≤ 0) (h' : (b1 - a1) * (b1 - a1) + (b2 - a2) * (b2 - a2) ≤ (b1 - a1) * (p1 - a1) + (b2 - a2) * (p2 - a2)) :
    Rt.seg ⟨a1, a2⟩ ⟨b1, b2⟩ ⟨p1, p2⟩ = (p1 - b1) * (p1 - b1) + (p2 - b2) * (p2 - b2) := (if_neg h).trans (if_pos h')
theorem seg3 (h : ¬ (b1 - a1) * (p1 - a1) + (b2 - a2) * (p2 - a2) ≤ 0) (h' : ¬ (b1 - a1) * (b1 - a1) + (b2 - a2) * (b2 - a2) ≤ (b1 - a1) * (p1 - a1) + (b2 - a2) * (p2 - a2)) :
    Rt.seg ⟨a1, a2⟩ ⟨b1, b2⟩ ⟨p1, p2⟩ = ((b1 - a1) * (p2 - a2) - (b2 - a2) * (p1 - a1)) * ((b1 - a1) * (p2 - a2) - (b2 - a2) * (p1 - a1)) / ((b1 - a1) * (b1 - a1) + (b2 - a2) * (b2 - a2)) := (if_neg h).trans (if_neg h')
theorem seg_ne (h : ¬ (b1 - a1) * (p1 - a1) + (b2 - a2) * (p2 - a2) ≤ 0) (h' : ¬ (b1 - a1) * (b1 - a1) + (b2 - a2) * (b2 - a2) ≤ (b1 - a1) * (p1 - a1) + (b2 - a2) * (p2 - a2)) : (b1 - a1) * (b1 - a1) + (b2 - a2) * (b2 - a2) ≠ 0 := by
  intro e
  rw [e] at h'
  rw [Rat.not_le] at h h'
  exact absurd (Std.lt_trans h h') (Rat.lt_irrefl)
theorem szR_seg (h1 : szR a1 ≤ 100) (h2 : szR a2 ≤ 100) (h3 : szR b1 ≤ 100) (h4 : szR b2 ≤ 100) (h5 : szR p1 ≤ 100) (h6 : szR p2 ≤ 100) : szR (Rt.seg ⟨a1, a2⟩ ⟨b1, b2⟩ ⟨p1, p2⟩) ≤ 200000 := by
  by_cases k1 : (b1 - a1) * (p1 - a1) + (b2 - a2) * (p2 - a2) ≤ 0
  · rw [seg1 k1]; (first | omega | (apply Nat.le_trans; (focus (repeat' first | assumption | apply szR_sub_le | apply szR_add_le | apply szR_mul_le)); omega))
  · by_cases k2 : (b1 - a1) * (b1 - a1) + (b2 - a2) * (b2 - a2) ≤ (b1 - a1) * (p1 - a1) + (b2 - a2) * (p2 - a2)
    · rw [seg2 k1 k2]; (first | omega | (apply Nat.le_trans; (focus (repeat' first | assumption | apply szR_sub_le | apply szR_add_le | apply szR_mul_le)); omega))
    · rw [seg3 k1 k2]
      have d1 := szR_div (((b1 - a1) * (p2 - a2) - (b2 - a2) * (p1 - a1)) * ((b1 - a1) * (p2 - a2) - (b2 - a2) * (p1 - a1))) _ (seg_ne k1 k2)
      have d2 : szR (((b1 - a1) * (p2 - a2) - (b2 - a2) * (p1 - a1)) * ((b1 - a1) * (p2 - a2) - (b2 - a2) * (p1 - a1))) ≤ 60000 := by (first | omega | (apply Nat.le_trans; (focus (repeat' first | assumption | apply szR_sub_le | apply szR_add_le | apply szR_mul_le)); omega))
      have d3 : szR ((b1 - a1) * (b1 - a1) + (b2 - a2) * (b2 - a2)) ≤ 20000 := by (first | omega | (apply Nat.le_trans; (focus (repeat' first | assumption | apply szR_sub_le | apply szR_add_le | apply szR_mul_le)); omega))
      omega
theorem seg_point (c1 c2 a1 a2 : Rat) : Rt.seg ⟨c1, c2⟩ ⟨c1, c2⟩ ⟨a1, a2⟩ = Rt.dot ((⟨c1, c2⟩ : Rt.V2).sub ⟨a1, a2⟩) ((⟨c1, c2⟩ : Rt.V2).sub ⟨a1, a2⟩) := by
  have e : (c1 - c1) * (a1 - c1) + (c2 - c2) * (a2 - c2) ≤ 0 := by grind
  rw [seg1 e]
  simp only [Rt.dot, Rt.V2.sub]
  grind
end
def cDsub : Ctr := ⟨88, fun | [.g [.R (p)], .g [.R (q)]] => .yes (szR p ≤ 1000000 ∧ szR q ≤ 1000000) (.k (.g [.R ((p - q))])) | _ => .no⟩
theorem cDsub_owes (p q : Rat) (hp : szR p ≤ 1000000 ∧ szR q ≤ 1000000) : owes LT CT10 [] Tryz.f88 (Tryz.f88.body.getD .skip) [.g [.R (p)], .g [.R (q)]] (.k (.g [.R ((p - q))])) := by
  refine Eq.mp (show ((szR (p) ≤ 1000000 ∧ szR (q) ≤ 1000000) ∧ ((((p) - (q)) = (p - q)) ∧ (True))) = owes LT CT10 [] Tryz.f88 (Tryz.f88.body.getD .skip) [.g [.R (p)], .g [.R (q)]] (.k (.g [.R ((p - q))])) by kernel_rfl) ?_
  exact ⟨hp, rfl, trivial⟩
theorem cDsub_ok : CtrOK Tryz.prog cDsub := .of (by kernel_rfl) (fun bs w xs vs pre r hr hA hG h hp => by
  simp only [cDsub] at h
  split at h
  · cases h
    exact ctr_calls mixed LT_ok CT10_ok Tryz.func88 (by kernel_rfl) hr hA hG rfl rfl (cDsub_owes _ _ hp)
  · cases h) (fun xs α pre φ r => by simp only [cDsub]; split <;> (intro h; cases h))
def cDadd : Ctr := ⟨89, fun | [.g [.R (p)], .g [.R (q)]] => .yes (szR p ≤ 1000000 ∧ szR q ≤ 1000000) (.k (.g [.R ((p + q))])) | _ => .no⟩
theorem cDadd_owes (p q : Rat) (hp : szR p ≤ 1000000 ∧ szR q ≤ 1000000) : owes LT CT10 [] Tryz.f89 (Tryz.f89.body.getD .skip) [.g [.R (p)], .g [.R (q)]] (.k (.g [.R ((p + q))])) := by
  refine Eq.mp (show ((szR (p) ≤ 1000000 ∧ szR (q) ≤ 1000000) ∧ ((((p) + (q)) = (p + q)) ∧ (True))) = owes LT CT10 [] Tryz.f89 (Tryz.f89.body.getD .skip) [.g [.R (p)], .g [.R (q)]] (.k (.g [.R ((p + q))])) by kernel_rfl) ?_
  exact ⟨hp, rfl, trivial⟩
theorem cDadd_ok : CtrOK Tryz.prog cDadd := .of (by kernel_rfl) (fun bs w xs vs pre r hr hA hG h hp => by
  simp only [cDadd] at h
  split at h
  · cases h
    exact ctr_calls mixed LT_ok CT10_ok Tryz.func89 (by kernel_rfl) hr hA hG rfl rfl (cDadd_owes _ _ hp)
  · cases h) (fun xs α pre φ r => by simp only [cDadd]; split <;> (intro h; cases h))
def cDmul : Ctr := ⟨70, fun | [.g [.R (p)], .g [.R (q)]] => .yes (szR p ≤ 1000000 ∧ szR q ≤ 1000000) (.k (.g [.R ((p * q))])) | _ => .no⟩
theorem cDmul_owes (p q : Rat) (hp : szR p ≤ 1000000 ∧ szR q ≤ 1000000) : owes LT CT10 [] Tryz.f70 (Tryz.f70.body.getD .skip) [.g [.R (p)], .g [.R (q)]] (.k (.g [.R ((p * q))])) := by
  refine Eq.mp (show ((szR (p) ≤ 1000000 ∧ szR (q) ≤ 1000000) ∧ ((((p) * (q)) = (p * q)) ∧ (True))) = owes LT CT10 [] Tryz.f70 (Tryz.f70.body.getD .skip) [.g [.R (p)], .g [.R (q)]] (.k (.g [.R ((p * q))])) by kernel_rfl) ?_
  exact ⟨hp, rfl, trivial⟩
theorem cDmul_ok : CtrOK Tryz.prog cDmul := .of (by kernel_rfl) (fun bs w xs vs pre r hr hA hG h hp => by
  simp only [cDmul] at h
  split at h
  · cases h
    exact ctr_calls mixed LT_ok CT10_ok Tryz.func70 (by kernel_rfl) hr hA hG rfl rfl (cDmul_owes _ _ hp)
  · cases h) (fun xs α pre φ r => by simp only [cDmul]; split <;> (intro h; cases h))
def cDover : Ctr := ⟨69, fun | [.g [.R (p)], .g [.R (q)]] => .yes (q ≠ 0 ∧ szR p ≤ 1000000 ∧ szR q ≤ 1000000) (.k (.g [.R ((p / q))])) | _ => .no⟩
theorem cDover_owes (p q : Rat) (hp : q ≠ 0 ∧ szR p ≤ 1000000 ∧ szR q ≤ 1000000) : owes LT CT10 [] Tryz.f69 (Tryz.f69.body.getD .skip) [.g [.R (p)], .g [.R (q)]] (.k (.g [.R ((p / q))])) := by
  refine Eq.mp (show (((q) ≠ 0 ∧ szR (p) ≤ 1000000 ∧ szR (q) ≤ 1000000) ∧ (((((0 : Int)) != ((0 : Int))) = true → ((-9223372036854775808 ≤ ((0 : Int)) ∧ ((0 : Int)) ≤ 9223372036854775807) ∧ (((((0 : Int)) : Rat) = (p / q)) ∧ (True)))) ∧ ((((0 : Int)) != ((0 : Int))) = false → ((((p) / (q)) = (p / q)) ∧ (True))))) = owes LT CT10 [] Tryz.f69 (Tryz.f69.body.getD .skip) [.g [.R (p)], .g [.R (q)]] (.k (.g [.R ((p / q))])) by kernel_rfl) ?_
  refine ⟨hp, fun h => ?_, fun _ => ⟨rfl, trivial⟩⟩
  simp at h
theorem cDover_ok : CtrOK Tryz.prog cDover := .of (by kernel_rfl) (fun bs w xs vs pre r hr hA hG h hp => by
  simp only [cDover] at h
  split at h
  · cases h
    exact ctr_calls mixed LT_ok CT10_ok Tryz.func69 (by kernel_rfl) hr hA hG rfl rfl (cDover_owes _ _ hp)
  · cases h) (fun xs α pre φ r => by simp only [cDover]; split <;> (intro h; cases h))
def CT11 : List Ctr := CT10 ++ [cDsub, cDadd, cDmul, cDover]
theorem CT11_ok : ∀ c ∈ CT11, CtrOK Tryz.prog c := ok_app CT10_ok (by
  intro c hc
  simp only [List.mem_cons, List.not_mem_nil, or_false] at hc
  rcases hc with rfl | rfl | rfl | rfl
  · exact cDsub_ok
  · exact cDadd_ok
  · exact cDmul_ok
  · exact cDover_ok)
def cDway : Ctr := ⟨66, fun | [.g [.R (a1), .R (a2)], .g [.R (b1), .R (b2)]] => .yes (szR a1 ≤ 100000 ∧ szR a2 ≤ 100000 ∧ szR b1 ≤ 100000 ∧ szR b2 ≤ 100000) (.k (.g [.R ((b1 - a1)), .R ((b2 - a2))])) | _ => .no⟩
theorem cDway_owes (a1 a2 b1 b2 : Rat) (hp : szR a1 ≤ 100000 ∧ szR a2 ≤ 100000 ∧ szR b1 ≤ 100000 ∧ szR b2 ≤ 100000) : owes LT CT11 [] Tryz.f66 (Tryz.f66.body.getD .skip) [.g [.R (a1), .R (a2)], .g [.R (b1), .R (b2)]] (.k (.g [.R ((b1 - a1)), .R ((b2 - a2))])) := by
  refine Eq.mp (show ((szR (b1) ≤ 1000000 ∧ szR (a1) ≤ 1000000) ∧ ((szR (b2) ≤ 1000000 ∧ szR (a2) ≤ 1000000) ∧ ((((b1) - (a1)) = (b1 - a1)) ∧ ((((b2) - (a2)) = (b2 - a2)) ∧ (True))))) = owes LT CT11 [] Tryz.f66 (Tryz.f66.body.getD .skip) [.g [.R (a1), .R (a2)], .g [.R (b1), .R (b2)]] (.k (.g [.R ((b1 - a1)), .R ((b2 - a2))])) by kernel_rfl) ?_
  obtain ⟨h1, h2, h3, h4⟩ := hp
  ((repeat' first | apply And.intro | (intro _)) <;> first | trivial | rfl | (first | omega | (apply Nat.le_trans; (focus (repeat' first | assumption | apply szR_sub_le | apply szR_add_le | apply szR_mul_le)); omega)) | skip)
theorem cDway_ok : CtrOK Tryz.prog cDway := .of (by kernel_rfl) (fun bs w xs vs pre r hr hA hG h hp => by
  simp only [cDway] at h
  split at h
  · cases h
    exact ctr_calls mixed LT_ok CT11_ok Tryz.func66 (by kernel_rfl) hr hA hG rfl rfl (cDway_owes _ _ _ _ hp)
  · cases h) (fun xs α pre φ r => by simp only [cDway]; split <;> (intro h; cases h))
def cDcross : Ctr := ⟨67, fun | [.g [.R (a1), .R (a2)], .g [.R (b1), .R (b2)]] => .yes (szR a1 ≤ 100000 ∧ szR a2 ≤ 100000 ∧ szR b1 ≤ 100000 ∧ szR b2 ≤ 100000) (.k (.g [.R ((a1 * b2 - a2 * b1))])) | _ => .no⟩
theorem cDcross_owes (a1 a2 b1 b2 : Rat) (hp : szR a1 ≤ 100000 ∧ szR a2 ≤ 100000 ∧ szR b1 ≤ 100000 ∧ szR b2 ≤ 100000) : owes LT CT11 [] Tryz.f67 (Tryz.f67.body.getD .skip) [.g [.R (a1), .R (a2)], .g [.R (b1), .R (b2)]] (.k (.g [.R ((a1 * b2 - a2 * b1))])) := by
  refine Eq.mp (show ((szR (a1) ≤ 1000000 ∧ szR (b2) ≤ 1000000) ∧ ((szR (a2) ≤ 1000000 ∧ szR (b1) ≤ 1000000) ∧ ((szR (((a1) * (b2))) ≤ 1000000 ∧ szR (((a2) * (b1))) ≤ 1000000) ∧ ((((((a1) * (b2))) - (((a2) * (b1)))) = (a1 * b2 - a2 * b1)) ∧ (True))))) = owes LT CT11 [] Tryz.f67 (Tryz.f67.body.getD .skip) [.g [.R (a1), .R (a2)], .g [.R (b1), .R (b2)]] (.k (.g [.R ((a1 * b2 - a2 * b1))])) by kernel_rfl) ?_
  obtain ⟨h1, h2, h3, h4⟩ := hp
  ((repeat' first | apply And.intro | (intro _)) <;> first | trivial | rfl | (first | omega | (apply Nat.le_trans; (focus (repeat' first | assumption | apply szR_sub_le | apply szR_add_le | apply szR_mul_le)); omega)) | skip)
theorem cDcross_ok : CtrOK Tryz.prog cDcross := .of (by kernel_rfl) (fun bs w xs vs pre r hr hA hG h hp => by
  simp only [cDcross] at h
  split at h
  · cases h
    exact ctr_calls mixed LT_ok CT11_ok Tryz.func67 (by kernel_rfl) hr hA hG rfl rfl (cDcross_owes _ _ _ _ hp)
  · cases h) (fun xs α pre φ r => by simp only [cDcross]; split <;> (intro h; cases h))
def cDdot : Ctr := ⟨68, fun | [.g [.R (a1), .R (a2)], .g [.R (b1), .R (b2)]] => .yes (szR a1 ≤ 100000 ∧ szR a2 ≤ 100000 ∧ szR b1 ≤ 100000 ∧ szR b2 ≤ 100000) (.k (.g [.R ((a1 * b1 + a2 * b2))])) | _ => .no⟩
theorem cDdot_owes (a1 a2 b1 b2 : Rat) (hp : szR a1 ≤ 100000 ∧ szR a2 ≤ 100000 ∧ szR b1 ≤ 100000 ∧ szR b2 ≤ 100000) : owes LT CT11 [] Tryz.f68 (Tryz.f68.body.getD .skip) [.g [.R (a1), .R (a2)], .g [.R (b1), .R (b2)]] (.k (.g [.R ((a1 * b1 + a2 * b2))])) := by
  refine Eq.mp (show ((szR (a1) ≤ 1000000 ∧ szR (b1) ≤ 1000000) ∧ ((szR (a2) ≤ 1000000 ∧ szR (b2) ≤ 1000000) ∧ ((szR (((a1) * (b1))) ≤ 1000000 ∧ szR (((a2) * (b2))) ≤ 1000000) ∧ ((((((a1) * (b1))) + (((a2) * (b2)))) = (a1 * b1 + a2 * b2)) ∧ (True))))) = owes LT CT11 [] Tryz.f68 (Tryz.f68.body.getD .skip) [.g [.R (a1), .R (a2)], .g [.R (b1), .R (b2)]] (.k (.g [.R ((a1 * b1 + a2 * b2))])) by kernel_rfl) ?_
  obtain ⟨h1, h2, h3, h4⟩ := hp
  ((repeat' first | apply And.intro | (intro _)) <;> first | trivial | rfl | (first | omega | (apply Nat.le_trans; (focus (repeat' first | assumption | apply szR_sub_le | apply szR_add_le | apply szR_mul_le)); omega)) | skip)
theorem cDdot_ok : CtrOK Tryz.prog cDdot := .of (by kernel_rfl) (fun bs w xs vs pre r hr hA hG h hp => by
  simp only [cDdot] at h
  split at h
  · cases h
    exact ctr_calls mixed LT_ok CT11_ok Tryz.func68 (by kernel_rfl) hr hA hG rfl rfl (cDdot_owes _ _ _ _ hp)
  · cases h) (fun xs α pre φ r => by simp only [cDdot]; split <;> (intro h; cases h))
def CT12 : List Ctr := CT11 ++ [cDway, cDcross, cDdot]
theorem CT12_ok : ∀ c ∈ CT12, CtrOK Tryz.prog c := ok_app CT11_ok (by
  intro c hc
  simp only [List.mem_cons, List.not_mem_nil, or_false] at hc
  rcases hc with rfl | rfl | rfl
  · exact cDway_ok
  · exact cDcross_ok
  · exact cDdot_ok)
def cDseg : Ctr := ⟨41, fun | [.g [.R (a1), .R (a2)], .g [.R (b1), .R (b2)], .g [.R (p1), .R (p2)]] => .yes (szR a1 ≤ 100 ∧ szR a2 ≤ 100 ∧ szR b1 ≤ 100 ∧ szR b2 ≤ 100 ∧ szR p1 ≤ 100 ∧ szR p2 ≤ 100) (.k (.g [.R ((Rt.seg ⟨a1, a2⟩ ⟨b1, b2⟩ ⟨p1, p2⟩))])) | _ => .no⟩
theorem cDseg_owes (a1 a2 b1 b2 p1 p2 : Rat) (hp : szR a1 ≤ 100 ∧ szR a2 ≤ 100 ∧ szR b1 ≤ 100 ∧ szR b2 ≤ 100 ∧ szR p1 ≤ 100 ∧ szR p2 ≤ 100) : owes LT CT12 [] Tryz.f41 (Tryz.f41.body.getD .skip) [.g [.R (a1), .R (a2)], .g [.R (b1), .R (b2)], .g [.R (p1), .R (p2)]] (.k (.g [.R ((Rt.seg ⟨a1, a2⟩ ⟨b1, b2⟩ ⟨p1, p2⟩))])) := by
  refine Eq.mp (show ((szR (a1) ≤ 100000 ∧ szR (a2) ≤ 100000 ∧ szR (b1) ≤ 100000 ∧ szR (b2) ≤ 100000) ∧ ((szR (a1) ≤ 100000 ∧ szR (a2) ≤ 100000 ∧ szR (p1) ≤ 100000 ∧ szR (p2) ≤ 100000) ∧ ((szR (((b1) - (a1))) ≤ 100000 ∧ szR (((b2) - (a2))) ≤ 100000 ∧ szR (((b1) - (a1))) ≤ 100000 ∧ szR (((b2) - (a2))) ≤ 100000) ∧ ((szR (((b1) - (a1))) ≤ 100000 ∧ szR (((b2) - (a2))) ≤ 100000 ∧ szR (((p1) - (a1))) ≤ 100000 ∧ szR (((p2) - (a2))) ≤ 100000) ∧ ((True) ∧ (((decide (((Rt.sg (((((b1) - (a1))) * (((p1) - (a1))) + (((b2) - (a2))) * (((p2) - (a2))))))) ≤ ((0 : Int)))) = true → ((szR (((p1) - (a1))) ≤ 100000 ∧ szR (((p2) - (a2))) ≤ 100000 ∧ szR (((p1) - (a1))) ≤ 100000 ∧ szR (((p2) - (a2))) ≤ 100000) ∧ ((((((p1) - (a1))) * (((p1) - (a1))) + (((p2) - (a2))) * (((p2) - (a2)))) = (Rt.seg ⟨a1, a2⟩ ⟨b1, b2⟩ ⟨p1, p2⟩)) ∧ (True)))) ∧ ((decide (((Rt.sg (((((b1) - (a1))) * (((p1) - (a1))) + (((b2) - (a2))) * (((p2) - (a2))))))) ≤ ((0 : Int)))) = false → ((szR (((((b1) - (a1))) * (((p1) - (a1))) + (((b2) - (a2))) * (((p2) - (a2))))) ≤ 1000000 ∧ szR (((((b1) - (a1))) * (((b1) - (a1))) + (((b2) - (a2))) * (((b2) - (a2))))) ≤ 1000000) ∧ (((decide (((Rt.sg ((((((b1) - (a1))) * (((p1) - (a1))) + (((b2) - (a2))) * (((p2) - (a2))))) - (((((b1) - (a1))) * (((b1) - (a1))) + (((b2) - (a2))) * (((b2) - (a2)))))))) ≥ ((0 : Int)))) = true → ((szR (b1) ≤ 100000 ∧ szR (b2) ≤ 100000 ∧ szR (p1) ≤ 100000 ∧ szR (p2) ≤ 100000) ∧ ((szR (((p1) - (b1))) ≤ 100000 ∧ szR (((p2) - (b2))) ≤ 100000 ∧ szR (((p1) - (b1))) ≤ 100000 ∧ szR (((p2) - (b2))) ≤ 100000) ∧ ((((((p1) - (b1))) * (((p1) - (b1))) + (((p2) - (b2))) * (((p2) - (b2)))) = (Rt.seg ⟨a1, a2⟩ ⟨b1, b2⟩ ⟨p1, p2⟩)) ∧ (True))))) ∧ ((decide (((Rt.sg ((((((b1) - (a1))) * (((p1) - (a1))) + (((b2) - (a2))) * (((p2) - (a2))))) - (((((b1) - (a1))) * (((b1) - (a1))) + (((b2) - (a2))) * (((b2) - (a2)))))))) ≥ ((0 : Int)))) = false → ((szR (((b1) - (a1))) ≤ 100000 ∧ szR (((b2) - (a2))) ≤ 100000 ∧ szR (((p1) - (a1))) ≤ 100000 ∧ szR (((p2) - (a2))) ≤ 100000) ∧ ((szR (((((b1) - (a1))) * (((p2) - (a2))) - (((b2) - (a2))) * (((p1) - (a1))))) ≤ 1000000 ∧ szR (((((b1) - (a1))) * (((p2) - (a2))) - (((b2) - (a2))) * (((p1) - (a1))))) ≤ 1000000) ∧ (((((((b1) - (a1))) * (((b1) - (a1))) + (((b2) - (a2))) * (((b2) - (a2))))) ≠ 0 ∧ szR (((((((b1) - (a1))) * (((p2) - (a2))) - (((b2) - (a2))) * (((p1) - (a1))))) * (((((b1) - (a1))) * (((p2) - (a2))) - (((b2) - (a2))) * (((p1) - (a1))))))) ≤ 1000000 ∧ szR (((((b1) - (a1))) * (((b1) - (a1))) + (((b2) - (a2))) * (((b2) - (a2))))) ≤ 1000000) ∧ ((((((((((b1) - (a1))) * (((p2) - (a2))) - (((b2) - (a2))) * (((p1) - (a1))))) * (((((b1) - (a1))) * (((p2) - (a2))) - (((b2) - (a2))) * (((p1) - (a1))))))) / (((((b1) - (a1))) * (((b1) - (a1))) + (((b2) - (a2))) * (((b2) - (a2)))))) = (Rt.seg ⟨a1, a2⟩ ⟨b1, b2⟩ ⟨p1, p2⟩)) ∧ (True))))))))))))))) = owes LT CT12 [] Tryz.f41 (Tryz.f41.body.getD .skip) [.g [.R (a1), .R (a2)], .g [.R (b1), .R (b2)], .g [.R (p1), .R (p2)]] (.k (.g [.R ((Rt.seg ⟨a1, a2⟩ ⟨b1, b2⟩ ⟨p1, p2⟩))])) by kernel_rfl) ?_
  obtain ⟨h1, h2, h3, h4, h5, h6⟩ := hp
  refine ⟨by ((repeat' first | apply And.intro | (intro _)) <;> first | trivial | rfl | (first | omega | (apply Nat.le_trans; (focus (repeat' first | assumption | apply szR_sub_le | apply szR_add_le | apply szR_mul_le)); omega)) | skip), by ((repeat' first | apply And.intro | (intro _)) <;> first | trivial | rfl | (first | omega | (apply Nat.le_trans; (focus (repeat' first | assumption | apply szR_sub_le | apply szR_add_le | apply szR_mul_le)); omega)) | skip), by ((repeat' first | apply And.intro | (intro _)) <;> first | trivial | rfl | (first | omega | (apply Nat.le_trans; (focus (repeat' first | assumption | apply szR_sub_le | apply szR_add_le | apply szR_mul_le)); omega)) | skip), by ((repeat' first | apply And.intro | (intro _)) <;> first | trivial | rfl | (first | omega | (apply Nat.le_trans; (focus (repeat' first | assumption | apply szR_sub_le | apply szR_add_le | apply szR_mul_le)); omega)) | skip), trivial, fun h => ⟨by ((repeat' first | apply And.intro | (intro _)) <;> first | trivial | rfl | (first | omega | (apply Nat.le_trans; (focus (repeat' first | assumption | apply szR_sub_le | apply szR_add_le | apply szR_mul_le)); omega)) | skip), ?_, trivial⟩, fun h => ⟨by ((repeat' first | apply And.intro | (intro _)) <;> first | trivial | rfl | (first | omega | (apply Nat.le_trans; (focus (repeat' first | assumption | apply szR_sub_le | apply szR_add_le | apply szR_mul_le)); omega)) | skip), fun h' => ⟨by ((repeat' first | apply And.intro | (intro _)) <;> first | trivial | rfl | (first | omega | (apply Nat.le_trans; (focus (repeat' first | assumption | apply szR_sub_le | apply szR_add_le | apply szR_mul_le)); omega)) | skip), by ((repeat' first | apply And.intro | (intro _)) <;> first | trivial | rfl | (first | omega | (apply Nat.le_trans; (focus (repeat' first | assumption | apply szR_sub_le | apply szR_add_le | apply szR_mul_le)); omega)) | skip), ?_, trivial⟩, fun h' => ⟨by ((repeat' first | apply And.intro | (intro _)) <;> first | trivial | rfl | (first | omega | (apply Nat.le_trans; (focus (repeat' first | assumption | apply szR_sub_le | apply szR_add_le | apply szR_mul_le)); omega)) | skip), by ((repeat' first | apply And.intro | (intro _)) <;> first | trivial | rfl | (first | omega | (apply Nat.le_trans; (focus (repeat' first | assumption | apply szR_sub_le | apply szR_add_le | apply szR_mul_le)); omega)) | skip), ⟨?_, by ((repeat' first | apply And.intro | (intro _)) <;> first | trivial | rfl | (first | omega | (apply Nat.le_trans; (focus (repeat' first | assumption | apply szR_sub_le | apply szR_add_le | apply szR_mul_le)); omega)) | skip)⟩, ?_, trivial⟩⟩⟩
  · exact (seg1 (Rt.sg_le.1 (of_decide_eq_true h))).symm
  · exact (seg2 (fun e => of_decide_eq_false h (Rt.sg_le.2 e)) (Rt.sub_sg_ge.1 (of_decide_eq_true h'))).symm
  · exact seg_ne (fun e => of_decide_eq_false h (Rt.sg_le.2 e)) (fun e => of_decide_eq_false h' (Rt.sub_sg_ge.2 e))
  · exact (seg3 (fun e => of_decide_eq_false h (Rt.sg_le.2 e)) (fun e => of_decide_eq_false h' (Rt.sub_sg_ge.2 e))).symm
theorem cDseg_ok : CtrOK Tryz.prog cDseg := .of (by kernel_rfl) (fun bs w xs vs pre r hr hA hG h hp => by
  simp only [cDseg] at h
  split at h
  · cases h
    exact ctr_calls mixed LT_ok CT12_ok Tryz.func41 (by kernel_rfl) hr hA hG rfl rfl (cDseg_owes _ _ _ _ _ _ hp)
  · cases h) (fun xs α pre φ r => by simp only [cDseg]; split <;> (intro h; cases h))
def CT13 : List Ctr := CT12 ++ [cDseg]
theorem CT13_ok : ∀ c ∈ CT13, CtrOK Tryz.prog c := ok_app CT12_ok (by
  intro c hc
  simp only [List.mem_cons, List.not_mem_nil, or_false] at hc
  rcases hc with rfl
  · exact cDseg_ok)
def cDxing : Ctr := ⟨40, fun | [.g [.R (a1), .R (a2)], .g [.R (b1), .R (b2)], .g [.R (c1), .R (c2)], .g [.R (d1), .R (d2)]] => .yes ((c1 = d1 ∧ c2 = d2) ∧ szR a1 ≤ 100 ∧ szR a2 ≤ 100 ∧ szR b1 ≤ 100 ∧ szR b2 ≤ 100 ∧ szR c1 ≤ 100 ∧ szR c2 ≤ 100 ∧ szR d1 ≤ 100 ∧ szR d2 ≤ 100) (.k (.c (.v (.bool (false))))) | _ => .no⟩
theorem cDxing_owes (a1 a2 b1 b2 c1 c2 d1 d2 : Rat) (hp : (c1 = d1 ∧ c2 = d2) ∧ szR a1 ≤ 100 ∧ szR a2 ≤ 100 ∧ szR b1 ≤ 100 ∧ szR b2 ≤ 100 ∧ szR c1 ≤ 100 ∧ szR c2 ≤ 100 ∧ szR d1 ≤ 100 ∧ szR d2 ≤ 100) : owes LT CT13 [] Tryz.f40 (Tryz.f40.body.getD .skip) [.g [.R (a1), .R (a2)], .g [.R (b1), .R (b2)], .g [.R (c1), .R (c2)], .g [.R (d1), .R (d2)]] (.k (.c (.v (.bool (false))))) := by
  refine Eq.mp (show ((szR (a1) ≤ 100000 ∧ szR (a2) ≤ 100000 ∧ szR (b1) ≤ 100000 ∧ szR (b2) ≤ 100000) ∧ ((szR (c1) ≤ 100000 ∧ szR (c2) ≤ 100000 ∧ szR (d1) ≤ 100000 ∧ szR (d2) ≤ 100000) ∧ ((szR (a1) ≤ 100000 ∧ szR (a2) ≤ 100000 ∧ szR (c1) ≤ 100000 ∧ szR (c2) ≤ 100000) ∧ ((szR (((b1) - (a1))) ≤ 100000 ∧ szR (((b2) - (a2))) ≤ 100000 ∧ szR (((c1) - (a1))) ≤ 100000 ∧ szR (((c2) - (a2))) ≤ 100000) ∧ ((True) ∧ ((szR (a1) ≤ 100000 ∧ szR (a2) ≤ 100000 ∧ szR (d1) ≤ 100000 ∧ szR (d2) ≤ 100000) ∧ ((szR (((b1) - (a1))) ≤ 100000 ∧ szR (((b2) - (a2))) ≤ 100000 ∧ szR (((d1) - (a1))) ≤ 100000 ∧ szR (((d2) - (a2))) ≤ 100000) ∧ ((True) ∧ ((inR .i64 (((Rt.sg (((((b1) - (a1))) * (((c2) - (a2))) - (((b2) - (a2))) * (((c1) - (a1))))))) * ((Rt.sg (((((b1) - (a1))) * (((d2) - (a2))) - (((b2) - (a2))) * (((d1) - (a1))))))))) ∧ ((((decide ((((Rt.sg (((((b1) - (a1))) * (((c2) - (a2))) - (((b2) - (a2))) * (((c1) - (a1))))))) * ((Rt.sg (((((b1) - (a1))) * (((d2) - (a2))) - (((b2) - (a2))) * (((d1) - (a1)))))))) < ((0 : Int)))) == true) = true → (szR (c1) ≤ 100000 ∧ szR (c2) ≤ 100000 ∧ szR (a1) ≤ 100000 ∧ szR (a2) ≤ 100000)) ∧ ((((decide ((((Rt.sg (((((b1) - (a1))) * (((c2) - (a2))) - (((b2) - (a2))) * (((c1) - (a1))))))) * ((Rt.sg (((((b1) - (a1))) * (((d2) - (a2))) - (((b2) - (a2))) * (((d1) - (a1)))))))) < ((0 : Int)))) == true) = true → (szR (((d1) - (c1))) ≤ 100000 ∧ szR (((d2) - (c2))) ≤ 100000 ∧ szR (((a1) - (c1))) ≤ 100000 ∧ szR (((a2) - (c2))) ≤ 100000)) ∧ ((((decide ((((Rt.sg (((((b1) - (a1))) * (((c2) - (a2))) - (((b2) - (a2))) * (((c1) - (a1))))))) * ((Rt.sg (((((b1) - (a1))) * (((d2) - (a2))) - (((b2) - (a2))) * (((d1) - (a1)))))))) < ((0 : Int)))) == true) = true → (True)) ∧ ((((decide ((((Rt.sg (((((b1) - (a1))) * (((c2) - (a2))) - (((b2) - (a2))) * (((c1) - (a1))))))) * ((Rt.sg (((((b1) - (a1))) * (((d2) - (a2))) - (((b2) - (a2))) * (((d1) - (a1)))))))) < ((0 : Int)))) == true) = true → (szR (c1) ≤ 100000 ∧ szR (c2) ≤ 100000 ∧ szR (b1) ≤ 100000 ∧ szR (b2) ≤ 100000)) ∧ ((((decide ((((Rt.sg (((((b1) - (a1))) * (((c2) - (a2))) - (((b2) - (a2))) * (((c1) - (a1))))))) * ((Rt.sg (((((b1) - (a1))) * (((d2) - (a2))) - (((b2) - (a2))) * (((d1) - (a1)))))))) < ((0 : Int)))) == true) = true → (szR (((d1) - (c1))) ≤ 100000 ∧ szR (((d2) - (c2))) ≤ 100000 ∧ szR (((b1) - (c1))) ≤ 100000 ∧ szR (((b2) - (c2))) ≤ 100000)) ∧ ((((decide ((((Rt.sg (((((b1) - (a1))) * (((c2) - (a2))) - (((b2) - (a2))) * (((c1) - (a1))))))) * ((Rt.sg (((((b1) - (a1))) * (((d2) - (a2))) - (((b2) - (a2))) * (((d1) - (a1)))))))) < ((0 : Int)))) == true) = true → (True)) ∧ ((((decide ((((Rt.sg (((((b1) - (a1))) * (((c2) - (a2))) - (((b2) - (a2))) * (((c1) - (a1))))))) * ((Rt.sg (((((b1) - (a1))) * (((d2) - (a2))) - (((b2) - (a2))) * (((d1) - (a1)))))))) < ((0 : Int)))) == true) = true → (inR .i64 (((Rt.sg (((((d1) - (c1))) * (((a2) - (c2))) - (((d2) - (c2))) * (((a1) - (c1))))))) * ((Rt.sg (((((d1) - (c1))) * (((b2) - (c2))) - (((d2) - (c2))) * (((b1) - (c1)))))))))) ∧ (Value.bool (bif (decide ((((Rt.sg (((((b1) - (a1))) * (((c2) - (a2))) - (((b2) - (a2))) * (((c1) - (a1))))))) * ((Rt.sg (((((b1) - (a1))) * (((d2) - (a2))) - (((b2) - (a2))) * (((d1) - (a1)))))))) < ((0 : Int)))) then (decide ((((Rt.sg (((((d1) - (c1))) * (((a2) - (c2))) - (((d2) - (c2))) * (((a1) - (c1))))))) * ((Rt.sg (((((d1) - (c1))) * (((b2) - (c2))) - (((d2) - (c2))) * (((b1) - (c1)))))))) < ((0 : Int)))) else (false)) = (.bool (false))))))))))))))))))) = owes LT CT13 [] Tryz.f40 (Tryz.f40.body.getD .skip) [.g [.R (a1), .R (a2)], .g [.R (b1), .R (b2)], .g [.R (c1), .R (c2)], .g [.R (d1), .R (d2)]] (.k (.c (.v (.bool (false))))) by kernel_rfl) ?_
  obtain ⟨⟨rfl, rfl⟩, h1, h2, h3, h4, h5, h6, h7, h8⟩ := hp
  have hs := Rt.sg_cases ((b1 - a1) * (c2 - a2) - (b2 - a2) * (c1 - a1))
  refine ⟨by ((repeat' first | apply And.intro | (intro _)) <;> first | trivial | rfl | (first | omega | (apply Nat.le_trans; (focus (repeat' first | assumption | apply szR_sub_le | apply szR_add_le | apply szR_mul_le)); omega)) | skip), by ((repeat' first | apply And.intro | (intro _)) <;> first | trivial | rfl | (first | omega | (apply Nat.le_trans; (focus (repeat' first | assumption | apply szR_sub_le | apply szR_add_le | apply szR_mul_le)); omega)) | skip), by ((repeat' first | apply And.intro | (intro _)) <;> first | trivial | rfl | (first | omega | (apply Nat.le_trans; (focus (repeat' first | assumption | apply szR_sub_le | apply szR_add_le | apply szR_mul_le)); omega)) | skip), by ((repeat' first | apply And.intro | (intro _)) <;> first | trivial | rfl | (first | omega | (apply Nat.le_trans; (focus (repeat' first | assumption | apply szR_sub_le | apply szR_add_le | apply szR_mul_le)); omega)) | skip), trivial, by ((repeat' first | apply And.intro | (intro _)) <;> first | trivial | rfl | (first | omega | (apply Nat.le_trans; (focus (repeat' first | assumption | apply szR_sub_le | apply szR_add_le | apply szR_mul_le)); omega)) | skip), by ((repeat' first | apply And.intro | (intro _)) <;> first | trivial | rfl | (first | omega | (apply Nat.le_trans; (focus (repeat' first | assumption | apply szR_sub_le | apply szR_add_le | apply szR_mul_le)); omega)) | skip), trivial, ?_⟩
  generalize Rt.sg ((b1 - a1) * (c2 - a2) - (b2 - a2) * (c1 - a1)) = s at hs ⊢
  rcases hs with rfl | rfl | rfl <;> simp [inR]
set_option maxHeartbeats 4000000 in
theorem cDxing_ok : CtrOK Tryz.prog cDxing := .of (by kernel_rfl) (fun bs w xs vs pre r hr hA hG h hp => by
  simp only [cDxing] at h
  split at h
  · cases h
    exact ctr_calls mixed LT_ok CT13_ok Tryz.func40 (by kernel_rfl) hr hA hG rfl rfl (cDxing_owes _ _ _ _ _ _ _ _ hp)
  · cases h) (fun xs α pre φ r => by simp only [cDxing]; split <;> (intro h; cases h))
def CT14 : List Ctr := CT13 ++ [cDxing]
theorem CT14_ok : ∀ c ∈ CT14, CtrOK Tryz.prog c := ok_app CT13_ok (by
  intro c hc
  simp only [List.mem_cons, List.not_mem_nil, or_false] at hc
  rcases hc with rfl
  · exact cDxing_ok)
def cDsegs : Ctr := ⟨21, fun | [.g [.R (a1), .R (a2)], .g [.R (b1), .R (b2)], .g [.R (c1), .R (c2)], .g [.R (d1), .R (d2)]] => .yes ((c1 = d1 ∧ c2 = d2) ∧ szR a1 ≤ 100 ∧ szR a2 ≤ 100 ∧ szR b1 ≤ 100 ∧ szR b2 ≤ 100 ∧ szR c1 ≤ 100 ∧ szR c2 ≤ 100 ∧ szR d1 ≤ 100 ∧ szR d2 ≤ 100) (.k (.g [.R ((Rt.seg ⟨a1, a2⟩ ⟨b1, b2⟩ ⟨c1, c2⟩))])) | _ => .no⟩
set_option maxHeartbeats 4000000 in
theorem cDsegs_owes (a1 a2 b1 b2 c1 c2 d1 d2 : Rat) (hp : (c1 = d1 ∧ c2 = d2) ∧ szR a1 ≤ 100 ∧ szR a2 ≤ 100 ∧ szR b1 ≤ 100 ∧ szR b2 ≤ 100 ∧ szR c1 ≤ 100 ∧ szR c2 ≤ 100 ∧ szR d1 ≤ 100 ∧ szR d2 ≤ 100) : owes LT CT14 [.unroll 5 4] Tryz.f21 (Tryz.f21.body.getD .skip) [.g [.R (a1), .R (a2)], .g [.R (b1), .R (b2)], .g [.R (c1), .R (c2)], .g [.R (d1), .R (d2)]] (.k (.g [.R ((Rt.seg ⟨a1, a2⟩ ⟨b1, b2⟩ ⟨c1, c2⟩))])) := by
  refine Eq.mp (show ((((c1) = (d1) ∧ (c2) = (d2)) ∧ szR (a1) ≤ 100 ∧ szR (a2) ≤ 100 ∧ szR (b1) ≤ 100 ∧ szR (b2) ≤ 100 ∧ szR (c1) ≤ 100 ∧ szR (c2) ≤ 100 ∧ szR (d1) ≤ 100 ∧ szR (d2) ≤ 100) ∧ (((false) = true → ((-9223372036854775808 ≤ ((0 : Int)) ∧ ((0 : Int)) ≤ 9223372036854775807) ∧ (((((0 : Int)) : Rat) = (Rt.seg ⟨a1, a2⟩ ⟨b1, b2⟩ ⟨c1, c2⟩)) ∧ (True)))) ∧ ((false) = false → ((szR (a1) ≤ 100 ∧ szR (a2) ≤ 100 ∧ szR (b1) ≤ 100 ∧ szR (b2) ≤ 100 ∧ szR (c1) ≤ 100 ∧ szR (c2) ≤ 100) ∧ ((szR (a1) ≤ 100 ∧ szR (a2) ≤ 100 ∧ szR (b1) ≤ 100 ∧ szR (b2) ≤ 100 ∧ szR (d1) ≤ 100 ∧ szR (d2) ≤ 100) ∧ ((szR (c1) ≤ 100 ∧ szR (c2) ≤ 100 ∧ szR (d1) ≤ 100 ∧ szR (d2) ≤ 100 ∧ szR (a1) ≤ 100 ∧ szR (a2) ≤ 100) ∧ ((szR (c1) ≤ 100 ∧ szR (c2) ≤ 100 ∧ szR (d1) ≤ 100 ∧ szR (d2) ≤ 100 ∧ szR (b1) ≤ 100 ∧ szR (b2) ≤ 100) ∧ (((decide (((0 : Int)) < ((3 : Int)))) = true → ((szR ((Rt.seg ⟨(a1), (a2)⟩ ⟨(b1), (b2)⟩ ⟨(d1), (d2)⟩)) ≤ 1000000 ∧ szR ((Rt.seg ⟨(a1), (a2)⟩ ⟨(b1), (b2)⟩ ⟨(c1), (c2)⟩)) ≤ 1000000) ∧ (((decide (((Rt.sg (((Rt.seg ⟨(a1), (a2)⟩ ⟨(b1), (b2)⟩ ⟨(d1), (d2)⟩)) - ((Rt.seg ⟨(a1), (a2)⟩ ⟨(b1), (b2)⟩ ⟨(c1), (c2)⟩))))) < ((0 : Int)))) = true → ((inR .i64 (((0 : Int)) + ((1 : Int)))) ∧ (((decide ((((0 : Int)) + ((1 : Int))) < ((3 : Int)))) = true → ((szR ((Rt.seg ⟨(c1), (c2)⟩ ⟨(d1), (d2)⟩ ⟨(a1), (a2)⟩)) ≤ 1000000 ∧ szR ((Rt.seg ⟨(a1), (a2)⟩ ⟨(b1), (b2)⟩ ⟨(d1), (d2)⟩)) ≤ 1000000) ∧ (((decide (((Rt.sg (((Rt.seg ⟨(c1), (c2)⟩ ⟨(d1), (d2)⟩ ⟨(a1), (a2)⟩)) - ((Rt.seg ⟨(a1), (a2)⟩ ⟨(b1), (b2)⟩ ⟨(d1), (d2)⟩))))) < ((0 : Int)))) = true → ((inR .i64 ((((0 : Int)) + ((1 : Int))) + ((1 : Int)))) ∧ (((decide (((((0 : Int)) + ((1 : Int))) + ((1 : Int))) < ((3 : Int)))) = true → ((szR ((Rt.seg ⟨(c1), (c2)⟩ ⟨(d1), (d2)⟩ ⟨(b1), (b2)⟩)) ≤ 1000000 ∧ szR ((Rt.seg ⟨(c1), (c2)⟩ ⟨(d1), (d2)⟩ ⟨(a1), (a2)⟩)) ≤ 1000000) ∧ (((decide (((Rt.sg (((Rt.seg ⟨(c1), (c2)⟩ ⟨(d1), (d2)⟩ ⟨(b1), (b2)⟩)) - ((Rt.seg ⟨(c1), (c2)⟩ ⟨(d1), (d2)⟩ ⟨(a1), (a2)⟩))))) < ((0 : Int)))) = true → ((inR .i64 (((((0 : Int)) + ((1 : Int))) + ((1 : Int))) + ((1 : Int)))) ∧ (((decide ((((((0 : Int)) + ((1 : Int))) + ((1 : Int))) + ((1 : Int))) < ((3 : Int)))) = true → (False)) ∧ ((decide ((((((0 : Int)) + ((1 : Int))) + ((1 : Int))) + ((1 : Int))) < ((3 : Int)))) = false → (((Rt.seg ⟨(c1), (c2)⟩ ⟨(d1), (d2)⟩ ⟨(b1), (b2)⟩) = (Rt.seg ⟨a1, a2⟩ ⟨b1, b2⟩ ⟨c1, c2⟩)) ∧ (True)))))) ∧ ((decide (((Rt.sg (((Rt.seg ⟨(c1), (c2)⟩ ⟨(d1), (d2)⟩ ⟨(b1), (b2)⟩)) - ((Rt.seg ⟨(c1), (c2)⟩ ⟨(d1), (d2)⟩ ⟨(a1), (a2)⟩))))) < ((0 : Int)))) = false → ((inR .i64 (((((0 : Int)) + ((1 : Int))) + ((1 : Int))) + ((1 : Int)))) ∧ (((decide ((((((0 : Int)) + ((1 : Int))) + ((1 : Int))) + ((1 : Int))) < ((3 : Int)))) = true → (False)) ∧ ((decide ((((((0 : Int)) + ((1 : Int))) + ((1 : Int))) + ((1 : Int))) < ((3 : Int)))) = false → (((Rt.seg ⟨(c1), (c2)⟩ ⟨(d1), (d2)⟩ ⟨(a1), (a2)⟩) = (Rt.seg ⟨a1, a2⟩ ⟨b1, b2⟩ ⟨c1, c2⟩)) ∧ (True))))))))) ∧ ((decide (((((0 : Int)) + ((1 : Int))) + ((1 : Int))) < ((3 : Int)))) = false → (((Rt.seg ⟨(c1), (c2)⟩ ⟨(d1), (d2)⟩ ⟨(a1), (a2)⟩) = (Rt.seg ⟨a1, a2⟩ ⟨b1, b2⟩ ⟨c1, c2⟩)) ∧ (True)))))) ∧ ((decide (((Rt.sg (((Rt.seg ⟨(c1), (c2)⟩ ⟨(d1), (d2)⟩ ⟨(a1), (a2)⟩)) - ((Rt.seg ⟨(a1), (a2)⟩ ⟨(b1), (b2)⟩ ⟨(d1), (d2)⟩))))) < ((0 : Int)))) = false → ((inR .i64 ((((0 : Int)) + ((1 : Int))) + ((1 : Int)))) ∧ (((decide (((((0 : Int)) + ((1 : Int))) + ((1 : Int))) < ((3 : Int)))) = true → ((szR ((Rt.seg ⟨(c1), (c2)⟩ ⟨(d1), (d2)⟩ ⟨(b1), (b2)⟩)) ≤ 1000000 ∧ szR ((Rt.seg ⟨(a1), (a2)⟩ ⟨(b1), (b2)⟩ ⟨(d1), (d2)⟩)) ≤ 1000000) ∧ (((decide (((Rt.sg (((Rt.seg ⟨(c1), (c2)⟩ ⟨(d1), (d2)⟩ ⟨(b1), (b2)⟩)) - ((Rt.seg ⟨(a1), (a2)⟩ ⟨(b1), (b2)⟩ ⟨(d1), (d2)⟩))))) < ((0 : Int)))) = true → ((inR .i64 (((((0 : Int)) + ((1 : Int))) + ((1 : Int))) + ((1 : Int)))) ∧ (((decide ((((((0 : Int)) + ((1 : Int))) + ((1 : Int))) + ((1 : Int))) < ((3 : Int)))) = true → (False)) ∧ ((decide ((((((0 : Int)) + ((1 : Int))) + ((1 : Int))) + ((1 : Int))) < ((3 : Int)))) = false → (((Rt.seg ⟨(c1), (c2)⟩ ⟨(d1), (d2)⟩ ⟨(b1), (b2)⟩) = (Rt.seg ⟨a1, a2⟩ ⟨b1, b2⟩ ⟨c1, c2⟩)) ∧ (True)))))) ∧ ((decide (((Rt.sg (((Rt.seg ⟨(c1), (c2)⟩ ⟨(d1), (d2)⟩ ⟨(b1), (b2)⟩)) - ((Rt.seg ⟨(a1), (a2)⟩ ⟨(b1), (b2)⟩ ⟨(d1), (d2)⟩))))) < ((0 : Int)))) = false → ((inR .i64 (((((0 : Int)) + ((1 : Int))) + ((1 : Int))) + ((1 : Int)))) ∧ (((decide ((((((0 : Int)) + ((1 : Int))) + ((1 : Int))) + ((1 : Int))) < ((3 : Int)))) = true → (False)) ∧ ((decide ((((((0 : Int)) + ((1 : Int))) + ((1 : Int))) + ((1 : Int))) < ((3 : Int)))) = false → (((Rt.seg ⟨(a1), (a2)⟩ ⟨(b1), (b2)⟩ ⟨(d1), (d2)⟩) = (Rt.seg ⟨a1, a2⟩ ⟨b1, b2⟩ ⟨c1, c2⟩)) ∧ (True))))))))) ∧ ((decide (((((0 : Int)) + ((1 : Int))) + ((1 : Int))) < ((3 : Int)))) = false → (((Rt.seg ⟨(a1), (a2)⟩ ⟨(b1), (b2)⟩ ⟨(d1), (d2)⟩) = (Rt.seg ⟨a1, a2⟩ ⟨b1, b2⟩ ⟨c1, c2⟩)) ∧ (True))))))))) ∧ ((decide ((((0 : Int)) + ((1 : Int))) < ((3 : Int)))) = false → (((Rt.seg ⟨(a1), (a2)⟩ ⟨(b1), (b2)⟩ ⟨(d1), (d2)⟩) = (Rt.seg ⟨a1, a2⟩ ⟨b1, b2⟩ ⟨c1, c2⟩)) ∧ (True)))))) ∧ ((decide (((Rt.sg (((Rt.seg ⟨(a1), (a2)⟩ ⟨(b1), (b2)⟩ ⟨(d1), (d2)⟩)) - ((Rt.seg ⟨(a1), (a2)⟩ ⟨(b1), (b2)⟩ ⟨(c1), (c2)⟩))))) < ((0 : Int)))) = false → ((inR .i64 (((0 : Int)) + ((1 : Int)))) ∧ (((decide ((((0 : Int)) + ((1 : Int))) < ((3 : Int)))) = true → ((szR ((Rt.seg ⟨(c1), (c2)⟩ ⟨(d1), (d2)⟩ ⟨(a1), (a2)⟩)) ≤ 1000000 ∧ szR ((Rt.seg ⟨(a1), (a2)⟩ ⟨(b1), (b2)⟩ ⟨(c1), (c2)⟩)) ≤ 1000000) ∧ (((decide (((Rt.sg (((Rt.seg ⟨(c1), (c2)⟩ ⟨(d1), (d2)⟩ ⟨(a1), (a2)⟩)) - ((Rt.seg ⟨(a1), (a2)⟩ ⟨(b1), (b2)⟩ ⟨(c1), (c2)⟩))))) < ((0 : Int)))) = true → ((inR .i64 ((((0 : Int)) + ((1 : Int))) + ((1 : Int)))) ∧ (((decide (((((0 : Int)) + ((1 : Int))) + ((1 : Int))) < ((3 : Int)))) = true → ((szR ((Rt.seg ⟨(c1), (c2)⟩ ⟨(d1), (d2)⟩ ⟨(b1), (b2)⟩)) ≤ 1000000 ∧ szR ((Rt.seg ⟨(c1), (c2)⟩ ⟨(d1), (d2)⟩ ⟨(a1), (a2)⟩)) ≤ 1000000) ∧ (((decide (((Rt.sg (((Rt.seg ⟨(c1), (c2)⟩ ⟨(d1), (d2)⟩ ⟨(b1), (b2)⟩)) - ((Rt.seg ⟨(c1), (c2)⟩ ⟨(d1), (d2)⟩ ⟨(a1), (a2)⟩))))) < ((0 : Int)))) = true → ((inR .i64 (((((0 : Int)) + ((1 : Int))) + ((1 : Int))) + ((1 : Int)))) ∧ (((decide ((((((0 : Int)) + ((1 : Int))) + ((1 : Int))) + ((1 : Int))) < ((3 : Int)))) = true → (False)) ∧ ((decide ((((((0 : Int)) + ((1 : Int))) + ((1 : Int))) + ((1 : Int))) < ((3 : Int)))) = false → (((Rt.seg ⟨(c1), (c2)⟩ ⟨(d1), (d2)⟩ ⟨(b1), (b2)⟩) = (Rt.seg ⟨a1, a2⟩ ⟨b1, b2⟩ ⟨c1, c2⟩)) ∧ (True)))))) ∧ ((decide (((Rt.sg (((Rt.seg ⟨(c1), (c2)⟩ ⟨(d1), (d2)⟩ ⟨(b1), (b2)⟩)) - ((Rt.seg ⟨(c1), (c2)⟩ ⟨(d1), (d2)⟩ ⟨(a1), (a2)⟩))))) < ((0 : Int)))) = false → ((inR .i64 (((((0 : Int)) + ((1 : Int))) + ((1 : Int))) + ((1 : Int)))) ∧ (((decide ((((((0 : Int)) + ((1 : Int))) + ((1 : Int))) + ((1 : Int))) < ((3 : Int)))) = true → (False)) ∧ ((decide ((((((0 : Int)) + ((1 : Int))) + ((1 : Int))) + ((1 : Int))) < ((3 : Int)))) = false → (((Rt.seg ⟨(c1), (c2)⟩ ⟨(d1), (d2)⟩ ⟨(a1), (a2)⟩) = (Rt.seg ⟨a1, a2⟩ ⟨b1, b2⟩ ⟨c1, c2⟩)) ∧ (True))))))))) ∧ ((decide (((((0 : Int)) + ((1 : Int))) + ((1 : Int))) < ((3 : Int)))) = false → (((Rt.seg ⟨(c1), (c2)⟩ ⟨(d1), (d2)⟩ ⟨(a1), (a2)⟩) = (Rt.seg ⟨a1, a2⟩ ⟨b1, b2⟩ ⟨c1, c2⟩)) ∧ (True)))))) ∧ ((decide (((Rt.sg (((Rt.seg ⟨(c1), (c2)⟩ ⟨(d1), (d2)⟩ ⟨(a1), (a2)⟩)) - ((Rt.seg ⟨(a1), (a2)⟩ ⟨(b1), (b2)⟩ ⟨(c1), (c2)⟩))))) < ((0 : Int)))) = false → ((inR .i64 ((((0 : Int)) + ((1 : Int))) + ((1 : Int)))) ∧ (((decide (((((0 : Int)) + ((1 : Int))) + ((1 : Int))) < ((3 : Int)))) = true → ((szR ((Rt.seg ⟨(c1), (c2)⟩ ⟨(d1), (d2)⟩ ⟨(b1), (b2)⟩)) ≤ 1000000 ∧ szR ((Rt.seg ⟨(a1), (a2)⟩ ⟨(b1), (b2)⟩ ⟨(c1), (c2)⟩)) ≤ 1000000) ∧ (((decide (((Rt.sg (((Rt.seg ⟨(c1), (c2)⟩ ⟨(d1), (d2)⟩ ⟨(b1), (b2)⟩)) - ((Rt.seg ⟨(a1), (a2)⟩ ⟨(b1), (b2)⟩ ⟨(c1), (c2)⟩))))) < ((0 : Int)))) = true → ((inR .i64 (((((0 : Int)) + ((1 : Int))) + ((1 : Int))) + ((1 : Int)))) ∧ (((decide ((((((0 : Int)) + ((1 : Int))) + ((1 : Int))) + ((1 : Int))) < ((3 : Int)))) = true → (False)) ∧ ((decide ((((((0 : Int)) + ((1 : Int))) + ((1 : Int))) + ((1 : Int))) < ((3 : Int)))) = false → (((Rt.seg ⟨(c1), (c2)⟩ ⟨(d1), (d2)⟩ ⟨(b1), (b2)⟩) = (Rt.seg ⟨a1, a2⟩ ⟨b1, b2⟩ ⟨c1, c2⟩)) ∧ (True)))))) ∧ ((decide (((Rt.sg (((Rt.seg ⟨(c1), (c2)⟩ ⟨(d1), (d2)⟩ ⟨(b1), (b2)⟩)) - ((Rt.seg ⟨(a1), (a2)⟩ ⟨(b1), (b2)⟩ ⟨(c1), (c2)⟩))))) < ((0 : Int)))) = false → ((inR .i64 (((((0 : Int)) + ((1 : Int))) + ((1 : Int))) + ((1 : Int)))) ∧ (((decide ((((((0 : Int)) + ((1 : Int))) + ((1 : Int))) + ((1 : Int))) < ((3 : Int)))) = true → (False)) ∧ ((decide ((((((0 : Int)) + ((1 : Int))) + ((1 : Int))) + ((1 : Int))) < ((3 : Int)))) = false → (((Rt.seg ⟨(a1), (a2)⟩ ⟨(b1), (b2)⟩ ⟨(c1), (c2)⟩) = (Rt.seg ⟨a1, a2⟩ ⟨b1, b2⟩ ⟨c1, c2⟩)) ∧ (True))))))))) ∧ ((decide (((((0 : Int)) + ((1 : Int))) + ((1 : Int))) < ((3 : Int)))) = false → (((Rt.seg ⟨(a1), (a2)⟩ ⟨(b1), (b2)⟩ ⟨(c1), (c2)⟩) = (Rt.seg ⟨a1, a2⟩ ⟨b1, b2⟩ ⟨c1, c2⟩)) ∧ (True))))))))) ∧ ((decide ((((0 : Int)) + ((1 : Int))) < ((3 : Int)))) = false → (((Rt.seg ⟨(a1), (a2)⟩ ⟨(b1), (b2)⟩ ⟨(c1), (c2)⟩) = (Rt.seg ⟨a1, a2⟩ ⟨b1, b2⟩ ⟨c1, c2⟩)) ∧ (True))))))))) ∧ ((decide (((0 : Int)) < ((3 : Int)))) = false → (((Rt.seg ⟨(a1), (a2)⟩ ⟨(b1), (b2)⟩ ⟨(c1), (c2)⟩) = (Rt.seg ⟨a1, a2⟩ ⟨b1, b2⟩ ⟨c1, c2⟩)) ∧ (True))))))))))) = owes LT CT14 [.unroll 5 4] Tryz.f21 (Tryz.f21.body.getD .skip) [.g [.R (a1), .R (a2)], .g [.R (b1), .R (b2)], .g [.R (c1), .R (c2)], .g [.R (d1), .R (d2)]] (.k (.g [.R ((Rt.seg ⟨a1, a2⟩ ⟨b1, b2⟩ ⟨c1, c2⟩))])) by kernel_rfl) ?_
  obtain ⟨⟨rfl, rfl⟩, h1, h2, h3, h4, h5, h6, h7, h8⟩ := hp
  have z1 := szR_seg (a1 := a1) (a2 := a2) (b1 := b1) (b2 := b2) (p1 := c1) (p2 := c2) h1 h2 h3 h4 h5 h6
  have z2 := szR_seg (a1 := c1) (a2 := c2) (b1 := c1) (b2 := c2) (p1 := a1) (p2 := a2) h5 h6 h5 h6 h1 h2
  have z3 := szR_seg (a1 := c1) (a2 := c2) (b1 := c1) (b2 := c2) (p1 := b1) (p2 := b2) h5 h6 h5 h6 h3 h4
  have g1 := Rt.seg_le_a ⟨a1, a2⟩ ⟨b1, b2⟩ ⟨c1, c2⟩
  have g2 := Rt.seg_le_b ⟨a1, a2⟩ ⟨b1, b2⟩ ⟨c1, c2⟩
  have e2 : Rt.seg ⟨c1, c2⟩ ⟨c1, c2⟩ ⟨a1, a2⟩ = Rt.dot ((⟨c1, c2⟩ : Rt.V2).sub ⟨a1, a2⟩) ((⟨c1, c2⟩ : Rt.V2).sub ⟨a1, a2⟩) := seg_point _ _ _ _
  have e3 : Rt.seg ⟨c1, c2⟩ ⟨c1, c2⟩ ⟨b1, b2⟩ = Rt.dot ((⟨c1, c2⟩ : Rt.V2).sub ⟨b1, b2⟩) ((⟨c1, c2⟩ : Rt.V2).sub ⟨b1, b2⟩) := seg_point _ _ _ _
  rw [← e2] at g1
  rw [← e3] at g2
  generalize Rt.seg ⟨c1, c2⟩ ⟨c1, c2⟩ ⟨a1, a2⟩ = S2 at *
  generalize Rt.seg ⟨c1, c2⟩ ⟨c1, c2⟩ ⟨b1, b2⟩ = S3 at *
  generalize Rt.seg ⟨a1, a2⟩ ⟨b1, b2⟩ ⟨c1, c2⟩ = S at *
  have f1 : decide (Rt.sg (S - S) < 0) = false := decide_eq_false (by rw [Rt.sub_sg_lt]; exact Rat.lt_irrefl)
  have f2 : decide (Rt.sg (S2 - S) < 0) = false := decide_eq_false (by rw [Rt.sub_sg_lt]; exact Rat.not_lt.2 g1)
  have f3 : decide (Rt.sg (S3 - S) < 0) = false := decide_eq_false (by rw [Rt.sub_sg_lt]; exact Rat.not_lt.2 g2)
  simp only [f1, f2, f3]
  refine ⟨⟨⟨trivial, trivial⟩, h1, h2, h3, h4, h5, h6, h5, h6⟩, ?_⟩
  have z1' : szR S ≤ 1000000 := by omega
  have z2' : szR S2 ≤ 1000000 := by omega
  have z3' : szR S3 ≤ 1000000 := by omega
  simp [inR, h1, h2, h3, h4, h5, h6, z1', z2', z3']
set_option maxHeartbeats 4000000 in
theorem cDsegs_ok : CtrOK Tryz.prog cDsegs := .of (by kernel_rfl) (fun bs w xs vs pre r hr hA hG h hp => by
  simp only [cDsegs] at h
  split at h
  · cases h
    exact ctr_calls mixed LT_ok CT14_ok Tryz.func21 (by kernel_rfl) hr hA hG rfl rfl (cDsegs_owes _ _ _ _ _ _ _ _ hp)
  · cases h) (fun xs α pre φ r => by simp only [cDsegs]; split <;> (intro h; cases h))
def CT15 : List Ctr := CT14 ++ [cDsegs]
theorem CT15_ok : ∀ c ∈ CT15, CtrOK Tryz.prog c := ok_app CT14_ok (by
  intro c hc
  simp only [List.mem_cons, List.not_mem_nil, or_false] at hc
  rcases hc with rfl
  · exact cDsegs_ok)
def cCwhole : Ctr := ⟨19, fun | [.c (.v (.int .i64 (n)))] => .yes (-9223372036854775808 ≤ n ∧ n ≤ 9223372036854775807) (.k (.g [.R ((n : Rat))])) | _ => .no⟩
theorem cCwhole_owes (n : Int) (hp : -9223372036854775808 ≤ n ∧ n ≤ 9223372036854775807) : owes LT CT15 [] Tryz.f19 (Tryz.f19.body.getD .skip) [.c (.v (.int .i64 (n)))] (.k (.g [.R ((n : Rat))])) := by
  refine Eq.mp (show ((-9223372036854775808 ≤ (n) ∧ (n) ≤ 9223372036854775807) ∧ ((((n) : Rat) = (n : Rat)) ∧ (True))) = owes LT CT15 [] Tryz.f19 (Tryz.f19.body.getD .skip) [.c (.v (.int .i64 (n)))] (.k (.g [.R ((n : Rat))])) by kernel_rfl) ?_
  exact ⟨hp, rfl, trivial⟩
theorem cCwhole_ok : CtrOK Tryz.prog cCwhole := .of (by kernel_rfl) (fun bs w xs vs pre r hr hA hG h hp => by
  simp only [cCwhole] at h
  split at h
  · cases h
    exact ctr_calls mixed LT_ok CT15_ok Tryz.func19 (by kernel_rfl) hr hA hG rfl rfl (cCwhole_owes _ hp)
  · cases h) (fun xs α pre φ r => by simp only [cCwhole]; split <;> (intro h; cases h))
def cCcross : Ctr := ⟨26, fun | [.g [.R (a1), .R (a2)], .g [.R (b1), .R (b2)]] => .yes (szR a1 ≤ 100000 ∧ szR a2 ≤ 100000 ∧ szR b1 ≤ 100000 ∧ szR b2 ≤ 100000) (.k (.g [.R ((a1 * b2 - a2 * b1))])) | _ => .no⟩
theorem cCcross_owes (a1 a2 b1 b2 : Rat) (hp : szR a1 ≤ 100000 ∧ szR a2 ≤ 100000 ∧ szR b1 ≤ 100000 ∧ szR b2 ≤ 100000) : owes LT CT15 [] Tryz.f26 (Tryz.f26.body.getD .skip) [.g [.R (a1), .R (a2)], .g [.R (b1), .R (b2)]] (.k (.g [.R ((a1 * b2 - a2 * b1))])) := by
  refine Eq.mp (show ((szR (a1) ≤ 1000000 ∧ szR (b2) ≤ 1000000) ∧ ((szR (a2) ≤ 1000000 ∧ szR (b1) ≤ 1000000) ∧ ((szR (((a1) * (b2))) ≤ 1000000 ∧ szR (((a2) * (b1))) ≤ 1000000) ∧ ((((((a1) * (b2))) - (((a2) * (b1)))) = (a1 * b2 - a2 * b1)) ∧ (True))))) = owes LT CT15 [] Tryz.f26 (Tryz.f26.body.getD .skip) [.g [.R (a1), .R (a2)], .g [.R (b1), .R (b2)]] (.k (.g [.R ((a1 * b2 - a2 * b1))])) by kernel_rfl) ?_
  obtain ⟨h1, h2, h3, h4⟩ := hp
  ((repeat' first | apply And.intro | (intro _)) <;> first | trivial | rfl | (first | omega | (apply Nat.le_trans; (focus (repeat' first | assumption | apply szR_sub_le | apply szR_add_le | apply szR_mul_le)); omega)) | skip)
theorem cCcross_ok : CtrOK Tryz.prog cCcross := .of (by kernel_rfl) (fun bs w xs vs pre r hr hA hG h hp => by
  simp only [cCcross] at h
  split at h
  · cases h
    exact ctr_calls mixed LT_ok CT15_ok Tryz.func26 (by kernel_rfl) hr hA hG rfl rfl (cCcross_owes _ _ _ _ hp)
  · cases h) (fun xs α pre φ r => by simp only [cCcross]; split <;> (intro h; cases h))
def CT16 : List Ctr := CT15 ++ [cCwhole, cCcross]
theorem CT16_ok : ∀ c ∈ CT16, CtrOK Tryz.prog c := ok_app CT15_ok (by
  intro c hc
  simp only [List.mem_cons, List.not_mem_nil, or_false] at hc
  rcases hc with rfl | rfl
  · exact cCwhole_ok
  · exact cCcross_ok)
def cCvec : Ctr := ⟨22, fun | [.g [.v (.int .i64 (m)), .v (.int .i64 (n))]] => .yes ((-9223372036854775808 ≤ m ∧ m ≤ 9223372036854775807) ∧ -9223372036854775808 ≤ n ∧ n ≤ 9223372036854775807) (.k (.g [.R ((m : Rat)), .R ((n : Rat))])) | _ => .no⟩
theorem cCvec_owes (m n : Int) (hp : (-9223372036854775808 ≤ m ∧ m ≤ 9223372036854775807) ∧ -9223372036854775808 ≤ n ∧ n ≤ 9223372036854775807) : owes LT CT16 [] Tryz.f22 (Tryz.f22.body.getD .skip) [.g [.v (.int .i64 (m)), .v (.int .i64 (n))]] (.k (.g [.R ((m : Rat)), .R ((n : Rat))])) := by
  refine Eq.mp (show ((-9223372036854775808 ≤ (m) ∧ (m) ≤ 9223372036854775807) ∧ ((-9223372036854775808 ≤ (n) ∧ (n) ≤ 9223372036854775807) ∧ ((((m) : Rat) = (m : Rat)) ∧ ((((n) : Rat) = (n : Rat)) ∧ (True))))) = owes LT CT16 [] Tryz.f22 (Tryz.f22.body.getD .skip) [.g [.v (.int .i64 (m)), .v (.int .i64 (n))]] (.k (.g [.R ((m : Rat)), .R ((n : Rat))])) by kernel_rfl) ?_
  exact ⟨hp.1, hp.2, ⟨rfl, rfl, trivial⟩⟩
theorem cCvec_ok : CtrOK Tryz.prog cCvec := .of (by kernel_rfl) (fun bs w xs vs pre r hr hA hG h hp => by
  simp only [cCvec] at h
  split at h
  · cases h
    exact ctr_calls mixed LT_ok CT16_ok Tryz.func22 (by kernel_rfl) hr hA hG rfl rfl (cCvec_owes _ _ hp)
  · cases h) (fun xs α pre φ r => by simp only [cCvec]; split <;> (intro h; cases h))
def CT17 : List Ctr := CT16 ++ [cCvec]
theorem CT17_ok : ∀ c ∈ CT17, CtrOK Tryz.prog c := ok_app CT16_ok (by
  intro c hc
  simp only [List.mem_cons, List.not_mem_nil, or_false] at hc
  rcases hc with rfl
  · exact cCvec_ok)
end Vc
end Go.Proofs.YtlkhkldgmlfhkaaGreat

namespace Go.Proofs.YtlkhkldgmlfhkaaGreat
namespace Rt

def sumN (f : Nat → Int) : Nat → Int
  | 0 => 0
  | n + 1 => sumN f n + f n
theorem sumN_congr {f g : Nat → Int} : ∀ {n : Nat}, (∀ i, i < n → f i = g i) → sumN f n = sumN g n
  | 0, _ => rfl
  | n + 1, h => by unfold sumN; rw [sumN_congr (fun i hi => h i (by omega)), h n (by omega)]
theorem sumN_neg (f : Nat → Int) : ∀ n, sumN (fun i => - f i) n = - sumN f n
  | 0 => rfl
  | n + 1 => by unfold sumN; rw [sumN_neg f n]; omega
theorem sumN_sub (f g : Nat → Int) : ∀ n, sumN (fun i => f i - g i) n = sumN f n - sumN g n
  | 0 => rfl
  | n + 1 => by unfold sumN; rw [sumN_sub f g n]; omega
theorem sumN_head (f : Nat → Int) : ∀ n, sumN f (n + 1) = f 0 + sumN (fun i => f (i + 1)) n
  | 0 => by simp [sumN]
  | n + 1 => by rw [sumN, sumN_head f n, sumN]; omega
theorem sumN_rev (f : Nat → Int) : ∀ n, sumN (fun i => f (n - 1 - i)) n = sumN f n
  | 0 => rfl
  | n + 1 => by
    rw [sumN_head, sumN, ← sumN_rev f n]
    have : sumN (fun i => f (n + 1 - 1 - (i + 1))) n = sumN (fun i => f (n - 1 - i)) n := sumN_congr fun i hi => by
      have : n + 1 - 1 - (i + 1) = n - 1 - i := by omega
      rw [this]
    rw [this]
    have : n + 1 - 1 - 0 = n := by omega
    rw [this]
    omega
theorem sumN_tele (g : Nat → Int) : ∀ n, sumN (fun i => g i - g (i + 1)) n = g 0 - g n
  | 0 => by simp [sumN]
  | n + 1 => by unfold sumN; rw [sumN_tele g n]; omega
/-- Around a closed path differences add up to nothing. -/
theorem sumN_cycle (g : Nat → Int) (n : Nat) : sumN (fun i => g i - g ((i + 1) % n)) n = 0 := by
  cases n with
  | zero => rfl
  | succ n =>
    have : sumN (fun i => g i - g ((i + 1) % (n + 1))) (n + 1) = sumN (fun i => (fun k => if k = n + 1 then g 0 else g k) i - (fun k => if k = n + 1 then g 0 else g k) (i + 1)) (n + 1) := sumN_congr fun i hi => by
      simp only
      rw [if_neg (by omega)]
      by_cases h : i = n
      · subst h; rw [Nat.mod_self, if_pos rfl]
      · rw [Nat.mod_eq_of_lt (by omega), if_neg (by omega)]
    rw [this, sumN_tele]
    simp

/-- The sum over the edges of a closed path. -/
def esum {α : Type} (c : α → α → Int) (p : Nat → α) (n : Nat) : Int := sumN (fun i => c (p i) (p ((i + 1) % n))) n
/-- The opposite path. -/
def opp {α : Type} (p : Nat → α) (n : Nat) : Nat → α := fun i => p ((n - i) % n)
theorem opp_edge {α : Type} (p : Nat → α) {n i : Nat} (hi : i < n) : opp p n i = p ((n - 1 - i + 1) % n) ∧ opp p n ((i + 1) % n) = p (n - 1 - i) := by
  unfold opp
  constructor
  · congr 2; omega
  · by_cases h : i + 1 = n
    · rw [h, Nat.mod_self, Nat.sub_zero, Nat.mod_self]
      congr 1; omega
    · rw [Nat.mod_eq_of_lt (by omega : i + 1 < n), Nat.mod_eq_of_lt (by omega)]
      congr 1; omega
theorem esum_opp {α : Type} (c : α → α → Int) (p : Nat → α) (n : Nat) : esum c (opp p n) n = esum (fun a b => c b a) p n := by
  unfold esum
  rw [← sumN_rev (fun i => c (p ((i + 1) % n)) (p i)) n]
  exact sumN_congr fun i hi => by obtain ⟨h1, h2⟩ := opp_edge p hi; rw [h1, h2]
theorem esum_anti {α : Type} {c : α → α → Int} (hc : ∀ a b, c b a = - c a b) (p : Nat → α) (n : Nat) : esum c (opp p n) n = - esum c p n := by
  rw [esum_opp]
  unfold esum
  rw [← sumN_neg]
  exact sumN_congr fun i _ => hc _ _
/-- Some edge of the opposite path meets a symmetric condition as some edge of the path does. -/
theorem any_opp {α : Type} {P : α → α → Prop} (hP : ∀ a b, P a b → P b a) (p : Nat → α) (n : Nat) : (∃ i, i < n ∧ P (opp p n i) (opp p n ((i + 1) % n))) ↔ ∃ i, i < n ∧ P (p i) (p ((i + 1) % n)) := by
  constructor
  · rintro ⟨i, hi, h⟩
    obtain ⟨h1, h2⟩ := opp_edge p hi
    rw [h1, h2] at h
    exact ⟨n - 1 - i, by omega, hP _ _ h⟩
  · rintro ⟨i, hi, h⟩
    obtain ⟨h1, h2⟩ := opp_edge p (i := n - 1 - i) (n := n) (by omega)
    refine ⟨n - 1 - i, by omega, ?_⟩
    rw [h1, h2]
    have e : n - 1 - (n - 1 - i) = i := by omega
    rw [e]
    exact hP _ _ h

/-- The opposite list: the first position stays. -/
def revL {α : Type} : List α → List α
  | [] => []
  | x :: t => x :: t.reverse
theorem revL_length {α : Type} (l : List α) : (revL l).length = l.length := by cases l <;> simp [revL]
theorem revL_get {α : Type} (l : List α) (i : Nat) (hi : i < l.length) : (revL l)[i]? = l[(l.length - i) % l.length]? := by
  cases l with
  | nil => simp at hi
  | cons x t =>
    cases i with
    | zero => simp [revL]
    | succ i =>
      simp only [List.length_cons] at hi ⊢
      rw [Nat.mod_eq_of_lt (by omega)]
      have e : t.length + 1 - (i + 1) = (t.length - 1 - i) + 1 := by omega
      rw [e]
      simp only [revL, List.getElem?_cons_succ]
      rw [List.getElem?_reverse (by omega)]

/-- The side of p as seen along the way from a to b. -/
def side (a b p : V2) : Int := sg (crs (b.sub a) (p.sub a))
/-- What an edge adds to the winding number: the two rules. -/
def wA (v a b : V2) : Int := if a.y ≤ v.y ∧ ¬ b.y ≤ v.y ∧ 0 < side a b v then 1 else if ¬ a.y ≤ v.y ∧ b.y ≤ v.y ∧ side a b v < 0 then -1 else 0
def wB (v a b : V2) : Int := if v.y ≤ a.y ↔ v.y ≤ b.y then 0 else (if v.y ≤ b.y ∧ 0 < side a b v then 1 else 0) + (if v.y ≤ a.y ∧ side a b v < 0 then -1 else 0)
def mark (v p : V2) : Int := if p.y = v.y ∧ v.x < p.x then 1 else 0
theorem side_swap (a b v : V2) : side b a v = - side a b v := by
  have h : crs (a.sub b) (v.sub b) = - crs (b.sub a) (v.sub a) := by simp only [crs, V2.sub]; grind
  unfold side
  rw [h]
  unfold sg
  simp
theorem wA_anti (v a b : V2) : wA v b a = - wA v a b := by
  unfold wA
  rw [side_swap]
  generalize side a b v = s
  by_cases h1 : a.y ≤ v.y <;> by_cases h2 : b.y ≤ v.y <;> simp only [h1, h2, not_true_eq_false, not_false_eq_true, true_and, false_and, and_false, if_false, Int.neg_zero]
  · by_cases h3 : 0 < s
    · rw [if_pos h3, if_pos (by omega)]
    · rw [if_neg h3, if_neg (by omega)]; rfl
  · by_cases h3 : s < 0
    · rw [if_pos h3, if_pos (by omega)]; rfl
    · rw [if_neg h3, if_neg (by omega)]; rfl
theorem mul_pos_left {a b : Rat} (h : 0 < a) : 0 < a * b ↔ 0 < b := Rat.mul_pos_iff_of_pos_left h
theorem mul_neg_left {a b : Rat} (h : 0 < a) : a * b < 0 ↔ b < 0 := Rat.mul_neg_iff_of_pos_left h
/-- On a level with both ends: nothing lies between the marks but the edge. -/
theorem seg_level {a b v : V2} (ha : a.y = v.y) (hb : b.y = v.y) (h1 : v.x < a.x) (h2 : b.x ≤ v.x) : seg a b v = 0 := by
  have hc : crs (b.sub a) (v.sub a) = 0 := by simp only [crs, V2.sub, ha, hb]; grind
  have h3 : 0 ≤ (a.x - b.x) * (v.x - b.x) := Rat.mul_nonneg (by grind) (by grind)
  have h4 : 0 < (a.x - b.x) * (a.x - v.x) := Rat.mul_pos (by grind) (by grind)
  unfold seg
  rw [hc]
  have t0 : ¬ dot (b.sub a) (v.sub a) ≤ 0 := by
    rw [Rat.not_le]
    have : dot (b.sub a) (v.sub a) = (a.x - b.x) * (a.x - v.x) := by simp only [dot, V2.sub, ha, hb]; grind
    rw [this]; exact h4
  rw [if_neg t0]
  split
  · rename_i h5
    have e1 : dot (b.sub a) (b.sub a) - dot (b.sub a) (v.sub a) = (a.x - b.x) * (v.x - b.x) := by simp only [dot, V2.sub, ha, hb]; grind
    have e2 : (a.x - b.x) * (v.x - b.x) = 0 := Rat.le_antisymm (by rw [← e1]; grind) h3
    have e3 : v.x = b.x := by
      rcases Rat.mul_eq_zero.1 e2 with e | e
      · exfalso; grind
      · grind
    simp only [dot, V2.sub, e3, hb]
    grind
  · rw [Rat.mul_zero, Rat.div_def, Rat.zero_mul]
/-- The rules part by a difference, unless the point lies on the edge. -/
theorem wAB (v a b : V2) (h : seg a b v ≠ 0) : wA v a b - wB v a b = mark v a - mark v b := by
  have hs : side a b v = sg (crs (b.sub a) (v.sub a)) := rfl
  have hp : 0 < side a b v ↔ 0 < crs (b.sub a) (v.sub a) := by rw [hs]; exact sg_pos
  have hn : side a b v < 0 ↔ crs (b.sub a) (v.sub a) < 0 := by rw [hs]; exact sg_neg
  unfold wA wB mark
  simp only [hp, hn]
  have cb : b.y = v.y → crs (b.sub a) (v.sub a) = (v.y - a.y) * (b.x - v.x) := fun e => by simp only [crs, V2.sub, e]; grind
  have ca : a.y = v.y → crs (b.sub a) (v.sub a) = (b.y - v.y) * (a.x - v.x) := fun e => by simp only [crs, V2.sub, e]; grind
  have na : a.y = v.y → b.y < v.y → crs (b.sub a) (v.sub a) = (v.y - b.y) * (v.x - a.x) := fun e _ => by rw [ca e]; grind
  have nb : b.y = v.y → v.y < a.y → crs (b.sub a) (v.sub a) = (a.y - v.y) * (v.x - b.x) := fun e _ => by rw [cb e]; grind
  rcases Rat.le_total (a := a.y) (b := v.y) with h1 | h1 <;> rcases Rat.le_total (a := b.y) (b := v.y) with h2 | h2
  · by_cases e1 : a.y = v.y <;> by_cases e2 : b.y = v.y
    · by_cases m1 : v.x < a.x <;> by_cases m2 : v.x < b.x
      · grind
      · exact absurd (seg_level e1 e2 m1 (by grind)) h
      · exact absurd (by rw [seg_symm]; exact seg_level e2 e1 m2 (by grind)) h
      · grind
    · have k := na e1 (by grind)
      have k2 : crs (b.sub a) (v.sub a) < 0 ↔ v.x < a.x := by rw [k, mul_neg_left (by grind)]; grind
      generalize crs (b.sub a) (v.sub a) = c at *
      clear ca cb na nb k hp hn hs h
      grind
    · have k := cb e2
      have k2 : 0 < crs (b.sub a) (v.sub a) ↔ v.x < b.x := by rw [k, mul_pos_left (by grind)]; grind
      generalize crs (b.sub a) (v.sub a) = c at *
      clear ca cb na nb k hp hn hs h
      grind
    · clear ca cb na nb hp hn hs h
      grind
  · by_cases e1 : a.y = v.y <;> by_cases e2 : b.y = v.y
    · by_cases m1 : v.x < a.x <;> by_cases m2 : v.x < b.x
      · grind
      · exact absurd (seg_level e1 e2 m1 (by grind)) h
      · exact absurd (by rw [seg_symm]; exact seg_level e2 e1 m2 (by grind)) h
      · grind
    · have k := ca e1
      have k2 : 0 < crs (b.sub a) (v.sub a) ↔ v.x < a.x := by rw [k, mul_pos_left (by grind)]; grind
      generalize crs (b.sub a) (v.sub a) = c at *
      clear ca cb na nb k hp hn hs h
      grind
    · have k := cb e2
      have k2 : 0 < crs (b.sub a) (v.sub a) ↔ v.x < b.x := by rw [k, mul_pos_left (by grind)]; grind
      generalize crs (b.sub a) (v.sub a) = c at *
      clear ca cb na nb k hp hn hs h
      grind
    · generalize crs (b.sub a) (v.sub a) = c at *
      clear ca cb na nb hp hn hs h
      grind
  · by_cases e1 : a.y = v.y <;> by_cases e2 : b.y = v.y
    · by_cases m1 : v.x < a.x <;> by_cases m2 : v.x < b.x
      · grind
      · exact absurd (seg_level e1 e2 m1 (by grind)) h
      · exact absurd (by rw [seg_symm]; exact seg_level e2 e1 m2 (by grind)) h
      · grind
    · have k := na e1 (by grind)
      have k2 : crs (b.sub a) (v.sub a) < 0 ↔ v.x < a.x := by rw [k, mul_neg_left (by grind)]; grind
      generalize crs (b.sub a) (v.sub a) = c at *
      clear ca cb na nb k hp hn hs h
      grind
    · have k := nb e2 (by grind)
      have k2 : crs (b.sub a) (v.sub a) < 0 ↔ v.x < b.x := by rw [k, mul_neg_left (by grind)]; grind
      generalize crs (b.sub a) (v.sub a) = c at *
      clear ca cb na nb k hp hn hs h
      grind
    · generalize crs (b.sub a) (v.sub a) = c at *
      clear ca cb na nb hp hn hs h
      grind
  · by_cases e1 : a.y = v.y <;> by_cases e2 : b.y = v.y
    · by_cases m1 : v.x < a.x <;> by_cases m2 : v.x < b.x
      · grind
      · exact absurd (seg_level e1 e2 m1 (by grind)) h
      · exact absurd (by rw [seg_symm]; exact seg_level e2 e1 m2 (by grind)) h
      · grind
    · have k := ca e1
      have k2 : 0 < crs (b.sub a) (v.sub a) ↔ v.x < a.x := by rw [k, mul_pos_left (by grind)]; grind
      generalize crs (b.sub a) (v.sub a) = c at *
      clear ca cb na nb k hp hn hs h
      grind
    · have k := nb e2 (by grind)
      have k2 : crs (b.sub a) (v.sub a) < 0 ↔ v.x < b.x := by rw [k, mul_neg_left (by grind)]; grind
      generalize crs (b.sub a) (v.sub a) = c at *
      clear ca cb na nb k hp hn hs h
      grind
    · clear ca cb na nb hp hn hs h
      grind
/-- The two winding numbers are equal, where no edge bears the point. -/
theorem wind_eq (v : V2) (p : Nat → V2) (n : Nat) (h : ∀ i, i < n → seg (p i) (p ((i + 1) % n)) v ≠ 0) : esum (wA v) p n = esum (wB v) p n := by
  have e : sumN (fun i => wA v (p i) (p ((i + 1) % n)) - wB v (p i) (p ((i + 1) % n))) n = sumN (fun i => mark v (p i) - mark v (p ((i + 1) % n))) n := sumN_congr fun i hi => wAB v _ _ (h i hi)
  rw [sumN_sub, sumN_cycle (fun i => mark v (p i)) n] at e
  unfold esum
  omega
end Rt
end Go.Proofs.YtlkhkldgmlfhkaaGreat

namespace Go.Proofs.YtlkhkldgmlfhkaaGreat
namespace Rt

/-- A position of a path as a point. -/
def pt (l : List (Int × Int)) (k : Nat) : V2 := ⟨(((l.getD k (0, 0)).1 : Int) : Rat), (((l.getD k (0, 0)).2 : Int) : Rat)⟩
def nxt (l : List (Int × Int)) (k : Nat) : Nat := (k + 1) % l.length
def onE (l : List (Int × Int)) (v : V2) (k : Nat) : Prop := seg (pt l k) (pt l (nxt l k)) v = 0
instance (l : List (Int × Int)) (v : V2) (k : Nat) : Decidable (onE l v k) := by unfold onE; infer_instance
/-- The count over the first k edges; none: the point lies on one. -/
def wgo (l : List (Int × Int)) (v : V2) : Nat → Option Int
  | 0 => some 0
  | k + 1 => (wgo l v k).bind fun w => if onE l v k then none else some (w + wA v (pt l k) (pt l (nxt l k)))
def windN (l : List (Int × Int)) (v : V2) : Int := if l = [] then 0 else (wgo l v l.length).getD 0
def windE (l : List (Int × Int)) (v : V2) : Int := if l = [] then 1 else if (wgo l v l.length).isNone then 1 else 0
theorem wgo_none {l : List (Int × Int)} {v : V2} : ∀ {k n : Nat}, k ≤ n → wgo l v k = none → wgo l v n = none
  | k, 0, h, e => by
    obtain rfl : k = 0 := by omega
    exact e
  | k, n + 1, h, e => by
    rcases Nat.lt_or_ge k (n + 1) with h' | h'
    · unfold wgo
      rw [wgo_none (by omega : k ≤ n) e]
      rfl
    · obtain rfl : k = n + 1 := by omega
      exact e
theorem wgo_bound {l : List (Int × Int)} {v : V2} : ∀ {k : Nat} {w : Int}, wgo l v k = some w → -(k : Int) ≤ w ∧ w ≤ (k : Int)
  | 0, w, h => by simp [wgo] at h; omega
  | k + 1, w, h => by
    unfold wgo at h
    cases hk : wgo l v k with
    | none => rw [hk] at h; cases h
    | some u =>
      rw [hk] at h
      simp only [Option.bind_some] at h
      have := wgo_bound hk
      split at h
      · cases h
      · simp only [Option.some.injEq] at h
        subst h
        have : wA v (pt l k) (pt l (nxt l k)) = 1 ∨ wA v (pt l k) (pt l (nxt l k)) = -1 ∨ wA v (pt l k) (pt l (nxt l k)) = 0 := by
          unfold wA
          split
          · simp
          · split <;> simp
        omega
/-- Does one of the first k edges come within R? -/
def edB (l : List (Int × Int)) (v : V2) (R : Rat) : Nat → Bool
  | 0 => false
  | k + 1 => edB l v R k || decide (seg (pt l k) (pt l (nxt l k)) v ≤ R)
theorem edB_true {l : List (Int × Int)} {v : V2} {R : Rat} : ∀ {k n : Nat}, k ≤ n → edB l v R k = true → edB l v R n = true
  | k, 0, h, e => by
    obtain rfl : k = 0 := by omega
    exact e
  | k, n + 1, h, e => by
    rcases Nat.lt_or_ge k (n + 1) with h' | h'
    · unfold edB
      rw [edB_true (by omega : k ≤ n) e]
      rfl
    · obtain rfl : k = n + 1 := by omega
      exact e
def cvB (ps : List (List (Int × Int))) (v : V2) (R : Rat) : Nat → Bool
  | 0 => false
  | j + 1 => cvB ps v R j || edB (ps.getD j []) v R (ps.getD j []).length
theorem cvB_true {ps : List (List (Int × Int))} {v : V2} {R : Rat} : ∀ {k n : Nat}, k ≤ n → cvB ps v R k = true → cvB ps v R n = true
  | k, 0, h, e => by
    obtain rfl : k = 0 := by omega
    exact e
  | k, n + 1, h, e => by
    rcases Nat.lt_or_ge k (n + 1) with h' | h'
    · unfold cvB
      rw [cvB_true (by omega : k ≤ n) e]
      rfl
    · obtain rfl : k = n + 1 := by omega
      exact e
def covB (ps : List (List (Int × Int))) (r : Int) (v : V2) : Bool := bif decide (r < 0) then false else cvB ps v ((r : Rat) * (r : Rat)) ps.length
/-- What is asked of a path: numbers of 64 bits, not too many. -/
def okp (l : List (Int × Int)) : Prop := (∀ k, (-9223372036854775808 ≤ (l.getD k (0, 0)).1 ∧ (l.getD k (0, 0)).1 ≤ 9223372036854775807) ∧ -9223372036854775808 ≤ (l.getD k (0, 0)).2 ∧ (l.getD k (0, 0)).2 ≤ 9223372036854775807) ∧ l.length ≤ 1000000000
end Rt
end Go.Proofs.YtlkhkldgmlfhkaaGreat

namespace Go.Proofs.YtlkhkldgmlfhkaaGreat
open Go.RowKit
namespace Vc
theorem szR_int {n : Int} (h : -9223372036854775808 ≤ n ∧ n ≤ 9223372036854775807) : szR (n : Rat) ≤ 3 := by
  unfold szR
  have h1 := szI_i64 h.1 h.2
  have h2 := szI_one
  simp only [Rat.num_intCast, Rat.den_intCast]
  have : szI ((1 : Nat) : Int) = szI 1 := rfl
  omega
theorem nxt_int (l : List (Int × Int)) (k : Nat) : ((((k : Int) + 1) % (l.length : Int))).toNat = Rt.nxt l k := by
  unfold Rt.nxt
  have : ((k : Int) + 1) % (l.length : Int) = (((k + 1) % l.length : Nat) : Int) := by simp
  rw [this, Int.toNat_natCast]
theorem wcond1 (a1 a2 b1 b2 v1 v2 : Rat) : (bif bif decide (Rt.sg (a2 - v2) ≤ 0) then !decide (Rt.sg (b2 - v2) ≤ 0) else false then decide (Rt.sg ((b1 - a1) * (v2 - a2) - (b2 - a2) * (v1 - a1)) > 0) else false) = decide (a2 ≤ v2 ∧ ¬ b2 ≤ v2 ∧ 0 < Rt.side ⟨a1, a2⟩ ⟨b1, b2⟩ ⟨v1, v2⟩) := by
  have e : Rt.side ⟨a1, a2⟩ ⟨b1, b2⟩ ⟨v1, v2⟩ = Rt.sg ((b1 - a1) * (v2 - a2) - (b2 - a2) * (v1 - a1)) := rfl
  rw [e]
  generalize Rt.sg ((b1 - a1) * (v2 - a2) - (b2 - a2) * (v1 - a1)) = s
  have h1 := @Rt.sub_sg_le a2 v2
  have h2 := @Rt.sub_sg_le b2 v2
  by_cases k1 : a2 ≤ v2 <;> by_cases k2 : b2 ≤ v2 <;> simp [h1, h2, k1, k2]
theorem wcond2 (a1 a2 b1 b2 v1 v2 : Rat) : (bif bif !decide (Rt.sg (a2 - v2) ≤ 0) then decide (Rt.sg (b2 - v2) ≤ 0) else false then decide (Rt.sg ((b1 - a1) * (v2 - a2) - (b2 - a2) * (v1 - a1)) < 0) else false) = decide (¬ a2 ≤ v2 ∧ b2 ≤ v2 ∧ Rt.side ⟨a1, a2⟩ ⟨b1, b2⟩ ⟨v1, v2⟩ < 0) := by
  have e : Rt.side ⟨a1, a2⟩ ⟨b1, b2⟩ ⟨v1, v2⟩ = Rt.sg ((b1 - a1) * (v2 - a2) - (b2 - a2) * (v1 - a1)) := rfl
  rw [e]
  generalize Rt.sg ((b1 - a1) * (v2 - a2) - (b2 - a2) * (v1 - a1)) = s
  have h1 := @Rt.sub_sg_le a2 v2
  have h2 := @Rt.sub_sg_le b2 v2
  by_cases k1 : a2 ≤ v2 <;> by_cases k2 : b2 ≤ v2 <;> simp [h1, h2, k1, k2]
def cCwind : Ctr := ⟨11, fun | [.c (.pt (l)), .g [.R (v1), .R (v2)]] => .yes (Rt.okp l ∧ szR v1 ≤ 90 ∧ szR v2 ≤ 90) (.t [.c (.v (.int .i64 ((Rt.windN l ⟨v1, v2⟩)))), .c (.v (.int .i64 ((Rt.windE l ⟨v1, v2⟩))))]) | _ => .no⟩
set_option maxHeartbeats 4000000 in
theorem cCwind_owes (l : List (Int × Int)) (v1 v2 : Rat) (hp : Rt.okp l ∧ szR v1 ≤ 90 ∧ szR v2 ≤ 90) : owes LT CT17 [.inv 5 (Nat × Int) (fun ξ => ⟨[.k (.c (.pt (l))), .u, .u, .k (.c (.bx 0 0)), .u, .u, .k (.c (.v (.int .i64 (ξ.2)))), .u, .u, .u, .u, .u, .u, .u, .u, .u, .u, .k (.c (.pt (l))), .k (.c (.v (.int .i64 (((l).length : Int))))), .k (.c (.v (.int .i64 ((ξ.1 : Int))))), .u, .u, .u, .u, .u, .u, .u, .u, .u, .u, .u, .u, .u, .u, .u, .u, .u, .u, .u, .u, .u, .u, .u, .u, .u, .u, .u, .u, .u, .u, .u, .u, .u, .u, .u, .u, .u, .u, .u, .u, .u, .u, .u, .u, .u, .u, .u, .u, .u, .u, .u, .u, .u, .u, .u, .u, .u, .u, .u, .u, .u, .u, .u, .u, .u, .u, .u, .u, .u, .u, .u, .u, .u, .u, .u, .u, .u, .u, .u, .u, .u, .u, .u, .u], [⟨29, [.R (v1), .R (v2)]⟩]⟩) (fun _ ξ => (ξ.1 ≤ l.length ∧ Rt.wgo l ⟨v1, v2⟩ ξ.1 = some ξ.2)) (fun ξ => l.length - ξ.1)] Tryz.f11 (Tryz.f11.body.getD .skip) [.c (.pt (l)), .g [.R (v1), .R (v2)]] (.t [.c (.v (.int .i64 ((Rt.windN l ⟨v1, v2⟩)))), .c (.v (.int .i64 ((Rt.windE l ⟨v1, v2⟩))))]) := by
  refine Eq.mp (show ((((((l).length : Int)) == ((0 : Int))) = true → ((Value.int .i64 ((0 : Int)) = (.int .i64 ((Rt.windN l ⟨v1, v2⟩)))) ∧ ((Value.int .i64 ((1 : Int)) = (.int .i64 ((Rt.windE l ⟨v1, v2⟩)))) ∧ (True)))) ∧ (((((l).length : Int)) == ((0 : Int))) = false → ((∃ x1 : Nat × Int, (((x1.1 ≤ l.length ∧ Rt.wgo l ⟨v1, v2⟩ x1.1 = some x1.2)) ∧ (((l = l) ∧ ((True) ∧ ((Value.int .i64 ((0 : Int)) = (.int .i64 (x1.2))) ∧ ((l = l) ∧ ((Value.int .i64 (((l).length : Int)) = (.int .i64 (((l).length : Int)))) ∧ ((Value.int .i64 ((0 : Int)) = (.int .i64 ((x1.1 : Int)))) ∧ (True))))))) ∧ (((v1 = v1) ∧ ((v2 = v2) ∧ (True))) ∧ (True))))) ∧ (∀ x1 : Nat × Int, ((x1.1 ≤ l.length ∧ Rt.wgo l ⟨v1, v2⟩ x1.1 = some x1.2) → (((decide (((x1.1 : Int)) < (((l).length : Int)))) = true → ((0 ≤ (x1.1 : Int) ∧ (x1.1 : Int) < ((l).length : Int)) ∧ (((-9223372036854775808 ≤ (((l).getD ((x1.1 : Int)).toNat (0, 0)).1) ∧ (((l).getD ((x1.1 : Int)).toNat (0, 0)).1) ≤ 9223372036854775807) ∧ -9223372036854775808 ≤ (((l).getD ((x1.1 : Int)).toNat (0, 0)).2) ∧ (((l).getD ((x1.1 : Int)).toNat (0, 0)).2) ≤ 9223372036854775807) ∧ ((inR .i64 (((x1.1 : Int)) + ((1 : Int)))) ∧ ((0 ≤ ((x1.1 : Int)) + ((1 : Int)) ∧ 0 < ((l).length : Int)) ∧ ((0 ≤ (((x1.1 : Int)) + ((1 : Int))) % (((l).length : Int)) ∧ (((x1.1 : Int)) + ((1 : Int))) % (((l).length : Int)) < ((l).length : Int)) ∧ (((-9223372036854775808 ≤ (((l).getD ((((x1.1 : Int)) + ((1 : Int))) % (((l).length : Int))).toNat (0, 0)).1) ∧ (((l).getD ((((x1.1 : Int)) + ((1 : Int))) % (((l).length : Int))).toNat (0, 0)).1) ≤ 9223372036854775807) ∧ -9223372036854775808 ≤ (((l).getD ((((x1.1 : Int)) + ((1 : Int))) % (((l).length : Int))).toNat (0, 0)).2) ∧ (((l).getD ((((x1.1 : Int)) + ((1 : Int))) % (((l).length : Int))).toNat (0, 0)).2) ≤ 9223372036854775807) ∧ ((((v1) = (v1) ∧ (v2) = (v2)) ∧ szR (((((l).getD ((x1.1 : Int)).toNat (0, 0)).1 : Int) : Rat)) ≤ 100 ∧ szR (((((l).getD ((x1.1 : Int)).toNat (0, 0)).2 : Int) : Rat)) ≤ 100 ∧ szR (((((l).getD ((((x1.1 : Int)) + ((1 : Int))) % (((l).length : Int))).toNat (0, 0)).1 : Int) : Rat)) ≤ 100 ∧ szR (((((l).getD ((((x1.1 : Int)) + ((1 : Int))) % (((l).length : Int))).toNat (0, 0)).2 : Int) : Rat)) ≤ 100 ∧ szR (v1) ≤ 100 ∧ szR (v2) ≤ 100 ∧ szR (v1) ≤ 100 ∧ szR (v2) ≤ 100) ∧ ((True) ∧ (((((Rt.sg ((Rt.seg ⟨(((((l).getD ((x1.1 : Int)).toNat (0, 0)).1 : Int) : Rat)), (((((l).getD ((x1.1 : Int)).toNat (0, 0)).2 : Int) : Rat))⟩ ⟨(((((l).getD ((((x1.1 : Int)) + ((1 : Int))) % (((l).length : Int))).toNat (0, 0)).1 : Int) : Rat)), (((((l).getD ((((x1.1 : Int)) + ((1 : Int))) % (((l).length : Int))).toNat (0, 0)).2 : Int) : Rat))⟩ ⟨(v1), (v2)⟩)))) == ((0 : Int))) = true → ((Value.int .i64 ((0 : Int)) = (.int .i64 ((Rt.windN l ⟨v1, v2⟩)))) ∧ ((Value.int .i64 ((1 : Int)) = (.int .i64 ((Rt.windE l ⟨v1, v2⟩)))) ∧ (True)))) ∧ ((((Rt.sg ((Rt.seg ⟨(((((l).getD ((x1.1 : Int)).toNat (0, 0)).1 : Int) : Rat)), (((((l).getD ((x1.1 : Int)).toNat (0, 0)).2 : Int) : Rat))⟩ ⟨(((((l).getD ((((x1.1 : Int)) + ((1 : Int))) % (((l).length : Int))).toNat (0, 0)).1 : Int) : Rat)), (((((l).getD ((((x1.1 : Int)) + ((1 : Int))) % (((l).length : Int))).toNat (0, 0)).2 : Int) : Rat))⟩ ⟨(v1), (v2)⟩)))) == ((0 : Int))) = false → ((szR (((((l).getD ((((x1.1 : Int)) + ((1 : Int))) % (((l).length : Int))).toNat (0, 0)).1 : Int) : Rat)) ≤ 1000000 ∧ szR (((((l).getD ((x1.1 : Int)).toNat (0, 0)).1 : Int) : Rat)) ≤ 1000000) ∧ ((szR (((((l).getD ((((x1.1 : Int)) + ((1 : Int))) % (((l).length : Int))).toNat (0, 0)).2 : Int) : Rat)) ≤ 1000000 ∧ szR (((((l).getD ((x1.1 : Int)).toNat (0, 0)).2 : Int) : Rat)) ≤ 1000000) ∧ ((szR (v1) ≤ 1000000 ∧ szR (((((l).getD ((x1.1 : Int)).toNat (0, 0)).1 : Int) : Rat)) ≤ 1000000) ∧ ((szR (v2) ≤ 1000000 ∧ szR (((((l).getD ((x1.1 : Int)).toNat (0, 0)).2 : Int) : Rat)) ≤ 1000000) ∧ ((szR (((((((l).getD ((((x1.1 : Int)) + ((1 : Int))) % (((l).length : Int))).toNat (0, 0)).1 : Int) : Rat)) - (((((l).getD ((x1.1 : Int)).toNat (0, 0)).1 : Int) : Rat)))) ≤ 100000 ∧ szR (((((((l).getD ((((x1.1 : Int)) + ((1 : Int))) % (((l).length : Int))).toNat (0, 0)).2 : Int) : Rat)) - (((((l).getD ((x1.1 : Int)).toNat (0, 0)).2 : Int) : Rat)))) ≤ 100000 ∧ szR (((v1) - (((((l).getD ((x1.1 : Int)).toNat (0, 0)).1 : Int) : Rat)))) ≤ 100000 ∧ szR (((v2) - (((((l).getD ((x1.1 : Int)).toNat (0, 0)).2 : Int) : Rat)))) ≤ 100000) ∧ ((True) ∧ ((szR (((((l).getD ((x1.1 : Int)).toNat (0, 0)).2 : Int) : Rat)) ≤ 1000000 ∧ szR (v2) ≤ 1000000) ∧ ((szR (((((l).getD ((((x1.1 : Int)) + ((1 : Int))) % (((l).length : Int))).toNat (0, 0)).2 : Int) : Rat)) ≤ 1000000 ∧ szR (v2) ≤ 1000000) ∧ (((bif (bif (decide (((Rt.sg ((((((l).getD ((x1.1 : Int)).toNat (0, 0)).2 : Int) : Rat)) - (v2)))) ≤ ((0 : Int)))) then (!(decide (((Rt.sg ((((((l).getD ((((x1.1 : Int)) + ((1 : Int))) % (((l).length : Int))).toNat (0, 0)).2 : Int) : Rat)) - (v2)))) ≤ ((0 : Int))))) else (false)) then (decide (((Rt.sg (((((((((l).getD ((((x1.1 : Int)) + ((1 : Int))) % (((l).length : Int))).toNat (0, 0)).1 : Int) : Rat)) - (((((l).getD ((x1.1 : Int)).toNat (0, 0)).1 : Int) : Rat)))) * (((v2) - (((((l).getD ((x1.1 : Int)).toNat (0, 0)).2 : Int) : Rat)))) - (((((((l).getD ((((x1.1 : Int)) + ((1 : Int))) % (((l).length : Int))).toNat (0, 0)).2 : Int) : Rat)) - (((((l).getD ((x1.1 : Int)).toNat (0, 0)).2 : Int) : Rat)))) * (((v1) - (((((l).getD ((x1.1 : Int)).toNat (0, 0)).1 : Int) : Rat)))))))) > ((0 : Int)))) else (false)) = true → ((inR .i64 ((x1.2) + ((1 : Int)))) ∧ ((inR .i64 (((x1.1 : Int)) + ((1 : Int)))) ∧ (∃ y1 : Nat × Int, (((y1.1 ≤ l.length ∧ Rt.wgo l ⟨v1, v2⟩ y1.1 = some y1.2)) ∧ ((l.length - y1.1 < l.length - x1.1) ∧ (((l = l) ∧ ((True) ∧ ((Value.int .i64 ((x1.2) + ((1 : Int))) = (.int .i64 (y1.2))) ∧ ((l = l) ∧ ((Value.int .i64 (((l).length : Int)) = (.int .i64 (((l).length : Int)))) ∧ ((Value.int .i64 (((x1.1 : Int)) + ((1 : Int))) = (.int .i64 ((y1.1 : Int)))) ∧ (True))))))) ∧ (((v1 = v1) ∧ ((v2 = v2) ∧ (True))) ∧ (True))))))))) ∧ ((bif (bif (decide (((Rt.sg ((((((l).getD ((x1.1 : Int)).toNat (0, 0)).2 : Int) : Rat)) - (v2)))) ≤ ((0 : Int)))) then (!(decide (((Rt.sg ((((((l).getD ((((x1.1 : Int)) + ((1 : Int))) % (((l).length : Int))).toNat (0, 0)).2 : Int) : Rat)) - (v2)))) ≤ ((0 : Int))))) else (false)) then (decide (((Rt.sg (((((((((l).getD ((((x1.1 : Int)) + ((1 : Int))) % (((l).length : Int))).toNat (0, 0)).1 : Int) : Rat)) - (((((l).getD ((x1.1 : Int)).toNat (0, 0)).1 : Int) : Rat)))) * (((v2) - (((((l).getD ((x1.1 : Int)).toNat (0, 0)).2 : Int) : Rat)))) - (((((((l).getD ((((x1.1 : Int)) + ((1 : Int))) % (((l).length : Int))).toNat (0, 0)).2 : Int) : Rat)) - (((((l).getD ((x1.1 : Int)).toNat (0, 0)).2 : Int) : Rat)))) * (((v1) - (((((l).getD ((x1.1 : Int)).toNat (0, 0)).1 : Int) : Rat)))))))) > ((0 : Int)))) else (false)) = false → (((bif (bif (!(decide (((Rt.sg ((((((l).getD ((x1.1 : Int)).toNat (0, 0)).2 : Int) : Rat)) - (v2)))) ≤ ((0 : Int))))) then (decide (((Rt.sg ((((((l).getD ((((x1.1 : Int)) + ((1 : Int))) % (((l).length : Int))).toNat (0, 0)).2 : Int) : Rat)) - (v2)))) ≤ ((0 : Int)))) else (false)) then (decide (((Rt.sg (((((((((l).getD ((((x1.1 : Int)) + ((1 : Int))) % (((l).length : Int))).toNat (0, 0)).1 : Int) : Rat)) - (((((l).getD ((x1.1 : Int)).toNat (0, 0)).1 : Int) : Rat)))) * (((v2) - (((((l).getD ((x1.1 : Int)).toNat (0, 0)).2 : Int) : Rat)))) - (((((((l).getD ((((x1.1 : Int)) + ((1 : Int))) % (((l).length : Int))).toNat (0, 0)).2 : Int) : Rat)) - (((((l).getD ((x1.1 : Int)).toNat (0, 0)).2 : Int) : Rat)))) * (((v1) - (((((l).getD ((x1.1 : Int)).toNat (0, 0)).1 : Int) : Rat)))))))) < ((0 : Int)))) else (false)) = true → ((inR .i64 ((x1.2) - ((1 : Int)))) ∧ ((inR .i64 (((x1.1 : Int)) + ((1 : Int)))) ∧ (∃ y1 : Nat × Int, (((y1.1 ≤ l.length ∧ Rt.wgo l ⟨v1, v2⟩ y1.1 = some y1.2)) ∧ ((l.length - y1.1 < l.length - x1.1) ∧ (((l = l) ∧ ((True) ∧ ((Value.int .i64 ((x1.2) - ((1 : Int))) = (.int .i64 (y1.2))) ∧ ((l = l) ∧ ((Value.int .i64 (((l).length : Int)) = (.int .i64 (((l).length : Int)))) ∧ ((Value.int .i64 (((x1.1 : Int)) + ((1 : Int))) = (.int .i64 ((y1.1 : Int)))) ∧ (True))))))) ∧ (((v1 = v1) ∧ ((v2 = v2) ∧ (True))) ∧ (True))))))))) ∧ ((bif (bif (!(decide (((Rt.sg ((((((l).getD ((x1.1 : Int)).toNat (0, 0)).2 : Int) : Rat)) - (v2)))) ≤ ((0 : Int))))) then (decide (((Rt.sg ((((((l).getD ((((x1.1 : Int)) + ((1 : Int))) % (((l).length : Int))).toNat (0, 0)).2 : Int) : Rat)) - (v2)))) ≤ ((0 : Int)))) else (false)) then (decide (((Rt.sg (((((((((l).getD ((((x1.1 : Int)) + ((1 : Int))) % (((l).length : Int))).toNat (0, 0)).1 : Int) : Rat)) - (((((l).getD ((x1.1 : Int)).toNat (0, 0)).1 : Int) : Rat)))) * (((v2) - (((((l).getD ((x1.1 : Int)).toNat (0, 0)).2 : Int) : Rat)))) - (((((((l).getD ((((x1.1 : Int)) + ((1 : Int))) % (((l).length : Int))).toNat (0, 0)).2 : Int) : Rat)) - (((((l).getD ((x1.1 : Int)).toNat (0, 0)).2 : Int) : Rat)))) * (((v1) - (((((l).getD ((x1.1 : Int)).toNat (0, 0)).1 : Int) : Rat)))))))) < ((0 : Int)))) else (false)) = false → ((inR .i64 (((x1.1 : Int)) + ((1 : Int)))) ∧ (∃ y1 : Nat × Int, (((y1.1 ≤ l.length ∧ Rt.wgo l ⟨v1, v2⟩ y1.1 = some y1.2)) ∧ ((l.length - y1.1 < l.length - x1.1) ∧ (((l = l) ∧ ((True) ∧ ((Value.int .i64 (x1.2) = (.int .i64 (y1.2))) ∧ ((l = l) ∧ ((Value.int .i64 (((l).length : Int)) = (.int .i64 (((l).length : Int)))) ∧ ((Value.int .i64 (((x1.1 : Int)) + ((1 : Int))) = (.int .i64 ((y1.1 : Int)))) ∧ (True))))))) ∧ (((v1 = v1) ∧ ((v2 = v2) ∧ (True))) ∧ (True)))))))))))))))))))))))))))))) ∧ ((decide (((x1.1 : Int)) < (((l).length : Int)))) = false → ((Value.int .i64 (x1.2) = (.int .i64 ((Rt.windN l ⟨v1, v2⟩)))) ∧ ((Value.int .i64 ((0 : Int)) = (.int .i64 ((Rt.windE l ⟨v1, v2⟩)))) ∧ (True)))))))))) = owes LT CT17 [.inv 5 (Nat × Int) (fun ξ => ⟨[.k (.c (.pt (l))), .u, .u, .k (.c (.bx 0 0)), .u, .u, .k (.c (.v (.int .i64 (ξ.2)))), .u, .u, .u, .u, .u, .u, .u, .u, .u, .u, .k (.c (.pt (l))), .k (.c (.v (.int .i64 (((l).length : Int))))), .k (.c (.v (.int .i64 ((ξ.1 : Int))))), .u, .u, .u, .u, .u, .u, .u, .u, .u, .u, .u, .u, .u, .u, .u, .u, .u, .u, .u, .u, .u, .u, .u, .u, .u, .u, .u, .u, .u, .u, .u, .u, .u, .u, .u, .u, .u, .u, .u, .u, .u, .u, .u, .u, .u, .u, .u, .u, .u, .u, .u, .u, .u, .u, .u, .u, .u, .u, .u, .u, .u, .u, .u, .u, .u, .u, .u, .u, .u, .u, .u, .u, .u, .u, .u, .u, .u, .u, .u, .u, .u, .u, .u, .u], [⟨29, [.R (v1), .R (v2)]⟩]⟩) (fun _ ξ => (ξ.1 ≤ l.length ∧ Rt.wgo l ⟨v1, v2⟩ ξ.1 = some ξ.2)) (fun ξ => l.length - ξ.1)] Tryz.f11 (Tryz.f11.body.getD .skip) [.c (.pt (l)), .g [.R (v1), .R (v2)]] (.t [.c (.v (.int .i64 ((Rt.windN l ⟨v1, v2⟩)))), .c (.v (.int .i64 ((Rt.windE l ⟨v1, v2⟩))))]) by kernel_rfl) ?_
  obtain ⟨⟨hl, hn⟩, hv1, hv2⟩ := hp
  refine ⟨fun h => ?_, fun h => ⟨⟨(0, 0), ⟨Nat.zero_le _, rfl⟩, by simp, by simp, trivial⟩, ?_⟩⟩
  · have : l = [] := by simpa using h
    subst this
    simp [Rt.windN, Rt.windE]
  rintro ⟨k, w⟩ ⟨hk, hw⟩
  have hne : l ≠ [] := by
    intro e
    subst e
    simp at h
  simp only [Int.toNat_natCast, nxt_int] at *
  have hb := Rt.wgo_bound hw
  refine ⟨fun hlt => ?_, fun hlt => ?_⟩
  · have hkl : k < l.length := by simpa using hlt
    have A := hl k
    have B := hl (Rt.nxt l k)
    have sa1 := szR_int A.1
    have sa2 := szR_int A.2
    have sb1 := szR_int B.1
    have sb2 := szR_int B.2
    have hs : Rt.wgo l ⟨v1, v2⟩ (k + 1) = if Rt.onE l ⟨v1, v2⟩ k then none else some (w + Rt.wA ⟨v1, v2⟩ (Rt.pt l k) (Rt.pt l (Rt.nxt l k))) := by
      unfold Rt.wgo
      rw [hw]
      rfl
    refine ⟨⟨by omega, by omega⟩, A, by simp only [inR]; omega, ⟨by omega, by omega⟩, ⟨Int.emod_nonneg _ (by omega), Int.emod_lt_of_pos _ (by omega)⟩, B, by ((repeat' first | apply And.intro | (intro _)) <;> first | trivial | rfl | (first | omega | (apply Nat.le_trans; (focus (repeat' first | assumption | apply szR_sub_le | apply szR_add_le | apply szR_mul_le)); omega)) | skip), trivial, fun he => ?_, fun he => ?_⟩
    · have hon : Rt.onE l ⟨v1, v2⟩ k := Rt.sg_zero.1 (beq_iff_eq.1 he)
      rw [if_pos hon] at hs
      have := Rt.wgo_none (n := l.length) hkl hs
      simp [Rt.windN, Rt.windE, hne, this]
    · have hon : ¬ Rt.onE l ⟨v1, v2⟩ k := fun e => absurd ((beq_iff_eq.2 (Rt.sg_zero.2 e)).symm.trans he) (by decide)
      rw [if_neg hon] at hs
      refine ⟨by ((repeat' first | apply And.intro | (intro _)) <;> first | trivial | rfl | (first | omega | (apply Nat.le_trans; (focus (repeat' first | assumption | apply szR_sub_le | apply szR_add_le | apply szR_mul_le)); omega)) | skip), by ((repeat' first | apply And.intro | (intro _)) <;> first | trivial | rfl | (first | omega | (apply Nat.le_trans; (focus (repeat' first | assumption | apply szR_sub_le | apply szR_add_le | apply szR_mul_le)); omega)) | skip), by ((repeat' first | apply And.intro | (intro _)) <;> first | trivial | rfl | (first | omega | (apply Nat.le_trans; (focus (repeat' first | assumption | apply szR_sub_le | apply szR_add_le | apply szR_mul_le)); omega)) | skip), by ((repeat' first | apply And.intro | (intro _)) <;> first | trivial | rfl | (first | omega | (apply Nat.le_trans; (focus (repeat' first | assumption | apply szR_sub_le | apply szR_add_le | apply szR_mul_le)); omega)) | skip), by ((repeat' first | apply And.intro | (intro _)) <;> first | trivial | rfl | (first | omega | (apply Nat.le_trans; (focus (repeat' first | assumption | apply szR_sub_le | apply szR_add_le | apply szR_mul_le)); omega)) | skip), trivial, by ((repeat' first | apply And.intro | (intro _)) <;> first | trivial | rfl | (first | omega | (apply Nat.le_trans; (focus (repeat' first | assumption | apply szR_sub_le | apply szR_add_le | apply szR_mul_le)); omega)) | skip), by ((repeat' first | apply And.intro | (intro _)) <;> first | trivial | rfl | (first | omega | (apply Nat.le_trans; (focus (repeat' first | assumption | apply szR_sub_le | apply szR_add_le | apply szR_mul_le)); omega)) | skip), fun c => ?_, fun c => ?_⟩
      · have c' := of_decide_eq_true ((wcond1 _ _ _ _ _ _).symm.trans c)
        have hw1 : Rt.wA ⟨v1, v2⟩ (Rt.pt l k) (Rt.pt l (Rt.nxt l k)) = 1 := if_pos c'
        rw [hw1] at hs
        exact ⟨by simp only [inR]; omega, by simp only [inR]; omega, (k + 1, w + 1), ⟨hkl, hs⟩, by simp only; omega, by simp, by simp, trivial⟩
      · have c' := of_decide_eq_false ((wcond1 _ _ _ _ _ _).symm.trans c)
        refine ⟨fun d => ?_, fun d => ?_⟩
        · have d' := of_decide_eq_true ((wcond2 _ _ _ _ _ _).symm.trans d)
          have hw1 : Rt.wA ⟨v1, v2⟩ (Rt.pt l k) (Rt.pt l (Rt.nxt l k)) = -1 := (if_neg c').trans (if_pos d')
          rw [hw1] at hs
          exact ⟨by simp only [inR]; omega, by simp only [inR]; omega, (k + 1, w - 1), ⟨hkl, hs⟩, by simp only; omega, by simp, by simp, trivial⟩
        · have d' := of_decide_eq_false ((wcond2 _ _ _ _ _ _).symm.trans d)
          have hw1 : Rt.wA ⟨v1, v2⟩ (Rt.pt l k) (Rt.pt l (Rt.nxt l k)) = 0 := (if_neg c').trans (if_neg d')
          rw [hw1, Int.add_zero] at hs
          exact ⟨by simp only [inR]; omega, (k + 1, w), ⟨hkl, hs⟩, by simp only; omega, by simp, by simp, trivial⟩
  · have hkl : ¬ k < l.length := by simpa using hlt
    obtain rfl : k = l.length := by omega
    simp [Rt.windN, Rt.windE, hne, hw]
theorem cCwind_ok : CtrOK Tryz.prog cCwind := .of (by kernel_rfl) (fun bs w xs vs pre r hr hA hG h hp => by
  simp only [cCwind] at h
  split at h
  · cases h
    exact ctr_calls mixed LT_ok CT17_ok Tryz.func11 (by kernel_rfl) hr hA hG rfl rfl (cCwind_owes _ _ _ hp)
  · cases h) (fun xs α pre φ r => by simp only [cCwind]; split <;> (intro h; cases h))
def CT18 : List Ctr := CT17 ++ [cCwind]
theorem CT18_ok : ∀ c ∈ CT18, CtrOK Tryz.prog c := ok_app CT17_ok (by
  intro c hc
  simp only [List.mem_cons, List.not_mem_nil, or_false] at hc
  rcases hc with rfl
  · exact cCwind_ok)
def cCcov : Ctr := ⟨8, fun | [.c (.pp (ps)), .c (.v (.int .i64 (r))), .g [.R (v1), .R (v2)]] => .yes ((∀ j, Rt.okp (ps.getD j [])) ∧ ps.length ≤ 1000000000 ∧ (-9223372036854775808 ≤ r ∧ r ≤ 9223372036854775807) ∧ szR v1 ≤ 90 ∧ szR v2 ≤ 90) (.k (.c (.v (.bool ((Rt.covB ps r ⟨v1, v2⟩)))))) | _ => .no⟩
theorem cCcov_owes (ps : List (List (Int × Int))) (r : Int) (v1 v2 : Rat) (hp : (∀ j, Rt.okp (ps.getD j [])) ∧ ps.length ≤ 1000000000 ∧ (-9223372036854775808 ≤ r ∧ r ≤ 9223372036854775807) ∧ szR v1 ≤ 90 ∧ szR v2 ≤ 90) : owes LT CT18 [.inv 5 (Nat) (fun ξ => ⟨[.u, .u, .u, .u, .u, .k (.c (.bx 0 0)), .u, .k (.c (.bx 1 0)), .u, .u, .u, .u, .u, .u, .u, .u, .u, .u, .u, .k (.c (.pp (ps))), .k (.c (.v (.int .i64 (((ps).length : Int))))), .k (.c (.v (.int .i64 ((ξ : Int))))), .u, .u, .u, .u, .u, .u, .u, .u, .u, .u, .u, .u, .u, .u, .u, .u, .u, .u, .u, .u, .u, .u, .u, .u, .u, .u, .u, .u, .u], [⟨29, [.R (v1), .R (v2)]⟩, ⟨27, [.R (((r : Rat) * (r : Rat)))]⟩]⟩) (fun _ ξ => (ξ ≤ ps.length ∧ Rt.cvB ps ⟨v1, v2⟩ ((r : Rat) * (r : Rat)) ξ = false)) (fun ξ => ps.length - ξ), .inv 8 (Nat × Nat) (fun ξ => ⟨[.u, .u, .u, .u, .u, .k (.c (.bx 0 0)), .u, .k (.c (.bx 1 0)), .u, .k (.c (.pt ((ps.getD ξ.1 [])))), .u, .u, .u, .u, .u, .u, .u, .u, .u, .k (.c (.pp (ps))), .k (.c (.v (.int .i64 (((ps).length : Int))))), .k (.c (.v (.int .i64 ((ξ.1 : Int))))), .u, .u, .u, .k (.c (.pt ((ps.getD ξ.1 [])))), .k (.c (.v (.int .i64 ((((ps.getD ξ.1 [])).length : Int))))), .k (.c (.v (.int .i64 ((ξ.2 : Int))))), .u, .u, .u, .u, .u, .u, .u, .u, .u, .u, .u, .u, .u, .u, .u, .u, .u, .u, .u, .u, .u, .u, .u], [⟨29, [.R (v1), .R (v2)]⟩, ⟨27, [.R (((r : Rat) * (r : Rat)))]⟩]⟩) (fun σ ξ => ((tmI σ 21) = (ξ.1 : Int) ∧ (ξ.1 < ps.length ∧ Rt.cvB ps ⟨v1, v2⟩ ((r : Rat) * (r : Rat)) ξ.1 = false) ∧ ξ.2 ≤ ((ps.getD ξ.1 [])).length ∧ Rt.edB ((ps.getD ξ.1 [])) ⟨v1, v2⟩ ((r : Rat) * (r : Rat)) ξ.2 = false)) (fun ξ => ((ps.getD ξ.1 [])).length - ξ.2)] Tryz.f8 (Tryz.f8.body.getD .skip) [.c (.pp (ps)), .c (.v (.int .i64 (r))), .g [.R (v1), .R (v2)]] (.k (.c (.v (.bool ((Rt.covB ps r ⟨v1, v2⟩)))))) := by
  refine Eq.mp (show (((decide ((r) < ((0 : Int)))) = true → (Value.bool (false) = (.bool ((Rt.covB ps r ⟨v1, v2⟩))))) ∧ ((decide ((r) < ((0 : Int)))) = false → ((-9223372036854775808 ≤ (r) ∧ (r) ≤ 9223372036854775807) ∧ ((-9223372036854775808 ≤ (r) ∧ (r) ≤ 9223372036854775807) ∧ ((szR (((r) : Rat)) ≤ 1000000 ∧ szR (((r) : Rat)) ≤ 1000000) ∧ ((∃ x1 : Nat, (((x1 ≤ ps.length ∧ Rt.cvB ps ⟨v1, v2⟩ ((r : Rat) * (r : Rat)) x1 = false)) ∧ (((True) ∧ ((True) ∧ ((ps = ps) ∧ ((Value.int .i64 (((ps).length : Int)) = (.int .i64 (((ps).length : Int)))) ∧ ((Value.int .i64 ((0 : Int)) = (.int .i64 ((x1 : Int)))) ∧ (True)))))) ∧ (((v1 = v1) ∧ ((v2 = v2) ∧ (True))) ∧ (((((((r) : Rat)) * (((r) : Rat))) = ((r : Rat) * (r : Rat))) ∧ (True)) ∧ (True)))))) ∧ (∀ x1 : Nat, ((x1 ≤ ps.length ∧ Rt.cvB ps ⟨v1, v2⟩ ((r : Rat) * (r : Rat)) x1 = false) → (((decide (((x1 : Int)) < (((ps).length : Int)))) = true → ((0 ≤ (x1 : Int) ∧ (x1 : Int) < ((ps).length : Int)) ∧ ((∃ x2 : Nat × Nat, ((((x1 : Int) = (x2.1 : Int) ∧ (x2.1 < ps.length ∧ Rt.cvB ps ⟨v1, v2⟩ ((r : Rat) * (r : Rat)) x2.1 = false) ∧ x2.2 ≤ ((ps.getD x2.1 [])).length ∧ Rt.edB ((ps.getD x2.1 [])) ⟨v1, v2⟩ ((r : Rat) * (r : Rat)) x2.2 = false)) ∧ (((True) ∧ ((True) ∧ ((((ps).getD ((x1 : Int)).toNat []) = (ps.getD x2.1 [])) ∧ ((ps = ps) ∧ ((Value.int .i64 (((ps).length : Int)) = (.int .i64 (((ps).length : Int)))) ∧ ((Value.int .i64 ((x1 : Int)) = (.int .i64 ((x2.1 : Int)))) ∧ ((((ps).getD ((x1 : Int)).toNat []) = (ps.getD x2.1 [])) ∧ ((Value.int .i64 (((((ps).getD ((x1 : Int)).toNat [])).length : Int)) = (.int .i64 ((((ps.getD x2.1 [])).length : Int)))) ∧ ((Value.int .i64 ((0 : Int)) = (.int .i64 ((x2.2 : Int)))) ∧ (True)))))))))) ∧ (((v1 = v1) ∧ ((v2 = v2) ∧ (True))) ∧ (((((r : Rat) * (r : Rat)) = ((r : Rat) * (r : Rat))) ∧ (True)) ∧ (True)))))) ∧ (∀ x2 : Nat × Nat, (((x1 : Int) = (x2.1 : Int) ∧ (x2.1 < ps.length ∧ Rt.cvB ps ⟨v1, v2⟩ ((r : Rat) * (r : Rat)) x2.1 = false) ∧ x2.2 ≤ ((ps.getD x2.1 [])).length ∧ Rt.edB ((ps.getD x2.1 [])) ⟨v1, v2⟩ ((r : Rat) * (r : Rat)) x2.2 = false) → (((decide (((x2.2 : Int)) < ((((ps.getD x2.1 [])).length : Int)))) = true → ((0 ≤ (x2.2 : Int) ∧ (x2.2 : Int) < (((ps.getD x2.1 [])).length : Int)) ∧ (((-9223372036854775808 ≤ ((((ps.getD x2.1 [])).getD ((x2.2 : Int)).toNat (0, 0)).1) ∧ ((((ps.getD x2.1 [])).getD ((x2.2 : Int)).toNat (0, 0)).1) ≤ 9223372036854775807) ∧ -9223372036854775808 ≤ ((((ps.getD x2.1 [])).getD ((x2.2 : Int)).toNat (0, 0)).2) ∧ ((((ps.getD x2.1 [])).getD ((x2.2 : Int)).toNat (0, 0)).2) ≤ 9223372036854775807) ∧ ((inR .i64 (((x2.2 : Int)) + ((1 : Int)))) ∧ ((0 ≤ ((x2.2 : Int)) + ((1 : Int)) ∧ 0 < (((ps.getD x2.1 [])).length : Int)) ∧ ((0 ≤ (((x2.2 : Int)) + ((1 : Int))) % ((((ps.getD x2.1 [])).length : Int)) ∧ (((x2.2 : Int)) + ((1 : Int))) % ((((ps.getD x2.1 [])).length : Int)) < (((ps.getD x2.1 [])).length : Int)) ∧ (((-9223372036854775808 ≤ ((((ps.getD x2.1 [])).getD ((((x2.2 : Int)) + ((1 : Int))) % ((((ps.getD x2.1 [])).length : Int))).toNat (0, 0)).1) ∧ ((((ps.getD x2.1 [])).getD ((((x2.2 : Int)) + ((1 : Int))) % ((((ps.getD x2.1 [])).length : Int))).toNat (0, 0)).1) ≤ 9223372036854775807) ∧ -9223372036854775808 ≤ ((((ps.getD x2.1 [])).getD ((((x2.2 : Int)) + ((1 : Int))) % ((((ps.getD x2.1 [])).length : Int))).toNat (0, 0)).2) ∧ ((((ps.getD x2.1 [])).getD ((((x2.2 : Int)) + ((1 : Int))) % ((((ps.getD x2.1 [])).length : Int))).toNat (0, 0)).2) ≤ 9223372036854775807) ∧ ((((v1) = (v1) ∧ (v2) = (v2)) ∧ szR ((((((ps.getD x2.1 [])).getD ((x2.2 : Int)).toNat (0, 0)).1 : Int) : Rat)) ≤ 100 ∧ szR ((((((ps.getD x2.1 [])).getD ((x2.2 : Int)).toNat (0, 0)).2 : Int) : Rat)) ≤ 100 ∧ szR ((((((ps.getD x2.1 [])).getD ((((x2.2 : Int)) + ((1 : Int))) % ((((ps.getD x2.1 [])).length : Int))).toNat (0, 0)).1 : Int) : Rat)) ≤ 100 ∧ szR ((((((ps.getD x2.1 [])).getD ((((x2.2 : Int)) + ((1 : Int))) % ((((ps.getD x2.1 [])).length : Int))).toNat (0, 0)).2 : Int) : Rat)) ≤ 100 ∧ szR (v1) ≤ 100 ∧ szR (v2) ≤ 100 ∧ szR (v1) ≤ 100 ∧ szR (v2) ≤ 100) ∧ ((szR ((Rt.seg ⟨((((((ps.getD x2.1 [])).getD ((x2.2 : Int)).toNat (0, 0)).1 : Int) : Rat)), ((((((ps.getD x2.1 [])).getD ((x2.2 : Int)).toNat (0, 0)).2 : Int) : Rat))⟩ ⟨((((((ps.getD x2.1 [])).getD ((((x2.2 : Int)) + ((1 : Int))) % ((((ps.getD x2.1 [])).length : Int))).toNat (0, 0)).1 : Int) : Rat)), ((((((ps.getD x2.1 [])).getD ((((x2.2 : Int)) + ((1 : Int))) % ((((ps.getD x2.1 [])).length : Int))).toNat (0, 0)).2 : Int) : Rat))⟩ ⟨(v1), (v2)⟩)) ≤ 1000000 ∧ szR (((r : Rat) * (r : Rat))) ≤ 1000000) ∧ (((decide (((Rt.sg (((Rt.seg ⟨((((((ps.getD x2.1 [])).getD ((x2.2 : Int)).toNat (0, 0)).1 : Int) : Rat)), ((((((ps.getD x2.1 [])).getD ((x2.2 : Int)).toNat (0, 0)).2 : Int) : Rat))⟩ ⟨((((((ps.getD x2.1 [])).getD ((((x2.2 : Int)) + ((1 : Int))) % ((((ps.getD x2.1 [])).length : Int))).toNat (0, 0)).1 : Int) : Rat)), ((((((ps.getD x2.1 [])).getD ((((x2.2 : Int)) + ((1 : Int))) % ((((ps.getD x2.1 [])).length : Int))).toNat (0, 0)).2 : Int) : Rat))⟩ ⟨(v1), (v2)⟩)) - (((r : Rat) * (r : Rat)))))) ≤ ((0 : Int)))) = true → (Value.bool (true) = (.bool ((Rt.covB ps r ⟨v1, v2⟩))))) ∧ ((decide (((Rt.sg (((Rt.seg ⟨((((((ps.getD x2.1 [])).getD ((x2.2 : Int)).toNat (0, 0)).1 : Int) : Rat)), ((((((ps.getD x2.1 [])).getD ((x2.2 : Int)).toNat (0, 0)).2 : Int) : Rat))⟩ ⟨((((((ps.getD x2.1 [])).getD ((((x2.2 : Int)) + ((1 : Int))) % ((((ps.getD x2.1 [])).length : Int))).toNat (0, 0)).1 : Int) : Rat)), ((((((ps.getD x2.1 [])).getD ((((x2.2 : Int)) + ((1 : Int))) % ((((ps.getD x2.1 [])).length : Int))).toNat (0, 0)).2 : Int) : Rat))⟩ ⟨(v1), (v2)⟩)) - (((r : Rat) * (r : Rat)))))) ≤ ((0 : Int)))) = false → ((inR .i64 (((x2.2 : Int)) + ((1 : Int)))) ∧ (∃ y2 : Nat × Nat, ((((x1 : Int) = (y2.1 : Int) ∧ (y2.1 < ps.length ∧ Rt.cvB ps ⟨v1, v2⟩ ((r : Rat) * (r : Rat)) y2.1 = false) ∧ y2.2 ≤ ((ps.getD y2.1 [])).length ∧ Rt.edB ((ps.getD y2.1 [])) ⟨v1, v2⟩ ((r : Rat) * (r : Rat)) y2.2 = false)) ∧ ((((ps.getD y2.1 [])).length - y2.2 < ((ps.getD x2.1 [])).length - x2.2) ∧ (((True) ∧ ((True) ∧ (((ps.getD x2.1 []) = (ps.getD y2.1 [])) ∧ ((ps = ps) ∧ ((Value.int .i64 (((ps).length : Int)) = (.int .i64 (((ps).length : Int)))) ∧ ((Value.int .i64 ((x2.1 : Int)) = (.int .i64 ((y2.1 : Int)))) ∧ (((ps.getD x2.1 []) = (ps.getD y2.1 [])) ∧ ((Value.int .i64 ((((ps.getD x2.1 [])).length : Int)) = (.int .i64 ((((ps.getD y2.1 [])).length : Int)))) ∧ ((Value.int .i64 (((x2.2 : Int)) + ((1 : Int))) = (.int .i64 ((y2.2 : Int)))) ∧ (True)))))))))) ∧ (((v1 = v1) ∧ ((v2 = v2) ∧ (True))) ∧ (((((r : Rat) * (r : Rat)) = ((r : Rat) * (r : Rat))) ∧ (True)) ∧ (True))))))))))))))))))) ∧ ((decide (((x2.2 : Int)) < ((((ps.getD x2.1 [])).length : Int)))) = false → ((inR .i64 (((x2.1 : Int)) + ((1 : Int)))) ∧ (∃ y1 : Nat, (((y1 ≤ ps.length ∧ Rt.cvB ps ⟨v1, v2⟩ ((r : Rat) * (r : Rat)) y1 = false)) ∧ ((ps.length - y1 < ps.length - x1) ∧ (((True) ∧ ((True) ∧ ((ps = ps) ∧ ((Value.int .i64 (((ps).length : Int)) = (.int .i64 (((ps).length : Int)))) ∧ ((Value.int .i64 (((x2.1 : Int)) + ((1 : Int))) = (.int .i64 ((y1 : Int)))) ∧ (True)))))) ∧ (((v1 = v1) ∧ ((v2 = v2) ∧ (True))) ∧ (((((r : Rat) * (r : Rat)) = ((r : Rat) * (r : Rat))) ∧ (True)) ∧ (True))))))))))))))) ∧ ((decide (((x1 : Int)) < (((ps).length : Int)))) = false → (Value.bool (false) = (.bool ((Rt.covB ps r ⟨v1, v2⟩)))))))))))))) = owes LT CT18 [.inv 5 (Nat) (fun ξ => ⟨[.u, .u, .u, .u, .u, .k (.c (.bx 0 0)), .u, .k (.c (.bx 1 0)), .u, .u, .u, .u, .u, .u, .u, .u, .u, .u, .u, .k (.c (.pp (ps))), .k (.c (.v (.int .i64 (((ps).length : Int))))), .k (.c (.v (.int .i64 ((ξ : Int))))), .u, .u, .u, .u, .u, .u, .u, .u, .u, .u, .u, .u, .u, .u, .u, .u, .u, .u, .u, .u, .u, .u, .u, .u, .u, .u, .u, .u, .u], [⟨29, [.R (v1), .R (v2)]⟩, ⟨27, [.R (((r : Rat) * (r : Rat)))]⟩]⟩) (fun _ ξ => (ξ ≤ ps.length ∧ Rt.cvB ps ⟨v1, v2⟩ ((r : Rat) * (r : Rat)) ξ = false)) (fun ξ => ps.length - ξ), .inv 8 (Nat × Nat) (fun ξ => ⟨[.u, .u, .u, .u, .u, .k (.c (.bx 0 0)), .u, .k (.c (.bx 1 0)), .u, .k (.c (.pt ((ps.getD ξ.1 [])))), .u, .u, .u, .u, .u, .u, .u, .u, .u, .k (.c (.pp (ps))), .k (.c (.v (.int .i64 (((ps).length : Int))))), .k (.c (.v (.int .i64 ((ξ.1 : Int))))), .u, .u, .u, .k (.c (.pt ((ps.getD ξ.1 [])))), .k (.c (.v (.int .i64 ((((ps.getD ξ.1 [])).length : Int))))), .k (.c (.v (.int .i64 ((ξ.2 : Int))))), .u, .u, .u, .u, .u, .u, .u, .u, .u, .u, .u, .u, .u, .u, .u, .u, .u, .u, .u, .u, .u, .u, .u], [⟨29, [.R (v1), .R (v2)]⟩, ⟨27, [.R (((r : Rat) * (r : Rat)))]⟩]⟩) (fun σ ξ => ((tmI σ 21) = (ξ.1 : Int) ∧ (ξ.1 < ps.length ∧ Rt.cvB ps ⟨v1, v2⟩ ((r : Rat) * (r : Rat)) ξ.1 = false) ∧ ξ.2 ≤ ((ps.getD ξ.1 [])).length ∧ Rt.edB ((ps.getD ξ.1 [])) ⟨v1, v2⟩ ((r : Rat) * (r : Rat)) ξ.2 = false)) (fun ξ => ((ps.getD ξ.1 [])).length - ξ.2)] Tryz.f8 (Tryz.f8.body.getD .skip) [.c (.pp (ps)), .c (.v (.int .i64 (r))), .g [.R (v1), .R (v2)]] (.k (.c (.v (.bool ((Rt.covB ps r ⟨v1, v2⟩)))))) by kernel_rfl) ?_
  obtain ⟨hps, hn, hr, hv1, hv2⟩ := hp
  have hr3 : szR (r : Rat) ≤ 3 := szR_int hr
  have hrr : szR ((r : Rat) * (r : Rat)) ≤ 100 := by (first | omega | (apply Nat.le_trans; (focus (repeat' first | assumption | apply szR_sub_le | apply szR_add_le | apply szR_mul_le)); omega))
  refine ⟨fun h => ?_, fun h => ⟨hr, hr, ⟨by omega, by omega⟩, ⟨0, ⟨Nat.zero_le _, rfl⟩, by simp, by simp, by simp, trivial⟩, ?_⟩⟩
  · unfold Rt.covB
    rw [h]
    rfl
  have hcov : Rt.covB ps r ⟨v1, v2⟩ = Rt.cvB ps ⟨v1, v2⟩ ((r : Rat) * (r : Rat)) ps.length := by
    unfold Rt.covB
    rw [h]
    rfl
  rw [hcov]
  generalize (r : Rat) * (r : Rat) = R at *
  rintro j ⟨hj, hcj⟩
  refine ⟨fun hlt => ⟨⟨by omega, by simpa using hlt⟩, ⟨(j, 0), ⟨rfl, ⟨by simpa using hlt, hcj⟩, Nat.zero_le _, rfl⟩, by simp, by simp, by simp, trivial⟩, ?_⟩, fun hlt => ?_⟩
  · rintro ⟨j2, k⟩ ⟨ej, ⟨hj2, hc2⟩, hk, he⟩
    obtain rfl : j = j2 := by
      have : (j : Int) = (j2 : Int) := ej
      omega
    simp only [Int.toNat_natCast, nxt_int] at *
    have hok := hps j
    have hcs : Rt.cvB ps ⟨v1, v2⟩ R (j + 1) = Rt.edB (ps.getD j []) ⟨v1, v2⟩ R (ps.getD j []).length := by
      show (Rt.cvB ps ⟨v1, v2⟩ R j || Rt.edB (ps.getD j []) ⟨v1, v2⟩ R (ps.getD j []).length) = _
      rw [hc2, Bool.false_or]
    generalize hgl : ps.getD j [] = l at *
    obtain ⟨hl, hn2⟩ := hok
    refine ⟨fun hlt2 => ?_, fun hlt2 => ?_⟩
    · have hkl : k < l.length := by simpa using hlt2
      have A := hl k
      have B := hl (Rt.nxt l k)
      have sa1 := szR_int A.1
      have sa2 := szR_int A.2
      have sb1 := szR_int B.1
      have sb2 := szR_int B.2
      have hs : Rt.edB l ⟨v1, v2⟩ R (k + 1) = decide (Rt.seg (Rt.pt l k) (Rt.pt l (Rt.nxt l k)) ⟨v1, v2⟩ ≤ R) := by
        show (Rt.edB l ⟨v1, v2⟩ R k || _) = _
        rw [he, Bool.false_or]
      have z := szR_seg (a1 := (((l.getD k (0, 0)).1 : Int) : Rat)) (a2 := (((l.getD k (0, 0)).2 : Int) : Rat)) (b1 := (((l.getD (Rt.nxt l k) (0, 0)).1 : Int) : Rat)) (b2 := (((l.getD (Rt.nxt l k) (0, 0)).2 : Int) : Rat)) (p1 := v1) (p2 := v2) (by omega) (by omega) (by omega) (by omega) (by omega) (by omega)
      refine ⟨⟨by omega, by omega⟩, A, by simp only [inR]; omega, ⟨by omega, by omega⟩, ⟨Int.emod_nonneg _ (by omega), Int.emod_lt_of_pos _ (by omega)⟩, B, by ((repeat' first | apply And.intro | (intro _)) <;> first | trivial | rfl | (first | omega | (apply Nat.le_trans; (focus (repeat' first | assumption | apply szR_sub_le | apply szR_add_le | apply szR_mul_le)); omega)) | skip), ⟨by omega, by omega⟩, fun c => ?_, fun c => ?_⟩
      · have e1 := hs.trans (decide_eq_true (Rt.sub_sg_le.1 (of_decide_eq_true c)))
        rw [Rt.cvB_true (n := ps.length) hj2 (hcs.trans (Rt.edB_true hkl e1))]
      · have e1 := hs.trans (decide_eq_false fun e => of_decide_eq_false c (Rt.sub_sg_le.2 e))
        exact ⟨by simp only [inR]; omega, (j, k + 1), ⟨rfl, ⟨hj2, hc2⟩, by simp only [hgl]; exact hkl, by simp only [hgl]; exact e1⟩, by simp only [hgl]; omega, by simp only [hgl] <;> simp, by simp, by simp, trivial⟩
    · have hkl : ¬ k < l.length := by simpa using hlt2
      obtain rfl : k = l.length := by omega
      exact ⟨by simp only [inR]; omega, j + 1, ⟨hj2, hcs.trans he⟩, by omega, by simp, by simp, by simp, trivial⟩
  · have hjl : ¬ j < ps.length := by simpa using hlt
    obtain rfl : j = ps.length := by omega
    rw [hcj]
theorem cCcov_ok : CtrOK Tryz.prog cCcov := .of (by kernel_rfl) (fun bs w xs vs pre r hr hA hG h hp => by
  simp only [cCcov] at h
  split at h
  · cases h
    exact ctr_calls mixed LT_ok CT18_ok Tryz.func8 (by kernel_rfl) hr hA hG rfl rfl (cCcov_owes _ _ _ _ hp)
  · cases h) (fun xs α pre φ r => by simp only [cCcov]; split <;> (intro h; cases h))
end Vc
end Go.Proofs.YtlkhkldgmlfhkaaGreat
