/-
  The reckoner at work: Near, Passes, Covered, Winding of the reference (swarfref31). (printed by gen/g10.py; for the seat of ContourCovered and ContourWinding)
  ContourWinding: the law's walk.
-/
import Derived.Test.YtlkhkldgmlfhkaaGreatQW19
namespace Go.Proofs.YtlkhkldgmlfhkaaGreat
open Go.RowKit
namespace Vc
theorem cmpN_sign (a b : Nat) : cmpN a b = ((a : Int) - b).sign := by
  rcases Nat.lt_trichotomy a b with h | h | h
  · rw [cmpN_lt h, Int.sign_eq_neg_one_of_neg (by omega)]
  · rw [cmpN_eq h, h, Int.sub_self]; rfl
  · rw [cmpN_gt h, Int.sign_eq_one_of_pos (by omega)]
def cJcmp01 : Ctr := ⟨48, fun | [.g [.I (x)], .g [.I (y)]] => .yes (szI x ≤ 10000000 ∧ szI y ≤ 10000000) (.k (.c (.v (.int .i64 ((x - y).sign))))) | _ => .no⟩
theorem cJcmp01_owes (x y : Int) (hp : szI x ≤ 10000000 ∧ szI y ≤ 10000000) : owes LT WT4 [] Tryz.f48 (Tryz.f48.body.getD .skip) [.g [.I (x)], .g [.I (y)]] (.k (.c (.v (.int .i64 ((x - y).sign))))) := by
  refine Eq.mp (show ((((decide (x < 0)) != (decide (y < 0))) = true → (((decide (x < 0)) = true → (Value.int .i64 ((-1 : Int)) = (.int .i64 ((x - y).sign)))) ∧ ((decide (x < 0)) = false → (Value.int .i64 ((1 : Int)) = (.int .i64 ((x - y).sign)))))) ∧ (((decide (x < 0)) != (decide (y < 0))) = false → (((decide (x < 0)) = true → (((Lb.Norm (Lb.limbs (y).natAbs) ∧ Lb.Norm (Lb.limbs (x).natAbs)) ∧ (Lb.limbs (y).natAbs).length ≤ 1000000000 ∧ (Lb.limbs (x).natAbs).length ≤ 1000000000) ∧ (Value.int .i64 ((cmpN (Lb.val (Lb.limbs (y).natAbs)) (Lb.val (Lb.limbs (x).natAbs)))) = (.int .i64 ((x - y).sign))))) ∧ ((decide (x < 0)) = false → (((Lb.Norm (Lb.limbs (x).natAbs) ∧ Lb.Norm (Lb.limbs (y).natAbs)) ∧ (Lb.limbs (x).natAbs).length ≤ 1000000000 ∧ (Lb.limbs (y).natAbs).length ≤ 1000000000) ∧ (Value.int .i64 ((cmpN (Lb.val (Lb.limbs (x).natAbs)) (Lb.val (Lb.limbs (y).natAbs)))) = (.int .i64 ((x - y).sign)))))))) = owes LT WT4 [] Tryz.f48 (Tryz.f48.body.getD .skip) [.g [.I (x)], .g [.I (y)]] (.k (.c (.v (.int .i64 ((x - y).sign))))) by kernel_rfl) ?_
  unfold szI at hp
  obtain ⟨h1, h2⟩ := hp
  have hN := fun n => Lb.norm_limbs n
  simp only [Lb.val_limbs]
  refine ⟨fun h => ⟨fun h3 => ?_, fun h3 => ?_⟩, fun h => ⟨fun h3 => ⟨⟨⟨hN _, hN _⟩, by omega, by omega⟩, ?_⟩, fun h3 => ⟨⟨⟨hN _, hN _⟩, by omega, by omega⟩, ?_⟩⟩⟩
  · have h4 : x < 0 := of_decide_eq_true h3
    have h5 : ¬ y < 0 := by intro c; simp [h4, c] at h
    rw [Int.sign_eq_neg_one_of_neg (by omega)]
  · have h4 : ¬ x < 0 := of_decide_eq_false h3
    have h5 : y < 0 := by
      rcases Int.lt_or_le y 0 with c | c
      · exact c
      · have c' : ¬ y < 0 := by omega
        simp [h4, c'] at h
    rw [Int.sign_eq_one_of_pos (by omega)]
  · have h4 : x < 0 := of_decide_eq_true h3
    have h5 : y < 0 := by
      rcases Int.lt_or_le y 0 with c | c
      · exact c
      · have c' : ¬ y < 0 := by omega
        simp [h4, c'] at h
    rw [cmpN_sign]
    congr 2
    omega
  · have h4 : ¬ x < 0 := of_decide_eq_false h3
    have h5 : ¬ y < 0 := by intro c; simp [h4, c] at h
    rw [cmpN_sign]
    congr 2
    omega
theorem cJcmp01_ok : CtrOK Tryz.prog cJcmp01 := .of (by kernel_rfl) (fun bs w xs vs pre r hr hA hG h hp => by
  simp only [cJcmp01] at h
  split at h
  · cases h
    exact ctr_calls mixed LT_ok WT4_ok Tryz.func48 (by kernel_rfl) hr hA hG rfl rfl (cJcmp01_owes _ _ hp)
  · cases h) (fun xs α pre φ r => by simp only [cJcmp01]; split <;> (intro h; cases h))
def XT0 : List Ctr := WT4 ++ [cJcmp01]
theorem XT0_ok : ∀ c ∈ XT0, CtrOK Tryz.prog c := ok_app WT4_ok (by
  intro c hc
  simp only [List.mem_cons, List.not_mem_nil, or_false] at hc
  rcases hc with rfl
  · exact cJcmp01_ok)
theorem sub_sg_ge {a b : Rat} : Rt.sg (a - b) ≥ 0 ↔ b ≤ a := by
  rw [ge_iff_le, Rt.sg_ge]
  constructor <;> intro h <;> grind
def cKcmp : Ctr := ⟨30, fun | [.g [.R (p)], .g [.R (q)]] => .yes (szR p ≤ 1000000 ∧ szR q ≤ 1000000) (.k (.c (.v (.int .i64 ((Rt.sg (p - q))))))) | _ => .no⟩
theorem cKcmp_owes (p q : Rat) (hp : szR p ≤ 1000000 ∧ szR q ≤ 1000000) : owes LT XT0 [] Tryz.f30 (Tryz.f30.body.getD .skip) [.g [.R (p)], .g [.R (q)]] (.k (.c (.v (.int .i64 ((Rt.sg (p - q))))))) := by
  refine Eq.mp (show ((szI ((p).num) ≤ 10000000 ∧ szI (((q).den : Int)) ≤ 10000000) ∧ ((szI ((q).num) ≤ 10000000 ∧ szI (((p).den : Int)) ≤ 10000000) ∧ ((szI (((p).num * ((q).den : Int))) ≤ 10000000 ∧ szI (((q).num * ((p).den : Int))) ≤ 10000000) ∧ (Value.int .i64 (((((p).num * ((q).den : Int))) - (((q).num * ((p).den : Int)))).sign) = (.int .i64 ((Rt.sg (p - q)))))))) = owes LT XT0 [] Tryz.f30 (Tryz.f30.body.getD .skip) [.g [.R (p)], .g [.R (q)]] (.k (.c (.v (.int .i64 ((Rt.sg (p - q))))))) by kernel_rfl) ?_
  obtain ⟨hp, hq⟩ := hp
  have a1 := szR_num p; have a2 := szR_den p; have a3 := szR_num q; have a4 := szR_den q
  have m1 := szI_mul' p.num q.den; have m3 := szI_mul' q.num p.den
  exact ⟨⟨by omega, by omega⟩, ⟨by omega, by omega⟩, ⟨by omega, by omega⟩, by rw [Rt.sg_cross]⟩
theorem cKcmp_ok : CtrOK Tryz.prog cKcmp := .of (by kernel_rfl) (fun bs w xs vs pre r hr hA hG h hp => by
  simp only [cKcmp] at h
  split at h
  · cases h
    exact ctr_calls mixed LT_ok XT0_ok Tryz.func30 (by kernel_rfl) hr hA hG rfl rfl (cKcmp_owes _ _ hp)
  · cases h) (fun xs α pre φ r => by simp only [cKcmp]; split <;> (intro h; cases h))
def cKsquare : Ctr := ⟨71, fun | [.g [.R (p)]] => .yes (szR p ≤ 1000000) (.k (.g [.R ((p * p))])) | _ => .no⟩
theorem cKsquare_owes (p : Rat) (hp : szR p ≤ 1000000) : owes LT XT0 [] Tryz.f71 (Tryz.f71.body.getD .skip) [.g [.R (p)]] (.k (.g [.R ((p * p))])) := by
  refine Eq.mp (show ((szR (p) ≤ 1000000 ∧ szR (p) ≤ 1000000) ∧ ((((p) * (p)) = (p * p)) ∧ (True))) = owes LT XT0 [] Tryz.f71 (Tryz.f71.body.getD .skip) [.g [.R (p)]] (.k (.g [.R ((p * p))])) by kernel_rfl) ?_
  exact ⟨⟨hp, hp⟩, rfl, trivial⟩
theorem cKsquare_ok : CtrOK Tryz.prog cKsquare := .of (by kernel_rfl) (fun bs w xs vs pre r hr hA hG h hp => by
  simp only [cKsquare] at h
  split at h
  · cases h
    exact ctr_calls mixed LT_ok XT0_ok Tryz.func71 (by kernel_rfl) hr hA hG rfl rfl (cKsquare_owes _ hp)
  · cases h) (fun xs α pre φ r => by simp only [cKsquare]; split <;> (intro h; cases h))
def cK12add : Ctr := ⟨91, fun | [.g [.R (p)], .g [.R (q)]] => .yes (szR p ≤ 1000000 ∧ szR q ≤ 1000000) (.k (.g [.R ((p + q))])) | _ => .no⟩
theorem cK12add_owes (p q : Rat) (hp : szR p ≤ 1000000 ∧ szR q ≤ 1000000) : owes LT XT0 [] Tryz.f91 (Tryz.f91.body.getD .skip) [.g [.R (p)], .g [.R (q)]] (.k (.g [.R ((p + q))])) := by
  refine Eq.mp (show ((szR (p) ≤ 1000000 ∧ szR (q) ≤ 1000000) ∧ ((((p) + (q)) = (p + q)) ∧ (True))) = owes LT XT0 [] Tryz.f91 (Tryz.f91.body.getD .skip) [.g [.R (p)], .g [.R (q)]] (.k (.g [.R ((p + q))])) by kernel_rfl) ?_
  exact ⟨hp, rfl, trivial⟩
theorem cK12add_ok : CtrOK Tryz.prog cK12add := .of (by kernel_rfl) (fun bs w xs vs pre r hr hA hG h hp => by
  simp only [cK12add] at h
  split at h
  · cases h
    exact ctr_calls mixed LT_ok XT0_ok Tryz.func91 (by kernel_rfl) hr hA hG rfl rfl (cK12add_owes _ _ hp)
  · cases h) (fun xs α pre φ r => by simp only [cK12add]; split <;> (intro h; cases h))
def cK12way : Ctr := ⟨33, fun | [.g [.R (a1), .R (a2)], .g [.R (b1), .R (b2)]] => .yes (szR a1 ≤ 100000 ∧ szR a2 ≤ 100000 ∧ szR b1 ≤ 100000 ∧ szR b2 ≤ 100000) (.k (.g [.R ((b1 - a1)), .R ((b2 - a2))])) | _ => .no⟩
theorem cK12way_owes (a1 a2 b1 b2 : Rat) (hp : szR a1 ≤ 100000 ∧ szR a2 ≤ 100000 ∧ szR b1 ≤ 100000 ∧ szR b2 ≤ 100000) : owes LT XT0 [] Tryz.f33 (Tryz.f33.body.getD .skip) [.g [.R (a1), .R (a2)], .g [.R (b1), .R (b2)]] (.k (.g [.R ((b1 - a1)), .R ((b2 - a2))])) := by
  refine Eq.mp (show ((szR (b1) ≤ 1000000 ∧ szR (a1) ≤ 1000000) ∧ ((szR (b2) ≤ 1000000 ∧ szR (a2) ≤ 1000000) ∧ ((((b1) - (a1)) = (b1 - a1)) ∧ ((((b2) - (a2)) = (b2 - a2)) ∧ (True))))) = owes LT XT0 [] Tryz.f33 (Tryz.f33.body.getD .skip) [.g [.R (a1), .R (a2)], .g [.R (b1), .R (b2)]] (.k (.g [.R ((b1 - a1)), .R ((b2 - a2))])) by kernel_rfl) ?_
  obtain ⟨h1, h2, h3, h4⟩ := hp
  ((repeat' first | apply And.intro | (intro _)) <;> first | trivial | rfl | (first | omega | (apply Nat.le_trans; (focus (repeat' first | assumption | apply szR_sub_le | apply szR_add_le | apply szR_mul_le)); omega)) | skip)
theorem cK12way_ok : CtrOK Tryz.prog cK12way := .of (by kernel_rfl) (fun bs w xs vs pre r hr hA hG h hp => by
  simp only [cK12way] at h
  split at h
  · cases h
    exact ctr_calls mixed LT_ok XT0_ok Tryz.func33 (by kernel_rfl) hr hA hG rfl rfl (cK12way_owes _ _ _ _ hp)
  · cases h) (fun xs α pre φ r => by simp only [cK12way]; split <;> (intro h; cases h))
def XT1 : List Ctr := XT0 ++ [cKcmp, cKsquare, cK12add, cK12way]
theorem XT1_ok : ∀ c ∈ XT1, CtrOK Tryz.prog c := ok_app XT0_ok (by
  intro c hc
  simp only [List.mem_cons, List.not_mem_nil, or_false] at hc
  rcases hc with rfl | rfl | rfl | rfl
  · exact cKcmp_ok
  · exact cKsquare_ok
  · exact cK12add_ok
  · exact cK12way_ok)
def cK12dot : Ctr := ⟨72, fun | [.g [.R (a1), .R (a2)], .g [.R (b1), .R (b2)]] => .yes (szR a1 ≤ 100000 ∧ szR a2 ≤ 100000 ∧ szR b1 ≤ 100000 ∧ szR b2 ≤ 100000) (.k (.g [.R ((a1 * b1 + a2 * b2))])) | _ => .no⟩
theorem cK12dot_owes (a1 a2 b1 b2 : Rat) (hp : szR a1 ≤ 100000 ∧ szR a2 ≤ 100000 ∧ szR b1 ≤ 100000 ∧ szR b2 ≤ 100000) : owes LT XT1 [] Tryz.f72 (Tryz.f72.body.getD .skip) [.g [.R (a1), .R (a2)], .g [.R (b1), .R (b2)]] (.k (.g [.R ((a1 * b1 + a2 * b2))])) := by
  refine Eq.mp (show ((szR (a1) ≤ 1000000 ∧ szR (b1) ≤ 1000000) ∧ ((szR (a2) ≤ 1000000 ∧ szR (b2) ≤ 1000000) ∧ ((szR (((a1) * (b1))) ≤ 1000000 ∧ szR (((a2) * (b2))) ≤ 1000000) ∧ ((((((a1) * (b1))) + (((a2) * (b2)))) = (a1 * b1 + a2 * b2)) ∧ (True))))) = owes LT XT1 [] Tryz.f72 (Tryz.f72.body.getD .skip) [.g [.R (a1), .R (a2)], .g [.R (b1), .R (b2)]] (.k (.g [.R ((a1 * b1 + a2 * b2))])) by kernel_rfl) ?_
  obtain ⟨h1, h2, h3, h4⟩ := hp
  ((repeat' first | apply And.intro | (intro _)) <;> first | trivial | rfl | (first | omega | (apply Nat.le_trans; (focus (repeat' first | assumption | apply szR_sub_le | apply szR_add_le | apply szR_mul_le)); omega)) | skip)
theorem cK12dot_ok : CtrOK Tryz.prog cK12dot := .of (by kernel_rfl) (fun bs w xs vs pre r hr hA hG h hp => by
  simp only [cK12dot] at h
  split at h
  · cases h
    exact ctr_calls mixed LT_ok XT1_ok Tryz.func72 (by kernel_rfl) hr hA hG rfl rfl (cK12dot_owes _ _ _ _ hp)
  · cases h) (fun xs α pre φ r => by simp only [cK12dot]; split <;> (intro h; cases h))
def XT2 : List Ctr := XT1 ++ [cK12dot]
theorem XT2_ok : ∀ c ∈ XT2, CtrOK Tryz.prog c := ok_app XT1_ok (by
  intro c hc
  simp only [List.mem_cons, List.not_mem_nil, or_false] at hc
  rcases hc with rfl
  · exact cK12dot_ok)
def cKnear : Ctr := ⟨42, fun | [.g [.R (a1), .R (a2)], .g [.R (b1), .R (b2)], .g [.R (p1), .R (p2)], .g [.R (r)]] => .yes (szR a1 ≤ 100 ∧ szR a2 ≤ 100 ∧ szR b1 ≤ 100 ∧ szR b2 ≤ 100 ∧ szR p1 ≤ 100 ∧ szR p2 ≤ 100 ∧ szR r ≤ 100) (.k (.c (.v (.bool ((decide (Rt.seg ⟨a1, a2⟩ ⟨b1, b2⟩ ⟨p1, p2⟩ ≤ r * r))))))) | _ => .no⟩
theorem cKnear_owes (a1 a2 b1 b2 p1 p2 r : Rat) (hp : szR a1 ≤ 100 ∧ szR a2 ≤ 100 ∧ szR b1 ≤ 100 ∧ szR b2 ≤ 100 ∧ szR p1 ≤ 100 ∧ szR p2 ≤ 100 ∧ szR r ≤ 100) : owes LT XT2 [] Tryz.f42 (Tryz.f42.body.getD .skip) [.g [.R (a1), .R (a2)], .g [.R (b1), .R (b2)], .g [.R (p1), .R (p2)], .g [.R (r)]] (.k (.c (.v (.bool ((decide (Rt.seg ⟨a1, a2⟩ ⟨b1, b2⟩ ⟨p1, p2⟩ ≤ r * r))))))) := by
  refine Eq.mp (show ((szR (a1) ≤ 100000 ∧ szR (a2) ≤ 100000 ∧ szR (b1) ≤ 100000 ∧ szR (b2) ≤ 100000) ∧ ((szR (a1) ≤ 100000 ∧ szR (a2) ≤ 100000 ∧ szR (p1) ≤ 100000 ∧ szR (p2) ≤ 100000) ∧ ((szR (r) ≤ 1000000) ∧ ((szR (((b1) - (a1))) ≤ 100000 ∧ szR (((b2) - (a2))) ≤ 100000 ∧ szR (((b1) - (a1))) ≤ 100000 ∧ szR (((b2) - (a2))) ≤ 100000) ∧ ((szR (((b1) - (a1))) ≤ 100000 ∧ szR (((b2) - (a2))) ≤ 100000 ∧ szR (((p1) - (a1))) ≤ 100000 ∧ szR (((p2) - (a2))) ≤ 100000) ∧ ((True) ∧ (((decide (((Rt.sg (((((b1) - (a1))) * (((p1) - (a1))) + (((b2) - (a2))) * (((p2) - (a2))))))) ≤ ((0 : Int)))) = true → ((szR (((p1) - (a1))) ≤ 100000 ∧ szR (((p2) - (a2))) ≤ 100000 ∧ szR (((p1) - (a1))) ≤ 100000 ∧ szR (((p2) - (a2))) ≤ 100000) ∧ ((szR (((((p1) - (a1))) * (((p1) - (a1))) + (((p2) - (a2))) * (((p2) - (a2))))) ≤ 1000000 ∧ szR (((r) * (r))) ≤ 1000000) ∧ (Value.bool (decide (((Rt.sg ((((((p1) - (a1))) * (((p1) - (a1))) + (((p2) - (a2))) * (((p2) - (a2))))) - (((r) * (r)))))) ≤ ((0 : Int)))) = (.bool ((decide (Rt.seg ⟨a1, a2⟩ ⟨b1, b2⟩ ⟨p1, p2⟩ ≤ r * r)))))))) ∧ ((decide (((Rt.sg (((((b1) - (a1))) * (((p1) - (a1))) + (((b2) - (a2))) * (((p2) - (a2))))))) ≤ ((0 : Int)))) = false → ((szR (((((b1) - (a1))) * (((p1) - (a1))) + (((b2) - (a2))) * (((p2) - (a2))))) ≤ 1000000 ∧ szR (((((b1) - (a1))) * (((b1) - (a1))) + (((b2) - (a2))) * (((b2) - (a2))))) ≤ 1000000) ∧ (((decide (((Rt.sg ((((((b1) - (a1))) * (((p1) - (a1))) + (((b2) - (a2))) * (((p2) - (a2))))) - (((((b1) - (a1))) * (((b1) - (a1))) + (((b2) - (a2))) * (((b2) - (a2)))))))) ≥ ((0 : Int)))) = true → ((szR (b1) ≤ 100000 ∧ szR (b2) ≤ 100000 ∧ szR (p1) ≤ 100000 ∧ szR (p2) ≤ 100000) ∧ ((szR (((p1) - (b1))) ≤ 100000 ∧ szR (((p2) - (b2))) ≤ 100000 ∧ szR (((p1) - (b1))) ≤ 100000 ∧ szR (((p2) - (b2))) ≤ 100000) ∧ ((szR (((((p1) - (b1))) * (((p1) - (b1))) + (((p2) - (b2))) * (((p2) - (b2))))) ≤ 1000000 ∧ szR (((r) * (r))) ≤ 1000000) ∧ (Value.bool (decide (((Rt.sg ((((((p1) - (b1))) * (((p1) - (b1))) + (((p2) - (b2))) * (((p2) - (b2))))) - (((r) * (r)))))) ≤ ((0 : Int)))) = (.bool ((decide (Rt.seg ⟨a1, a2⟩ ⟨b1, b2⟩ ⟨p1, p2⟩ ≤ r * r))))))))) ∧ ((decide (((Rt.sg ((((((b1) - (a1))) * (((p1) - (a1))) + (((b2) - (a2))) * (((p2) - (a2))))) - (((((b1) - (a1))) * (((b1) - (a1))) + (((b2) - (a2))) * (((b2) - (a2)))))))) ≥ ((0 : Int)))) = false → (((szR (((b1) - (a1))) ≤ 100000 ∧ szR (((b2) - (a2))) ≤ 100000) ∧ szR (((p1) - (a1))) ≤ 100000 ∧ szR (((p2) - (a2))) ≤ 100000) ∧ ((szR (((((b1) - (a1))) * (((p2) - (a2))) - (((b2) - (a2))) * (((p1) - (a1))))) ≤ 1000000) ∧ ((szR (((r) * (r))) ≤ 1000000 ∧ szR (((((b1) - (a1))) * (((b1) - (a1))) + (((b2) - (a2))) * (((b2) - (a2))))) ≤ 1000000) ∧ ((szR (((((((b1) - (a1))) * (((p2) - (a2))) - (((b2) - (a2))) * (((p1) - (a1))))) * (((((b1) - (a1))) * (((p2) - (a2))) - (((b2) - (a2))) * (((p1) - (a1))))))) ≤ 1000000 ∧ szR (((((r) * (r))) * (((((b1) - (a1))) * (((b1) - (a1))) + (((b2) - (a2))) * (((b2) - (a2))))))) ≤ 1000000) ∧ (Value.bool (decide (((Rt.sg ((((((((b1) - (a1))) * (((p2) - (a2))) - (((b2) - (a2))) * (((p1) - (a1))))) * (((((b1) - (a1))) * (((p2) - (a2))) - (((b2) - (a2))) * (((p1) - (a1))))))) - (((((r) * (r))) * (((((b1) - (a1))) * (((b1) - (a1))) + (((b2) - (a2))) * (((b2) - (a2)))))))))) ≤ ((0 : Int)))) = (.bool ((decide (Rt.seg ⟨a1, a2⟩ ⟨b1, b2⟩ ⟨p1, p2⟩ ≤ r * r)))))))))))))))))))) = owes LT XT2 [] Tryz.f42 (Tryz.f42.body.getD .skip) [.g [.R (a1), .R (a2)], .g [.R (b1), .R (b2)], .g [.R (p1), .R (p2)], .g [.R (r)]] (.k (.c (.v (.bool ((decide (Rt.seg ⟨a1, a2⟩ ⟨b1, b2⟩ ⟨p1, p2⟩ ≤ r * r))))))) by kernel_rfl) ?_
  obtain ⟨h1, h2, h3, h4, h5, h6, h7⟩ := hp
  ((repeat' first | apply And.intro | (intro _)) <;> first | trivial | rfl | (first | omega | (apply Nat.le_trans; (focus (repeat' first | assumption | apply szR_sub_le | apply szR_add_le | apply szR_mul_le)); omega)) | skip)
  · rename_i hA
    have kA := Rt.sg_le.1 (of_decide_eq_true hA)
    rw [seg1 kA]
    exact congrArg Value.bool (decide_eq_decide.2 Rt.sub_sg_le)
  · rename_i hA hB
    have kA := fun c => of_decide_eq_false hA (Rt.sg_le.2 c)
    have kB := sub_sg_ge.1 (of_decide_eq_true hB)
    rw [seg2 kA kB]
    exact congrArg Value.bool (decide_eq_decide.2 Rt.sub_sg_le)
  · rename_i hA hB
    have kA := fun c => of_decide_eq_false hA (Rt.sg_le.2 c)
    have kB := fun c => of_decide_eq_false hB (sub_sg_ge.2 c)
    have hL : 0 < (b1 - a1) * (b1 - a1) + (b2 - a2) * (b2 - a2) := by
      exact Std.lt_trans (Rat.not_le.1 kA) (Rat.not_le.1 kB)
    rw [seg3 kA kB]
    exact congrArg Value.bool (decide_eq_decide.2 (Rt.sub_sg_le.trans (Rt.le_div hL).symm))
set_option maxHeartbeats 4000000 in
theorem cKnear_ok : CtrOK Tryz.prog cKnear := .of (by kernel_rfl) (fun bs w xs vs pre r hr hA hG h hp => by
  simp only [cKnear] at h
  split at h
  · cases h
    exact ctr_calls mixed LT_ok XT2_ok Tryz.func42 (by kernel_rfl) hr hA hG rfl rfl (cKnear_owes _ _ _ _ _ _ _ hp)
  · cases h) (fun xs α pre φ r => by simp only [cKnear]; split <;> (intro h; cases h))
def XT3 : List Ctr := XT2 ++ [cKnear]
theorem XT3_ok : ∀ c ∈ XT3, CtrOK Tryz.prog c := ok_app XT2_ok (by
  intro c hc
  simp only [List.mem_cons, List.not_mem_nil, or_false] at hc
  rcases hc with rfl
  · exact cKnear_ok)
def cKpass : Ctr := ⟨23, fun | [.c (.pt (l)), .g [.R (v1), .R (v2)], .g [.R (r)]] => .yes (Rt.okp l ∧ szR v1 ≤ 90 ∧ szR v2 ≤ 90 ∧ szR r ≤ 90) (.k (.c (.v (.bool ((Rt.edB l ⟨v1, v2⟩ (r * r) l.length)))))) | _ => .no⟩
theorem cKpass_owes (l : List (Int × Int)) (v1 v2 r : Rat) (hp : Rt.okp l ∧ szR v1 ≤ 90 ∧ szR v2 ≤ 90 ∧ szR r ≤ 90) : owes LT XT3 [.inv 2 (Nat) (fun ξ => ⟨[.k (.c (.pt (l))), .u, .u, .u, .k (.c (.bx 0 0)), .k (.c (.bx 1 0)), .u, .k (.c (.v (.int .i64 ((ξ : Int))))), .u, .u, .u, .u, .u, .u, .u, .u, .u, .u, .u, .u, .u, .u, .u, .u, .u, .u], [⟨29, [.R (v1), .R (v2)]⟩, ⟨27, [.R (r)]⟩]⟩) (fun _ ξ => (ξ ≤ l.length ∧ Rt.edB l ⟨v1, v2⟩ (r * r) ξ = false)) (fun ξ => l.length - ξ)] Tryz.f23 (Tryz.f23.body.getD .skip) [.c (.pt (l)), .g [.R (v1), .R (v2)], .g [.R (r)]] (.k (.c (.v (.bool ((Rt.edB l ⟨v1, v2⟩ (r * r) l.length)))))) := by
  refine Eq.mp (show ((∃ x1 : Nat, (((x1 ≤ l.length ∧ Rt.edB l ⟨v1, v2⟩ (r * r) x1 = false)) ∧ (((l = l) ∧ ((True) ∧ ((True) ∧ ((Value.int .i64 ((0 : Int)) = (.int .i64 ((x1 : Int)))) ∧ (True))))) ∧ (((v1 = v1) ∧ ((v2 = v2) ∧ (True))) ∧ (((r = r) ∧ (True)) ∧ (True)))))) ∧ (∀ x1 : Nat, ((x1 ≤ l.length ∧ Rt.edB l ⟨v1, v2⟩ (r * r) x1 = false) → (((decide (((x1 : Int)) < (((l).length : Int)))) = true → ((0 ≤ (x1 : Int) ∧ (x1 : Int) < ((l).length : Int)) ∧ (((-9223372036854775808 ≤ (((l).getD ((x1 : Int)).toNat (0, 0)).1) ∧ (((l).getD ((x1 : Int)).toNat (0, 0)).1) ≤ 9223372036854775807) ∧ -9223372036854775808 ≤ (((l).getD ((x1 : Int)).toNat (0, 0)).2) ∧ (((l).getD ((x1 : Int)).toNat (0, 0)).2) ≤ 9223372036854775807) ∧ (((0 ≤ (x1 : Int) ∧ (x1 : Int) < ((l).length : Int)) ∧ (l).length ≤ 1000000000) ∧ (((-9223372036854775808 ≤ (((l).getD (Rt.nxt (l) ((x1 : Int)).toNat) (0, 0)).1) ∧ (((l).getD (Rt.nxt (l) ((x1 : Int)).toNat) (0, 0)).1) ≤ 9223372036854775807) ∧ -9223372036854775808 ≤ (((l).getD (Rt.nxt (l) ((x1 : Int)).toNat) (0, 0)).2) ∧ (((l).getD (Rt.nxt (l) ((x1 : Int)).toNat) (0, 0)).2) ≤ 9223372036854775807) ∧ ((szR ((((((l).getD ((x1 : Int)).toNat (0, 0)).1 : Int)) : Rat)) ≤ 100 ∧ szR ((((((l).getD ((x1 : Int)).toNat (0, 0)).2 : Int)) : Rat)) ≤ 100 ∧ szR ((((((l).getD (Rt.nxt (l) ((x1 : Int)).toNat) (0, 0)).1 : Int)) : Rat)) ≤ 100 ∧ szR ((((((l).getD (Rt.nxt (l) ((x1 : Int)).toNat) (0, 0)).2 : Int)) : Rat)) ≤ 100 ∧ szR (v1) ≤ 100 ∧ szR (v2) ≤ 100 ∧ szR (r) ≤ 100) ∧ ((((decide (Rt.seg ⟨((((((l).getD ((x1 : Int)).toNat (0, 0)).1 : Int)) : Rat)), ((((((l).getD ((x1 : Int)).toNat (0, 0)).2 : Int)) : Rat))⟩ ⟨((((((l).getD (Rt.nxt (l) ((x1 : Int)).toNat) (0, 0)).1 : Int)) : Rat)), ((((((l).getD (Rt.nxt (l) ((x1 : Int)).toNat) (0, 0)).2 : Int)) : Rat))⟩ ⟨(v1), (v2)⟩ ≤ (r) * (r)))) = true → (Value.bool (true) = (.bool ((Rt.edB l ⟨v1, v2⟩ (r * r) l.length))))) ∧ (((decide (Rt.seg ⟨((((((l).getD ((x1 : Int)).toNat (0, 0)).1 : Int)) : Rat)), ((((((l).getD ((x1 : Int)).toNat (0, 0)).2 : Int)) : Rat))⟩ ⟨((((((l).getD (Rt.nxt (l) ((x1 : Int)).toNat) (0, 0)).1 : Int)) : Rat)), ((((((l).getD (Rt.nxt (l) ((x1 : Int)).toNat) (0, 0)).2 : Int)) : Rat))⟩ ⟨(v1), (v2)⟩ ≤ (r) * (r)))) = false → ((inR .i64 (((x1 : Int)) + ((1 : Int)))) ∧ (∃ y1 : Nat, (((y1 ≤ l.length ∧ Rt.edB l ⟨v1, v2⟩ (r * r) y1 = false)) ∧ ((l.length - y1 < l.length - x1) ∧ (((l = l) ∧ ((True) ∧ ((True) ∧ ((Value.int .i64 (((x1 : Int)) + ((1 : Int))) = (.int .i64 ((y1 : Int)))) ∧ (True))))) ∧ (((v1 = v1) ∧ ((v2 = v2) ∧ (True))) ∧ (((r = r) ∧ (True)) ∧ (True)))))))))))))))) ∧ ((decide (((x1 : Int)) < (((l).length : Int)))) = false → (Value.bool (false) = (.bool ((Rt.edB l ⟨v1, v2⟩ (r * r) l.length))))))))) = owes LT XT3 [.inv 2 (Nat) (fun ξ => ⟨[.k (.c (.pt (l))), .u, .u, .u, .k (.c (.bx 0 0)), .k (.c (.bx 1 0)), .u, .k (.c (.v (.int .i64 ((ξ : Int))))), .u, .u, .u, .u, .u, .u, .u, .u, .u, .u, .u, .u, .u, .u, .u, .u, .u, .u], [⟨29, [.R (v1), .R (v2)]⟩, ⟨27, [.R (r)]⟩]⟩) (fun _ ξ => (ξ ≤ l.length ∧ Rt.edB l ⟨v1, v2⟩ (r * r) ξ = false)) (fun ξ => l.length - ξ)] Tryz.f23 (Tryz.f23.body.getD .skip) [.c (.pt (l)), .g [.R (v1), .R (v2)], .g [.R (r)]] (.k (.c (.v (.bool ((Rt.edB l ⟨v1, v2⟩ (r * r) l.length)))))) by kernel_rfl) ?_
  obtain ⟨ho, h1, h2, h3⟩ := hp
  refine ⟨⟨0, ⟨Nat.zero_le _, rfl⟩, by simp, by simp, by simp, trivial⟩, ?_⟩
  rintro k ⟨hk, he⟩
  simp only [Int.toNat_natCast]
  have A := ho.1 k
  have B := ho.1 (Rt.nxt l k)
  have sa1 := szR_int A.1
  have sa2 := szR_int A.2
  have sb1 := szR_int B.1
  have sb2 := szR_int B.2
  have hlen := ho.2
  refine ⟨fun h => ?_, fun h => ?_⟩
  · have hkl : k < l.length := by simpa using h
    have hs : Rt.edB l ⟨v1, v2⟩ (r * r) (k + 1) = decide (Rt.seg (Rt.pt l k) (Rt.pt l (Rt.nxt l k)) ⟨v1, v2⟩ ≤ r * r) := by
      show (Rt.edB l ⟨v1, v2⟩ (r * r) k || _) = _
      rw [he, Bool.false_or]
    refine ⟨⟨by omega, by omega⟩, A, ⟨⟨by omega, by omega⟩, hlen⟩, B, ⟨by omega, by omega, by omega, by omega, by omega, by omega, by omega⟩, fun c => ?_, fun c => ?_⟩
    · rw [Rt.edB_true (k := k + 1) hkl (hs.trans c)]
    · exact ⟨by simp only [inR]; omega, k + 1, ⟨hkl, hs.trans c⟩, by omega, by simp, by simp, by simp, trivial⟩
  · have hkl : k = l.length := by
      have := of_decide_eq_false h
      omega
    subst hkl
    rw [he]
theorem cKpass_ok : CtrOK Tryz.prog cKpass := .of (by kernel_rfl) (fun bs w xs vs pre r hr hA hG h hp => by
  simp only [cKpass] at h
  split at h
  · cases h
    exact ctr_calls mixed LT_ok XT3_ok Tryz.func23 (by kernel_rfl) hr hA hG rfl rfl (cKpass_owes _ _ _ _ hp)
  · cases h) (fun xs α pre φ r => by simp only [cKpass]; split <;> (intro h; cases h))
def XT4 : List Ctr := XT3 ++ [cKpass]
theorem XT4_ok : ∀ c ∈ XT4, CtrOK Tryz.prog c := ok_app XT3_ok (by
  intro c hc
  simp only [List.mem_cons, List.not_mem_nil, or_false] at hc
  rcases hc with rfl
  · exact cKpass_ok)
def cKcov : Ctr := ⟨9, fun | [.c (.pp (ps)), .c (.v (.int .i64 (r))), .g [.R (v1), .R (v2)]] => .yes ((∀ j, Rt.okp (ps.getD j [])) ∧ ps.length ≤ 1000000000 ∧ (-9223372036854775808 ≤ r ∧ r ≤ 9223372036854775807) ∧ szR v1 ≤ 90 ∧ szR v2 ≤ 90) (.k (.c (.v (.bool ((Rt.covB ps r ⟨v1, v2⟩)))))) | _ => .no⟩
theorem cKcov_owes (ps : List (List (Int × Int))) (r : Int) (v1 v2 : Rat) (hp : (∀ j, Rt.okp (ps.getD j [])) ∧ ps.length ≤ 1000000000 ∧ (-9223372036854775808 ≤ r ∧ r ≤ 9223372036854775807) ∧ szR v1 ≤ 90 ∧ szR v2 ≤ 90) : owes LT XT4 [.inv 4 (Nat) (fun ξ => ⟨[.k (.c (.pp (ps))), .k (.c (.v (.int .i64 (r)))), .u, .u, .u, .k (.c (.bx 0 0)), .u, .k (.c (.v (.int .i64 ((ξ : Int))))), .u, .u, .u, .u, .u, .u, .u, .u, .u, .u, .u, .u, .u, .u, .u, .u], [⟨29, [.R (v1), .R (v2)]⟩]⟩) (fun _ ξ => (ξ ≤ ps.length ∧ Rt.cvB ps ⟨v1, v2⟩ ((r : Rat) * (r : Rat)) ξ = false)) (fun ξ => ps.length - ξ)] Tryz.f9 (Tryz.f9.body.getD .skip) [.c (.pp (ps)), .c (.v (.int .i64 (r))), .g [.R (v1), .R (v2)]] (.k (.c (.v (.bool ((Rt.covB ps r ⟨v1, v2⟩)))))) := by
  refine Eq.mp (show (((decide ((r) < ((0 : Int)))) = true → (Value.bool (false) = (.bool ((Rt.covB ps r ⟨v1, v2⟩))))) ∧ ((decide ((r) < ((0 : Int)))) = false → ((∃ x1 : Nat, (((x1 ≤ ps.length ∧ Rt.cvB ps ⟨v1, v2⟩ ((r : Rat) * (r : Rat)) x1 = false)) ∧ (((ps = ps) ∧ ((Value.int .i64 (r) = (.int .i64 (r))) ∧ ((True) ∧ ((Value.int .i64 ((0 : Int)) = (.int .i64 ((x1 : Int)))) ∧ (True))))) ∧ (((v1 = v1) ∧ ((v2 = v2) ∧ (True))) ∧ (True))))) ∧ (∀ x1 : Nat, ((x1 ≤ ps.length ∧ Rt.cvB ps ⟨v1, v2⟩ ((r : Rat) * (r : Rat)) x1 = false) → (((decide (((x1 : Int)) < (((ps).length : Int)))) = true → ((0 ≤ (x1 : Int) ∧ (x1 : Int) < ((ps).length : Int)) ∧ ((-9223372036854775808 ≤ (r) ∧ (r) ≤ 9223372036854775807) ∧ ((Rt.okp (((ps).getD ((x1 : Int)).toNat [])) ∧ szR (v1) ≤ 90 ∧ szR (v2) ≤ 90 ∧ szR (((r) : Rat)) ≤ 90) ∧ ((((Rt.edB (((ps).getD ((x1 : Int)).toNat [])) ⟨(v1), (v2)⟩ ((((r) : Rat)) * (((r) : Rat))) (((ps).getD ((x1 : Int)).toNat [])).length)) = true → (Value.bool (true) = (.bool ((Rt.covB ps r ⟨v1, v2⟩))))) ∧ (((Rt.edB (((ps).getD ((x1 : Int)).toNat [])) ⟨(v1), (v2)⟩ ((((r) : Rat)) * (((r) : Rat))) (((ps).getD ((x1 : Int)).toNat [])).length)) = false → ((inR .i64 (((x1 : Int)) + ((1 : Int)))) ∧ (∃ y1 : Nat, (((y1 ≤ ps.length ∧ Rt.cvB ps ⟨v1, v2⟩ ((r : Rat) * (r : Rat)) y1 = false)) ∧ ((ps.length - y1 < ps.length - x1) ∧ (((ps = ps) ∧ ((Value.int .i64 (r) = (.int .i64 (r))) ∧ ((True) ∧ ((Value.int .i64 (((x1 : Int)) + ((1 : Int))) = (.int .i64 ((y1 : Int)))) ∧ (True))))) ∧ (((v1 = v1) ∧ ((v2 = v2) ∧ (True))) ∧ (True))))))))))))) ∧ ((decide (((x1 : Int)) < (((ps).length : Int)))) = false → (Value.bool (false) = (.bool ((Rt.covB ps r ⟨v1, v2⟩))))))))))) = owes LT XT4 [.inv 4 (Nat) (fun ξ => ⟨[.k (.c (.pp (ps))), .k (.c (.v (.int .i64 (r)))), .u, .u, .u, .k (.c (.bx 0 0)), .u, .k (.c (.v (.int .i64 ((ξ : Int))))), .u, .u, .u, .u, .u, .u, .u, .u, .u, .u, .u, .u, .u, .u, .u, .u], [⟨29, [.R (v1), .R (v2)]⟩]⟩) (fun _ ξ => (ξ ≤ ps.length ∧ Rt.cvB ps ⟨v1, v2⟩ ((r : Rat) * (r : Rat)) ξ = false)) (fun ξ => ps.length - ξ)] Tryz.f9 (Tryz.f9.body.getD .skip) [.c (.pp (ps)), .c (.v (.int .i64 (r))), .g [.R (v1), .R (v2)]] (.k (.c (.v (.bool ((Rt.covB ps r ⟨v1, v2⟩)))))) by kernel_rfl) ?_
  obtain ⟨hps, hn, hr, hv1, hv2⟩ := hp
  have hr3 : szR (r : Rat) ≤ 3 := szR_int hr
  refine ⟨fun h => ?_, fun h => ?_⟩
  · unfold Rt.covB
    rw [h]
    rfl
  have hcov : Rt.covB ps r ⟨v1, v2⟩ = Rt.cvB ps ⟨v1, v2⟩ ((r : Rat) * (r : Rat)) ps.length := by
    unfold Rt.covB
    rw [h]
    rfl
  rw [hcov]
  refine ⟨⟨0, ⟨Nat.zero_le _, rfl⟩, by simp, by simp, trivial⟩, ?_⟩
  rintro j ⟨hj, hcj⟩
  simp only [Int.toNat_natCast]
  refine ⟨fun h2 => ?_, fun h2 => ?_⟩
  · have hjl : j < ps.length := by simpa using h2
    have hcs : Rt.cvB ps ⟨v1, v2⟩ ((r : Rat) * (r : Rat)) (j + 1) = Rt.edB (ps.getD j []) ⟨v1, v2⟩ ((r : Rat) * (r : Rat)) (ps.getD j []).length := by
      show (Rt.cvB ps ⟨v1, v2⟩ ((r : Rat) * (r : Rat)) j || _) = _
      rw [hcj, Bool.false_or]
    refine ⟨⟨by omega, by omega⟩, hr, ⟨hps j, hv1, hv2, by omega⟩, fun c => ?_, fun c => ?_⟩
    · rw [Rt.cvB_true (k := j + 1) hjl (hcs.trans c)]
    · exact ⟨by simp only [inR]; omega, j + 1, ⟨hjl, hcs.trans c⟩, by omega, by simp, by simp, trivial⟩
  · have hjl : j = ps.length := by
      have := of_decide_eq_false h2
      omega
    subst hjl
    rw [hcj]
theorem cKcov_ok : CtrOK Tryz.prog cKcov := .of (by kernel_rfl) (fun bs w xs vs pre r hr hA hG h hp => by
  simp only [cKcov] at h
  split at h
  · cases h
    exact ctr_calls mixed LT_ok XT4_ok Tryz.func9 (by kernel_rfl) hr hA hG rfl rfl (cKcov_owes _ _ _ _ hp)
  · cases h) (fun xs α pre φ r => by simp only [cKcov]; split <;> (intro h; cases h))
theorem wB_zero {v a b : Rt.V2} (h : (decide (Rt.sg (a.y - v.y) ≥ 0) == decide (Rt.sg (b.y - v.y) ≥ 0)) = true) : Rt.wB v a b = 0 := by
  rw [beq_iff_eq, decide_eq_decide, sub_sg_ge, sub_sg_ge] at h
  exact if_pos h
theorem wB_ne {v a b : Rt.V2} (h : (decide (Rt.sg (a.y - v.y) ≥ 0) == decide (Rt.sg (b.y - v.y) ≥ 0)) = false) : Rt.wB v a b = (if v.y ≤ b.y ∧ 0 < Rt.side a b v then 1 else 0) + (if v.y ≤ a.y ∧ Rt.side a b v < 0 then -1 else 0) := by
  rw [beq_eq_false_iff_ne, ne_eq, decide_eq_decide, sub_sg_ge, sub_sg_ge] at h
  exact if_neg h
theorem wB_c1 {v b : Rt.V2} {s : Int} : (bif decide (Rt.sg (b.y - v.y) ≥ 0) then decide (s > 0) else false) = true ↔ v.y ≤ b.y ∧ 0 < s := by
  have := @sub_sg_ge b.y v.y
  by_cases h : Rt.sg (b.y - v.y) ≥ 0
  · simp [h, this.1 h]
  · have h2 : ¬ v.y ≤ b.y := fun c => h (this.2 c)
    simp [h, h2]
theorem wB_c2 {v b : Rt.V2} {s : Int} : (bif decide (Rt.sg (b.y - v.y) ≥ 0) then decide (s < 0) else false) = true ↔ v.y ≤ b.y ∧ s < 0 := by
  have := @sub_sg_ge b.y v.y
  by_cases h : Rt.sg (b.y - v.y) ≥ 0
  · simp [h, this.1 h]
  · have h2 : ¬ v.y ≤ b.y := fun c => h (this.2 c)
    simp [h, h2]
theorem wB_11 {v a b : Rt.V2} (c1 : (bif decide (Rt.sg (b.y - v.y) ≥ 0) then decide (Rt.side a b v > 0) else false) = true) (c2 : (bif decide (Rt.sg (a.y - v.y) ≥ 0) then decide (Rt.side a b v < 0) else false) = true) : False := by
  have h1 := (wB_c1.1 c1).2
  have h2 := (wB_c2.1 c2).2
  omega
section
variable {v a b : Rt.V2} (h : (decide (Rt.sg (a.y - v.y) ≥ 0) == decide (Rt.sg (b.y - v.y) ≥ 0)) = false)
include h
theorem wB_10 (c1 : (bif decide (Rt.sg (b.y - v.y) ≥ 0) then decide (Rt.side a b v > 0) else false) = true) (c2 : (bif decide (Rt.sg (a.y - v.y) ≥ 0) then decide (Rt.side a b v < 0) else false) = false) : Rt.wB v a b = 1 := by
  rw [wB_ne h, if_pos (wB_c1.1 c1), if_neg (fun c => by rw [wB_c2.2 c] at c2; cases c2)]; rfl
theorem wB_01 (c1 : (bif decide (Rt.sg (b.y - v.y) ≥ 0) then decide (Rt.side a b v > 0) else false) = false) (c2 : (bif decide (Rt.sg (a.y - v.y) ≥ 0) then decide (Rt.side a b v < 0) else false) = true) : Rt.wB v a b = -1 := by
  rw [wB_ne h, if_pos (wB_c2.1 c2), if_neg (fun c => by rw [wB_c1.2 c] at c1; cases c1)]; rfl
theorem wB_00 (c1 : (bif decide (Rt.sg (b.y - v.y) ≥ 0) then decide (Rt.side a b v > 0) else false) = false) (c2 : (bif decide (Rt.sg (a.y - v.y) ≥ 0) then decide (Rt.side a b v < 0) else false) = false) : Rt.wB v a b = 0 := by
  rw [wB_ne h, if_neg (fun c => by rw [wB_c1.2 c] at c1; cases c1), if_neg (fun c => by rw [wB_c2.2 c] at c2; cases c2)]; rfl
end
theorem wB_bound (v a b : Rt.V2) : -1 ≤ Rt.wB v a b ∧ Rt.wB v a b ≤ 1 := by
  unfold Rt.wB
  split
  · omega
  · split <;> split <;> omega
theorem sumB_bound (f : Nat → Int) (hf : ∀ i, -1 ≤ f i ∧ f i ≤ 1) : ∀ k : Nat, -(k : Int) ≤ Rt.sumN f k ∧ Rt.sumN f k ≤ k
  | 0 => by unfold Rt.sumN; omega
  | k + 1 => by
    have := sumB_bound f hf k
    have := hf k
    unfold Rt.sumN
    omega
theorem on_iff {l : List (Int × Int)} {v : Rt.V2} : Rt.edB l v (((0 : Int) : Rat) * ((0 : Int) : Rat)) l.length = true ↔ Rt.onP l v := by
  have hz : ((0 : Int) : Rat) * ((0 : Int) : Rat) = 0 := by simp
  rw [hz, Rt.edB_iff]
  constructor
  · rintro ⟨i, hi, h⟩
    exact ⟨i, hi, Rat.le_antisymm h (Rt.seg_nonneg _ _ _)⟩
  · rintro ⟨i, hi, h⟩
    refine ⟨i, hi, ?_⟩
    unfold Rt.nxt
    rw [h]
    exact Rat.le_refl
def cKwind : Ctr := ⟨13, fun | [.c (.pt (l)), .g [.R (v1), .R (v2)]] => .yes (Rt.okp l ∧ szR v1 ≤ 90 ∧ szR v2 ≤ 90) (.t [.c (.v (.int .i64 ((Rt.windN l ⟨v1, v2⟩)))), .c (.v (.int .i64 ((Rt.windE l ⟨v1, v2⟩))))]) | _ => .no⟩
set_option maxHeartbeats 4000000 in
theorem cKwind_owes (l : List (Int × Int)) (v1 v2 : Rat) (hp : Rt.okp l ∧ szR v1 ≤ 90 ∧ szR v2 ≤ 90) : owes LT XT4 [.inv 5 (Nat) (fun ξ => ⟨[.k (.c (.pt (l))), .u, .u, .k (.c (.bx 0 0)), .u, .u, .k (.c (.v (.int .i64 ((Rt.sumN (fun i => Rt.wB ⟨v1, v2⟩ (Rt.pt l i) (Rt.pt l (Rt.nxt l i))) ξ))))), .k (.c (.v (.int .i64 ((ξ : Int))))), .u, .u, .u, .u, .u, .u, .u, .u, .u, .u, .u, .u, .u, .u, .u, .u, .u, .u, .u, .u, .u, .u, .u, .u, .u, .u, .u, .u, .u, .u, .u, .u, .u, .u, .u, .u, .u, .u, .u, .u, .u, .u, .u, .u, .u, .u, .u, .u, .u, .u, .u, .u, .u, .u, .u, .u, .u, .u, .u, .u, .u, .u, .u, .u, .u, .u, .u], [⟨29, [.R (v1), .R (v2)]⟩]⟩) (fun _ ξ => (ξ ≤ l.length)) (fun ξ => l.length - ξ)] Tryz.f13 (Tryz.f13.body.getD .skip) [.c (.pt (l)), .g [.R (v1), .R (v2)]] (.t [.c (.v (.int .i64 ((Rt.windN l ⟨v1, v2⟩)))), .c (.v (.int .i64 ((Rt.windE l ⟨v1, v2⟩))))]) := by
  refine Eq.mp (show (((((((l).length : Int)) == ((0 : Int))) == false) = true → (-9223372036854775808 ≤ ((0 : Int)) ∧ ((0 : Int)) ≤ 9223372036854775807)) ∧ (((((((l).length : Int)) == ((0 : Int))) == false) = true → (Rt.okp (l) ∧ szR (v1) ≤ 90 ∧ szR (v2) ≤ 90 ∧ szR ((((0 : Int)) : Rat)) ≤ 90)) ∧ (((bif ((((l).length : Int)) == ((0 : Int))) then (true) else ((Rt.edB (l) ⟨(v1), (v2)⟩ (((((0 : Int)) : Rat)) * ((((0 : Int)) : Rat))) (l).length))) = true → ((Value.int .i64 ((0 : Int)) = (.int .i64 ((Rt.windN l ⟨v1, v2⟩)))) ∧ ((Value.int .i64 ((1 : Int)) = (.int .i64 ((Rt.windE l ⟨v1, v2⟩)))) ∧ (True)))) ∧ ((bif ((((l).length : Int)) == ((0 : Int))) then (true) else ((Rt.edB (l) ⟨(v1), (v2)⟩ (((((0 : Int)) : Rat)) * ((((0 : Int)) : Rat))) (l).length))) = false → ((∃ x1 : Nat, (((x1 ≤ l.length)) ∧ (((l = l) ∧ ((True) ∧ ((Value.int .i64 ((0 : Int)) = (.int .i64 ((Rt.sumN (fun i => Rt.wB ⟨v1, v2⟩ (Rt.pt l i) (Rt.pt l (Rt.nxt l i))) x1)))) ∧ ((Value.int .i64 ((0 : Int)) = (.int .i64 ((x1 : Int)))) ∧ (True))))) ∧ (((v1 = v1) ∧ ((v2 = v2) ∧ (True))) ∧ (True))))) ∧ (∀ x1 : Nat, ((x1 ≤ l.length) → (((decide (((x1 : Int)) < (((l).length : Int)))) = true → ((0 ≤ (x1 : Int) ∧ (x1 : Int) < ((l).length : Int)) ∧ (((-9223372036854775808 ≤ (((l).getD ((x1 : Int)).toNat (0, 0)).1) ∧ (((l).getD ((x1 : Int)).toNat (0, 0)).1) ≤ 9223372036854775807) ∧ -9223372036854775808 ≤ (((l).getD ((x1 : Int)).toNat (0, 0)).2) ∧ (((l).getD ((x1 : Int)).toNat (0, 0)).2) ≤ 9223372036854775807) ∧ (((0 ≤ (x1 : Int) ∧ (x1 : Int) < ((l).length : Int)) ∧ (l).length ≤ 1000000000) ∧ (((-9223372036854775808 ≤ (((l).getD (Rt.nxt (l) ((x1 : Int)).toNat) (0, 0)).1) ∧ (((l).getD (Rt.nxt (l) ((x1 : Int)).toNat) (0, 0)).1) ≤ 9223372036854775807) ∧ -9223372036854775808 ≤ (((l).getD (Rt.nxt (l) ((x1 : Int)).toNat) (0, 0)).2) ∧ (((l).getD (Rt.nxt (l) ((x1 : Int)).toNat) (0, 0)).2) ≤ 9223372036854775807) ∧ ((szR ((((((l).getD ((x1 : Int)).toNat (0, 0)).2 : Int)) : Rat)) ≤ 1000000 ∧ szR (v2) ≤ 1000000) ∧ ((szR ((((((l).getD (Rt.nxt (l) ((x1 : Int)).toNat) (0, 0)).2 : Int)) : Rat)) ≤ 1000000 ∧ szR (v2) ≤ 1000000) ∧ ((((decide (((Rt.sg (((((((l).getD ((x1 : Int)).toNat (0, 0)).2 : Int)) : Rat)) - (v2)))) ≥ ((0 : Int)))) == (decide (((Rt.sg (((((((l).getD (Rt.nxt (l) ((x1 : Int)).toNat) (0, 0)).2 : Int)) : Rat)) - (v2)))) ≥ ((0 : Int))))) = true → ((inR .i64 (((x1 : Int)) + ((1 : Int)))) ∧ (∃ y1 : Nat, (((y1 ≤ l.length)) ∧ ((l.length - y1 < l.length - x1) ∧ (((l = l) ∧ ((True) ∧ ((Value.int .i64 ((Rt.sumN (fun i => Rt.wB ⟨v1, v2⟩ (Rt.pt l i) (Rt.pt l (Rt.nxt l i))) x1)) = (.int .i64 ((Rt.sumN (fun i => Rt.wB ⟨v1, v2⟩ (Rt.pt l i) (Rt.pt l (Rt.nxt l i))) y1)))) ∧ ((Value.int .i64 (((x1 : Int)) + ((1 : Int))) = (.int .i64 ((y1 : Int)))) ∧ (True))))) ∧ (((v1 = v1) ∧ ((v2 = v2) ∧ (True))) ∧ (True)))))))) ∧ (((decide (((Rt.sg (((((((l).getD ((x1 : Int)).toNat (0, 0)).2 : Int)) : Rat)) - (v2)))) ≥ ((0 : Int)))) == (decide (((Rt.sg (((((((l).getD (Rt.nxt (l) ((x1 : Int)).toNat) (0, 0)).2 : Int)) : Rat)) - (v2)))) ≥ ((0 : Int))))) = false → ((szR ((((((l).getD ((x1 : Int)).toNat (0, 0)).1 : Int)) : Rat)) ≤ 100000 ∧ szR ((((((l).getD ((x1 : Int)).toNat (0, 0)).2 : Int)) : Rat)) ≤ 100000 ∧ szR ((((((l).getD (Rt.nxt (l) ((x1 : Int)).toNat) (0, 0)).1 : Int)) : Rat)) ≤ 100000 ∧ szR ((((((l).getD (Rt.nxt (l) ((x1 : Int)).toNat) (0, 0)).2 : Int)) : Rat)) ≤ 100000) ∧ ((szR ((((((l).getD ((x1 : Int)).toNat (0, 0)).1 : Int)) : Rat)) ≤ 100000 ∧ szR ((((((l).getD ((x1 : Int)).toNat (0, 0)).2 : Int)) : Rat)) ≤ 100000 ∧ szR (v1) ≤ 100000 ∧ szR (v2) ≤ 100000) ∧ (((szR ((((((((l).getD (Rt.nxt (l) ((x1 : Int)).toNat) (0, 0)).1 : Int)) : Rat)) - ((((((l).getD ((x1 : Int)).toNat (0, 0)).1 : Int)) : Rat)))) ≤ 100000 ∧ szR ((((((((l).getD (Rt.nxt (l) ((x1 : Int)).toNat) (0, 0)).2 : Int)) : Rat)) - ((((((l).getD ((x1 : Int)).toNat (0, 0)).2 : Int)) : Rat)))) ≤ 100000) ∧ szR (((v1) - ((((((l).getD ((x1 : Int)).toNat (0, 0)).1 : Int)) : Rat)))) ≤ 100000 ∧ szR (((v2) - ((((((l).getD ((x1 : Int)).toNat (0, 0)).2 : Int)) : Rat)))) ≤ 100000) ∧ ((True) ∧ (((bif (decide (((Rt.sg (((((((l).getD (Rt.nxt (l) ((x1 : Int)).toNat) (0, 0)).2 : Int)) : Rat)) - (v2)))) ≥ ((0 : Int)))) then (decide (((Rt.sg ((((((((((l).getD (Rt.nxt (l) ((x1 : Int)).toNat) (0, 0)).1 : Int)) : Rat)) - ((((((l).getD ((x1 : Int)).toNat (0, 0)).1 : Int)) : Rat)))) * (((v2) - ((((((l).getD ((x1 : Int)).toNat (0, 0)).2 : Int)) : Rat)))) - ((((((((l).getD (Rt.nxt (l) ((x1 : Int)).toNat) (0, 0)).2 : Int)) : Rat)) - ((((((l).getD ((x1 : Int)).toNat (0, 0)).2 : Int)) : Rat)))) * (((v1) - ((((((l).getD ((x1 : Int)).toNat (0, 0)).1 : Int)) : Rat)))))))) > ((0 : Int)))) else (false)) = true → ((inR .i64 (((Rt.sumN (fun i => Rt.wB ⟨v1, v2⟩ (Rt.pt l i) (Rt.pt l (Rt.nxt l i))) x1)) + ((1 : Int)))) ∧ (((bif (decide (((Rt.sg (((((((l).getD ((x1 : Int)).toNat (0, 0)).2 : Int)) : Rat)) - (v2)))) ≥ ((0 : Int)))) then (decide (((Rt.sg ((((((((((l).getD (Rt.nxt (l) ((x1 : Int)).toNat) (0, 0)).1 : Int)) : Rat)) - ((((((l).getD ((x1 : Int)).toNat (0, 0)).1 : Int)) : Rat)))) * (((v2) - ((((((l).getD ((x1 : Int)).toNat (0, 0)).2 : Int)) : Rat)))) - ((((((((l).getD (Rt.nxt (l) ((x1 : Int)).toNat) (0, 0)).2 : Int)) : Rat)) - ((((((l).getD ((x1 : Int)).toNat (0, 0)).2 : Int)) : Rat)))) * (((v1) - ((((((l).getD ((x1 : Int)).toNat (0, 0)).1 : Int)) : Rat)))))))) < ((0 : Int)))) else (false)) = true → ((inR .i64 ((((Rt.sumN (fun i => Rt.wB ⟨v1, v2⟩ (Rt.pt l i) (Rt.pt l (Rt.nxt l i))) x1)) + ((1 : Int))) - ((1 : Int)))) ∧ ((inR .i64 (((x1 : Int)) + ((1 : Int)))) ∧ (∃ y1 : Nat, (((y1 ≤ l.length)) ∧ ((l.length - y1 < l.length - x1) ∧ (((l = l) ∧ ((True) ∧ ((Value.int .i64 ((((Rt.sumN (fun i => Rt.wB ⟨v1, v2⟩ (Rt.pt l i) (Rt.pt l (Rt.nxt l i))) x1)) + ((1 : Int))) - ((1 : Int))) = (.int .i64 ((Rt.sumN (fun i => Rt.wB ⟨v1, v2⟩ (Rt.pt l i) (Rt.pt l (Rt.nxt l i))) y1)))) ∧ ((Value.int .i64 (((x1 : Int)) + ((1 : Int))) = (.int .i64 ((y1 : Int)))) ∧ (True))))) ∧ (((v1 = v1) ∧ ((v2 = v2) ∧ (True))) ∧ (True))))))))) ∧ ((bif (decide (((Rt.sg (((((((l).getD ((x1 : Int)).toNat (0, 0)).2 : Int)) : Rat)) - (v2)))) ≥ ((0 : Int)))) then (decide (((Rt.sg ((((((((((l).getD (Rt.nxt (l) ((x1 : Int)).toNat) (0, 0)).1 : Int)) : Rat)) - ((((((l).getD ((x1 : Int)).toNat (0, 0)).1 : Int)) : Rat)))) * (((v2) - ((((((l).getD ((x1 : Int)).toNat (0, 0)).2 : Int)) : Rat)))) - ((((((((l).getD (Rt.nxt (l) ((x1 : Int)).toNat) (0, 0)).2 : Int)) : Rat)) - ((((((l).getD ((x1 : Int)).toNat (0, 0)).2 : Int)) : Rat)))) * (((v1) - ((((((l).getD ((x1 : Int)).toNat (0, 0)).1 : Int)) : Rat)))))))) < ((0 : Int)))) else (false)) = false → ((inR .i64 (((x1 : Int)) + ((1 : Int)))) ∧ (∃ y1 : Nat, (((y1 ≤ l.length)) ∧ ((l.length - y1 < l.length - x1) ∧ (((l = l) ∧ ((True) ∧ ((Value.int .i64 (((Rt.sumN (fun i => Rt.wB ⟨v1, v2⟩ (Rt.pt l i) (Rt.pt l (Rt.nxt l i))) x1)) + ((1 : Int))) = (.int .i64 ((Rt.sumN (fun i => Rt.wB ⟨v1, v2⟩ (Rt.pt l i) (Rt.pt l (Rt.nxt l i))) y1)))) ∧ ((Value.int .i64 (((x1 : Int)) + ((1 : Int))) = (.int .i64 ((y1 : Int)))) ∧ (True))))) ∧ (((v1 = v1) ∧ ((v2 = v2) ∧ (True))) ∧ (True))))))))))) ∧ ((bif (decide (((Rt.sg (((((((l).getD (Rt.nxt (l) ((x1 : Int)).toNat) (0, 0)).2 : Int)) : Rat)) - (v2)))) ≥ ((0 : Int)))) then (decide (((Rt.sg ((((((((((l).getD (Rt.nxt (l) ((x1 : Int)).toNat) (0, 0)).1 : Int)) : Rat)) - ((((((l).getD ((x1 : Int)).toNat (0, 0)).1 : Int)) : Rat)))) * (((v2) - ((((((l).getD ((x1 : Int)).toNat (0, 0)).2 : Int)) : Rat)))) - ((((((((l).getD (Rt.nxt (l) ((x1 : Int)).toNat) (0, 0)).2 : Int)) : Rat)) - ((((((l).getD ((x1 : Int)).toNat (0, 0)).2 : Int)) : Rat)))) * (((v1) - ((((((l).getD ((x1 : Int)).toNat (0, 0)).1 : Int)) : Rat)))))))) > ((0 : Int)))) else (false)) = false → (((bif (decide (((Rt.sg (((((((l).getD ((x1 : Int)).toNat (0, 0)).2 : Int)) : Rat)) - (v2)))) ≥ ((0 : Int)))) then (decide (((Rt.sg ((((((((((l).getD (Rt.nxt (l) ((x1 : Int)).toNat) (0, 0)).1 : Int)) : Rat)) - ((((((l).getD ((x1 : Int)).toNat (0, 0)).1 : Int)) : Rat)))) * (((v2) - ((((((l).getD ((x1 : Int)).toNat (0, 0)).2 : Int)) : Rat)))) - ((((((((l).getD (Rt.nxt (l) ((x1 : Int)).toNat) (0, 0)).2 : Int)) : Rat)) - ((((((l).getD ((x1 : Int)).toNat (0, 0)).2 : Int)) : Rat)))) * (((v1) - ((((((l).getD ((x1 : Int)).toNat (0, 0)).1 : Int)) : Rat)))))))) < ((0 : Int)))) else (false)) = true → ((inR .i64 (((Rt.sumN (fun i => Rt.wB ⟨v1, v2⟩ (Rt.pt l i) (Rt.pt l (Rt.nxt l i))) x1)) - ((1 : Int)))) ∧ ((inR .i64 (((x1 : Int)) + ((1 : Int)))) ∧ (∃ y1 : Nat, (((y1 ≤ l.length)) ∧ ((l.length - y1 < l.length - x1) ∧ (((l = l) ∧ ((True) ∧ ((Value.int .i64 (((Rt.sumN (fun i => Rt.wB ⟨v1, v2⟩ (Rt.pt l i) (Rt.pt l (Rt.nxt l i))) x1)) - ((1 : Int))) = (.int .i64 ((Rt.sumN (fun i => Rt.wB ⟨v1, v2⟩ (Rt.pt l i) (Rt.pt l (Rt.nxt l i))) y1)))) ∧ ((Value.int .i64 (((x1 : Int)) + ((1 : Int))) = (.int .i64 ((y1 : Int)))) ∧ (True))))) ∧ (((v1 = v1) ∧ ((v2 = v2) ∧ (True))) ∧ (True))))))))) ∧ ((bif (decide (((Rt.sg (((((((l).getD ((x1 : Int)).toNat (0, 0)).2 : Int)) : Rat)) - (v2)))) ≥ ((0 : Int)))) then (decide (((Rt.sg ((((((((((l).getD (Rt.nxt (l) ((x1 : Int)).toNat) (0, 0)).1 : Int)) : Rat)) - ((((((l).getD ((x1 : Int)).toNat (0, 0)).1 : Int)) : Rat)))) * (((v2) - ((((((l).getD ((x1 : Int)).toNat (0, 0)).2 : Int)) : Rat)))) - ((((((((l).getD (Rt.nxt (l) ((x1 : Int)).toNat) (0, 0)).2 : Int)) : Rat)) - ((((((l).getD ((x1 : Int)).toNat (0, 0)).2 : Int)) : Rat)))) * (((v1) - ((((((l).getD ((x1 : Int)).toNat (0, 0)).1 : Int)) : Rat)))))))) < ((0 : Int)))) else (false)) = false → ((inR .i64 (((x1 : Int)) + ((1 : Int)))) ∧ (∃ y1 : Nat, (((y1 ≤ l.length)) ∧ ((l.length - y1 < l.length - x1) ∧ (((l = l) ∧ ((True) ∧ ((Value.int .i64 ((Rt.sumN (fun i => Rt.wB ⟨v1, v2⟩ (Rt.pt l i) (Rt.pt l (Rt.nxt l i))) x1)) = (.int .i64 ((Rt.sumN (fun i => Rt.wB ⟨v1, v2⟩ (Rt.pt l i) (Rt.pt l (Rt.nxt l i))) y1)))) ∧ ((Value.int .i64 (((x1 : Int)) + ((1 : Int))) = (.int .i64 ((y1 : Int)))) ∧ (True))))) ∧ (((v1 = v1) ∧ ((v2 = v2) ∧ (True))) ∧ (True)))))))))))))))))))))))) ∧ ((decide (((x1 : Int)) < (((l).length : Int)))) = false → ((Value.int .i64 ((Rt.sumN (fun i => Rt.wB ⟨v1, v2⟩ (Rt.pt l i) (Rt.pt l (Rt.nxt l i))) x1)) = (.int .i64 ((Rt.windN l ⟨v1, v2⟩)))) ∧ ((Value.int .i64 ((0 : Int)) = (.int .i64 ((Rt.windE l ⟨v1, v2⟩)))) ∧ (True)))))))))))) = owes LT XT4 [.inv 5 (Nat) (fun ξ => ⟨[.k (.c (.pt (l))), .u, .u, .k (.c (.bx 0 0)), .u, .u, .k (.c (.v (.int .i64 ((Rt.sumN (fun i => Rt.wB ⟨v1, v2⟩ (Rt.pt l i) (Rt.pt l (Rt.nxt l i))) ξ))))), .k (.c (.v (.int .i64 ((ξ : Int))))), .u, .u, .u, .u, .u, .u, .u, .u, .u, .u, .u, .u, .u, .u, .u, .u, .u, .u, .u, .u, .u, .u, .u, .u, .u, .u, .u, .u, .u, .u, .u, .u, .u, .u, .u, .u, .u, .u, .u, .u, .u, .u, .u, .u, .u, .u, .u, .u, .u, .u, .u, .u, .u, .u, .u, .u, .u, .u, .u, .u, .u, .u, .u, .u, .u, .u, .u], [⟨29, [.R (v1), .R (v2)]⟩]⟩) (fun _ ξ => (ξ ≤ l.length)) (fun ξ => l.length - ξ)] Tryz.f13 (Tryz.f13.body.getD .skip) [.c (.pt (l)), .g [.R (v1), .R (v2)]] (.t [.c (.v (.int .i64 ((Rt.windN l ⟨v1, v2⟩)))), .c (.v (.int .i64 ((Rt.windE l ⟨v1, v2⟩))))]) by kernel_rfl) ?_
  obtain ⟨ho, h1, h2⟩ := hp
  have hb0 : ((l.length : Int) == 0) = true ↔ l = [] := by
    rw [beq_iff_eq]
    constructor
    · intro h; exact List.length_eq_zero_iff.1 (by omega)
    · rintro rfl; rfl
  have z0 : szR (((0 : Int) : Int) : Rat) ≤ 90 := Nat.le_trans (szR_int (by omega)) (by decide)
  have hb := sumB_bound (fun i => Rt.wB ⟨v1, v2⟩ (Rt.pt l i) (Rt.pt l (Rt.nxt l i))) (fun i => wB_bound _ _ _)
  refine ⟨fun _ => ⟨by omega, by omega⟩, fun _ => ⟨ho, h1, h2, z0⟩, fun h => ?_, fun h => ?_⟩
  · have hc : l = [] ∨ Rt.onP l ⟨v1, v2⟩ := by
      cases e : ((l.length : Int) == 0) with
      | true => exact .inl (hb0.1 e)
      | false =>
        rw [e] at h
        exact .inr (on_iff.1 h)
    rw [Rt.windN_on, Rt.windE_on, if_pos hc, if_pos hc]
    exact ⟨rfl, rfl, trivial⟩
  have hne : ¬ l = [] := fun e => by
    rw [hb0.2 e] at h
    cases h
  have hb1 : ((l.length : Int) == 0) = false := by
    cases e : ((l.length : Int) == 0) with
    | true => exact absurd (hb0.1 e) hne
    | false => rfl
  rw [hb1] at h
  have hon : ¬ Rt.onP l ⟨v1, v2⟩ := fun e => by
    have := on_iff.2 e
    rw [show Rt.edB l ⟨v1, v2⟩ (((0 : Int) : Rat) * ((0 : Int) : Rat)) l.length = false from h] at this
    cases this
  have hc : ¬ (l = [] ∨ Rt.onP l ⟨v1, v2⟩) := fun c => c.elim hne hon
  rw [Rt.windN_on, Rt.windE_on, if_neg hc, if_neg hc]
  have hw := Rt.wind_eq ⟨v1, v2⟩ (Rt.pt l) l.length (fun i hi e => hon ⟨i, hi, e⟩)
  refine ⟨⟨0, Nat.zero_le _, by refine ⟨?_, ?_, rfl, ?_, ?_⟩ <;> simp, by simp, trivial⟩, ?_⟩
  intro k hk
  simp only [Int.toNat_natCast]
  have A := ho.1 k
  have B := ho.1 (Rt.nxt l k)
  have sa1 := szR_int A.1
  have sa2 := szR_int A.2
  have sb1 := szR_int B.1
  have sb2 := szR_int B.2
  have hlen := ho.2
  have hk1 := hb k
  have hk2 := hb (k + 1)
  have hst : Rt.sumN (fun i => Rt.wB ⟨v1, v2⟩ (Rt.pt l i) (Rt.pt l (Rt.nxt l i))) (k + 1) = Rt.sumN (fun i => Rt.wB ⟨v1, v2⟩ (Rt.pt l i) (Rt.pt l (Rt.nxt l i))) k + Rt.wB ⟨v1, v2⟩ (Rt.pt l k) (Rt.pt l (Rt.nxt l k)) := rfl
  refine ⟨fun hlt => ?_, fun hlt => ?_⟩
  · have hkl : k < l.length := by simpa using hlt
    have fin : ∀ z : Int, z = Rt.sumN (fun i => Rt.wB ⟨v1, v2⟩ (Rt.pt l i) (Rt.pt l (Rt.nxt l i))) (k + 1) → Value.int .i64 z = .int .i64 (Rt.sumN (fun i => Rt.wB ⟨v1, v2⟩ (Rt.pt l i) (Rt.pt l (Rt.nxt l i))) (k + 1)) := fun z e => by rw [e]
    refine ⟨⟨by omega, by omega⟩, A, ⟨⟨by omega, by omega⟩, hlen⟩, B, ⟨by omega, by omega⟩, ⟨by omega, by omega⟩, fun c => ?_, fun c => ?_⟩
    · have e := wB_zero (v := ⟨v1, v2⟩) (a := Rt.pt l k) (b := Rt.pt l (Rt.nxt l k)) c
      rw [e] at hst
      exact ⟨by simp only [inR]; omega, k + 1, hkl, by omega, by refine ⟨?_, ?_, fin _ (by omega), ?_, ?_⟩ <;> simp, by simp, trivial⟩
    · refine ⟨by ((repeat' first | apply And.intro | (intro _)) <;> first | trivial | rfl | (first | omega | (apply Nat.le_trans; (focus (repeat' first | assumption | apply szR_sub_le | apply szR_add_le | apply szR_mul_le)); omega)) | skip), by ((repeat' first | apply And.intro | (intro _)) <;> first | trivial | rfl | (first | omega | (apply Nat.le_trans; (focus (repeat' first | assumption | apply szR_sub_le | apply szR_add_le | apply szR_mul_le)); omega)) | skip), by ((repeat' first | apply And.intro | (intro _)) <;> first | trivial | rfl | (first | omega | (apply Nat.le_trans; (focus (repeat' first | assumption | apply szR_sub_le | apply szR_add_le | apply szR_mul_le)); omega)) | skip), trivial, fun c1 => ?_, fun c1 => ?_⟩
      · refine ⟨by simp only [inR]; omega, fun c2 => ?_, fun c2 => ?_⟩
        · exact (wB_11 (v := ⟨v1, v2⟩) (a := Rt.pt l k) (b := Rt.pt l (Rt.nxt l k)) c1 c2).elim
        · have e := wB_10 (v := ⟨v1, v2⟩) (a := Rt.pt l k) (b := Rt.pt l (Rt.nxt l k)) c c1 c2
          rw [e] at hst
          exact ⟨by simp only [inR]; omega, k + 1, hkl, by omega, by refine ⟨?_, ?_, fin _ (by omega), ?_, ?_⟩ <;> simp, by simp, trivial⟩
      · refine ⟨fun c2 => ?_, fun c2 => ?_⟩
        · have e := wB_01 (v := ⟨v1, v2⟩) (a := Rt.pt l k) (b := Rt.pt l (Rt.nxt l k)) c c1 c2
          rw [e] at hst
          exact ⟨by simp only [inR]; omega, by simp only [inR]; omega, k + 1, hkl, by omega, by refine ⟨?_, ?_, fin _ (by omega), ?_, ?_⟩ <;> simp, by simp, trivial⟩
        · have e := wB_00 (v := ⟨v1, v2⟩) (a := Rt.pt l k) (b := Rt.pt l (Rt.nxt l k)) c c1 c2
          rw [e] at hst
          exact ⟨by simp only [inR]; omega, k + 1, hkl, by omega, by refine ⟨?_, ?_, fin _ (by omega), ?_, ?_⟩ <;> simp, by simp, trivial⟩
  · have hkl : k = l.length := by
      have := of_decide_eq_false hlt
      omega
    subst hkl
    rw [hw]
    refine ⟨?_, ?_, trivial⟩ <;> first | trivial | rfl
theorem cKwind_ok : CtrOK Tryz.prog cKwind := .of (by kernel_rfl) (fun bs w xs vs pre r hr hA hG h hp => by
  simp only [cKwind] at h
  split at h
  · cases h
    exact ctr_calls mixed LT_ok XT4_ok Tryz.func13 (by kernel_rfl) hr hA hG rfl rfl (cKwind_owes _ _ _ hp)
  · cases h) (fun xs α pre φ r => by simp only [cKwind]; split <;> (intro h; cases h))
/-- At most three short paths. -/
def few3 (ps : List (List (Int × Int))) : Bool := decide ((ps.length : Int) ≤ 3) && ps.all fun p => fewB p 8
def XT5 : List Ctr := XT4 ++ [cWfew]
theorem XT5_ok : ∀ c ∈ XT5, CtrOK Tryz.prog c := ok_app XT4_ok (by
  intro c hc
  simp only [List.mem_cons, List.not_mem_nil, or_false] at hc
  rcases hc with rfl
  · exact cWfew_ok)
def cKlfew : Ctr := ⟨6, fun | [.c (.pp (ps))] => .yes (True) (.k (.c (.v (.bool ((few3 ps)))))) | _ => .no⟩
theorem cKlfew_owes (ps : List (List (Int × Int))) : owes LT XT5 [.inv 4 (Nat) (fun ξ => ⟨[.k (.c (.pp (ps))), .u, .u, .u, .u, .u, .u, .u, .k (.c (.pp (ps))), .k (.c (.v (.int .i64 (((ps).length : Int))))), .k (.c (.v (.int .i64 ((ξ : Int))))), .u, .u, .u, .u, .u, .u, .u], []⟩) (fun _ ξ => (ξ ≤ ps.length ∧ (ps.take ξ).all (fun p => fewB p 8) = true)) (fun ξ => ps.length - ξ)] Tryz.f6 (Tryz.f6.body.getD .skip) [.c (.pp (ps))] (.k (.c (.v (.bool ((few3 ps)))))) := by
  refine Eq.mp (show (((decide ((((ps).length : Int)) > ((3 : Int)))) = true → (Value.bool (false) = (.bool ((few3 ps))))) ∧ ((decide ((((ps).length : Int)) > ((3 : Int)))) = false → ((∃ x1 : Nat, (((x1 ≤ ps.length ∧ (ps.take x1).all (fun p => fewB p 8) = true)) ∧ (((ps = ps) ∧ ((ps = ps) ∧ ((Value.int .i64 (((ps).length : Int)) = (.int .i64 (((ps).length : Int)))) ∧ ((Value.int .i64 ((0 : Int)) = (.int .i64 ((x1 : Int)))) ∧ (True))))) ∧ (True)))) ∧ (∀ x1 : Nat, ((x1 ≤ ps.length ∧ (ps.take x1).all (fun p => fewB p 8) = true) → (((decide (((x1 : Int)) < (((ps).length : Int)))) = true → ((0 ≤ (x1 : Int) ∧ (x1 : Int) < ((ps).length : Int)) ∧ (((8 : Int) ≤ 1000000) ∧ (((!(fewB (((ps).getD ((x1 : Int)).toNat [])) ((8 : Int)))) = true → (Value.bool (false) = (.bool ((few3 ps))))) ∧ ((!(fewB (((ps).getD ((x1 : Int)).toNat [])) ((8 : Int)))) = false → ((inR .i64 (((x1 : Int)) + ((1 : Int)))) ∧ (∃ y1 : Nat, (((y1 ≤ ps.length ∧ (ps.take y1).all (fun p => fewB p 8) = true)) ∧ ((ps.length - y1 < ps.length - x1) ∧ (((ps = ps) ∧ ((ps = ps) ∧ ((Value.int .i64 (((ps).length : Int)) = (.int .i64 (((ps).length : Int)))) ∧ ((Value.int .i64 (((x1 : Int)) + ((1 : Int))) = (.int .i64 ((y1 : Int)))) ∧ (True))))) ∧ (True))))))))))) ∧ ((decide (((x1 : Int)) < (((ps).length : Int)))) = false → (Value.bool (true) = (.bool ((few3 ps))))))))))) = owes LT XT5 [.inv 4 (Nat) (fun ξ => ⟨[.k (.c (.pp (ps))), .u, .u, .u, .u, .u, .u, .u, .k (.c (.pp (ps))), .k (.c (.v (.int .i64 (((ps).length : Int))))), .k (.c (.v (.int .i64 ((ξ : Int))))), .u, .u, .u, .u, .u, .u, .u], []⟩) (fun _ ξ => (ξ ≤ ps.length ∧ (ps.take ξ).all (fun p => fewB p 8) = true)) (fun ξ => ps.length - ξ)] Tryz.f6 (Tryz.f6.body.getD .skip) [.c (.pp (ps))] (.k (.c (.v (.bool ((few3 ps)))))) by kernel_rfl) ?_
  refine ⟨fun h => ?_, fun h => ⟨⟨0, ⟨Nat.zero_le _, by simp⟩, by simp, trivial⟩, ?_⟩⟩
  · have h3 : decide ((ps.length : Int) ≤ 3) = false := by
      have h5 : (ps.length : Int) > 3 := of_decide_eq_true h
      rw [decide_eq_false_iff_not]; omega
    unfold few3
    rw [h3]
    rfl
  rintro k ⟨hk, hall⟩
  have h3 : decide ((ps.length : Int) ≤ 3) = true := by
    have h5 : ¬ (ps.length : Int) > 3 := of_decide_eq_false h
    rw [decide_eq_true_iff]; omega
  simp only [Int.toNat_natCast]
  refine ⟨fun h2 => ?_, fun h2 => ?_⟩
  · have hkl : k < ps.length := by
      have h5 : (k : Int) < (ps.length : Int) := of_decide_eq_true h2
      omega
    have hl3 : ps.length ≤ 3 := by
      have h5 : (ps.length : Int) ≤ 3 := of_decide_eq_true h3
      omega
    have eg : ps.getD k [] = ps[k] := by simp [List.getD_eq_getElem?_getD, hkl]
    rw [eg]
    refine ⟨⟨by omega, by omega⟩, by decide, fun c => ?_, fun c => ⟨by simp only [inR]; omega, k + 1, ⟨hkl, ?_⟩, by omega, by simp, trivial⟩⟩
    · have ha : ps.all (fun p => fewB p 8) = false := by
        rw [List.all_eq_false]
        exact ⟨ps[k], List.getElem_mem hkl, fun (e : fewB ps[k] 8 = true) => by rw [e] at c; cases c⟩
      unfold few3
      rw [ha, Bool.and_false]
    · have hb : fewB ps[k] 8 = true := by
        cases e : fewB ps[k] 8 with
        | true => rfl
        | false => rw [e] at c; cases c
      rw [List.take_succ_eq_append_getElem hkl, List.all_append, hall]
      simp [hb]
  · have hkl : k = ps.length := by
      have h5 : ¬ (k : Int) < (ps.length : Int) := of_decide_eq_false h2
      omega
    subst hkl
    rw [List.take_length] at hall
    unfold few3
    rw [h3, hall]
    rfl
theorem cKlfew_ok : CtrOK Tryz.prog cKlfew := .of (by kernel_rfl) (fun bs w xs vs pre r hr hA hG h hp => by
  simp only [cKlfew] at h
  split at h
  · cases h
    exact ctr_calls mixed LT_ok XT5_ok Tryz.func6 (by kernel_rfl) hr hA hG rfl rfl (cKlfew_owes _)
  · cases h) (fun xs α pre φ r => by simp only [cKlfew]; split <;> (intro h; cases h))
end Vc
end Go.Proofs.YtlkhkldgmlfhkaaGreat

namespace Go.Proofs.YtlkhkldgmlfhkaaGreat
open Go.RowKit Rt
set_option maxRecDepth 8000

theorem rwind (p v : Value) (l : List (Int × Int)) (x y : Rat) (w : World) (hp : SlT w p l) (hv : IsV w x y v) (h : Rt.okp l ∧ Vc.szR x ≤ 90 ∧ Vc.szR y ≤ 90) :
    Calls Tryz.prog 13 #[p, v] w fun e w' => e = .returned (.tuple #[.int .i64 (Rt.windN l ⟨x, y⟩), .int .i64 (Rt.windE l ⟨x, y⟩)]) ∧ Ext w w' := by
  refine (Vc.cKwind_ok.yes ⟨w.heap.size, [], [], []⟩ w [.c (.pt l), .g [.R x, .R y]] [p, v] _ _ ⟨slP_of hp, Vc.nobxK_rel rfl rfl rfl hv, trivial⟩ rfl rfl rfl h).mono ?_
  rintro e w' ⟨v', rfl, hx, us, rfl, hr⟩
  match us, hr with
  | [u1, u2], hr =>
    obtain ⟨⟨rfl, _⟩, ⟨rfl, _⟩, _⟩ := hr
    exact ⟨rfl, hx⟩

theorem do_ld {ρ : Operand → Value} {o : Oper} {b t : Nat} {c0 c1 c2 c3 c4 c5 c6 c7 : Value} {w : World} (h : o.op = .load 29 (.tmp t)) (hx : ρ (.tmp t) = .pointer (some ⟨b, 0, none⟩)) (hb : w.heap[b]? = some (.cells #[c0, c1, c2, c3, c4, c5, c6, c7] 29 (0, 0))) : (execOp ρ o).run Tryz.prog w = .ok (.value (.agg #[c0, c1, c2, c3, c4, c5, c6, c7])) w := by
  obtain ⟨d0, d1, d2, d3, d4, d5, d6, d7⟩ := cells8 hb
  simp only [execOp, h, hx]
  have key : (Instr.loadAt 29 (.pointer (some ⟨b, 0, none⟩))).run Tryz.prog w = .ok (.agg #[c0, c1, c2, c3, c4, c5, c6, c7]) w := by go_simp
  rw [Sem.run_bind, key]
  simp [Sem.run_pure]
def WR (L : List (Int × Int)) (n ee : Int) (pv vv : Value) : Nat → Value → World → Prop
  | 0, v, _ => v = pv
  | 1, v, w => ∃ a k c, v = .slice a k c ∧ SlT w (.slice a k c) L
  | 2, v, _ => v = vv
  | 3, v, _ => v = .tuple #[.int .i64 n, .int .i64 ee]
  | 4, v, _ => v = .tuple #[.int .i64 n, .int .i64 ee]
  | 5, v, _ => v = .int .i64 n
  | 6, v, _ => v = .int .i64 ee
  | 7, v, _ => v = .int .i64 n
  | _, _, _ => True
theorem WR.later {L : List (Int × Int)} {n ee : Int} {pv vv : Value} : ∀ i v w w', Ext w w' → WR L n ee pv vv i v w → WR L n ee pv vv i v w' := by
  intro i v w w' he h
  match i, h with
  | 0, h => exact h
  | 1, h =>
    obtain ⟨a, k, c, h1, h2⟩ := h
    exact ⟨a, k, c, h1, h2.later he⟩
  | 2, h => exact h
  | 3, h => exact h
  | 4, h => exact h
  | 5, h => exact h
  | 6, h => exact h
  | 7, h => exact h
  | _ + 8, _ => exact trivial

set_option maxHeartbeats 4000000 in
theorem winding_no (v vc : Value) (l : List (Int × Int)) (r : Raw) (w : World) (h : SlT w v l) (hr : IsRaw w r vc) (hc : Vc.fewB l 8 = false ∨ r.small = false) :
    Calls Tryz.prog 4 #[v, vc] w fun e w' => e = .returned (.bool true) ∧ Ext w w' := by
  obtain ⟨ad, nn, cap, b, off, rfl, rfl, h3, h4, h5, h6⟩ := id h
  have H := Lib.hid h
  obtain ⟨p1, k1, q1, p2, k2, q2, p3, k3, q3, p4, k4, q4, rfl⟩ := raw_form hr
  obtain ⟨W0, hW0, hb0, hE0, -⟩ := row_alloc w #[.bool r.b, .slice p1 k1 q1, .bool r.c, .slice p2 k2 q2, .bool r.b1, .slice p3 k3 q3, .bool r.c1, .slice p4 k4 q4] 29
  have HBX := Lib.hid hb0; have HE0 := Lib.hid hE0
  clear hb0 hE0
  have HR := Lib.hid hr
  clear h h3 h4 h5 h6 hr
  cases hf : Vc.fewB l 8 with
  | false =>
    have HF : Hid (Vc.fewB l 8 = false) := Lib.hid hf
    clear hf hc
    go_enter Tryz.func4, Tryz.ntmps4
    go_wp2_with fail
    refine (awake31_any _).mono ?_
    rintro e w1 ⟨rfl, x1⟩
    go_wp2_with fail
    refine (wfew _ _ 8 _ (H.out.later (HE0.out.trans x1)) (by decide)).mono ?_
    rintro e w2 ⟨rfl, x2⟩
    rw [HF.out]
    go_wp2_with fail
    refine (awake31_any _).mono ?_
    rintro e w3 ⟨rfl, x3⟩
    go_wp2_with fail
    go_ret
    exact ⟨rfl, ((HE0.out.trans x1).trans x2).trans x3⟩
  | true =>
    have hs : r.small = false := hc.resolve_left (by rw [hf]; simp)
    have HF : Hid (Vc.fewB l 8 = true) := Lib.hid hf
    have HS : Hid (r.small = false) := Lib.hid hs
    clear hf hc hs
    go_enter Tryz.func4, Tryz.ntmps4
    go_wp2_with fail
    refine (awake31_any _).mono ?_
    rintro e w1 ⟨rfl, x1⟩
    go_wp2_with fail
    refine (wfew _ _ 8 _ (H.out.later (HE0.out.trans x1)) (by decide)).mono ?_
    rintro e w2 ⟨rfl, x2⟩
    rw [HF.out]
    obtain ⟨d00, d01, d02, d03, d04, d05, d06, d07⟩ := cells8 (heap_keep HBX.out (x1.trans x2))
    go_wp2_with fail
    refine (wsmall _ r _ (HR.out.later ((HE0.out.trans x1).trans x2))).mono ?_
    rintro e w3 ⟨rfl, x3⟩
    rw [HS.out]
    clear d00 d01 d02 d03 d04 d05 d06 d07
    go_wp2_with fail
    refine (awake31_any _).mono ?_
    rintro e w4 ⟨rfl, x4⟩
    go_wp2_with fail
    go_ret
    exact ⟨rfl, (((HE0.out.trans x1).trans x2).trans x3).trans x4⟩

set_option maxHeartbeats 16000000 in
theorem winding_yes (v vc : Value) (l : List (Int × Int)) (r : Raw) (w : World) (h : SlT w v l) (hr : IsRaw w r vc) (hf : Vc.fewB l 8 = true) (hs : r.small = true) :
    Calls Tryz.prog 4 #[v, vc] w fun e w' => e = .returned (.bool true) ∧ Ext w w' := by
  obtain ⟨x, y, hv, sx, sy⟩ := hr.vec hs
  obtain ⟨hn8, hg⟩ := few_spec hf
  obtain ⟨ad, nn, cap, b, off, rfl, rfl, h3, h4, h5, h6⟩ := id h
  have H := Lib.hid h
  obtain ⟨p1, k1, q1, p2, k2, q2, p3, k3, q3, p4, k4, q4, rfl⟩ := raw_form hr
  obtain ⟨W0, hW0, hb0, hE0, -⟩ := row_alloc w #[.bool r.b, .slice p1 k1 q1, .bool r.c, .slice p2 k2 q2, .bool r.b1, .slice p3 k3 q3, .bool r.c1, .slice p4 k4 q4] 29
  have HBX := Lib.hid hb0; have HE0 := Lib.hid hE0
  clear hb0 hE0
  have HR := Lib.hid hr; have HF : Hid (Vc.fewB l 8 = true) := Lib.hid hf; have HS : Hid (r.small = true) := Lib.hid hs
  have HV := Lib.hid hv
  have HN : Hid (l.length ≤ 1000) := Lib.hid (by omega)
  have HK : Hid (okp l) := Lib.hid (okp_of hg HN.out)
  have HKR : Hid (okp (revP l)) := Lib.hid (okp_of (inG_rev hg) (by rw [revP_len]; exact HN.out))
  have HX : Hid (Vc.szR x ≤ 90) := Lib.hid (by omega)
  have HY : Hid (Vc.szR y ≤ 90) := Lib.hid (by omega)
  have HWE := Lib.hid (windE_rev l ⟨x, y⟩)
  have HWN := Lib.hid (windN_rev l ⟨x, y⟩)
  obtain ⟨hb1, hb2⟩ := windN_bound l ⟨x, y⟩
  have hb3 : -8 ≤ windN l ⟨x, y⟩ ∧ windN l ⟨x, y⟩ ≤ 8 := by omega
  have HW := Lib.hid (wrap_small (windN l ⟨x, y⟩) hb3)
  clear h h3 h4 h5 h6 hr hf hs hv sx sy hn8 hg hb1 hb2
  obtain ⟨n, en⟩ : ∃ n, windN l ⟨x, y⟩ = n := ⟨_, rfl⟩
  obtain ⟨ee, hee⟩ : ∃ ee, windE l ⟨x, y⟩ = ee := ⟨_, rfl⟩
  have EN := Lib.hid en; have HEE := Lib.hid hee
  rw [en] at hb3 HW HWN
  rw [hee] at HWE
  clear en hee
  go_enter Tryz.func4, Tryz.ntmps4
  go_wp2_with fail
  refine (awake31_any _).mono ?_
  rintro e w1 ⟨rfl, x1⟩
  have H1 := Lib.hid (H.out.later (HE0.out.trans x1)); have X1 := Lib.hid x1
  clear x1
  go_wp2_with fail
  refine (wfew _ _ 8 _ H1.out (by decide)).mono ?_
  rintro e w2 ⟨rfl, x2⟩
  rw [HF.out]
  have H2 := Lib.hid (H1.out.later x2); have X2 := Lib.hid (X1.out.trans x2)
  clear x2
  obtain ⟨d00, d01, d02, d03, d04, d05, d06, d07⟩ := cells8 (heap_keep HBX.out X2.out)
  go_wp2_with fail
  refine (wsmall _ r _ (HR.out.later (HE0.out.trans X2.out))).mono ?_
  rintro e w3 ⟨rfl, x3⟩
  rw [HS.out]
  clear d00 d01 d02 d03 d04 d05 d06 d07
  have H3 := Lib.hid (H2.out.later x3); have X3 := Lib.hid (X2.out.trans x3)
  clear x3
  have HB3 := Lib.hid (heap_keep HBX.out X3.out)
  have HV3 := Lib.hid (HV.out.later (HE0.out.trans X3.out))
  go_wp2_with fail
  refine wp_region_flow_g 8 (WR l n ee (.slice ad l.length cap) (.agg #[.bool r.b, .slice p1 k1 q1, .bool r.c, .slice p2 k2 q2, .bool r.b1, .slice p3 k3 q3, .bool r.c1, .slice p4 k4 q4])) (by kernel_rfl) (by kernel_rfl) (by kernel_rfl) (by kernel_rfl) (by kernel_rfl) WR.later ?_ ?_
  · simp only [List.take_succ_cons, List.take_zero]
    refine ⟨.inl ⟨rfl, fun ρ vals w9 h1 h2 hE hd => .inl ?_⟩, .inl ⟨rfl, fun ρ vals w9 h1 h2 hE hd => .inr ?_⟩, .inl ⟨rfl, fun ρ vals w9 h1 h2 hE hd => .inl ?_⟩, .inl ⟨rfl, fun ρ vals w9 h1 h2 hE hd => .inr ?_⟩, .inl ⟨rfl, fun ρ vals w9 h1 h2 hE hd => .inl ?_⟩, .inl ⟨rfl, fun ρ vals w9 h1 h2 hE hd => .inl ?_⟩, .inl ⟨rfl, fun ρ vals w9 h1 h2 hE hd => .inl ?_⟩, .inl ⟨rfl, fun ρ vals w9 h1 h2 hE hd => .inl ?_⟩, trivial⟩
    · have f : ρ (.tmp 0) = .slice ad l.length cap := h2 (.tmp 0) (by simp)
      exact ⟨.slice ad l.length cap, w9, by simp [execOp, go_sem, f], Ext.refl _, rfl⟩
    · have f0 : ρ (.tmp 25) = .slice ad l.length cap := (h1 0 _ _ rfl rfl).trans (hd ⟨0, .data⟩ (by simp) rfl)
      refine ⟨_, _, Vc.acall_run (fun f => h2 (.func f) (by simp)) rfl (by kernel_rfl) rfl w9, ?_⟩
      simp only [List.map_cons, List.map_nil, f0]
      refine (cloneT_any _ _ _ (H3.out.later hE) (by have := HN.out; omega)).mono ?_
      rintro e w' ⟨a, k, c, rfl, o, hx⟩
      exact ⟨_, rfl, hx, a, k, c, rfl, o.sl gC_len⟩
    · have f : ρ (.tmp 3) = .pointer (some ⟨w.heap.size, 0, none⟩) := h2 (.tmp 3) (by simp)
      exact ⟨_, w9, do_ld rfl f (heap_keep HB3.out hE), Ext.refl _, rfl⟩
    · have f1 := h1 1 _ _ rfl rfl
      obtain ⟨a, k, c, g1, s1⟩ := hd ⟨1, .data⟩ (by simp) rfl
      rw [g1] at f1
      have f2 : ρ (.tmp 27) = .agg #[.bool r.b, .slice p1 k1 q1, .bool r.c, .slice p2 k2 q2, .bool r.b1, .slice p3 k3 q3, .bool r.c1, .slice p4 k4 q4] := (h1 2 _ _ rfl rfl).trans (hd ⟨2, .data⟩ (by simp) rfl)
      refine ⟨_, _, Vc.acall_run (fun f => h2 (.func f) (by simp)) rfl (by kernel_rfl) rfl w9, ?_⟩
      simp only [List.map_cons, List.map_nil, f1, f2]
      refine (wwind _ _ l x y w9 s1 (HV3.out.later hE) ⟨HK.out, HX.out, HY.out⟩).mono ?_
      rintro e w' ⟨rfl, hx⟩
      exact ⟨_, rfl, hx, by rw [EN.out, HEE.out]; rfl⟩
    · have f3 : ρ (.tmp 28) = .tuple #[.int .i64 n, .int .i64 ee] := (h1 3 _ _ rfl rfl).trans (hd ⟨3, .data⟩ (by simp) rfl)
      exact ⟨_, w9, by simp [execOp, go_sem, f3], Ext.refl _, rfl⟩
    · have f4 : ρ (.tmp 24) = .tuple #[.int .i64 n, .int .i64 ee] := (h1 4 _ _ rfl rfl).trans (hd ⟨4, .data⟩ (by simp) rfl)
      exact ⟨.int .i64 n, w9, by simp [execOp, go_sem, f4], Ext.refl _, rfl⟩
    · have f4 : ρ (.tmp 24) = .tuple #[.int .i64 n, .int .i64 ee] := (h1 4 _ _ rfl rfl).trans (hd ⟨4, .data⟩ (by simp) rfl)
      exact ⟨.int .i64 ee, w9, by simp [execOp, go_sem, f4], Ext.refl _, rfl⟩
    · have f5 : ρ (.tmp 29) = .int .i64 n := (h1 5 _ _ rfl rfl).trans (hd ⟨5, .data⟩ (by simp) rfl)
      exact ⟨.int .i64 n, w9, by simp [execOp, go_sem, f5], Ext.refl _, rfl⟩
  intro vals w5 hE hv
  have g6 := hv 6 (by decide); have g7 := hv 7 (by decide)
  simp only [WR] at g6 g7
  clear hv
  simp only [List.take_succ_cons, List.take_zero, List.drop_succ_cons, List.drop_zero, putAll, Act.put, List.setIfInBounds_toArray, List.set_cons_succ, List.set_cons_zero, Nat.reduceAdd]
  rw [g6, g7]
  have X5 := Lib.hid (X3.out.trans hE); have H5 := Lib.hid (H3.out.later hE)
  clear g6 g7 hE
  obtain ⟨d20, d21, d22, d23, d24, d25, d26, d27⟩ := cells8 (heap_keep HBX.out X5.out)
  go_wp2_with fail
  refine (rwind _ _ _ _ _ _ H5.out (HV.out.later (HE0.out.trans X5.out)) ⟨HK.out, HX.out, HY.out⟩).mono ?_
  rintro e w6 ⟨rfl, x6⟩
  rw [EN.out, HEE.out]
  clear d20 d21 d22 d23 d24 d25 d26 d27
  have H6 := Lib.hid (H5.out.later x6); have X6 := Lib.hid (X5.out.trans x6)
  clear x6
  have HB6 := Lib.hid (heap_keep HBX.out X6.out)
  have HV6 := Lib.hid (HV.out.later (HE0.out.trans X6.out))
  go_wp2_with fail
  refine wp_region_flow_g 8 (WR (revP l) (-n) ee (.slice ad l.length cap) (.agg #[.bool r.b, .slice p1 k1 q1, .bool r.c, .slice p2 k2 q2, .bool r.b1, .slice p3 k3 q3, .bool r.c1, .slice p4 k4 q4])) (by kernel_rfl) (by kernel_rfl) (by kernel_rfl) (by kernel_rfl) (by kernel_rfl) WR.later ?_ ?_
  · simp only [List.take_succ_cons, List.take_zero]
    refine ⟨.inl ⟨rfl, fun ρ vals w9 h1 h2 hE hd => .inl ?_⟩, .inl ⟨rfl, fun ρ vals w9 h1 h2 hE hd => .inr ?_⟩, .inl ⟨rfl, fun ρ vals w9 h1 h2 hE hd => .inl ?_⟩, .inl ⟨rfl, fun ρ vals w9 h1 h2 hE hd => .inr ?_⟩, .inl ⟨rfl, fun ρ vals w9 h1 h2 hE hd => .inl ?_⟩, .inl ⟨rfl, fun ρ vals w9 h1 h2 hE hd => .inl ?_⟩, .inl ⟨rfl, fun ρ vals w9 h1 h2 hE hd => .inl ?_⟩, .inl ⟨rfl, fun ρ vals w9 h1 h2 hE hd => .inl ?_⟩, trivial⟩
    · have f : ρ (.tmp 0) = .slice ad l.length cap := h2 (.tmp 0) (by simp)
      exact ⟨.slice ad l.length cap, w9, by simp [execOp, go_sem, f], Ext.refl _, rfl⟩
    · have f0 : ρ (.tmp 38) = .slice ad l.length cap := (h1 0 _ _ rfl rfl).trans (hd ⟨0, .data⟩ (by simp) rfl)
      refine ⟨_, _, Vc.acall_run (fun f => h2 (.func f) (by simp)) rfl (by kernel_rfl) rfl w9, ?_⟩
      simp only [List.map_cons, List.map_nil, f0]
      refine (reversed_any _ _ _ (H6.out.later hE) (by have := HN.out; omega)).mono ?_
      rintro e w' ⟨a, k, c, rfl, o, hx⟩
      exact ⟨_, rfl, hx, a, k, c, rfl, o.sl gC_len⟩
    · have f : ρ (.tmp 3) = .pointer (some ⟨w.heap.size, 0, none⟩) := h2 (.tmp 3) (by simp)
      exact ⟨_, w9, do_ld rfl f (heap_keep HB6.out hE), Ext.refl _, rfl⟩
    · have f1 := h1 1 _ _ rfl rfl
      obtain ⟨a, k, c, g1, s1⟩ := hd ⟨1, .data⟩ (by simp) rfl
      rw [g1] at f1
      have f2 : ρ (.tmp 40) = .agg #[.bool r.b, .slice p1 k1 q1, .bool r.c, .slice p2 k2 q2, .bool r.b1, .slice p3 k3 q3, .bool r.c1, .slice p4 k4 q4] := (h1 2 _ _ rfl rfl).trans (hd ⟨2, .data⟩ (by simp) rfl)
      refine ⟨_, _, Vc.acall_run (fun f => h2 (.func f) (by simp)) rfl (by kernel_rfl) rfl w9, ?_⟩
      simp only [List.map_cons, List.map_nil, f1, f2]
      refine (wwind _ _ (revP l) x y w9 s1 (HV6.out.later hE) ⟨HKR.out, HX.out, HY.out⟩).mono ?_
      rintro e w' ⟨rfl, hx⟩
      exact ⟨_, rfl, hx, by rw [HWN.out, HWE.out]; rfl⟩
    · have f3 : ρ (.tmp 41) = .tuple #[.int .i64 (-n), .int .i64 ee] := (h1 3 _ _ rfl rfl).trans (hd ⟨3, .data⟩ (by simp) rfl)
      exact ⟨_, w9, by simp [execOp, go_sem, f3], Ext.refl _, rfl⟩
    · have f4 : ρ (.tmp 37) = .tuple #[.int .i64 (-n), .int .i64 ee] := (h1 4 _ _ rfl rfl).trans (hd ⟨4, .data⟩ (by simp) rfl)
      exact ⟨.int .i64 (-n), w9, by simp [execOp, go_sem, f4], Ext.refl _, rfl⟩
    · have f4 : ρ (.tmp 37) = .tuple #[.int .i64 (-n), .int .i64 ee] := (h1 4 _ _ rfl rfl).trans (hd ⟨4, .data⟩ (by simp) rfl)
      exact ⟨.int .i64 ee, w9, by simp [execOp, go_sem, f4], Ext.refl _, rfl⟩
    · have f5 : ρ (.tmp 42) = .int .i64 (-n) := (h1 5 _ _ rfl rfl).trans (hd ⟨5, .data⟩ (by simp) rfl)
      exact ⟨.int .i64 (-n), w9, by simp [execOp, go_sem, f5], Ext.refl _, rfl⟩
  intro vals w8 hE hv
  have g6 := hv 6 (by decide); have g7 := hv 7 (by decide)
  simp only [WR] at g6 g7
  clear hv
  simp only [List.take_succ_cons, List.take_zero, List.drop_succ_cons, List.drop_zero, putAll, Act.put, List.setIfInBounds_toArray, List.set_cons_succ, List.set_cons_zero, Nat.reduceAdd]
  rw [g6, g7]
  have X8 := Lib.hid (X6.out.trans hE)
  clear g6 g7 hE
  have hw := HW.out
  go_wp2_with fail
  go_ret
  exact ⟨rfl, HE0.out.trans X8.out⟩

theorem winding_walk (v vc : Value) (l : List (Int × Int)) (r : Raw) (w : World) (h : SlT w v l) (hr : IsRaw w r vc) :
    Calls Tryz.prog 4 #[v, vc] w fun e w' => e = .returned (.bool true) ∧ Ext w w' := by
  cases hf : Vc.fewB l 8 with
  | false => exact winding_no v vc l r w h hr (.inl hf)
  | true =>
    cases hs : r.small with
    | false => exact winding_no v vc l r w h hr (.inr hs)
    | true => exact winding_yes v vc l r w h hr hf hs
end Go.Proofs.YtlkhkldgmlfhkaaGreat
