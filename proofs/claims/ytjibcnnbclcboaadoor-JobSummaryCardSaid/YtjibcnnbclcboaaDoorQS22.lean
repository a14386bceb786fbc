/-
  JobSummary: the law's walk.
-/
import Derived.Test.YtjibcnnbclcboaaDoorQS21
import Derived.Outline
import Derived.Laws.CopyOwn
namespace Go.Proofs.YtjibcnnbclcboaaDoor
open Go.RowKit
set_option maxRecDepth 8000
set_option maxRecDepth 100000

set_option maxHeartbeats 16000000 in
theorem jsum_n0 (vc : Value) (nf nt nm na : Nat) (l : List (Int × Int)) (w : World) (hf : nf ≤ 255) (ht : nt ≤ 255) (hm : nm ≤ 255) (ha : na ≤ 255) (hl : SlG 2 pairC w vc l) (hlen : l.length ≤ 20) (htab : Tab w) (hl0 : l = []) (hm0 : nm = 0) :
    Calls Tryd.prog 3 #[ListsV nf nt nm na vc] w fun e w' => e = .returned (.bool true) ∧ Ext w w' := by
  obtain ⟨a0, n0, c0, b0, o0, rfl, rfl, h3, h4, h5, h6⟩ := hl
  unfold ListsV
  obtain ⟨W1, hW1, hb1, hE1, -⟩ := row_alloc w #[.int .u8 nf, .int .u8 nt, .int .u8 nm, .int .u8 na, .slice a0 l.length c0] 24
  have HB1 := Lib.hid hb1; have HE1 := Lib.hid hE1; have HT := Lib.hid htab; have HC := Lib.hid h6; have HA := Lib.hid h3
  have hq : decide (20 < l.length) = false := by simp; omega
  have hq2 : decide ((l.length : Int) > 20) = false := by simp; omega
  have HL0 := Lib.hid hl0; have HM0 := Lib.hid hm0
  clear hb1 hE1 htab h6 h3 h4 h5 hl0 hm0
  go_enter Tryd.func3, Tryd.ntmps3
  go_wp2_with fail
  refine (awake_any _).mono ?_
  rintro e w2 ⟨rfl, x2⟩
  have hb2 := heap_ext x2 HB1.out
  have d0 := Lib.cell_of_heap hb2 0; have d1 := Lib.cell_of_heap hb2 1; have d2 := Lib.cell_of_heap hb2 2; have d3 := Lib.cell_of_heap hb2 3; have d4 := Lib.cell_of_heap hb2 4
  simp only [List.getElem?_toArray, List.getElem?_cons_succ, List.getElem?_cons_zero] at d0 d1 d2 d3 d4
  have HB2 := Lib.hid hb2
  clear hb2
  go_wp2_with fail
  refine wp_region_flow_val 15 (SumR w.heap.size w2.heap.size nf nt nm na) (by kernel_rfl) (by kernel_rfl) (by kernel_rfl) (by kernel_rfl) (by kernel_rfl) SumR.later ?_ ?_
  · simp only [List.take_succ_cons, List.take_zero]
    have fa0 : ∀ A (w : World), (Instr.fieldAt 24 (.pointer (some ⟨A, 0, none⟩)) 0).run Tryd.prog w = .ok (.pointer (some ⟨A, 0, none⟩)) w := fun _ _ => by kernel_rfl
    have fa1 : ∀ A (w : World), (Instr.fieldAt 24 (.pointer (some ⟨A, 0, none⟩)) 1).run Tryd.prog w = .ok (.pointer (some ⟨A, 1, none⟩)) w := fun _ _ => by kernel_rfl
    have fa2 : ∀ A (w : World), (Instr.fieldAt 24 (.pointer (some ⟨A, 0, none⟩)) 2).run Tryd.prog w = .ok (.pointer (some ⟨A, 2, none⟩)) w := fun _ _ => by kernel_rfl
    have fa3 : ∀ A (w : World), (Instr.fieldAt 24 (.pointer (some ⟨A, 0, none⟩)) 3).run Tryd.prog w = .ok (.pointer (some ⟨A, 3, none⟩)) w := fun _ _ => by kernel_rfl
    have l0 := Later.cell d0; have l1 := Later.cell d1; have l2 := Later.cell d2; have l3 := Later.cell d3
    have ld : ∀ (b o : Nat) (v : Value) (w : World), w.cell? ⟨b, o, none⟩ = some v → (Instr.loadAt 5 (.pointer (some ⟨b, o, none⟩))).run Tryd.prog w = .ok v w := by intro b o v w h; go_simp
    have al : ∀ (w : World), (Instr.alloc 37 true (.tuple #[])).run Tryd.prog w = .ok (.pointer (some ⟨w.heap.size, 0, none⟩)) (w.alloc (.cells resZero 37)) := fun w => by kernel_rfl
    have m1 := make_small 26 182 Tryd.underlying26 (by kernel_rfl)
    have m2 := make_small 29 184 Tryd.underlying29 (by kernel_rfl)
    have m3 := make_small 30 49 Tryd.underlying30 (by kernel_rfl)
    have m4 := make_small 31 186 Tryd.underlying31 (by kernel_rfl)
    refine ⟨⟨rfl, fun ρ vals w3 h1 h2 hE hd => .inl ?_⟩, ⟨rfl, fun ρ vals w3 h1 h2 hE hd => .inl ?_⟩, ⟨rfl, fun ρ vals w3 h1 h2 hE hd => .inl ?_⟩, ⟨rfl, fun ρ vals w3 h1 h2 hE hd => .inl ?_⟩, ⟨rfl, fun ρ vals w3 h1 h2 hE hd => .inl ?_⟩, ⟨rfl, fun ρ vals w3 h1 h2 hE hd => .inl ?_⟩, ⟨rfl, fun ρ vals w3 h1 h2 hE hd => .inl ?_⟩, ⟨rfl, fun ρ vals w3 h1 h2 hE hd => .inl ?_⟩, ⟨rfl, fun ρ vals w3 h1 h2 hE hd => .inl ?_⟩, ⟨rfl, fun ρ vals w3 h1 h2 hE hd => .inl ?_⟩, ⟨rfl, fun ρ vals w3 h1 h2 hE hd => .inl ?_⟩, ⟨rfl, fun ρ vals w3 h1 h2 hE hd => .inl ?_⟩, ⟨rfl, fun ρ vals w3 h1 h2 hE hd => .inl ?_⟩, ⟨rfl, fun ρ vals w3 h1 h2 hE hd => .inl ?_⟩, ⟨rfl, fun ρ vals w3 h1 h2 hE hd => .inl ?_⟩, trivial⟩
    · have e := h2 (.tmp 1) (by simp)
      simp only [execOp, e]
      exact ⟨_, _, run_pv (fa0 _ _), Ext.refl _, rfl⟩
    · have e := h1 0 _ _ rfl rfl
      have k := hd ⟨0, .data⟩ (by simp) rfl
      simp only [SumR] at k
      rw [k] at e
      simp only [execOp, e]
      exact ⟨_, _, run_pv (ld _ _ _ _ (l0 (Later.mk w3 hE))), Ext.refl _, rfl⟩
    · have e := h1 1 _ _ rfl rfl
      have k := hd ⟨1, .data⟩ (by simp) rfl
      simp only [SumR] at k
      rw [k] at e
      simp only [execOp, e]
      obtain ⟨w4, r4, x4⟩ := m1 nf hf w3
      exact ⟨_, _, run_pv r4, x4, _, _, rfl⟩
    · have e := h1 2 _ _ rfl rfl
      obtain ⟨ad, c, k⟩ := hd ⟨2, .data⟩ (by simp) rfl
      rw [k] at e
      simp only [execOp, List.map_toArray, List.map_cons, List.map_nil, e]
      exact ⟨_, _, run_pv (run_build _ _ _ #[.int .i64 0, .slice ad nf c] (by kernel_rfl)), Ext.refl _, _, _, rfl⟩
    · have e := h2 (.tmp 1) (by simp)
      simp only [execOp, e]
      exact ⟨_, _, run_pv (fa1 _ _), Ext.refl _, rfl⟩
    · have e := h1 4 _ _ rfl rfl
      have k := hd ⟨4, .data⟩ (by simp) rfl
      simp only [SumR] at k
      rw [k] at e
      simp only [execOp, e]
      exact ⟨_, _, run_pv (ld _ _ _ _ (l1 (Later.mk w3 hE))), Ext.refl _, rfl⟩
    · have e := h1 5 _ _ rfl rfl
      have k := hd ⟨5, .data⟩ (by simp) rfl
      simp only [SumR] at k
      rw [k] at e
      simp only [execOp, e]
      obtain ⟨w4, r4, x4⟩ := m2 nt ht w3
      exact ⟨_, _, run_pv r4, x4, _, _, rfl⟩
    · have e := h2 (.tmp 1) (by simp)
      simp only [execOp, e]
      exact ⟨_, _, run_pv (fa2 _ _), Ext.refl _, rfl⟩
    · have e := h1 7 _ _ rfl rfl
      have k := hd ⟨7, .data⟩ (by simp) rfl
      simp only [SumR] at k
      rw [k] at e
      simp only [execOp, e]
      exact ⟨_, _, run_pv (ld _ _ _ _ (l2 (Later.mk w3 hE))), Ext.refl _, rfl⟩
    · have e := h1 8 _ _ rfl rfl
      have k := hd ⟨8, .data⟩ (by simp) rfl
      simp only [SumR] at k
      rw [k] at e
      simp only [execOp, e]
      obtain ⟨w4, r4, x4⟩ := m3 nm hm w3
      exact ⟨_, _, run_pv r4, x4, _, _, rfl⟩
    · have e := h2 (.tmp 1) (by simp)
      simp only [execOp, e]
      exact ⟨_, _, run_pv (fa3 _ _), Ext.refl _, rfl⟩
    · have e := h1 10 _ _ rfl rfl
      have k := hd ⟨10, .data⟩ (by simp) rfl
      simp only [SumR] at k
      rw [k] at e
      simp only [execOp, e]
      exact ⟨_, _, run_pv (ld _ _ _ _ (l3 (Later.mk w3 hE))), Ext.refl _, rfl⟩
    · have e := h1 11 _ _ rfl rfl
      have k := hd ⟨11, .data⟩ (by simp) rfl
      simp only [SumR] at k
      rw [k] at e
      simp only [execOp, e]
      obtain ⟨w4, r4, x4⟩ := m4 na ha w3
      exact ⟨_, _, run_pv r4, x4, _, _, rfl⟩
    · have e3 := h1 3 _ _ rfl rfl; have e6 := h1 6 _ _ rfl rfl; have e9 := h1 9 _ _ rfl rfl; have e12 := h1 12 _ _ rfl rfl
      obtain ⟨a3, c3, k3⟩ := hd ⟨3, .data⟩ (by simp) rfl
      obtain ⟨a6, c6, k6⟩ := hd ⟨6, .data⟩ (by simp) rfl
      obtain ⟨a9, c9, k9⟩ := hd ⟨9, .data⟩ (by simp) rfl
      obtain ⟨a12, c12, k12⟩ := hd ⟨12, .data⟩ (by simp) rfl
      rw [k3] at e3; rw [k6] at e6; rw [k9] at e9; rw [k12] at e12
      simp only [execOp, List.map_toArray, List.map_cons, List.map_nil, e3, e6, e9, e12]
      exact ⟨_, _, run_pv (run_build _ _ _ #[.int .i64 0, .slice a3 nf c3, .int .i64 0, .int .i64 0, .int .i64 0, .int .i64 0, .int .i64 0, .int .i64 0, .slice none 0 0, .int .i64 0, .slice a6 nt c6, .string ⟨#[]⟩, .slice a9 nm c9, .slice a12 na c12, .slice none 0 0] (by kernel_rfl)), Ext.refl _, _, _, _, _, _, _, _, _, rfl⟩
    · simp only [execOp]
      exact ⟨_, _, run_pv (al _), (Ext.refl _).alloc _, _, rfl, hE.size, heap_alloc_new _ _⟩
  · intro vals w3 hE hv
    obtain ⟨af, at', am, aa, cf, ct, cm, ca, k13⟩ := hv 13 (by decide)
    obtain ⟨b, k14, hbB, hbb⟩ := hv 14 (by decide)
    clear hv
    simp only [List.take_succ_cons, List.take_zero, List.drop_succ_cons, List.drop_zero, putAll, Act.put, List.setIfInBounds_toArray, List.set_cons_succ, List.set_cons_zero, Nat.reduceAdd]
    rw [k13, k14]
    have HBB := Lib.hid hbb
    refine wpList_store_rowTo rfl 37 _ _ rfl rfl b #[.int .i64 0, .slice af nf cf, .int .i64 0, .int .i64 0, .int .i64 0, .int .i64 0, .int .i64 0, .int .i64 0, .slice none 0 0, .int .i64 0, .slice at' nt ct, .string ⟨#[]⟩, .slice am nm cm, .slice aa na ca, .slice none 0 0] rfl rfl 37 resZero HBB.out (by kernel_rfl) rfl (by kernel_rfl) ?_
    have hv1 := setRow_heap w3 b _ #[.int .i64 0, .slice af nf cf, .int .i64 0, .int .i64 0, .int .i64 0, .int .i64 0, .int .i64 0, .int .i64 0, .slice none 0 0, .int .i64 0, .slice at' nt ct, .string ⟨#[]⟩, .slice am nm cm, .slice aa na ca, .slice none 0 0] _ _ HBB.out
    have hx3 : Ext w2 (w3.setRow b #[.int .i64 0, .slice af nf cf, .int .i64 0, .int .i64 0, .int .i64 0, .int .i64 0, .int .i64 0, .int .i64 0, .slice none 0 0, .int .i64 0, .slice at' nt ct, .string ⟨#[]⟩, .slice am nm cm, .slice aa na ca, .slice none 0 0]) := below_setRow hE.out hbB _
    generalize w3.setRow b _ = V at *
    generalize vals 0 = y0; generalize vals 1 = y1; generalize vals 2 = y2; generalize vals 3 = y3; generalize vals 4 = y4; generalize vals 5 = y5; generalize vals 6 = y6; generalize vals 7 = y7; generalize vals 8 = y8; generalize vals 9 = y9; generalize vals 10 = y10; generalize vals 11 = y11; generalize vals 12 = y12
    clear k13 k14 hE hbb HBB
    have HV1 := Lib.hid hv1; have HX3 := Lib.hid hx3; have HBB2 := Lib.hid hbB
    have e4 := Lib.cell_of_heap (heap_ext hx3 HB2.out) 4
    clear hv1 hx3 hbB
    simp only [List.getElem?_toArray, List.getElem?_cons_succ, List.getElem?_cons_zero] at e4
    go_wp2_with fail
    clear e4 d0 d1 d2 d3 d4 hq hq2
    go_loopw [4, 38] (fun low i wr => ∃ (k : Nat) (ac : Option Addr) (nc cc : Nat), k ≤ l.length ∧ i = .int .i64 k ∧ low = .int .i64 (lawLow ((l.take k).map rem7) 0 0) ∧ Hid (wr.heap[b]? = some (.cells #[.int .i64 0, .slice af nf cf, .int .i64 0, .int .i64 0, .int .i64 0, .int .i64 0, .int .i64 0, .int .i64 0, .slice none 0 0, .int .i64 0, .slice at' nt ct, .string ⟨#[]⟩, .slice am nm cm, .slice aa na ca, .slice ac nc cc] 37 (0, 0))) ∧ Hid (OwnG w2.heap.size 42 7 cutC wr (.slice ac nc cc) ((l.take k).map rem7)) ∧ Hid ((Value.slice ac nc cc).ownBlock ≠ some b) ∧ Hid (Ext w2 wr)) (fun _ i _ => l.length - (intOf i).toNat)
    case atStart => exact ⟨0, none, 0, 0, Nat.zero_le _, rfl, rfl, HV1, Lib.hid (OwnG.nil _ _ _), Lib.hid (by intro h; cases h), HX3⟩
    case round =>
      clear HV1 HX3
      obtain ⟨k, ac, nc, cc, hk, rfl, rfl, HB, HO, HNB, HE⟩ := hrel
      have HEW := Lib.hid ((HE1.out.trans x2).trans HE.out)
      by_cases hlt : k < l.length
      · exfalso; rw [HL0.out] at hlt; simp at hlt
      · obtain rfl : k = l.length := by omega
        have htk : l.take l.length = l := List.take_length
        rw [htk] at *
        clear htk hlt
        have e4 := Lib.cell_of_heap (heap_ext HE.out HB2.out) 4
        simp only [List.getElem?_toArray, List.getElem?_cons_succ, List.getElem?_cons_zero] at e4
        have hnc : nc = l.length := by have := (HO.out.sl cutC_len).len; simpa using this
        subst hnc
        have hsl := HO.out.sl cutC_len
        rw [List.take_length] at hsl
        have HSL := Lib.hid hsl
        clear hsl
        have hl0 := HL0.out
        have hql : decide (0 < l.length) = false := by simp [hl0]
        have hql2 : decide ((l.length : Int) > 0) = false := by simp [hl0]
        clear hl0
        go_wp2_with fail
        clear e4 hql hql2
        have HXC : Hid (Ext w2 wr) := Lib.hid (HE.out.trans (Ext.refl wr))
        have hbx := heap_ext HXC.out HB2.out
        have hbc := heap_ext (Ext.refl wr) HB.out
        have f0 := Later.block hbx 0 (v := (.int .u8 nf)) rfl
        have f1 := Later.block hbx 1 (v := (.int .u8 nt)) rfl
        have f2 := Later.block hbx 2 (v := (.int .u8 nm)) rfl
        have f3 := Later.block hbx 3 (v := (.int .u8 na)) rfl
        have f4 := Later.block hbx 4 (v := (.slice a0 l.length c0)) rfl
        have r0 := Later.block hbc 0 (v := (.int .i64 0)) rfl
        have r1 := Later.block hbc 1 (v := (.slice af nf cf)) rfl
        have r2 := Later.block hbc 2 (v := (.int .i64 0)) rfl
        have r3 := Later.block hbc 3 (v := (.int .i64 0)) rfl
        have r4 := Later.block hbc 4 (v := (.int .i64 0)) rfl
        have r5 := Later.block hbc 5 (v := (.int .i64 0)) rfl
        have r6 := Later.block hbc 6 (v := (.int .i64 0)) rfl
        have r7 := Later.block hbc 7 (v := (.int .i64 0)) rfl
        have r8 := Later.block hbc 8 (v := (.slice none 0 0)) rfl
        have r9 := Later.block hbc 9 (v := (.int .i64 0)) rfl
        have r10 := Later.block hbc 10 (v := (.slice at' nt ct)) rfl
        have r11 := Later.block hbc 11 (v := (.string ⟨#[]⟩)) rfl
        have r12 := Later.block hbc 12 (v := (.slice am nm cm)) rfl
        have r13 := Later.block hbc 13 (v := (.slice aa na ca)) rfl
        have r14 := Later.block hbc 14 (v := (.slice ac l.length cc)) rfl
        have HIT : Hid (∀ n : Nat, n ≤ 1000 → ∀ w', Ext wr w' → Calls Tryd.prog 6 #[.int .i64 (n : Int)] w' fun e w'' => e = .returned (.string (itB n)) ∧ Ext w' w'') := Lib.hid fun n hn w' hx => itoa_any n w' (by omega) (by omega) (((HT.out.ext (HE1.out.trans x2)).ext HXC.out).ext hx)
        obtain ⟨S1, hS1, z1, p1⟩ := add_named ⟨#[102, 101, 97, 116, 117, 114, 101, 115, 32]⟩ (itB nf) 9 20 (by decide) (itB_size _ (by omega)) (by decide) (by decide)
        obtain ⟨S2, hS2, z2, p2⟩ := add_named S1 ⟨#[10, 116, 111, 111, 108, 115, 32]⟩ 29 7 z1 (by decide) (by decide) (by decide)
        obtain ⟨S3, hS3, z3, p3⟩ := add_named S2 (itB nt) 36 20 z2 (itB_size _ (by omega)) (by decide) (by decide)
        obtain ⟨S4, hS4, z4, p4⟩ := add_named S3 ⟨#[10, 109, 111, 116, 105, 111, 110, 115, 32]⟩ 56 9 z3 (by decide) (by decide) (by decide)
        obtain ⟨S5, hS5, z5, p5⟩ := add_named S4 (itB nm) 65 20 z4 (itB_size _ (by omega)) (by decide) (by decide)
        obtain ⟨S6, hS6, z6, p6⟩ := add_named S5 ⟨#[10, 102, 97, 117, 108, 116, 115, 32]⟩ 85 8 z5 (by decide) (by decide) (by decide)
        obtain ⟨S7, hS7, z7, p7⟩ := add_named S6 (itB na) 93 20 z6 (itB_size _ (by omega)) (by decide) (by decide)
        obtain ⟨S8, hS8, z8, p8⟩ := add_named S7 ⟨#[10, 99, 117, 116, 115, 32]⟩ 113 6 z7 (by decide) (by decide) (by decide)
        obtain ⟨S9, hS9, z9, p9⟩ := add_named S8 (itB l.length) 119 20 z8 (itB_size _ (by omega)) (by decide) (by decide)
        obtain ⟨S10, hS10, z10, p10⟩ := add_named S9 ⟨#[10, 108, 111, 119, 101, 115, 116, 32]⟩ 139 8 z9 (by decide) (by decide) (by decide)
        obtain ⟨S11, hS11, z11, p11⟩ := add_named S10 ⟨#[110, 111, 110, 101]⟩ 147 1000 z10 (by decide) (by decide) (by decide)
        obtain ⟨S12, hS12, z12, p12⟩ := add_named S11 ⟨#[10]⟩ 1147 1 z11 (by decide) (by decide) (by decide)
        have hwant : wantText nf nt nm na l.length ⟨#[110, 111, 110, 101]⟩ = S12 := by unfold wantText; rw [hS1, hS2, hS3, hS4, hS5, hS6, hS7, hS8, hS9, hS10, hS11, hS12]
        have hsum : ∀ w', Ext wr w' → Calls Tryd.prog 7 #[.agg #[.int .i64 0, .slice af nf cf, .int .i64 0, .int .i64 0, .int .i64 0, .int .i64 0, .int .i64 0, .int .i64 0, .slice none 0 0, .int .i64 0, .slice at' nt ct, .string ⟨#[]⟩, .slice am nm cm, .slice aa na ca, .slice ac l.length cc]] w' fun e w'' => e = .returned (.string S12) ∧ Ext w' w'' := fun w' hx => by
          have h := summary_any af at' am aa ac nf nt nm na l.length cf ct cm ca cc (fun n => if n ≤ 1000 then itB n else ⟨#[]⟩) (lowK0 (l.map rem7)) false ⟨#[]⟩ w' ?_ (by decide) ?_ (fun w3 hx3 => by (have hz : l.length = 0 := (by rw [HL0.out]; rfl)); rw [hz, HL0.out]; exact lowest_nil2 ac cc w3) (fun h => by cases h)
          · rw [sum_acc nf nt nm na l.length (by omega) (by omega) (by omega) (by omega) (by omega), want_eq] at h
            simp only [Bool.false_eq_true, if_false] at h
            rw [hwant] at h
            exact h
          · intro n; split
            · exact Nat.le_trans (itB_size n (by omega)) (by decide)
            · decide
          · intro k hk w3 hx3
            have hle : sumNum nf nt nm na l.length k ≤ 1000 := by unfold sumNum; split <;> omega
            rw [if_pos hle]
            exact HIT.out _ hle w3 (hx.trans hx3)
        have HSUM := Lib.hid hsum
        have K1 := fun x : Later wr => HIT.out nf (by omega) x.w x.ext; have K2 := fun x : Later wr => HIT.out nt (by omega) x.w x.ext; have K3 := fun x : Later wr => HIT.out nm (by omega) x.w x.ext; have K4 := fun x : Later wr => HIT.out na (by omega) x.w x.ext; have K5 := fun x : Later wr => HIT.out l.length (by omega) x.w x.ext
        have HK1 := Lib.hid K1; have HK2 := Lib.hid K2; have HK3 := Lib.hid K3; have HK4 := Lib.hid K4; have HK5 := Lib.hid K5
        clear K1 K2 K3 K4 K5 hsum hwant hbx hbc hS1 hS2 hS3 hS4 hS5 hS6 hS7 hS8 hS9 hS10 hS11 hS12 z1 z2 z3 z4 z5 z6 z7 z8 z9 z10 z11 z12
        generalize itB nf = D1 at *; generalize itB nt = D2 at *; generalize itB nm = D3 at *; generalize itB na = D4 at *; generalize itB l.length = D5 at *
        refine wp_region_later (by kernel_rfl) (by kernel_rfl) ?_
        repeat (go_big_quiet_step ((go_at_call 6; first | with_reducible exact Calls.later (HK1.out _) | with_reducible exact Calls.later (HK2.out _) | with_reducible exact Calls.later (HK3.out _) | with_reducible exact Calls.later (HK4.out _) | with_reducible exact Calls.later (HK5.out _))))
        refine wpQuiet_nil ?_
        rintro _ ⟨y, rfl⟩
        have KF := fun x : Later wr => jsafe_any2 af nf cf (.int .i64 0) (.slice at' nt ct) am aa nm na cm ca (.slice ac l.length cc) x.w rfl
        have HKF := Lib.hid KF; have HKS : Hid (∀ x : Later wr, Calls Tryd.prog 7 #[.agg #[.int .i64 0, .slice af nf cf, .int .i64 0, .int .i64 0, .int .i64 0, .int .i64 0, .int .i64 0, .int .i64 0, .slice none 0 0, .int .i64 0, .slice at' nt ct, .string ⟨#[]⟩, .slice am nm cm, .slice aa na ca, .slice ac l.length cc]] x.w fun e w'' => e = .returned (.string S12) ∧ Ext x.w w'') := Lib.hid (fun x => HSUM.out x.w x.ext)
        clear KF p1 p2 p3 p4 p5 p6 p7 p8 p9 p10 p11 p12
        have hm0 := HM0.out
        rcases Nat.eq_zero_or_pos na with ha0 | ha0
        · as_aux_lemma =>
            have e1 : decide (0 < nm) = false := by simp; omega
            have e2 : decide ((nm : Int) > 0) = false := by simp; omega
            have e3 : ((na : Int) == 0) = true := by simp; omega
            have e5 : (decide (na = 0) && decide (0 < nm)) = false := by simp; omega
            have e6 : decide (na = 0) = true := by simp; omega
            have HZ := Lib.hid hm0; have HZ2 := Lib.hid ha0
            rw [e5] at HKF
            clear hm0 ha0 e5
            go_wp2_with fail
            refine wp_region_later_at y (by kernel_rfl) (by kernel_rfl) ?_
            repeat (go_big_quiet_step (first | (go_at_call 7; with_reducible exact Calls.later (HKS.out _)) | (go_at_call 8; with_reducible exact Calls.later (HKF.out _))))
            refine wpQuiet_nil ?_
            rintro _ ⟨y2, rfl⟩
            go_wp2_with fail
            go_ret
            exact ⟨rfl, ((HE1.out.trans x2).trans HXC.out).trans y2.ext⟩
        · as_aux_lemma =>
            have e1 : decide (0 < nm) = false := by simp; omega
            have e2 : decide ((nm : Int) > 0) = false := by simp; omega
            have e3 : ((na : Int) == 0) = false := by simp; omega
            have e5 : (decide (na = 0) && decide (0 < nm)) = false := by simp; omega
            have e6 : decide (na = 0) = false := by simp; omega
            have HZ := Lib.hid hm0; have HZ2 := Lib.hid ha0
            rw [e5] at HKF
            clear hm0 ha0 e5
            go_wp2_with fail
            refine wp_region_later_at y (by kernel_rfl) (by kernel_rfl) ?_
            repeat (go_big_quiet_step (first | (go_at_call 7; with_reducible exact Calls.later (HKS.out _)) | (go_at_call 8; with_reducible exact Calls.later (HKF.out _))))
            refine wpQuiet_nil ?_
            rintro _ ⟨y2, rfl⟩
            go_wp2_with fail
            go_ret
            exact ⟨rfl, ((HE1.out.trans x2).trans HXC.out).trans y2.ext⟩
end Go.Proofs.YtjibcnnbclcboaaDoor
