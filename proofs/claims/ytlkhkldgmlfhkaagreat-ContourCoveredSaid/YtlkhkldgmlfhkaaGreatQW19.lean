/-
  Paths and moves by hand: next, Reversed, Closed (both), slices.Clone.
  Paths and moves by hand: the two Closed.
  Paths and moves by hand: slices.Clone, slices.Equal.
  The law's chapter examples: wrappers of contracts for walks; closed values.
  The law's chapter examples: awake.
  The reckoner at work: what is asked of a raw number (swarfref01.Valid, swarfref02.Valid, Small; small), Few, Area. (printed by gen/g8.py)
  The reckoner at work: next, Area (swarfref31). (printed by gen/g9.py)
  The law's turned paths: wrappers of contracts (Area, small, Few); the reference's Same and Turned.
  The flow of data in a region with guards: what a guard asks is known ahead.
  Small things that the laws of chapter 31 need (for the seat of ContourCovered and ContourWinding).
-/
import Derived.Test.YtlkhkldgmlfhkaaGreatQW18
import Derived.Test.YtlkhkldgmlfhkaaGreatQW08
namespace Go.Proofs.YtlkhkldgmlfhkaaGreat
open Go.RowKit Rt
set_option maxRecDepth 8000

/-- The cells of a position. -/
def gC (p : Int × Int) : List Value := [.int .i64 p.1, .int .i64 p.2]
theorem gC_len (p : Int × Int) : (gC p).length = 2 := rfl
theorem gC_one (p : Int × Int) : ∀ u ∈ gC p, u.oneCell' = true := by
  intro u hu
  simp only [gC, List.mem_cons, List.not_mem_nil, or_false] at hu
  rcases hu with rfl | rfl <;> rfl
abbrev SlT (w : World) (v : Value) (l : List (Int × Int)) : Prop := SlG 2 gC w v l
abbrev OwnT (B : Nat) (w : World) (v : Value) (l : List (Int × Int)) : Prop := OwnG B 35 2 gC w v l
theorem Tryz.info_g2 : (Tryz.prog.info? 35).map (fun i => (i.zero, i.size, i.bytes)) = some (some (.agg #[.int .i64 0, .int .i64 0]), 2, 16) := by kernel_rfl
/-- A path of the call's own is handed back. -/
def RetT (w : World) (l : List (Int × Int)) (e : Ending) (w' : World) : Prop := ∃ a n c, e = .returned (.slice a n c) ∧ OwnT w.heap.size w' (.slice a n c) l ∧ Ext w w'
theorem OwnG.form {α : Type} {f : α → List Value} {k B : Nat} {T : TypeId} {w : World} {v : Value} {l : List α} (h : OwnG B T k f w v l) : ∃ a c, v = .slice a l.length c := by
  obtain ⟨h1, h2⟩ := h
  rcases h2 with ⟨rfl, h3⟩ | ⟨g, cap, cur, rfl, _⟩
  · exact ⟨none, 0, by rw [h3]⟩
  · exact ⟨_, _, rfl⟩
/-- A position of a path, in any world that comes later. -/
theorem SlG.at {α : Type} {f : α → List Value} {k : Nat} {w : World} {a : Option Addr} {n c : Nat} {l : List α} (h : SlG k f w (.slice a n c) l) {i : Nat} {x : α} (hx : l[i]? = some x) : ∃ b off, a = some ⟨b, off, none⟩ ∧ b < w.heap.size ∧ ∀ r u, (f x)[r]? = some u → w.cell? ⟨b, off + i * k + r, none⟩ = some u := by
  obtain ⟨a', n', cap', b, off, e, h2, h3, h4, h5, h6⟩ := h
  cases e
  obtain ⟨p, q⟩ := h6 i x hx
  have hn : n ≠ 0 := by
    intro e
    rw [e] at h2
    have := List.length_eq_zero_iff.1 h2.symm
    subst this
    simp at hx
  exact ⟨b, off, h3.resolve_left hn, p, q⟩
theorem slG_lit {α : Type} {f : α → List Value} {k : Nat} (hf : ∀ x, (f x).length = k) (w : World) (T : TypeId) (l : List α) : SlG k f (w.alloc (.cells (cat f l).toArray T)) (.slice (some ⟨w.heap.size, 0, none⟩) l.length l.length) l := by
  refine ⟨_, _, _, w.heap.size, 0, rfl, rfl, .inr rfl, fun h => (by cases h), Nat.le_refl _, fun i x hx => ⟨by simp, fun r u hu => ?_⟩⟩
  have hr : r < k := by
    rcases Nat.lt_or_ge r (f x).length with h' | h'
    · rw [hf] at h'; exact h'
    · rw [List.getElem?_eq_none h'] at hu; cases hu
  have := cat_get hf l i r x hx hr
  rw [hu] at this
  rw [Nat.zero_add]
  have hb : (w.alloc (.cells (cat f l).toArray T)).heap[w.heap.size]? = some (.cells (cat f l).toArray T (0, 0)) := by unfold World.alloc; simp
  rw [Lib.cell_of_heap hb]
  simpa using this

set_option maxHeartbeats 4000000 in
theorem reversed_any (v : Value) (l : List (Int × Int)) (w : World) (h : SlT w v l) (hn : l.length ≤ 1000000) :
    Calls Tryz.prog 14 #[v] w (RetT w (revP l)) := by
  obtain ⟨ad, nn, cap, b, off, rfl, rfl, h3, h4, h5, h6⟩ := id h
  have H := Lib.hid h; have HN := Lib.hid hn
  clear h h3 h4 h5 h6
  go_enter Tryz.func14, Tryz.ntmps14
  go_wp2_with fail
  go_loopw [3, 4] (fun out i wr => ∃ (k : Nat), k ≤ l.length ∧ i = .int .i64 k ∧ Hid (OwnT w.heap.size wr out ((revP l).take k)) ∧ Hid (Ext w wr)) (fun _ i _ => l.length - (intOf i).toNat)
  case atStart => exact ⟨0, Nat.zero_le _, rfl, Lib.hid (OwnG.nil _ _ _), Lib.hid (Ext.refl w)⟩
  case round =>
    obtain ⟨k, hk, rfl, HO, HE⟩ := hrel
    by_cases hlt : k < l.length
    · obtain ⟨m, hmd⟩ : ∃ m, m = (l.length - k) % l.length := ⟨_, rfl⟩
      have hm : m < l.length := by rw [hmd]; exact Nat.mod_lt _ (by omega)
      have e1 : (((l.length : Int) - k) % (l.length : Int)) = (m : Int) := by
        rw [hmd, Int.natCast_emod, Int.natCast_sub (Nat.le_of_lt hlt)]
      obtain ⟨⟨x, y⟩, hxy⟩ : ∃ p, l[m]? = some p := ⟨l[m], by simp [hm]⟩
      have HT : Hid ((revP l).take k ++ [(x, y)] = (revP l).take (k + 1)) := Lib.hid (by
        rw [List.take_succ_eq_append_getElem (by rw [revP_len]; exact hlt)]
        congr 2
        simp [revP, ← hmd, hxy])
      have HK : Hid (((revP l).take k).length = k) := Lib.hid (by rw [List.length_take, revP_len]; exact Nat.min_eq_left hk)
      obtain ⟨b', off', he, hb', hc⟩ := H.out.at hxy
      cases he
      have c0 := (HE.out.cell (p := ⟨b', off' + m * 2 + 0, none⟩) hb').trans (hc 0 (.int .i64 x) rfl)
      have c1 := (HE.out.cell (p := ⟨b', off' + m * 2 + 1, none⟩) hb').trans (hc 1 (.int .i64 y) rfl)
      rw [Nat.add_zero] at c0
      have hl0 : ((l.length : Int) == 0) = false := by rw [beq_eq_false_iff_ne]; omega
      have hl1 : ¬ (l.length : Int) = 0 := by omega
      obtain ⟨X, hX, hbX, heX, -⟩ := row_alloc wr #[.int .i64 x, .int .i64 y] 35
      have HSX : Hid (SlT X (.slice (some ⟨wr.heap.size, 0, none⟩) 1 1) [(x, y)]) := Lib.hid (by rw [← hX]; exact slG_lit gC_len wr 35 [(x, y)])
      have HOX := Lib.hid (HO.out.later heX); have HEX := Lib.hid (HE.out.trans heX)
      have HBX : Hid (w.heap.size ≤ X.heap.size) := Lib.hid HEX.out.size
      have HM : Hid (((revP l).take k).length + [(x, y)].length ≤ maxLen) := Lib.hid (by rw [HK.out]; have := HN.out; unfold maxLen; simp; omega)
      have HB : Hid ((((revP l).take k).length + [(x, y)].length) * 16 ≤ 140737488355328) := Lib.hid (by rw [HK.out]; have := HN.out; simp; omega)
      clear hmd hxy hc hbX heX HO HE
      go_wp2_with ((at_builtin; refine appG_at rfl _ _ rfl Tryz.underlying36 Tryz.info_g2 rfl (by decide) gC_len gC_one w.heap.size _ _ ((revP l).take k) [(x, y)] rfl rfl HOX.out HSX.out HM.out HB.out HBX.out ?_; intro v6 w6 own6 hg6 hloc6))
      have E6 : Ext w w6 := HEX.out.grown hg6 (fun i hi => (HOX.out.base hi).1)
      rw [HT.out] at own6
      go_roundw
      case rel => exact ⟨k + 1, by omega, by go_num, Lib.hid own6, Lib.hid E6⟩
      case measure => simp [intOf]; omega
    · obtain rfl : k = l.length := by omega
      have ho := HO.out
      rw [List.take_of_length_le (by rw [revP_len]; exact Nat.le_refl _)] at ho
      have HO' := Lib.hid ho
      clear ho HO
      obtain ⟨a, c, rfl⟩ := HO'.out.form
      go_wp2_with fail
      go_ret
      exact ⟨_, _, _, rfl, HO'.out, HE.out⟩
end Go.Proofs.YtlkhkldgmlfhkaaGreat

namespace Go.Proofs.YtlkhkldgmlfhkaaGreat
open Go.RowKit
set_option maxRecDepth 8000
set_option maxRecDepth 8000

/-- The cells of a move. -/
def mC (z rate : Int) (p : Int × Int) : List Value := [.int .i64 2, .int .i64 p.1, .int .i64 p.2, .int .i64 z, .int .i64 0, .int .i64 0, .int .i64 rate]
theorem mC_len (z rate : Int) (p : Int × Int) : (mC z rate p).length = 7 := rfl
theorem mC_one (z rate : Int) (p : Int × Int) : ∀ u ∈ mC z rate p, u.oneCell' = true := by
  intro u hu
  simp only [mC, List.mem_cons, List.not_mem_nil, or_false] at hu
  rcases hu with rfl | rfl | rfl | rfl | rfl | rfl | rfl <;> rfl
theorem Tryz.info_mv : (Tryz.prog.info? 49).map (fun i => (i.zero, i.size, i.bytes)) = some (some (.agg #[.int .i64 0, .int .i64 0, .int .i64 0, .int .i64 0, .int .i64 0, .int .i64 0, .int .i64 0]), 7, 56) := by kernel_rfl
/-- Moves of the call's own are handed back. -/
def RetM (z rate : Int) (w : World) (l : List (Int × Int)) (e : Ending) (w' : World) : Prop := ∃ a n c, e = .returned (.slice a n c) ∧ OwnG w.heap.size 49 7 (mC z rate) w' (.slice a n c) l ∧ Ext w w'
/-- The positions behind, around the path. -/
def cycP (l : List (Int × Int)) : List (Int × Int) := (List.range l.length).map fun i => l.getD ((i + 1) % l.length) (0, 0)
theorem cycP_len (l : List (Int × Int)) : (cycP l).length = l.length := by simp [cycP]

set_option maxHeartbeats 4000000 in
theorem cclosed_any (v : Value) (l : List (Int × Int)) (z rate : Int) (w : World) (h : SlT w v l) (hn : l.length ≤ 1000000) :
    Calls Tryz.prog 16 #[v, .int .i64 z, .int .i64 rate] w (RetM z rate w (cycP l)) := by
  obtain ⟨ad, nn, cap, b, off, rfl, rfl, h3, h4, h5, h6⟩ := id h
  have H := Lib.hid h; have HN := Lib.hid hn
  clear h h3 h4 h5 h6
  go_enter Tryz.func16, Tryz.ntmps16
  go_wp2_with fail
  go_loopw [7, 12] (fun out i wr => ∃ (k : Nat), k ≤ l.length ∧ i = .int .i64 k ∧ Hid (OwnG w.heap.size 49 7 (mC z rate) wr out ((cycP l).take k)) ∧ Hid (Ext w wr)) (fun _ i _ => l.length - (intOf i).toNat)
  case atStart => exact ⟨0, Nat.zero_le _, rfl, Lib.hid (OwnG.nil _ _ _), Lib.hid (Ext.refl w)⟩
  case round =>
    obtain ⟨k, hk, rfl, HO, HE⟩ := hrel
    by_cases hlt : k < l.length
    · obtain ⟨m, hmd⟩ : ∃ m, m = (k + 1) % l.length := ⟨_, rfl⟩
      have hm : m < l.length := by rw [hmd]; exact Nat.mod_lt _ (by omega)
      have e1 : (((k : Int) + 1) % (l.length : Int)) = (m : Int) := by
        rw [hmd, Int.natCast_emod]; rfl
      obtain ⟨⟨x, y⟩, hxy⟩ : ∃ p, l[m]? = some p := ⟨l[m], by simp [hm]⟩
      have HT : Hid ((cycP l).take k ++ [(x, y)] = (cycP l).take (k + 1)) := Lib.hid (by
        rw [List.take_succ_eq_append_getElem (by rw [cycP_len]; exact hlt)]
        congr 2
        simp [cycP, ← hmd, hxy])
      have HK : Hid (((cycP l).take k).length = k) := Lib.hid (by rw [List.length_take, cycP_len]; exact Nat.min_eq_left hk)
      obtain ⟨b', off', he, hb', hc⟩ := H.out.at hxy
      cases he
      have c0 := (HE.out.cell (p := ⟨b', off' + m * 2 + 0, none⟩) hb').trans (hc 0 (.int .i64 x) rfl)
      have c1 := (HE.out.cell (p := ⟨b', off' + m * 2 + 1, none⟩) hb').trans (hc 1 (.int .i64 y) rfl)
      rw [Nat.add_zero] at c0
      have hl0 : ((l.length : Int) == 0) = false := by rw [beq_eq_false_iff_ne]; omega
      have hl1 : ¬ (l.length : Int) = 0 := by omega
      obtain ⟨W1, hW1, hb1, he1, -⟩ := row_alloc wr #[.int .i64 x, .int .i64 y] 35
      have hz1 : W1.heap.size = wr.heap.size + 1 := by rw [← hW1]; simp
      obtain ⟨X, hX, hbX, heX, -⟩ := row_alloc W1 #[.int .i64 2, .int .i64 x, .int .i64 y, .int .i64 z, .int .i64 0, .int .i64 0, .int .i64 rate] 49
      have g0 := Lib.cell_of_heap hb1 0; have g1 := Lib.cell_of_heap hb1 1
      simp only [List.getElem?_toArray, List.getElem?_cons_succ, List.getElem?_cons_zero] at g0 g1
      clear hmd hxy hc hb1 hz1
      have HSX : Hid (SlG 7 (mC z rate) X (.slice (some ⟨W1.heap.size, 0, none⟩) 1 1) [(x, y)]) := Lib.hid (by rw [← hX]; exact slG_lit (mC_len z rate) W1 49 [(x, y)])
      have HOX := Lib.hid (HO.out.later (he1.trans heX)); have HEX := Lib.hid (HE.out.trans (he1.trans heX))
      have HBX : Hid (w.heap.size ≤ X.heap.size) := Lib.hid HEX.out.size
      have HM : Hid (((cycP l).take k).length + [(x, y)].length ≤ maxLen) := Lib.hid (by rw [HK.out]; have := HN.out; unfold maxLen; simp; omega)
      have HB : Hid ((((cycP l).take k).length + [(x, y)].length) * 56 ≤ 140737488355328) := Lib.hid (by rw [HK.out]; have := HN.out; simp; omega)
      clear hbX heX he1 HO HE
      go_wp2_with ((at_builtin; refine appG_at rfl _ _ rfl Tryz.underlying44 Tryz.info_mv rfl (by decide) (mC_len z rate) (mC_one z rate) w.heap.size _ _ ((cycP l).take k) [(x, y)] rfl rfl HOX.out HSX.out HM.out HB.out HBX.out ?_; intro v6 w6 own6 hg6 hloc6))
      have E6 : Ext w w6 := HEX.out.grown hg6 (fun i hi => (HOX.out.base hi).1)
      rw [HT.out] at own6
      go_roundw
      case rel => exact ⟨k + 1, by omega, by go_num, Lib.hid own6, Lib.hid E6⟩
      case measure => simp [intOf]; omega
    · obtain rfl : k = l.length := by omega
      have ho := HO.out
      rw [List.take_of_length_le (by rw [cycP_len]; exact Nat.le_refl _)] at ho
      have HO' := Lib.hid ho
      clear ho HO
      obtain ⟨a, c, rfl⟩ := HO'.out.form
      go_wp2_with fail
      go_ret
      exact ⟨_, _, _, rfl, HO'.out, HE.out⟩

set_option maxHeartbeats 4000000 in
theorem next_any (v : Value) (l : List (Int × Int)) (k m : Nat) (x y : Int) (w : World) (h : SlT w v l) (hn : l.length ≤ 1000000) (hk : k < l.length) (hmd : m = (k + 1) % l.length) (hxy : l[m]? = some (x, y)) :
    Calls Tryz.prog 29 #[v, .int .i64 (k : Int)] w fun e w' => e = .returned (.agg #[.int .i64 x, .int .i64 y]) ∧ Ext w w' := by
  obtain ⟨ad, nn, cap, b, off, rfl, rfl, h3, h4, h5, h6⟩ := id h
  have e1 : (((k : Int) + 1) % (l.length : Int)) = (m : Int) := by
    rw [hmd, Int.natCast_emod]; rfl
  have hm : m < l.length := by rw [hmd]; exact Nat.mod_lt _ (by omega)
  obtain ⟨b', off', he, hb', hc⟩ := h.at hxy
  cases he
  have c0 := hc 0 (.int .i64 x) rfl
  have c1 := hc 1 (.int .i64 y) rfl
  rw [Nat.add_zero] at c0
  have hl0 : ((l.length : Int) == 0) = false := by rw [beq_eq_false_iff_ne]; omega
  have hl1 : ¬ (l.length : Int) = 0 := by omega
  clear h h3 h4 h5 h6 hc hmd hxy
  have d0 : ∀ o, (w.alloc o).cell? ⟨b', off' + m * 2, none⟩ = some (.int .i64 x) := fun o => (((Ext.refl w).alloc o).cell (p := ⟨b', off' + m * 2, none⟩) hb').trans c0
  have d1 : ∀ o, (w.alloc o).cell? ⟨b', off' + m * 2 + 1, none⟩ = some (.int .i64 y) := fun o => (((Ext.refl w).alloc o).cell (p := ⟨b', off' + m * 2 + 1, none⟩) hb').trans c1
  go_enter Tryz.func29, Tryz.ntmps29
  go_wp2_with fail
  exact bodyPost_ret (v := .agg #[.int .i64 x, .int .i64 y]) (by simp [results, Tryz.results29, go_sem]) rfl ⟨rfl, (Ext.refl w).alloc _⟩
end Go.Proofs.YtlkhkldgmlfhkaaGreat

namespace Go.Proofs.YtlkhkldgmlfhkaaGreat
open Go.RowKit
set_option maxRecDepth 8000
set_option maxRecDepth 8000

set_option maxHeartbeats 1000000 in
theorem cloneT_any (v : Value) (l : List (Int × Int)) (w : World) (h : SlT w v l) (hn : l.length ≤ 1000000) :
    Calls Tryz.prog 12 #[v] w (RetT w l) := by
  obtain ⟨ad, n, cap, b, off, rfl, rfl, h3, h4, h5, h6⟩ := id h
  cases ad with
  | none =>
    have h0 : l.length = 0 := h3.resolve_right (by simp)
    obtain rfl := List.length_eq_zero_iff.1 h0
    obtain rfl := h4 rfl
    clear h h3 h4 h5 h6 h0
    have hq := fun w => Lib.run_eql_slice_nil (P := Tryz.prog) w 36 35 none 0 0 0 0 Tryz.underlying36
    go_enter Tryz.func12, Tryz.ntmps12
    go_wp2_with fail
    go_ret
    exact ⟨_, _, _, rfl, OwnG.nil _ _ _, Ext.refl w⟩
  | some ad =>
    have hq := fun w => Lib.run_eql_slice_nil (P := Tryz.prog) w 36 35 (some ad) l.length cap 0 0 Tryz.underlying36
    have hown0 : OwnT w.heap.size (w.alloc (.cells #[] 35)) (.slice (some ⟨w.heap.size, 0, none⟩) 0 0) [] := World.ownsRow_lit (base := w.heap.size) (e := 35) (size := 2) w #[] 0 (Nat.le_refl _) (by decide) rfl
    have HO := Lib.hid hown0
    have HS := Lib.hid (h.later ((Ext.refl w).alloc (.cells #[] 35)))
    have HM : Hid (([] : List (Int × Int)).length + l.length ≤ maxLen) := Lib.hid (by unfold maxLen; simp; omega)
    have HB : Hid ((([] : List (Int × Int)).length + l.length) * 16 ≤ 140737488355328) := Lib.hid (by simp; omega)
    clear hown0 h h3 h4 h5 h6
    go_enter Tryz.func12, Tryz.ntmps12
    go_wp2_with ((at_builtin; refine appG_at rfl _ _ rfl Tryz.underlying36 Tryz.info_g2 rfl (by decide) gC_len gC_one w.heap.size _ _ [] l rfl rfl HO.out HS.out HM.out HB.out (by simp) ?_; intro v6 w6 own6 hg6 hloc6))
    have E6 : Ext w w6 := ((Ext.refl w).alloc _).grown hg6 (fun i hi => by cases hi; exact Nat.le_refl _)
    rw [List.nil_append] at own6
    obtain ⟨a, c, rfl⟩ := own6.form
    go_ret
    exact ⟨_, _, _, rfl, own6, E6⟩

def Mv7 (z rate x y : Int) : Value := .agg #[.int .i64 2, .int .i64 x, .int .i64 y, .int .i64 z, .int .i64 0, .int .i64 0, .int .i64 rate]
theorem Tryz.neq_mv (z rate x y : Int) (w : World) : (binOp .neq 49 (Mv7 z rate x y) (Mv7 z rate x y)).run Tryz.prog w = .ok (.bool false) w := by simp [go_sem, Mv7]

end Go.Proofs.YtlkhkldgmlfhkaaGreat

namespace Go.Proofs.YtlkhkldgmlfhkaaGreat
open Go.RowKit
set_option maxRecDepth 8000

abbrev B0 : Vc.Bs := ⟨0, [], [], []⟩
/-- The value v reads as a vector. -/
def IsV (w : World) (x y : Rat) (v : Value) : Prop := Vc.relK B0 w (.g [.R x, .R y]) v
theorem IsV.later {w w' : World} {x y : Rat} {v : Value} (h : IsV w x y v) (he : Ext w w') : IsV w' x y v := (Vc.Keep.ext he).relK h
theorem slP_of {w : World} {v : Value} {l : List (Int × Int)} (h : SlT w v l) : Vc.SlP w.heap.size w v l := by
  obtain ⟨a, n, cap, b, off, rfl, rfl, h3, h4, h5, h6⟩ := h
  refine ⟨a, cap, b, off, rfl, h3, h4, h5, fun i x hx => ?_⟩
  obtain ⟨p, q⟩ := h6 i x hx
  exact ⟨p, p, by have := q 0 (.int .i64 x.1) rfl; simpa using this, q 1 (.int .i64 x.2) rfl⟩
theorem wvec07 (m n : Int) (w : World) (h : (-9223372036854775808 ≤ m ∧ m ≤ 9223372036854775807) ∧ -9223372036854775808 ≤ n ∧ n ≤ 9223372036854775807) :
    Calls Tryz.prog 15 #[.int .i64 m, .int .i64 n] w fun e w' => ∃ v, e = .returned v ∧ Ext w w' ∧ IsV w' m n v :=
  Vc.cKvec07_ok.yes B0 w [.c (.v (.int .i64 m)), .c (.v (.int .i64 n))] [.int .i64 m, .int .i64 n] _ _ ⟨⟨rfl, rfl⟩, ⟨rfl, rfl⟩, trivial⟩ rfl rfl rfl h
theorem wwind (p v : Value) (l : List (Int × Int)) (x y : Rat) (w : World) (hp : SlT w p l) (hv : IsV w x y v) (h : Rt.okp l ∧ Vc.szR x ≤ 90 ∧ Vc.szR y ≤ 90) :
    Calls Tryz.prog 11 #[p, v] w fun e w' => e = .returned (.tuple #[.int .i64 (Rt.windN l ⟨x, y⟩), .int .i64 (Rt.windE l ⟨x, y⟩)]) ∧ Ext w w' := by
  refine (Vc.cCwind_ok.yes ⟨w.heap.size, [], [], []⟩ w [.c (.pt l), .g [.R x, .R y]] [p, v] _ _ ⟨slP_of hp, Vc.nobxK_rel rfl rfl rfl hv, trivial⟩ rfl rfl rfl h).mono ?_
  rintro e w' ⟨v', rfl, hx, us, rfl, hr⟩
  match us, hr with
  | [u1, u2], hr =>
    obtain ⟨⟨rfl, _⟩, ⟨rfl, _⟩, _⟩ := hr
    exact ⟨rfl, hx⟩
theorem wcov (q v : Value) (ps : List (List (Int × Int))) (r : Int) (x y : Rat) (w : World) (hq : Vc.SlQ w.heap.size w q ps) (hv : IsV w x y v) (h : (∀ j, Rt.okp (ps.getD j [])) ∧ ps.length ≤ 1000000000 ∧ (-9223372036854775808 ≤ r ∧ r ≤ 9223372036854775807) ∧ Vc.szR x ≤ 90 ∧ Vc.szR y ≤ 90) :
    Calls Tryz.prog 8 #[q, .int .i64 r, v] w fun e w' => e = .returned (.bool (Rt.covB ps r ⟨x, y⟩)) ∧ Ext w w' := by
  refine (Vc.cCcov_ok.yes ⟨w.heap.size, [], [], []⟩ w [.c (.pp ps), .c (.v (.int .i64 r)), .g [.R x, .R y]] [q, .int .i64 r, v] _ _ ⟨hq, ⟨rfl, rfl⟩, Vc.nobxK_rel rfl rfl rfl hv, trivial⟩ rfl rfl rfl h).mono ?_
  rintro e w' ⟨v', rfl, hx, rfl, _⟩
  exact ⟨rfl, hx⟩

theorem ex1 : Rt.windN [(0, 0), (10, 0), (10, 10)] ⟨((8 : Int) : Rat), ((2 : Int) : Rat)⟩ = 1 := by kernel_rfl
theorem ex2 : Rt.windE [(0, 0), (10, 0), (10, 10)] ⟨((8 : Int) : Rat), ((2 : Int) : Rat)⟩ = 0 := by kernel_rfl
theorem ex3 : Rt.windN [(0, 0), (10, 10), (10, 0)] ⟨((8 : Int) : Rat), ((2 : Int) : Rat)⟩ = -1 := by kernel_rfl
theorem ex4 : Rt.windE [(0, 0), (10, 10), (10, 0)] ⟨((8 : Int) : Rat), ((2 : Int) : Rat)⟩ = 0 := by kernel_rfl
theorem ex5 : Rt.windN [(0, 0), (10, 0), (10, 10)] ⟨((2 : Int) : Rat), ((8 : Int) : Rat)⟩ = 0 := by kernel_rfl
theorem ex6 : Rt.windE [(0, 0), (10, 0), (10, 10)] ⟨((2 : Int) : Rat), ((8 : Int) : Rat)⟩ = 0 := by kernel_rfl
theorem ex7 : Rt.covB [[(0, 0), (10, 0), (10, 10)]] 1 ⟨((5 : Int) : Rat), ((-1 : Int) : Rat)⟩ = true := by kernel_rfl
theorem ex_rev : Rt.revP [(0, 0), (10, 0), (10, 10)] = [(0, 0), (10, 10), (10, 0)] := by decide
end Go.Proofs.YtlkhkldgmlfhkaaGreat

namespace Go.Proofs.YtlkhkldgmlfhkaaGreat
open Go.RowKit
set_option maxRecDepth 8000
set_option maxRecDepth 8000

theorem okp_small (l : List (Int × Int)) (h : ∀ p ∈ l, (-1000000000 ≤ p.1 ∧ p.1 ≤ 1000000000) ∧ -1000000000 ≤ p.2 ∧ p.2 ≤ 1000000000) (hn : l.length ≤ 1000000000) : Rt.okp l := by
  refine ⟨fun k => ?_, hn⟩
  rcases Nat.lt_or_ge k l.length with hk | hk
  · have e : l.getD k (0, 0) = l[k] := by simp [List.getD_eq_getElem?_getD, hk]
    have := h l[k] (List.getElem_mem hk)
    rw [e]
    omega
  · have e : l.getD k (0, 0) = (0, 0) := by simp [List.getD_eq_getElem?_getD, hk]
    rw [e]
    exact ⟨⟨by decide, by decide⟩, by decide, by decide⟩
theorem okp_ex : Rt.okp [(0, 0), (10, 0), (10, 10)] := okp_small _ (by decide) (by decide)
theorem okp_ex2 : Rt.okp [(0, 0), (10, 10), (10, 0)] := okp_small _ (by decide) (by decide)
theorem sz_ex (n : Int) (h : n.natAbs < 1000000000) : Vc.szR (n : Rat) ≤ 90 := by
  have h1 : szI ((n : Rat).num) ≤ 1 := szI_le (by simpa [Lb.B] using h)
  have h2 : szI (((n : Rat).den : Nat) : Int) ≤ 1 := szI_le (by simp [Lb.B])
  unfold Vc.szR
  omega

set_option maxHeartbeats 16000000 in
theorem awake31_any (w : World) : Calls Tryz.prog 5 #[] w fun e w' => e = .returned (.bool true) ∧ Ext w w' := by
  obtain ⟨W0, hW0, hb0, hE0, -⟩ := row_alloc w #[.int .i64 0, .int .i64 0, .int .i64 10, .int .i64 0, .int .i64 10, .int .i64 10] 35
  have HP : Hid (SlT W0 (.slice (some ⟨w.heap.size, 0, none⟩) 3 3) [(0, 0), (10, 0), (10, 10)]) := Lib.hid (by rw [← hW0]; exact slG_lit gC_len w 35 [(0, 0), (10, 0), (10, 10)])
  have HE0 := Lib.hid hE0
  have k8 := sz_ex 8 (by decide); have k2 := sz_ex 2 (by decide); have k5 := sz_ex 5 (by decide); have k1 := sz_ex (-1) (by decide)
  have K8 := Lib.hid k8; have K2 := Lib.hid k2; have K5 := Lib.hid k5; have K1 := Lib.hid k1
  clear hb0 hE0 k8 k2 k5 k1
  go_enter Tryz.func5, Tryz.ntmps5
  go_wp2_with fail
  refine (wvec07 8 2 _ (by decide)).mono ?_
  rintro e w1 ⟨v1, rfl, x1, i1⟩
  have HP1 := Lib.hid (HP.out.later x1); have HX1 := Lib.hid x1; have HI1 := Lib.hid i1
  clear x1 i1
  go_wp2_with fail
  refine (wwind _ _ _ _ _ _ HP1.out HI1.out ⟨okp_ex, K8.out, K2.out⟩).mono ?_
  rintro e w2 ⟨rfl, x2⟩
  rw [ex1, ex2]
  have HP2 := Lib.hid (HP1.out.later x2); have HX2 := Lib.hid (HX1.out.trans x2)
  clear x2
  go_wp2_with fail
  refine (reversed_any _ _ _ HP2.out (by decide)).mono ?_
  rintro e w3 ⟨a3, n3, c3, rfl, o3, x3⟩
  have s3 := o3.sl gC_len
  rw [ex_rev] at s3
  have HS3 := Lib.hid s3; have HP3 := Lib.hid (HP2.out.later x3); have HX3 := Lib.hid (HX2.out.trans x3)
  clear o3 s3 x3
  go_wp2_with fail
  refine (wvec07 8 2 _ (by decide)).mono ?_
  rintro e w4 ⟨v4, rfl, x4, i4⟩
  have HS4 := Lib.hid (HS3.out.later x4); have HP4 := Lib.hid (HP3.out.later x4); have HX4 := Lib.hid (HX3.out.trans x4); have HI4 := Lib.hid i4
  clear x4 i4
  go_wp2_with fail
  refine (wwind _ _ _ _ _ _ HS4.out HI4.out ⟨okp_ex2, K8.out, K2.out⟩).mono ?_
  rintro e w5 ⟨rfl, x5⟩
  rw [ex3, ex4]
  have HP5 := Lib.hid (HP4.out.later x5); have HX5 := Lib.hid (HX4.out.trans x5)
  clear x5
  go_wp2_with fail
  refine (wvec07 2 8 _ (by decide)).mono ?_
  rintro e w6 ⟨v6, rfl, x6, i6⟩
  have HP6 := Lib.hid (HP5.out.later x6); have HX6 := Lib.hid (HX5.out.trans x6); have HI6 := Lib.hid i6
  clear x6 i6
  go_wp2_with fail
  refine (wwind _ _ _ _ _ _ HP6.out HI6.out ⟨okp_ex, K2.out, K8.out⟩).mono ?_
  rintro e w7 ⟨rfl, x7⟩
  rw [ex5, ex6]
  have HP7 := Lib.hid (HP6.out.later x7); have HX7 := Lib.hid (HX6.out.trans x7)
  clear x7
  go_wp2_with fail
  refine (cclosed_any _ _ (-5) 100 _ HP7.out (by decide)).mono ?_
  rintro e w8 ⟨a8, n8, c8, rfl, o8, x8⟩
  have HP8 := Lib.hid (HP7.out.later x8); have HX8 := Lib.hid (HX7.out.trans x8)
  have s8 := o8.sl (mC_len (-5) 100)
  have hn8 : n8 = 3 := s8.len
  subst hn8
  obtain ⟨g8, f8, rfl, hg8, hc8⟩ := s8.at (i := 2) (x := (0, 0)) (by decide)
  have c80 := hc8 1 (.int .i64 0) rfl; have c81 := hc8 2 (.int .i64 0) rfl; have c82 := hc8 3 (.int .i64 (-5)) rfl
  obtain ⟨X9, hX9, hb9, hE9, -⟩ := row_alloc w8 #[.slice (some ⟨w.heap.size, 0, none⟩) 3 3] 36
  have g9 := Lib.cell_of_heap hb9 0
  simp only [List.getElem?_toArray, List.getElem?_cons_zero] at g9
  have HG9 := Lib.hid g9; have HX9 := Lib.hid (HX8.out.trans hE9); have HP9 := Lib.hid (HP8.out.later hE9)
  have HZ9 : Hid (w8.heap.size < X9.heap.size) := Lib.hid (by rw [← hX9]; simp)
  clear o8 s8 hc8 x8 g9 hE9
  go_wp2_with fail
  refine (wvec07 5 (-1) _ (by decide)).mono ?_
  rintro e w10 ⟨v10, rfl, x10, i10⟩
  have HQ : Hid (Vc.SlQ w10.heap.size w10 (.slice (some ⟨w8.heap.size, 0, none⟩) 1 1) [[(0, 0), (10, 0), (10, 10)]]) := Lib.hid (by
    refine ⟨_, 1, w8.heap.size, 0, rfl, .inr rfl, fun h => (by cases h), Nat.le_refl _, fun i x hx => ?_⟩
    have hlt : w8.heap.size < w10.heap.size := Nat.lt_of_lt_of_le HZ9.out x10.size
    match i, hx with
    | 0, hx =>
      simp only [List.getElem?_cons_zero, Option.some.injEq] at hx
      subst hx
      exact ⟨hlt, hlt, _, (x10.cell (p := ⟨w8.heap.size, 0, none⟩) HZ9.out).trans HG9.out, slP_of (HP9.out.later x10)⟩)
  have HI10 := Lib.hid i10; have HX10 := Lib.hid (HX9.out.trans x10)
  clear x10 i10
  go_wp2_with fail
  refine (wcov _ _ _ _ _ _ _ HQ.out HI10.out ⟨fun j => ?_, by decide, by decide, K5.out, K1.out⟩).mono ?_
  · match j with
    | 0 => exact okp_ex
    | j + 1 => exact okp_small [] (by simp) (by simp)
  rintro e w11 ⟨rfl, x11⟩
  rw [ex7]
  go_wp2_with fail
  go_ret
  exact ⟨rfl, HE0.out.trans (HX10.out.trans x11)⟩
end Go.Proofs.YtlkhkldgmlfhkaaGreat

namespace Go.Proofs.YtlkhkldgmlfhkaaGreat
open Go.RowKit
namespace Vc
/-- What a valid integer looks like. -/
def validL (b : Bool) (l : List Nat) : Bool := l.all (fun x => decide (x < 1000000000)) && (decide ((Lb.trim l).length = l.length) && (!b || decide (0 < l.length)))
theorem validL_spec {b : Bool} {l : List Nat} (h : validL b l = true) : Lb.Norm l ∧ b = decide (sgn b (Lb.val l) < 0) ∧ l = Lb.limbs (sgn b (Lb.val l)).natAbs := by
  unfold validL at h
  simp only [Bool.and_eq_true, List.all_eq_true, decide_eq_true_eq, Bool.or_eq_true, Bool.not_eq_true'] at h
  obtain ⟨h1, h2, h3⟩ := h
  have hl : Lb.Lt l := fun x hx => by rw [Lb.B_eq]; exact h1 x hx
  have ht : Lb.trim l = l := by rw [Lb.trim_take l, h2, List.take_length]
  have hn : Lb.Norm l := by rw [← ht]; exact Lb.norm_trim hl
  refine ⟨hn, ?_, ?_⟩
  · rw [sgn_neg]
    have : Lb.val l = 0 → l = [] := fun e => Lb.norm_zero hn e
    cases b with
    | false => rfl
    | true =>
      have h4 : 0 < l.length := by simpa using h3
      have : 0 < Lb.val l := by
        rcases Nat.eq_zero_or_pos (Lb.val l) with e | e
        · rw [this e] at h4; simp at h4
        · exact e
      simp [this]
  · rw [sgn_natAbs]
    exact Lb.norm_eq hn
def cWvalid : Ctr := ⟨53, fun | [.g [.v (.bool (b)), .sl (l)]] => .yes (l.length ≤ 1000000000) (.k (.c (.v (.bool (validL b l))))) | _ => .no⟩
theorem cWvalid_owes (b : Bool) (l : List Nat) (hp : l.length ≤ 1000000000) : owes LT ST4 [.inv 2 (Nat) (fun ξ => ⟨[.u, .k (.c (.bx 0 0)), .u, .k (.c (.v (.int .i64 ((ξ : Int))))), .u, .u, .u, .u, .u, .u, .u, .u, .u, .u, .u, .u, .u, .u, .u, .u, .u, .u, .u, .u, .u, .u, .u, .u, .u, .u, .u, .u, .u, .u, .u, .u], [⟨25, [.v (.bool (b)), .sl (l)]⟩]⟩) (fun _ ξ => (ξ ≤ l.length ∧ ∀ i, i < ξ → l.getD i 0 < 1000000000)) (fun ξ => l.length - ξ)] Tryz.f53 (Tryz.f53.body.getD .skip) [.g [.v (.bool (b)), .sl (l)]] (.k (.c (.v (.bool (validL b l))))) := by
  refine Eq.mp (show ((∃ x1 : Nat, (((x1 ≤ l.length ∧ ∀ i, i < x1 → l.getD i 0 < 1000000000)) ∧ (((True) ∧ ((Value.int .i64 ((0 : Int)) = (.int .i64 ((x1 : Int)))) ∧ (True))) ∧ (((Value.bool (b) = (.bool (b))) ∧ ((l = l) ∧ (True))) ∧ (True))))) ∧ (∀ x1 : Nat, ((x1 ≤ l.length ∧ ∀ i, i < x1 → l.getD i 0 < 1000000000) → (((decide (((x1 : Int)) < (((l).length : Int)))) = true → ((0 ≤ (x1 : Int) ∧ (x1 : Int) < ((l).length : Int)) ∧ (((decide (((((l).getD ((x1 : Int)).toNat 0 : Nat) : Int)) ≥ ((1000000000 : Int)))) = true → (Value.bool (false) = (.bool (validL b l)))) ∧ ((decide (((((l).getD ((x1 : Int)).toNat 0 : Nat) : Int)) ≥ ((1000000000 : Int)))) = false → ((inR .i64 (((x1 : Int)) + ((1 : Int)))) ∧ (∃ y1 : Nat, (((y1 ≤ l.length ∧ ∀ i, i < y1 → l.getD i 0 < 1000000000)) ∧ ((l.length - y1 < l.length - x1) ∧ (((True) ∧ ((Value.int .i64 (((x1 : Int)) + ((1 : Int))) = (.int .i64 ((y1 : Int)))) ∧ (True))) ∧ (((Value.bool (b) = (.bool (b))) ∧ ((l = l) ∧ (True))) ∧ (True))))))))))) ∧ ((decide (((x1 : Int)) < (((l).length : Int)))) = false → (((l).length ≤ 1000000000) ∧ (Value.bool (bif (((((Lb.trim (l))).length : Int)) == (((l).length : Int))) then (bif (!(b)) then (true) else (decide ((((l).length : Int)) > ((0 : Int))))) else (false)) = (.bool (validL b l))))))))) = owes LT ST4 [.inv 2 (Nat) (fun ξ => ⟨[.u, .k (.c (.bx 0 0)), .u, .k (.c (.v (.int .i64 ((ξ : Int))))), .u, .u, .u, .u, .u, .u, .u, .u, .u, .u, .u, .u, .u, .u, .u, .u, .u, .u, .u, .u, .u, .u, .u, .u, .u, .u, .u, .u, .u, .u, .u, .u], [⟨25, [.v (.bool (b)), .sl (l)]⟩]⟩) (fun _ ξ => (ξ ≤ l.length ∧ ∀ i, i < ξ → l.getD i 0 < 1000000000)) (fun ξ => l.length - ξ)] Tryz.f53 (Tryz.f53.body.getD .skip) [.g [.v (.bool (b)), .sl (l)]] (.k (.c (.v (.bool (validL b l))))) by kernel_rfl) ?_
  refine ⟨⟨0, ⟨Nat.zero_le _, fun i hi => absurd hi (by omega)⟩, by simp, by simp, trivial⟩, ?_⟩
  rintro k ⟨hk, hall⟩
  refine ⟨fun h => ?_, fun h => ?_⟩
  · have hkl : k < l.length := by simpa using h
    have ea : l.getD k 0 = l[k] := by simp [List.getD_eq_getElem?_getD, hkl]
    simp only [Int.toNat_natCast, ea]
    refine ⟨⟨by omega, by omega⟩, fun c => ?_, fun c => ⟨by simp only [inR]; omega, k + 1, ⟨hkl, fun i hi => ?_⟩, by omega, by simp, by simp, trivial⟩⟩
    · have hx := of_decide_eq_true c
      have hA : l.all (fun x => decide (x < 1000000000)) = false := by
        rw [List.all_eq_false]
        exact ⟨l[k], List.getElem_mem hkl, by simp; omega⟩
      simp [validL, hA]
    · rcases Nat.lt_or_ge i k with h' | h'
      · exact hall i h'
      · obtain rfl : i = k := by omega
        rw [ea]
        have := of_decide_eq_false c
        omega
  · have hkl : k = l.length := by
      have := of_decide_eq_false h
      omega
    subst hkl
    refine ⟨hp, ?_⟩
    have hA : l.all (fun x => decide (x < 1000000000)) = true := by
      rw [List.all_eq_true]
      intro x hx
      obtain ⟨i, hi, rfl⟩ := List.mem_iff_getElem.1 hx
      have := hall i hi
      have ea : l.getD i 0 = l[i] := by simp [List.getD_eq_getElem?_getD, hi]
      rw [ea] at this
      simpa using this
    have e1 : (((Lb.trim l).length : Int) == (l.length : Int)) = decide ((Lb.trim l).length = l.length) := by
      rw [Bool.eq_iff_iff]; simp; omega
    have e2 : decide ((l.length : Int) > 0) = decide (0 < l.length) := by rw [decide_eq_decide]; omega
    unfold validL
    rw [hA, e1, e2]
    cases decide ((Lb.trim l).length = l.length) <;> cases b <;> cases decide (0 < l.length) <;> rfl
theorem cWvalid_ok : CtrOK Tryz.prog cWvalid := .of (by kernel_rfl) (fun bs w xs vs pre r hr hA hG h hp => by
  simp only [cWvalid] at h
  split at h
  · cases h
    exact ctr_calls mixed LT_ok ST4_ok Tryz.func53 (by kernel_rfl) hr hA hG rfl rfl (cWvalid_owes _ _ hp)
  · cases h) (fun xs α pre φ r => by simp only [cWvalid]; split <;> (intro h; cases h))
def cWsign : Ctr := ⟨50, fun | [.g [.v (.bool (b)), .sl (l)]] => .yes (True) (.k (.c (.v (.int .i64 ((if l = [] then 0 else if b then -1 else 1)))))) | _ => .no⟩
theorem cWsign_owes (b : Bool) (l : List Nat) : owes LT ST4 [] Tryz.f50 (Tryz.f50.body.getD .skip) [.g [.v (.bool (b)), .sl (l)]] (.k (.c (.v (.int .i64 ((if l = [] then 0 else if b then -1 else 1)))))) := by
  refine Eq.mp (show ((((((l).length : Int)) == ((0 : Int))) = true → (Value.int .i64 ((0 : Int)) = (.int .i64 ((if l = [] then 0 else if b then -1 else 1))))) ∧ (((((l).length : Int)) == ((0 : Int))) = false → (((b) = true → (Value.int .i64 ((-1 : Int)) = (.int .i64 ((if l = [] then 0 else if b then -1 else 1))))) ∧ ((b) = false → (Value.int .i64 ((1 : Int)) = (.int .i64 ((if l = [] then 0 else if b then -1 else 1)))))))) = owes LT ST4 [] Tryz.f50 (Tryz.f50.body.getD .skip) [.g [.v (.bool (b)), .sl (l)]] (.k (.c (.v (.int .i64 ((if l = [] then 0 else if b then -1 else 1)))))) by kernel_rfl) ?_
  rcases l with _ | ⟨x, l⟩
  · exact ⟨fun _ => rfl, fun h => by simp at h⟩
  · refine ⟨fun h => ?_, fun _ => ⟨fun h => ?_, fun h => ?_⟩⟩
    · exfalso
      have : ((x :: l).length : Int) = 0 := by simpa using h
      simp only [List.length_cons] at this
      omega
    · subst h; rfl
    · subst h; rfl
theorem cWsign_ok : CtrOK Tryz.prog cWsign := .of (by kernel_rfl) (fun bs w xs vs pre r hr hA hG h hp => by
  simp only [cWsign] at h
  split at h
  · cases h
    exact ctr_calls mixed LT_ok ST4_ok Tryz.func50 (by kernel_rfl) hr hA hG rfl rfl (cWsign_owes _ _)
  · cases h) (fun xs α pre φ r => by simp only [cWsign]; split <;> (intro h; cases h))
def cWgcd : Ctr := ⟨55, fun | [.g [.v (.bool b), .sl l], .g [.v (.bool c), .sl m]] => .yes ((validL b l = true ∧ validL c m = true) ∧ l.length ≤ 5000000 ∧ m.length ≤ 5000000) (.k (.g [.I ((Int.gcd (sgn b (Lb.val l)) (sgn c (Lb.val m)) : Nat) : Int)])) | _ => .no⟩
theorem raw_I {bs : Bs} {w : World} {b : Bool} {l : List Nat} {u : Value} (h : validL b l = true) (k : relK bs w (.g [.v (.bool b), .sl l]) u) : relK bs w (.g [.I (sgn b (Lb.val l))]) u := by
  obtain ⟨us, rfl, k⟩ := k
  obtain ⟨_, h1, h2⟩ := validL_spec h
  refine ⟨us, rfl, ?_⟩
  match us, k with
  | [u1, u2], k =>
    obtain ⟨⟨rfl, k1⟩, k2, _⟩ := k
    exact ⟨⟨by rw [← h1], rfl⟩, by rw [← h2]; exact k2, trivial⟩
theorem szI_raw {b : Bool} {l : List Nat} (h : validL b l = true) : szI (sgn b (Lb.val l)) = l.length := by
  have := (validL_spec h).2.2
  unfold szI
  rw [← this]
theorem cWgcd_ok : CtrOK Tryz.prog cWgcd := .of (by kernel_rfl) (fun bs w xs vs pre r hr hA hG h hp => by
  simp only [cWgcd] at h
  split at h
  · cases h
    obtain ⟨u, v, rfl, h1, h2⟩ := relKs_two hr
    exact cJgcd_ok.yes bs w [.g [.I _], .g [.I _]] [u, v] _ _ ⟨raw_I hp.1.1 h1, raw_I hp.1.2 h2, trivial⟩ hA hG rfl ⟨by rw [szI_raw hp.1.1]; exact hp.2.1, by rw [szI_raw hp.1.2]; exact hp.2.2⟩
  · cases h) (fun xs α pre φ r => by simp only [cWgcd]; split <;> (intro h; cases h))
def WT0 : List Ctr := [cWvalid, cWsign, cWgcd]
theorem WT0_ok : ∀ c ∈ WT0, CtrOK Tryz.prog c := by
  intro c hc
  simp only [WT0, List.mem_cons, List.not_mem_nil, or_false] at hc
  rcases hc with rfl | rfl | rfl
  · exact cWvalid_ok
  · exact cWsign_ok
  · exact cWgcd_ok
def WT1 : List Ctr := WT0 ++ ST4
theorem WT1_ok : ∀ c ∈ WT1, CtrOK Tryz.prog c := ok_app WT0_ok ST4_ok
/-- What a valid fraction looks like. -/
def validR (b : Bool) (l : List Nat) (c : Bool) (m : List Nat) : Bool := validL b l && (validL c m && ((!c && decide (0 < m.length)) && decide (Int.gcd (sgn b (Lb.val l)) (sgn c (Lb.val m)) = 1)))
def cWvalidR : Ctr := ⟨34, fun | [.g [.v (.bool (b)), .sl (l), .v (.bool (c)), .sl (m)]] => .yes (l.length ≤ 2 ∧ m.length ≤ 2) (.k (.c (.v (.bool (validR b l c m))))) | _ => .no⟩
theorem cWvalidR_owes (b : Bool) (l : List Nat) (c : Bool) (m : List Nat) (hp : l.length ≤ 2 ∧ m.length ≤ 2) : owes LT WT1 [] Tryz.f34 (Tryz.f34.body.getD .skip) [.g [.v (.bool (b)), .sl (l), .v (.bool (c)), .sl (m)]] (.k (.c (.v (.bool (validR b l c m))))) := by
  refine Eq.mp (show (((l).length ≤ 1000000000) ∧ ((((!(validL (b) (l))) == false) = true → ((m).length ≤ 1000000000)) ∧ ((((bif (!(validL (b) (l))) then (true) else (!(validL (c) (m)))) == false) = true → (True)) ∧ (((bif (bif (!(validL (b) (l))) then (true) else (!(validL (c) (m)))) then (true) else (((if m = [] then 0 else if c then -1 else 1)) != ((1 : Int)))) = true → (Value.bool (false) = (.bool (validR b l c m)))) ∧ ((bif (bif (!(validL (b) (l))) then (true) else (!(validL (c) (m)))) then (true) else (((if m = [] then 0 else if c then -1 else 1)) != ((1 : Int)))) = false → (((validL (b) (l) = true ∧ validL (c) (m) = true) ∧ (l).length ≤ 5000000 ∧ (m).length ≤ 5000000) ∧ ((True) ∧ ((szI (((Int.gcd (sgn (b) (Lb.val (l))) (sgn (c) (Lb.val (m))) : Nat) : Int)) ≤ 10000000 ∧ szI ((1 : Int)) ≤ 10000000) ∧ (Value.bool (decide ((((Int.gcd (sgn (b) (Lb.val (l))) (sgn (c) (Lb.val (m))) : Nat) : Int)) = ((1 : Int)))) = (.bool (validR b l c m))))))))))) = owes LT WT1 [] Tryz.f34 (Tryz.f34.body.getD .skip) [.g [.v (.bool (b)), .sl (l), .v (.bool (c)), .sl (m)]] (.k (.c (.v (.bool (validR b l c m))))) by kernel_rfl) ?_
  have hs : ((if m = [] then (0 : Int) else if c = true then -1 else 1) != 1) = !(!c && decide (0 < m.length)) := by
    rcases m with _ | ⟨x, m⟩ <;> cases c <;> simp
  rw [hs]
  obtain ⟨hl, hm⟩ := hp
  have hgs : validL b l = true → validL c m = true → (!c && decide (0 < m.length)) = true → szI ((Int.gcd (sgn b (Lb.val l)) (sgn c (Lb.val m)) : Nat) : Int) ≤ 10000000 := fun h1 h2 h3 => by
    have hN := (validL_spec h2).1
    simp only [Bool.and_eq_true, decide_eq_true_eq] at h3
    have hv : Lb.val m ≠ 0 := fun e => by
      rw [Lb.norm_zero hN e] at h3
      simp at h3
    have hz : szI (sgn c (Lb.val m)) ≤ 2 := by rw [szI_raw h2]; exact hm
    refine Nat.le_trans (szI_mono (b := sgn c (Lb.val m)) ?_) (by omega)
    rw [Int.natAbs_natCast, sgn_natAbs]
    have := Nat.gcd_dvd_right (sgn b (Lb.val l)).natAbs (sgn c (Lb.val m)).natAbs
    rw [sgn_natAbs c] at this
    exact Nat.le_of_dvd (by omega) (by simpa [Int.gcd, sgn_natAbs] using this)
  have o1 := szI_one
  have e1 : decide (((Int.gcd (sgn b (Lb.val l)) (sgn c (Lb.val m)) : Nat) : Int) = 1) = decide (Int.gcd (sgn b (Lb.val l)) (sgn c (Lb.val m)) = 1) := by rw [decide_eq_decide]; omega
  rw [e1]
  unfold validR
  refine ⟨by omega, fun _ => by omega, fun _ => trivial, fun h => ?_, fun h => ?_⟩
  · cases h1 : validL b l with
    | false => rfl
    | true =>
      cases h2 : validL c m with
      | false => rfl
      | true =>
        cases h3 : (!c && decide (0 < m.length)) with
        | false => rfl
        | true => rw [h1, h2, h3] at h; cases h
  · cases h1 : validL b l with
    | false => rw [h1] at h; cases h
    | true =>
      cases h2 : validL c m with
      | false => rw [h1, h2] at h; cases h
      | true =>
        cases h3 : (!c && decide (0 < m.length)) with
        | false => rw [h1, h2, h3] at h; cases h
        | true => exact ⟨⟨⟨rfl, rfl⟩, by omega, by omega⟩, trivial, ⟨hgs h1 h2 h3, by omega⟩, rfl⟩
theorem cWvalidR_ok : CtrOK Tryz.prog cWvalidR := .of (by kernel_rfl) (fun bs w xs vs pre r hr hA hG h hp => by
  simp only [cWvalidR] at h
  split at h
  · cases h
    exact ctr_calls mixed LT_ok WT1_ok Tryz.func34 (by kernel_rfl) hr hA hG rfl rfl (cWvalidR_owes _ _ _ _ hp)
  · cases h) (fun xs α pre φ r => by simp only [cWvalidR]; split <;> (intro h; cases h))
def WT2 : List Ctr := [cWvalidR] ++ WT1
theorem WT2_ok : ∀ c ∈ WT2, CtrOK Tryz.prog c := ok_app (by
  intro c hc
  simp only [List.mem_cons, List.not_mem_nil, or_false] at hc
  subst hc
  exact cWvalidR_ok) WT1_ok
def cWsmall : Ctr := ⟨17, fun | [.g [.v (.bool (b)), .sl (l), .v (.bool (c)), .sl (m)], .c (.v (.int .i64 (n)))] => .yes (n = 2) (.k (.c (.v (.bool (bif bif decide ((l.length : Int) ≤ n) then decide ((m.length : Int) ≤ n) else false then validR b l c m else false))))) | _ => .no⟩
theorem cWsmall_owes (b : Bool) (l : List Nat) (c : Bool) (m : List Nat) (n : Int) (hp : n = 2) : owes LT WT2 [] Tryz.f17 (Tryz.f17.body.getD .skip) [.g [.v (.bool (b)), .sl (l), .v (.bool (c)), .sl (m)], .c (.v (.int .i64 (n)))] (.k (.c (.v (.bool (bif bif decide ((l.length : Int) ≤ n) then decide ((m.length : Int) ≤ n) else false then validR b l c m else false))))) := by
  refine Eq.mp (show ((((bif (decide ((((l).length : Int)) ≤ (n))) then (decide ((((m).length : Int)) ≤ (n))) else (false)) == true) = true → ((l).length ≤ 2 ∧ (m).length ≤ 2)) ∧ (Value.bool (bif (bif (decide ((((l).length : Int)) ≤ (n))) then (decide ((((m).length : Int)) ≤ (n))) else (false)) then (validR (b) (l) (c) (m)) else (false)) = (.bool (bif bif decide ((l.length : Int) ≤ n) then decide ((m.length : Int) ≤ n) else false then validR b l c m else false)))) = owes LT WT2 [] Tryz.f17 (Tryz.f17.body.getD .skip) [.g [.v (.bool (b)), .sl (l), .v (.bool (c)), .sl (m)], .c (.v (.int .i64 (n)))] (.k (.c (.v (.bool (bif bif decide ((l.length : Int) ≤ n) then decide ((m.length : Int) ≤ n) else false then validR b l c m else false))))) by kernel_rfl) ?_
  subst hp
  refine ⟨fun h => ?_, rfl⟩
  cases h1 : decide ((l.length : Int) ≤ 2) with
  | false => rw [h1] at h; cases h
  | true =>
    cases h2 : decide ((m.length : Int) ≤ 2) with
    | false => rw [h1, h2] at h; cases h
    | true =>
      have := of_decide_eq_true h1
      have := of_decide_eq_true h2
      exact ⟨by omega, by omega⟩
theorem cWsmall_ok : CtrOK Tryz.prog cWsmall := .of (by kernel_rfl) (fun bs w xs vs pre r hr hA hG h hp => by
  simp only [cWsmall] at h
  split at h
  · cases h
    exact ctr_calls mixed LT_ok WT2_ok Tryz.func17 (by kernel_rfl) hr hA hG rfl rfl (cWsmall_owes _ _ _ _ _ hp)
  · cases h) (fun xs α pre φ r => by simp only [cWsmall]; split <;> (intro h; cases h))
def WT3 : List Ctr := [cWsmall] ++ WT2
theorem WT3_ok : ∀ c ∈ WT3, CtrOK Tryz.prog c := ok_app (by
  intro c hc
  simp only [List.mem_cons, List.not_mem_nil, or_false] at hc
  subst hc
  exact cWsmall_ok) WT2_ok
def smallR (b : Bool) (l : List Nat) (c : Bool) (m : List Nat) : Bool := bif bif decide ((l.length : Int) ≤ 2) then decide ((m.length : Int) ≤ 2) else false then validR b l c m else false
def cWsmall31 : Ctr := ⟨7, fun | [.g [.v (.bool (b)), .sl (l), .v (.bool (c)), .sl (m), .v (.bool (b1)), .sl (l1), .v (.bool (c1)), .sl (m1)]] => .yes (True) (.k (.c (.v (.bool (bif smallR b l c m then smallR b1 l1 c1 m1 else false))))) | _ => .no⟩
theorem cWsmall31_owes (b : Bool) (l : List Nat) (c : Bool) (m : List Nat) (b1 : Bool) (l1 : List Nat) (c1 : Bool) (m1 : List Nat) : owes LT WT3 [] Tryz.f7 (Tryz.f7.body.getD .skip) [.g [.v (.bool (b)), .sl (l), .v (.bool (c)), .sl (m), .v (.bool (b1)), .sl (l1), .v (.bool (c1)), .sl (m1)]] (.k (.c (.v (.bool (bif smallR b l c m then smallR b1 l1 c1 m1 else false))))) := by
  refine Eq.mp (show (((2 : Int) = 2) ∧ ((((bif bif decide (((l).length : Int) ≤ ((2 : Int))) then decide (((m).length : Int) ≤ ((2 : Int))) else false then validR (b) (l) (c) (m) else false) == true) = true → ((2 : Int) = 2)) ∧ (Value.bool (bif (bif bif decide (((l).length : Int) ≤ ((2 : Int))) then decide (((m).length : Int) ≤ ((2 : Int))) else false then validR (b) (l) (c) (m) else false) then (bif bif decide (((l1).length : Int) ≤ ((2 : Int))) then decide (((m1).length : Int) ≤ ((2 : Int))) else false then validR (b1) (l1) (c1) (m1) else false) else (false)) = (.bool (bif smallR b l c m then smallR b1 l1 c1 m1 else false))))) = owes LT WT3 [] Tryz.f7 (Tryz.f7.body.getD .skip) [.g [.v (.bool (b)), .sl (l), .v (.bool (c)), .sl (m), .v (.bool (b1)), .sl (l1), .v (.bool (c1)), .sl (m1)]] (.k (.c (.v (.bool (bif smallR b l c m then smallR b1 l1 c1 m1 else false))))) by kernel_rfl) ?_
  exact ⟨rfl, fun _ => rfl, rfl⟩
theorem cWsmall31_ok : CtrOK Tryz.prog cWsmall31 := .of (by kernel_rfl) (fun bs w xs vs pre r hr hA hG h hp => by
  simp only [cWsmall31] at h
  split at h
  · cases h
    exact ctr_calls mixed LT_ok WT3_ok Tryz.func7 (by kernel_rfl) hr hA hG rfl rfl (cWsmall31_owes _ _ _ _ _ _ _ _)
  · cases h) (fun xs α pre φ r => by simp only [cWsmall31]; split <;> (intro h; cases h))
/-- The coordinates are those of a grid. -/
def inG (p : Int × Int) : Bool := decide (p.1 ≤ 10000000) && (decide (-10000000 ≤ p.1) && (decide (p.2 ≤ 10000000) && decide (-10000000 ≤ p.2)))
theorem inG_eq (p : Int × Int) : (bif bif bif decide (p.1 > 10000000) then true else decide (p.1 < -10000000) then true else decide (p.2 > 10000000) then true else decide (p.2 < -10000000)) = !inG p := by
  unfold inG
  by_cases h1 : p.1 > 10000000
  · have e : decide (p.1 ≤ 10000000) = false := by simp; omega
    simp [h1, e]
  by_cases h2 : p.1 < -10000000
  · have e : decide (-10000000 ≤ p.1) = false := by simp; omega
    simp [h1, h2, e]
  by_cases h3 : p.2 > 10000000
  · have e : decide (p.2 ≤ 10000000) = false := by simp; omega
    simp [h1, h2, h3, e]
  by_cases h4 : p.2 < -10000000
  · have e : decide (-10000000 ≤ p.2) = false := by simp; omega
    simp [h1, h2, h3, h4, e]
  have e1 : decide (p.1 ≤ 10000000) = true := by simp; omega
  have e2 : decide (-10000000 ≤ p.1) = true := by simp; omega
  have e3 : decide (p.2 ≤ 10000000) = true := by simp; omega
  have e4 : decide (-10000000 ≤ p.2) = true := by simp; omega
  simp [h1, h2, h3, h4, e1, e2, e3, e4]
def fewB (l : List (Int × Int)) (n : Int) : Bool := decide ((l.length : Int) ≤ n) && l.all inG
def cWfew : Ctr := ⟨10, fun | [.c (.pt (l)), .c (.v (.int .i64 (n)))] => .yes (n ≤ 1000000) (.k (.c (.v (.bool (fewB l n))))) | _ => .no⟩
theorem cWfew_owes (l : List (Int × Int)) (n : Int) (hp : n ≤ 1000000) : owes LT WT3 [.inv 4 (Nat) (fun ξ => ⟨[.k (.c (.pt (l))), .u, .u, .u, .u, .k (.c (.v (.int .i64 ((ξ : Int))))), .u, .u, .u, .u, .u, .u, .u, .u, .u, .u, .u, .u, .u, .u, .u, .u, .u, .u, .u, .u, .u, .u, .u, .u, .u, .u, .u, .u, .u, .u, .u, .u, .u, .u, .u, .u, .u, .u, .u, .u], []⟩) (fun _ ξ => (ξ ≤ l.length ∧ ∀ i, i < ξ → inG (l.getD i (0, 0)) = true)) (fun ξ => l.length - ξ)] Tryz.f10 (Tryz.f10.body.getD .skip) [.c (.pt (l)), .c (.v (.int .i64 (n)))] (.k (.c (.v (.bool (fewB l n))))) := by
  refine Eq.mp (show (((decide ((((l).length : Int)) > (n))) = true → (Value.bool (false) = (.bool (fewB l n)))) ∧ ((decide ((((l).length : Int)) > (n))) = false → ((∃ x1 : Nat, (((x1 ≤ l.length ∧ ∀ i, i < x1 → inG (l.getD i (0, 0)) = true)) ∧ (((l = l) ∧ ((Value.int .i64 ((0 : Int)) = (.int .i64 ((x1 : Int)))) ∧ (True))) ∧ (True)))) ∧ (∀ x1 : Nat, ((x1 ≤ l.length ∧ ∀ i, i < x1 → inG (l.getD i (0, 0)) = true) → (((decide (((x1 : Int)) < (((l).length : Int)))) = true → ((0 ≤ (x1 : Int) ∧ (x1 : Int) < ((l).length : Int)) ∧ ((((decide ((((l).getD ((x1 : Int)).toNat (0, 0)).1) > ((10000000 : Int)))) == false) = true → (0 ≤ (x1 : Int) ∧ (x1 : Int) < ((l).length : Int))) ∧ ((((bif (decide ((((l).getD ((x1 : Int)).toNat (0, 0)).1) > ((10000000 : Int)))) then (true) else (decide ((((l).getD ((x1 : Int)).toNat (0, 0)).1) < ((-10000000 : Int))))) == false) = true → (0 ≤ (x1 : Int) ∧ (x1 : Int) < ((l).length : Int))) ∧ ((((bif (bif (decide ((((l).getD ((x1 : Int)).toNat (0, 0)).1) > ((10000000 : Int)))) then (true) else (decide ((((l).getD ((x1 : Int)).toNat (0, 0)).1) < ((-10000000 : Int))))) then (true) else (decide ((((l).getD ((x1 : Int)).toNat (0, 0)).2) > ((10000000 : Int))))) == false) = true → (0 ≤ (x1 : Int) ∧ (x1 : Int) < ((l).length : Int))) ∧ (((bif (bif (bif (decide ((((l).getD ((x1 : Int)).toNat (0, 0)).1) > ((10000000 : Int)))) then (true) else (decide ((((l).getD ((x1 : Int)).toNat (0, 0)).1) < ((-10000000 : Int))))) then (true) else (decide ((((l).getD ((x1 : Int)).toNat (0, 0)).2) > ((10000000 : Int))))) then (true) else (decide ((((l).getD ((x1 : Int)).toNat (0, 0)).2) < ((-10000000 : Int))))) = true → (Value.bool (false) = (.bool (fewB l n)))) ∧ ((bif (bif (bif (decide ((((l).getD ((x1 : Int)).toNat (0, 0)).1) > ((10000000 : Int)))) then (true) else (decide ((((l).getD ((x1 : Int)).toNat (0, 0)).1) < ((-10000000 : Int))))) then (true) else (decide ((((l).getD ((x1 : Int)).toNat (0, 0)).2) > ((10000000 : Int))))) then (true) else (decide ((((l).getD ((x1 : Int)).toNat (0, 0)).2) < ((-10000000 : Int))))) = false → ((inR .i64 (((x1 : Int)) + ((1 : Int)))) ∧ (∃ y1 : Nat, (((y1 ≤ l.length ∧ ∀ i, i < y1 → inG (l.getD i (0, 0)) = true)) ∧ ((l.length - y1 < l.length - x1) ∧ (((l = l) ∧ ((Value.int .i64 (((x1 : Int)) + ((1 : Int))) = (.int .i64 ((y1 : Int)))) ∧ (True))) ∧ (True))))))))))))) ∧ ((decide (((x1 : Int)) < (((l).length : Int)))) = false → (Value.bool (true) = (.bool (fewB l n)))))))))) = owes LT WT3 [.inv 4 (Nat) (fun ξ => ⟨[.k (.c (.pt (l))), .u, .u, .u, .u, .k (.c (.v (.int .i64 ((ξ : Int))))), .u, .u, .u, .u, .u, .u, .u, .u, .u, .u, .u, .u, .u, .u, .u, .u, .u, .u, .u, .u, .u, .u, .u, .u, .u, .u, .u, .u, .u, .u, .u, .u, .u, .u, .u, .u, .u, .u, .u, .u], []⟩) (fun _ ξ => (ξ ≤ l.length ∧ ∀ i, i < ξ → inG (l.getD i (0, 0)) = true)) (fun ξ => l.length - ξ)] Tryz.f10 (Tryz.f10.body.getD .skip) [.c (.pt (l)), .c (.v (.int .i64 (n)))] (.k (.c (.v (.bool (fewB l n))))) by kernel_rfl) ?_
  refine ⟨fun h => ?_, fun h => ⟨⟨0, ⟨Nat.zero_le _, fun i hi => absurd hi (by omega)⟩, by simp, trivial⟩, ?_⟩⟩
  · have : ¬ (l.length : Int) ≤ n := by have := of_decide_eq_true h; omega
    simp [fewB, this]
  have hn : (l.length : Int) ≤ n := by have := of_decide_eq_false h; omega
  rintro k ⟨hk, hall⟩
  refine ⟨fun h => ?_, fun h => ?_⟩
  · have hkl : k < l.length := by simpa using h
    simp only [Int.toNat_natCast, inG_eq]
    have ea : l.getD k (0, 0) = l[k] := by simp [List.getD_eq_getElem?_getD, hkl]
    refine ⟨⟨by omega, by omega⟩, fun _ => ⟨by omega, by omega⟩, fun _ => ⟨by omega, by omega⟩, fun _ => ⟨by omega, by omega⟩, fun c => ?_, fun c => ⟨by simp only [inR]; omega, k + 1, ⟨hkl, fun i hi => ?_⟩, by omega, by simp, trivial⟩⟩
    · have hx : inG l[k] = false := by rw [ea] at c; simpa using c
      have hA : l.all inG = false := by
        rw [List.all_eq_false]
        exact ⟨l[k], List.getElem_mem hkl, by rw [hx]; simp⟩
      simp [fewB, hA]
    · rcases Nat.lt_or_ge i k with h' | h'
      · exact hall i h'
      · obtain rfl : i = k := by omega
        simpa using c
  · have hkl : k = l.length := by
      have := of_decide_eq_false h
      omega
    subst hkl
    have hA : l.all inG = true := by
      rw [List.all_eq_true]
      intro x hx
      obtain ⟨i, hi, rfl⟩ := List.mem_iff_getElem.1 hx
      have := hall i hi
      have ea : l.getD i (0, 0) = l[i] := by simp [List.getD_eq_getElem?_getD, hi]
      rwa [ea] at this
    simp [fewB, hA, hn]
theorem cWfew_ok : CtrOK Tryz.prog cWfew := .of (by kernel_rfl) (fun bs w xs vs pre r hr hA hG h hp => by
  simp only [cWfew] at h
  split at h
  · cases h
    exact ctr_calls mixed LT_ok WT3_ok Tryz.func10 (by kernel_rfl) hr hA hG rfl rfl (cWfew_owes _ _ hp)
  · cases h) (fun xs α pre φ r => by simp only [cWfew]; split <;> (intro h; cases h))
end Vc
end Go.Proofs.YtlkhkldgmlfhkaaGreat

namespace Go.Proofs.YtlkhkldgmlfhkaaGreat
open Go.RowKit
namespace Vc
def cKnext : Ctr := ⟨29, fun | [.c (.pt (l)), .c (.v (.int .i64 (k)))] => .yes ((0 ≤ k ∧ k < (l.length : Int)) ∧ l.length ≤ 1000000000) (.k (.g [.v (.int .i64 ((l.getD (Rt.nxt l k.toNat) (0, 0)).1)), .v (.int .i64 ((l.getD (Rt.nxt l k.toNat) (0, 0)).2))])) | _ => .no⟩
theorem cKnext_owes (l : List (Int × Int)) (k : Int) (hp : (0 ≤ k ∧ k < (l.length : Int)) ∧ l.length ≤ 1000000000) : owes LT WT3 [] Tryz.f29 (Tryz.f29.body.getD .skip) [.c (.pt (l)), .c (.v (.int .i64 (k)))] (.k (.g [.v (.int .i64 ((l.getD (Rt.nxt l k.toNat) (0, 0)).1)), .v (.int .i64 ((l.getD (Rt.nxt l k.toNat) (0, 0)).2))])) := by
  refine Eq.mp (show ((inR .i64 ((k) + ((1 : Int)))) ∧ ((0 ≤ (k) + ((1 : Int)) ∧ 0 < ((l).length : Int)) ∧ ((0 ≤ ((k) + ((1 : Int))) % (((l).length : Int)) ∧ ((k) + ((1 : Int))) % (((l).length : Int)) < ((l).length : Int)) ∧ ((Value.int .i64 (((l).getD (((k) + ((1 : Int))) % (((l).length : Int))).toNat (0, 0)).1) = (.int .i64 ((l.getD (Rt.nxt l k.toNat) (0, 0)).1))) ∧ ((Value.int .i64 (((l).getD (((k) + ((1 : Int))) % (((l).length : Int))).toNat (0, 0)).2) = (.int .i64 ((l.getD (Rt.nxt l k.toNat) (0, 0)).2))) ∧ (True)))))) = owes LT WT3 [] Tryz.f29 (Tryz.f29.body.getD .skip) [.c (.pt (l)), .c (.v (.int .i64 (k)))] (.k (.g [.v (.int .i64 ((l.getD (Rt.nxt l k.toNat) (0, 0)).1)), .v (.int .i64 ((l.getD (Rt.nxt l k.toNat) (0, 0)).2))])) by kernel_rfl) ?_
  obtain ⟨⟨h0, h1⟩, h2⟩ := hp
  obtain ⟨n, rfl⟩ : ∃ n : Nat, k = n := ⟨k.toNat, by omega⟩
  have h3 : 0 < (l.length : Int) := by omega
  have h4 := Int.emod_nonneg ((n : Int) + 1) (show (l.length : Int) ≠ 0 by omega)
  have h5 := Int.emod_lt_of_pos ((n : Int) + 1) h3
  rw [nxt_int, Int.toNat_natCast]
  exact ⟨by simp only [inR]; omega, ⟨by omega, h3⟩, ⟨h4, h5⟩, rfl, rfl, trivial⟩
theorem cKnext_ok : CtrOK Tryz.prog cKnext := .of (by kernel_rfl) (fun bs w xs vs pre r hr hA hG h hp => by
  simp only [cKnext] at h
  split at h
  · cases h
    exact ctr_calls mixed LT_ok WT3_ok Tryz.func29 (by kernel_rfl) hr hA hG rfl rfl (cKnext_owes _ _ hp)
  · cases h) (fun xs α pre φ r => by simp only [cKnext]; split <;> (intro h; cases h))
def WT4 : List Ctr := WT3 ++ [cKnext]
theorem WT4_ok : ∀ c ∈ WT4, CtrOK Tryz.prog c := ok_app WT3_ok (by
  intro c hc
  simp only [List.mem_cons, List.not_mem_nil, or_false] at hc
  rcases hc with rfl
  · exact cKnext_ok)
theorem inG_spec {p : Int × Int} (h : inG p = true) : (-10000000 ≤ p.1 ∧ p.1 ≤ 10000000) ∧ -10000000 ≤ p.2 ∧ p.2 ≤ 10000000 := by
  simp only [inG, Bool.and_eq_true, decide_eq_true_eq] at h
  omega
theorem mul_bound {a b : Int} (h1 : -10000000 ≤ a ∧ a ≤ 10000000) (h2 : -10000000 ≤ b ∧ b ≤ 10000000) : -100000000000000 ≤ a * b ∧ a * b ≤ 100000000000000 := by
  have : (a * b).natAbs ≤ 10000000 * 10000000 := by
    rw [Int.natAbs_mul]
    exact Nat.mul_le_mul (by omega) (by omega)
  omega
theorem area_bound {l : List (Int × Int)} (hg : ∀ i, inG (l.getD i (0, 0)) = true) : ∀ k : Nat, -(200000000000000 * (k : Int)) ≤ Rt.areaK l k ∧ Rt.areaK l k ≤ 200000000000000 * (k : Int)
  | 0 => by unfold Rt.areaK Rt.sumN; omega
  | k + 1 => by
    have ih := area_bound hg k
    obtain ⟨a1, a2⟩ := inG_spec (hg k)
    obtain ⟨b1, b2⟩ := inG_spec (hg (Rt.nxt l k))
    have m1 := mul_bound a1 b2
    have m2 := mul_bound a2 b1
    unfold Rt.areaK at ih ⊢
    unfold Rt.sumN
    generalize (l.getD k (0, 0)).1 * (l.getD (Rt.nxt l k) (0, 0)).2 = u at *
    generalize (l.getD k (0, 0)).2 * (l.getD (Rt.nxt l k) (0, 0)).1 = v at *
    omega
theorem szR_big {n : Int} (h : n.natAbs < 1000000000000000000000000000) : szR (n : Rat) ≤ 3 := by
  have h1 : szI ((n : Rat).num) ≤ 3 := szI_le (by
    have : Lb.B ^ 3 = 1000000000000000000000000000 := rfl
    simpa [this] using h)
  have h2 : szI (((n : Rat).den : Nat) : Int) ≤ 1 := szI_le (by simp [Lb.B])
  unfold szR
  omega
theorem sg_int (n : Int) : Rt.sg (n : Rat) = n.sign := by simp [Rt.sg]
end Vc
end Go.Proofs.YtlkhkldgmlfhkaaGreat

namespace Go.Proofs.YtlkhkldgmlfhkaaGreat
open Go.RowKit Rt
set_option maxRecDepth 8000

theorem wfew (p : Value) (l : List (Int × Int)) (n : Int) (w : World) (hp : SlT w p l) (h : n ≤ 1000000) :
    Calls Tryz.prog 10 #[p, .int .i64 n] w fun e w' => e = .returned (.bool (Vc.fewB l n)) ∧ Ext w w' := by
  refine (Vc.cWfew_ok.yes ⟨w.heap.size, [], [], []⟩ w [.c (.pt l), .c (.v (.int .i64 n))] [p, .int .i64 n] _ _ ⟨slP_of hp, ⟨rfl, rfl⟩, trivial⟩ rfl rfl rfl h).mono ?_
  rintro e w' ⟨v', rfl, hx, rfl, _⟩
  exact ⟨rfl, hx⟩
/-- A vector as it comes in: signs and limbs. -/
structure Raw where
  b : Bool
  l : List Nat
  c : Bool
  m : List Nat
  b1 : Bool
  l1 : List Nat
  c1 : Bool
  m1 : List Nat
def Raw.ac (r : Raw) : List Vc.AC := [.v (.bool r.b), .sl r.l, .v (.bool r.c), .sl r.m, .v (.bool r.b1), .sl r.l1, .v (.bool r.c1), .sl r.m1]
def Raw.small (r : Raw) : Bool := bif Vc.smallR r.b r.l r.c r.m then Vc.smallR r.b1 r.l1 r.c1 r.m1 else false
def IsRaw (w : World) (r : Raw) (v : Value) : Prop := Vc.relK B0 w (.g r.ac) v
theorem IsRaw.later {w w' : World} {r : Raw} {v : Value} (h : IsRaw w r v) (he : Ext w w') : IsRaw w' r v := (Vc.Keep.ext he).relK h
theorem wsmall (v : Value) (r : Raw) (w : World) (h : IsRaw w r v) :
    Calls Tryz.prog 7 #[v] w fun e w' => e = .returned (.bool r.small) ∧ Ext w w' := by
  refine (Vc.cWsmall31_ok.yes B0 w [.g r.ac] [v] _ _ ⟨h, trivial⟩ rfl rfl rfl trivial).mono ?_
  rintro e w' ⟨v', rfl, hx, rfl, _⟩
  exact ⟨rfl, hx⟩
theorem raw_R {b : Bool} {l : List Nat} {c : Bool} {m : List Nat} (h : Vc.validR b l c m = true) : ∃ q : Rat, Vc.AC.flat (.R q) = [.v (.bool b), .sl l, .v (.bool c), .sl m] := by
  unfold Vc.validR at h
  simp only [Bool.and_eq_true, Bool.not_eq_true', decide_eq_true_eq] at h
  obtain ⟨h1, h2, ⟨h3, h4⟩, h5⟩ := h
  obtain ⟨n1, s1, e1⟩ := Vc.validL_spec h1
  obtain ⟨n2, s2, e2⟩ := Vc.validL_spec h2
  subst h3
  have hs : sgn false (Lb.val m) = (Lb.val m : Int) := rfl
  rw [hs] at h5 s2 e2
  have hv : Lb.val m ≠ 0 := fun e => by
    rw [Lb.norm_zero n2 e] at h4
    simp at h4
  refine ⟨⟨sgn b (Lb.val l), Lb.val m, hv, by simpa [Int.gcd] using h5⟩, ?_⟩
  simp only [Vc.AC.flat]
  rw [← s1, ← e1, ← s2, ← e2]
theorem smallR_spec {b : Bool} {l : List Nat} {c : Bool} {m : List Nat} (h : Vc.smallR b l c m = true) : ∃ q : Rat, Vc.AC.flat (.R q) = [.v (.bool b), .sl l, .v (.bool c), .sl m] ∧ Vc.szR q ≤ 2 := by
  unfold Vc.smallR at h
  have k1 : decide ((l.length : Int) ≤ 2) = true := by
    cases e : decide ((l.length : Int) ≤ 2) with
    | true => rfl
    | false => rw [e] at h; cases h
  have k2 : decide ((m.length : Int) ≤ 2) = true := by
    cases e : decide ((m.length : Int) ≤ 2) with
    | true => rfl
    | false => rw [k1, e] at h; cases h
  rw [k1, k2] at h
  obtain ⟨q, hq⟩ := raw_R h
  refine ⟨q, hq, ?_⟩
  simp only [Vc.AC.flat, List.cons.injEq, Vc.AC.v.injEq, Vc.AC.sl.injEq, Value.bool.injEq, and_true] at hq
  obtain ⟨_, q2, _, q4⟩ := hq
  have := of_decide_eq_true k1
  have := of_decide_eq_true k2
  unfold Vc.szR szI
  rw [q2, q4]
  omega
theorem IsRaw.vec {w : World} {r : Raw} {v : Value} (h : IsRaw w r v) (hs : r.small = true) : ∃ x y : Rat, IsV w x y v ∧ Vc.szR x ≤ 2 ∧ Vc.szR y ≤ 2 := by
  unfold Raw.small at hs
  have h1 : Vc.smallR r.b r.l r.c r.m = true := by
    cases e : Vc.smallR r.b r.l r.c r.m with
    | true => rfl
    | false => rw [e] at hs; cases hs
  rw [h1] at hs
  obtain ⟨x, hx, sx⟩ := smallR_spec h1
  obtain ⟨y, hy, sy⟩ := smallR_spec (b := r.b1) (l := r.l1) (c := r.c1) (m := r.m1) hs
  refine ⟨x, y, ?_, sx, sy⟩
  obtain ⟨us, rfl, k⟩ := h
  refine ⟨us, rfl, ?_⟩
  simp only [Vc.flats]
  rw [hx, hy]
  exact k

theorem OwnG.weak {α : Type} {f : α → List Value} {k B B' : Nat} {T : TypeId} {w : World} {v : Value} {l : List α} (h : OwnG B' T k f w v l) (hb : B ≤ B') : OwnG B T k f w v l := by
  obtain ⟨h1, h2⟩ := h
  refine ⟨h1, ?_⟩
  rcases h2 with h2 | ⟨g, cap, cur, h3, h4, h5⟩
  · exact .inl h2
  · exact .inr ⟨g, cap, cur, h3, Nat.le_trans hb h4, h5⟩

def Gd (x y : Int) : Value := .agg #[.int .i64 x, .int .i64 y]
theorem Tryz.neq_g2 (x y : Int) (w : World) : (binOp .neq 35 (Gd x y) (Gd x y)).run Tryz.prog w = .ok (.bool false) w := by simp [go_sem, Gd]

end Go.Proofs.YtlkhkldgmlfhkaaGreat

namespace Go.Proofs.YtlkhkldgmlfhkaaGreat
open Go.RowKit

section
variable {P : Program} {Q : Exit → Act → World → Prop} {l : List Oper} {w0 : World} {a0 : Act} {R : Nat → Value → World → Prop}

theorem yielded_of {tmps : Array Value} {g d : Nat} {og : Oper} {b : Bool} (h1 : l[g]? = some og) (h2 : og.dst = some d) (h3 : tmps.getD d undef = .bool b) : yielded l.toArray tmps g = some b := by
  have h4 : tmps[d]? = some (.bool b) := by
    rw [Array.getD_eq_getD_getElem?] at h3
    cases h : tmps[d]? with
    | none => rw [h] at h3; simp [undef] at h3
    | some x => rw [h] at h3; simpa using h3
  unfold yielded
  simp [h1, h2, h4]
def edgeB (o : Oper) (g : Nat) : Bool := o.after.any fun e => Region.binds .any e && e.on == g
/-- What is to be shown of an operation that comes up. -/
def FlowDo (P : Program) (l : List Oper) (w0 : World) (a0 : Act) (R : Nat → Value → World → Prop) (i : Nat) (o : Oper) : Prop :=
  ∀ (ρ : Operand → Value) (vals : Nat → Value) (w : World), (∀ j o' d, l[j]? = some o' → o'.dst = some d → ρ (.tmp d) = vals j) → (∀ x, (∀ o' ∈ l, ∀ d, o'.dst = some d → x ≠ .tmp d) → ρ x = a0.eval x) → Ext w0 w →
    (∀ e ∈ o.after, Region.binds .any e = true → R e.on (vals e.on) w) →
    (∃ v w', (execOp ρ o).run P w = .ok (.value v) w' ∧ Ext w w' ∧ R i v w') ∨
    (∃ f args, (execOp ρ o).run P w = .ok (.enter f args) w ∧ Calls P f args w fun e w' => ∃ v, e = .returned v ∧ Ext w w' ∧ R i v w')
/-- With a guard: it is known what the guard's operation yields. -/
def FlowG (P : Program) (l : List Oper) (w0 : World) (a0 : Act) (R : Nat → Value → World → Prop) (i : Nat) (o : Oper) : Prop :=
  (o.guard = none ∧ FlowDo P l w0 a0 R i o) ∨
  (∃ g b pol og d, o.guard = some (g, pol) ∧ l[g]? = some og ∧ og.dst = some d ∧ edgeB o g = true ∧ (∀ v w, R g v w → v = .bool b) ∧ ((b = pol ∧ FlowDo P l w0 a0 R i o) ∨ (b ≠ pol ∧ ∀ v w, R i v w)))
theorem flowStep_g {i : Nat} {o : Oper} (hA : apartB l = true) (hI : insideB l a0.tmps.size = true) (ho : l[i]? = some o) (h : FlowG P l w0 a0 R i o) : FlowStep P Q l w0 a0 R i o := by
  intro vals w he hd
  have hol : l.toArray[i]? = some o := by simpa using ho
  have hrun : FlowDo P l w0 a0 R i o → Region.wanted o (yielded l.toArray (putAll l vals 0 a0).tmps) = true → wpOp P l.toArray Q i (fun a' w' => ∃ v, a' = (putAll l vals 0 a0).put o.dst v ∧ Ext w w' ∧ R i v w') (putAll l vals 0 a0) w := fun h hw => by
    unfold wpOp
    simp only [hol]
    rw [if_pos hw]
    refine .inl ?_
    have key := h (putAll l vals 0 a0).eval vals w (fun j o' d hj hd' => by rw [putAll_eval_in l vals 0 j a0 o' d hA hI hj hd', Nat.zero_add]) (fun x hx => putAll_eval_out l vals 0 a0 x hx) he hd
    unfold Oper.wp
    rcases key with ⟨v, w', h1, h2, h3⟩ | ⟨f, args, h1, h2⟩
    · rw [h1]
      exact ⟨v, rfl, h2, h3⟩
    · rw [h1]
      refine h2.mono ?_
      rintro e w' ⟨v, rfl, h3, h4⟩
      exact ⟨v, rfl, h3, h4⟩
  rcases h with ⟨hg, h⟩ | ⟨g, b, pol, og, d, hg, hog, hdd, hed, hb, h⟩
  · exact hrun h (by unfold Region.wanted; rw [hg])
  · have hRg : R g (vals g) w := by
      unfold edgeB at hed
      rw [Array.any_eq_true'] at hed
      obtain ⟨e, hem, hee⟩ := hed
      simp only [Bool.and_eq_true, beq_iff_eq] at hee
      have := hd e hem hee.1
      rw [hee.2] at this
      exact this
    have hv := hb _ _ hRg
    have hy : yielded l.toArray (putAll l vals 0 a0).tmps g = some b := yielded_of hog hdd (by
      have := putAll_eval_in l vals 0 g a0 og d hA hI hog hdd
      rw [Nat.zero_add, hv] at this
      exact this)
    have hw : Region.wanted o (yielded l.toArray (putAll l vals 0 a0).tmps) = (b == pol) := by
      unfold Region.wanted
      rw [hg]
      simp only
      rw [hy]
      cases b <;> cases pol <;> rfl
    rcases h with ⟨rfl, h⟩ | ⟨hne, h⟩
    · exact hrun h (by rw [hw]; cases b <;> rfl)
    · unfold wpOp
      simp only [hol]
      rw [if_neg (by rw [hw]; cases b <;> cases pol <;> simp at hne ⊢)]
      exact ⟨undef, rfl, Ext.refl w, h _ _⟩

/-- The rule. -/
theorem wp_region_flow_g {id : Nat} (n : Nat) (R : Nat → Value → World → Prop) (hm : P.follows .mixedOrders = true) (hA : apartB (l.take n) = true) (hL : lowB (l.take n) = true) (hT : tailB l.toArray n = true) (hI : insideB (l.take n) a0.tmps.size = true) (hR : ∀ i v w w', Ext w w' → R i v w → R i v w')
    (hS : FlowAll (FlowG P (l.take n) w0 a0 R) (l.take n) 0)
    (hQ : ∀ vals w, Ext w0 w → (∀ i, i < n → R i (vals i) w) → wpList P l.toArray Q (l.drop n) (putAll (l.take n) vals 0 a0) w) : (Code.region id l.toArray true).wp P Q a0 w0 := by
  have ok := tailOk_of hT
  have le := ok.le
  have htl : (l.take n).length = n := by simp; omega
  refine wp_region_any hm ?_
  obtain ⟨f, hf⟩ := putAll_start (l.take n) 0 a0
  have hq := flow_sound (P := P) (Q := tailPost P l n Q) (w0 := w0) (a0 := a0) hA hL hR (fun i o ho => by
      have := flowAll_get (l.take n) 0 hS i o ho
      rw [Nat.zero_add] at this
      exact flowStep_g hA hI ho this) (fun vals w h1 h2 => hQ vals w h1 (fun i hi => h2 i (by omega))) (l.take n).length (Array.replicate n false) f { w0 with drawn := w0.drawn + 1 } (by simp; omega)
    ⟨List.range n, by simp; omega, List.nodup_range, fun i hi => by
      have : i < n := by omega
      simp [this]⟩ (Ext.refl w0).drew (fun i hi h => by
      have : i < n := by omega
      simp [this] at h)
  rw [hf, htl] at hq
  have := wpAny_of_first (P := P) (Q := Q) ok n (List.range n) (Array.replicate l.toArray.size false) (Array.replicate n false) a0 w0.drew (by simp) List.nodup_range (by simp) (by simp) (fun i hi => ?_) (fun i hi => ?_) (fun i hi hi' => ?_) (fun i hi => by simpa using hi) hq
  · have hsz : n + (l.length - n) = l.toArray.size := by simp; omega
    rw [hsz] at this
    exact this
  · have h1 : i < l.length := by omega
    simp only [Array.getD, Array.size_replicate, List.size_toArray, h1, hi, dif_pos]
    simp
  · have h1 : i < l.length := by omega
    simp [h1, hi]
  · simp [hi']
end
end Go.Proofs.YtlkhkldgmlfhkaaGreat

namespace Go.Proofs.YtlkhkldgmlfhkaaGreat
open Go.RowKit Rt
set_option maxRecDepth 8000

theorem few_spec {l : List (Int × Int)} {n : Int} (h : Vc.fewB l n = true) : (l.length : Int) ≤ n ∧ ∀ i, Vc.inG (l.getD i (0, 0)) = true := by
  unfold Vc.fewB at h
  simp only [Bool.and_eq_true, decide_eq_true_eq, List.all_eq_true] at h
  refine ⟨h.1, fun i => ?_⟩
  rcases Nat.lt_or_ge i l.length with hi | hi
  · have e : l.getD i (0, 0) = l[i] := by simp [List.getD_eq_getElem?_getD, hi]
    rw [e]
    exact h.2 _ (List.getElem_mem hi)
  · have e : l.getD i (0, 0) = (0, 0) := by simp [List.getD_eq_getElem?_getD, hi]
    rw [e]
    rfl
theorem inG_rev {l : List (Int × Int)} (h : ∀ i, Vc.inG (l.getD i (0, 0)) = true) : ∀ i, Vc.inG ((revP l).getD i (0, 0)) = true := fun i => by
  rcases Nat.lt_or_ge i l.length with hi | hi
  · rw [revP_getD l hi]; exact h _
  · have e : (revP l).getD i (0, 0) = (0, 0) := by simp [List.getD_eq_getElem?_getD, revP_len, hi]
    rw [e]
    rfl
theorem inG_turn {l : List (Int × Int)} (h : ∀ i, Vc.inG (l.getD i (0, 0)) = true) (ccw : Bool) : ∀ i, Vc.inG ((turn l ccw).getD i (0, 0)) = true := by
  unfold turn
  split
  · exact inG_rev h
  · exact h
theorem okp_of {l : List (Int × Int)} (h : ∀ i, Vc.inG (l.getD i (0, 0)) = true) (hn : l.length ≤ 1000) : okp l :=
  ⟨fun k => by have := Vc.inG_spec (h k); omega, by omega⟩
theorem windE_turn (l : List (Int × Int)) (ccw : Bool) (v : V2) : windE (turn l ccw) v = windE l v := by
  unfold turn
  split
  · exact windE_rev l v
  · rfl
theorem windN_turn (l : List (Int × Int)) (ccw : Bool) (v : V2) : windN (turn l ccw) v = windN l v ∨ windN (turn l ccw) v = - windN l v := by
  unfold turn
  split
  · exact .inr (windN_rev l v)
  · exact .inl rfl
theorem covB_turn (l : List (Int × Int)) (ccw : Bool) (r : Int) (v : V2) : covB [turn l ccw] r v = covB [l] r v := by
  unfold turn
  split
  · exact covB_rev l r v
  · rfl
theorem windN_bound (l : List (Int × Int)) (v : V2) : -(l.length : Int) ≤ windN l v ∧ windN l v ≤ l.length := by
  unfold windN
  split
  · omega
  · cases h : wgo l v l.length with
    | none => simp <;> omega
    | some u => simpa using wgo_bound h
theorem slQ_one {w : World} {u : Value} {g : Nat} {l : List (Int × Int)} (hg : g < w.heap.size) (hc : w.cell? ⟨g, 0, none⟩ = some u) (h : SlT w u l) : Vc.SlQ w.heap.size w (.slice (some ⟨g, 0, none⟩) 1 1) [l] := by
  refine ⟨_, 1, g, 0, rfl, .inr rfl, fun h => (by cases h), Nat.le_refl _, fun i x hx => ?_⟩
  match i, hx with
  | 0, hx =>
    simp only [List.getElem?_cons_zero, Option.some.injEq] at hx
    subst hx
    exact ⟨hg, hg, _, hc, slP_of h⟩
theorem okp_one {l : List (Int × Int)} (h : okp l) (j : Nat) : okp ([l].getD j []) := by
  match j with
  | 0 => exact h
  | j + 1 => exact okp_small [] (by simp) (by simp)

theorem raw_form {w : World} {r : Raw} {v : Value} (h : IsRaw w r v) : ∃ p1 k1 q1 p2 k2 q2 p3 k3 q3 p4 k4 q4, v = .agg #[.bool r.b, .slice p1 k1 q1, .bool r.c, .slice p2 k2 q2, .bool r.b1, .slice p3 k3 q3, .bool r.c1, .slice p4 k4 q4] := by
  obtain ⟨us, rfl, k⟩ := h
  match us, k with
  | [u1, u2, u3, u4, u5, u6, u7, u8], k =>
    obtain ⟨⟨rfl, _⟩, ⟨k2, _⟩, ⟨rfl, _⟩, ⟨k4, _⟩, ⟨rfl, _⟩, ⟨k6, _⟩, ⟨rfl, _⟩, ⟨k8, _⟩, _⟩ := k
    obtain ⟨_, _, rfl⟩ := k2.form
    obtain ⟨_, _, rfl⟩ := k4.form
    obtain ⟨_, _, rfl⟩ := k6.form
    obtain ⟨_, _, rfl⟩ := k8.form
    exact ⟨_, _, _, _, _, _, _, _, _, _, _, _, rfl⟩
theorem cells8 {w : World} {b : Nat} {T : TypeId} {c0 c1 c2 c3 c4 c5 c6 c7 : Value} (h : w.heap[b]? = some (.cells #[c0, c1, c2, c3, c4, c5, c6, c7] T (0, 0))) :
    w.cell? ⟨b, 0, none⟩ = some c0 ∧ w.cell? ⟨b, 1, none⟩ = some c1 ∧ w.cell? ⟨b, 2, none⟩ = some c2 ∧ w.cell? ⟨b, 3, none⟩ = some c3 ∧ w.cell? ⟨b, 4, none⟩ = some c4 ∧ w.cell? ⟨b, 5, none⟩ = some c5 ∧ w.cell? ⟨b, 6, none⟩ = some c6 ∧ w.cell? ⟨b, 7, none⟩ = some c7 :=
  ⟨Lib.cell_of_heap h 0, Lib.cell_of_heap h 1, Lib.cell_of_heap h 2, Lib.cell_of_heap h 3, Lib.cell_of_heap h 4, Lib.cell_of_heap h 5, Lib.cell_of_heap h 6, Lib.cell_of_heap h 7⟩

theorem alloc_cell (w : World) (x : Value) (T : TypeId) : (w.alloc (.cells #[x] T)).cell? ⟨w.heap.size, 0, none⟩ = some x := by
  obtain ⟨W, rfl, hb, _⟩ := row_alloc w #[x] T
  exact Lib.cell_of_heap hb 0
theorem wrap_small (m : Int) (h : -8 ≤ m ∧ m ≤ 8) : IntKind.i64.wrap (-m) = -m := by
  have : m = -8 ∨ m = -7 ∨ m = -6 ∨ m = -5 ∨ m = -4 ∨ m = -3 ∨ m = -2 ∨ m = -1 ∨ m = 0 ∨ m = 1 ∨ m = 2 ∨ m = 3 ∨ m = 4 ∨ m = 5 ∨ m = 6 ∨ m = 7 ∨ m = 8 := by omega
  rcases this with rfl | rfl | rfl | rfl | rfl | rfl | rfl | rfl | rfl | rfl | rfl | rfl | rfl | rfl | rfl | rfl | rfl <;> rfl
end Go.Proofs.YtlkhkldgmlfhkaaGreat
