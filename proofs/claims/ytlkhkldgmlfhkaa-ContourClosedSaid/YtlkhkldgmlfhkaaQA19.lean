/-
  Paths and moves by hand: next, Reversed, Closed (both), slices.Clone.
  Paths and moves by hand: the two Closed.
  Paths and moves by hand: slices.Clone, slices.Equal.
  The law's chapter examples: wrappers of contracts for walks; closed values.
  The law's chapter examples: awake.
  ContourClosed: the law's walk.
-/
import Derived.Test.YtlkhkldgmlfhkaaQA18
namespace Go.Proofs.Ytlkhkldgmlfhkaa
open Go.RowKit Rt
set_option maxRecDepth 8000

/-- The cells of a position. -/
def gC (p : Int × Int) : List Value := [.int .i64 p.1, .int .i64 p.2]
theorem gC_len (p : Int × Int) : (gC p).length = 2 := rfl
theorem gC_one (p : Int × Int) : ∀ u ∈ gC p, u.oneCell' = true := by
  intro u hu
  simp only [gC, List.mem_cons, List.not_mem_nil, or_false] at hu
  rcases hu with rfl | rfl <;> rfl
abbrev SlT (w : World) (v : Value) (l : List (Int × Int)) : Prop := SlG 2 gC w v l
abbrev OwnT (B : Nat) (w : World) (v : Value) (l : List (Int × Int)) : Prop := OwnG B 29 2 gC w v l
theorem Try.info_g2 : (Try.prog.info? 29).map (fun i => (i.zero, i.size, i.bytes)) = some (some (.agg #[.int .i64 0, .int .i64 0]), 2, 16) := by kernel_rfl
/-- A path of the call's own is handed back. -/
def RetT (w : World) (l : List (Int × Int)) (e : Ending) (w' : World) : Prop := ∃ a n c, e = .returned (.slice a n c) ∧ OwnT w.heap.size w' (.slice a n c) l ∧ Ext w w'
theorem OwnG.form {α : Type} {f : α → List Value} {k B : Nat} {T : TypeId} {w : World} {v : Value} {l : List α} (h : OwnG B T k f w v l) : ∃ a c, v = .slice a l.length c := by
  obtain ⟨h1, h2⟩ := h
  rcases h2 with ⟨rfl, h3⟩ | ⟨g, cap, cur, rfl, _⟩
  · exact ⟨none, 0, by rw [h3]⟩
  · exact ⟨_, _, rfl⟩
/-- A position of a path, in any world that comes later. -/
theorem SlG.at {α : Type} {f : α → List Value} {k : Nat} {w : World} {a : Option Addr} {n c : Nat} {l : List α} (h : SlG k f w (.slice a n c) l) {i : Nat} {x : α} (hx : l[i]? = some x) : ∃ b off, a = some ⟨b, off, none⟩ ∧ b < w.heap.size ∧ ∀ r u, (f x)[r]? = some u → w.cell? ⟨b, off + i * k + r, none⟩ = some u := by
  obtain ⟨a', n', cap', b, off, e, h2, h3, h4, h5, h6⟩ := h
  cases e
  obtain ⟨p, q⟩ := h6 i x hx
  have hn : n ≠ 0 := by
    intro e
    rw [e] at h2
    have := List.length_eq_zero_iff.1 h2.symm
    subst this
    simp at hx
  exact ⟨b, off, h3.resolve_left hn, p, q⟩
theorem slG_lit {α : Type} {f : α → List Value} {k : Nat} (hf : ∀ x, (f x).length = k) (w : World) (T : TypeId) (l : List α) : SlG k f (w.alloc (.cells (cat f l).toArray T)) (.slice (some ⟨w.heap.size, 0, none⟩) l.length l.length) l := by
  refine ⟨_, _, _, w.heap.size, 0, rfl, rfl, .inr rfl, fun h => (by cases h), Nat.le_refl _, fun i x hx => ⟨by simp, fun r u hu => ?_⟩⟩
  have hr : r < k := by
    rcases Nat.lt_or_ge r (f x).length with h' | h'
    · rw [hf] at h'; exact h'
    · rw [List.getElem?_eq_none h'] at hu; cases hu
  have := cat_get hf l i r x hx hr
  rw [hu] at this
  rw [Nat.zero_add]
  have hb : (w.alloc (.cells (cat f l).toArray T)).heap[w.heap.size]? = some (.cells (cat f l).toArray T (0, 0)) := by unfold World.alloc; simp
  rw [Lib.cell_of_heap hb]
  simpa using this

set_option maxHeartbeats 4000000 in
theorem reversed_any (v : Value) (l : List (Int × Int)) (w : World) (h : SlT w v l) (hn : l.length ≤ 1000000) :
    Calls Try.prog 18 #[v] w (RetT w (revP l)) := by
  obtain ⟨ad, nn, cap, b, off, rfl, rfl, h3, h4, h5, h6⟩ := id h
  have H := Lib.hid h; have HN := Lib.hid hn
  clear h h3 h4 h5 h6
  go_enter Try.func18, Try.ntmps18
  go_wp2_with fail
  go_loopw [3, 4] (fun out i wr => ∃ (k : Nat), k ≤ l.length ∧ i = .int .i64 k ∧ Hid (OwnT w.heap.size wr out ((revP l).take k)) ∧ Hid (Ext w wr)) (fun _ i _ => l.length - (intOf i).toNat)
  case atStart => exact ⟨0, Nat.zero_le _, rfl, Lib.hid (OwnG.nil _ _ _), Lib.hid (Ext.refl w)⟩
  case round =>
    obtain ⟨k, hk, rfl, HO, HE⟩ := hrel
    by_cases hlt : k < l.length
    · obtain ⟨m, hmd⟩ : ∃ m, m = (l.length - k) % l.length := ⟨_, rfl⟩
      have hm : m < l.length := by rw [hmd]; exact Nat.mod_lt _ (by omega)
      have e1 : (((l.length : Int) - k) % (l.length : Int)) = (m : Int) := by
        rw [hmd, Int.natCast_emod, Int.natCast_sub (Nat.le_of_lt hlt)]
      obtain ⟨⟨x, y⟩, hxy⟩ : ∃ p, l[m]? = some p := ⟨l[m], by simp [hm]⟩
      have HT : Hid ((revP l).take k ++ [(x, y)] = (revP l).take (k + 1)) := Lib.hid (by
        rw [List.take_succ_eq_append_getElem (by rw [revP_len]; exact hlt)]
        congr 2
        simp [revP, ← hmd, hxy])
      have HK : Hid (((revP l).take k).length = k) := Lib.hid (by rw [List.length_take, revP_len]; exact Nat.min_eq_left hk)
      obtain ⟨b', off', he, hb', hc⟩ := H.out.at hxy
      cases he
      have c0 := (HE.out.cell (p := ⟨b', off' + m * 2 + 0, none⟩) hb').trans (hc 0 (.int .i64 x) rfl)
      have c1 := (HE.out.cell (p := ⟨b', off' + m * 2 + 1, none⟩) hb').trans (hc 1 (.int .i64 y) rfl)
      rw [Nat.add_zero] at c0
      have hl0 : ((l.length : Int) == 0) = false := by rw [beq_eq_false_iff_ne]; omega
      have hl1 : ¬ (l.length : Int) = 0 := by omega
      obtain ⟨X, hX, hbX, heX, -⟩ := row_alloc wr #[.int .i64 x, .int .i64 y] 29
      have HSX : Hid (SlT X (.slice (some ⟨wr.heap.size, 0, none⟩) 1 1) [(x, y)]) := Lib.hid (by rw [← hX]; exact slG_lit gC_len wr 29 [(x, y)])
      have HOX := Lib.hid (HO.out.later heX); have HEX := Lib.hid (HE.out.trans heX)
      have HBX : Hid (w.heap.size ≤ X.heap.size) := Lib.hid HEX.out.size
      have HM : Hid (((revP l).take k).length + [(x, y)].length ≤ maxLen) := Lib.hid (by rw [HK.out]; have := HN.out; unfold maxLen; simp; omega)
      have HB : Hid ((((revP l).take k).length + [(x, y)].length) * 16 ≤ 140737488355328) := Lib.hid (by rw [HK.out]; have := HN.out; simp; omega)
      clear hmd hxy hc hbX heX HO HE
      go_wp2_with ((at_builtin; refine appG_at rfl _ _ rfl Try.underlying22 Try.info_g2 rfl (by decide) gC_len gC_one w.heap.size _ _ ((revP l).take k) [(x, y)] rfl rfl HOX.out HSX.out HM.out HB.out HBX.out ?_; intro v6 w6 own6 hg6 hloc6))
      have E6 : Ext w w6 := HEX.out.grown hg6 (fun i hi => (HOX.out.base hi).1)
      rw [HT.out] at own6
      go_roundw
      case rel => exact ⟨k + 1, by omega, by go_num, Lib.hid own6, Lib.hid E6⟩
      case measure => simp [intOf]; omega
    · obtain rfl : k = l.length := by omega
      have ho := HO.out
      rw [List.take_of_length_le (by rw [revP_len]; exact Nat.le_refl _)] at ho
      have HO' := Lib.hid ho
      clear ho HO
      obtain ⟨a, c, rfl⟩ := HO'.out.form
      go_wp2_with fail
      go_ret
      exact ⟨_, _, _, rfl, HO'.out, HE.out⟩
end Go.Proofs.Ytlkhkldgmlfhkaa

namespace Go.Proofs.Ytlkhkldgmlfhkaa
open Go.RowKit
set_option maxRecDepth 8000

/-- The cells of a move. -/
def mC (z rate : Int) (p : Int × Int) : List Value := [.int .i64 2, .int .i64 p.1, .int .i64 p.2, .int .i64 z, .int .i64 0, .int .i64 0, .int .i64 rate]
theorem mC_len (z rate : Int) (p : Int × Int) : (mC z rate p).length = 7 := rfl
theorem mC_one (z rate : Int) (p : Int × Int) : ∀ u ∈ mC z rate p, u.oneCell' = true := by
  intro u hu
  simp only [mC, List.mem_cons, List.not_mem_nil, or_false] at hu
  rcases hu with rfl | rfl | rfl | rfl | rfl | rfl | rfl <;> rfl
theorem Try.info_mv : (Try.prog.info? 31).map (fun i => (i.zero, i.size, i.bytes)) = some (some (.agg #[.int .i64 0, .int .i64 0, .int .i64 0, .int .i64 0, .int .i64 0, .int .i64 0, .int .i64 0]), 7, 56) := by kernel_rfl
/-- Moves of the call's own are handed back. -/
def RetM (z rate : Int) (w : World) (l : List (Int × Int)) (e : Ending) (w' : World) : Prop := ∃ a n c, e = .returned (.slice a n c) ∧ OwnG w.heap.size 31 7 (mC z rate) w' (.slice a n c) l ∧ Ext w w'
/-- The positions behind, around the path. -/
def cycP (l : List (Int × Int)) : List (Int × Int) := (List.range l.length).map fun i => l.getD ((i + 1) % l.length) (0, 0)
theorem cycP_len (l : List (Int × Int)) : (cycP l).length = l.length := by simp [cycP]

set_option maxHeartbeats 4000000 in
theorem cclosed_any (v : Value) (l : List (Int × Int)) (z rate : Int) (w : World) (h : SlT w v l) (hn : l.length ≤ 1000000) :
    Calls Try.prog 7 #[v, .int .i64 z, .int .i64 rate] w (RetM z rate w (cycP l)) := by
  obtain ⟨ad, nn, cap, b, off, rfl, rfl, h3, h4, h5, h6⟩ := id h
  have H := Lib.hid h; have HN := Lib.hid hn
  clear h h3 h4 h5 h6
  go_enter Try.func7, Try.ntmps7
  go_wp2_with fail
  go_loopw [7, 12] (fun out i wr => ∃ (k : Nat), k ≤ l.length ∧ i = .int .i64 k ∧ Hid (OwnG w.heap.size 31 7 (mC z rate) wr out ((cycP l).take k)) ∧ Hid (Ext w wr)) (fun _ i _ => l.length - (intOf i).toNat)
  case atStart => exact ⟨0, Nat.zero_le _, rfl, Lib.hid (OwnG.nil _ _ _), Lib.hid (Ext.refl w)⟩
  case round =>
    obtain ⟨k, hk, rfl, HO, HE⟩ := hrel
    by_cases hlt : k < l.length
    · obtain ⟨m, hmd⟩ : ∃ m, m = (k + 1) % l.length := ⟨_, rfl⟩
      have hm : m < l.length := by rw [hmd]; exact Nat.mod_lt _ (by omega)
      have e1 : (((k : Int) + 1) % (l.length : Int)) = (m : Int) := by
        rw [hmd, Int.natCast_emod]; rfl
      obtain ⟨⟨x, y⟩, hxy⟩ : ∃ p, l[m]? = some p := ⟨l[m], by simp [hm]⟩
      have HT : Hid ((cycP l).take k ++ [(x, y)] = (cycP l).take (k + 1)) := Lib.hid (by
        rw [List.take_succ_eq_append_getElem (by rw [cycP_len]; exact hlt)]
        congr 2
        simp [cycP, ← hmd, hxy])
      have HK : Hid (((cycP l).take k).length = k) := Lib.hid (by rw [List.length_take, cycP_len]; exact Nat.min_eq_left hk)
      obtain ⟨b', off', he, hb', hc⟩ := H.out.at hxy
      cases he
      have c0 := (HE.out.cell (p := ⟨b', off' + m * 2 + 0, none⟩) hb').trans (hc 0 (.int .i64 x) rfl)
      have c1 := (HE.out.cell (p := ⟨b', off' + m * 2 + 1, none⟩) hb').trans (hc 1 (.int .i64 y) rfl)
      rw [Nat.add_zero] at c0
      have hl0 : ((l.length : Int) == 0) = false := by rw [beq_eq_false_iff_ne]; omega
      have hl1 : ¬ (l.length : Int) = 0 := by omega
      obtain ⟨W1, hW1, hb1, he1, -⟩ := row_alloc wr #[.int .i64 x, .int .i64 y] 29
      have hz1 : W1.heap.size = wr.heap.size + 1 := by rw [← hW1]; simp
      obtain ⟨X, hX, hbX, heX, -⟩ := row_alloc W1 #[.int .i64 2, .int .i64 x, .int .i64 y, .int .i64 z, .int .i64 0, .int .i64 0, .int .i64 rate] 31
      have g0 := Lib.cell_of_heap hb1 0; have g1 := Lib.cell_of_heap hb1 1
      simp only [List.getElem?_toArray, List.getElem?_cons_succ, List.getElem?_cons_zero] at g0 g1
      clear hmd hxy hc hb1 hz1
      have HSX : Hid (SlG 7 (mC z rate) X (.slice (some ⟨W1.heap.size, 0, none⟩) 1 1) [(x, y)]) := Lib.hid (by rw [← hX]; exact slG_lit (mC_len z rate) W1 31 [(x, y)])
      have HOX := Lib.hid (HO.out.later (he1.trans heX)); have HEX := Lib.hid (HE.out.trans (he1.trans heX))
      have HBX : Hid (w.heap.size ≤ X.heap.size) := Lib.hid HEX.out.size
      have HM : Hid (((cycP l).take k).length + [(x, y)].length ≤ maxLen) := Lib.hid (by rw [HK.out]; have := HN.out; unfold maxLen; simp; omega)
      have HB : Hid ((((cycP l).take k).length + [(x, y)].length) * 56 ≤ 140737488355328) := Lib.hid (by rw [HK.out]; have := HN.out; simp; omega)
      clear hbX heX he1 HO HE
      go_wp2_with ((at_builtin; refine appG_at rfl _ _ rfl Try.underlying25 Try.info_mv rfl (by decide) (mC_len z rate) (mC_one z rate) w.heap.size _ _ ((cycP l).take k) [(x, y)] rfl rfl HOX.out HSX.out HM.out HB.out HBX.out ?_; intro v6 w6 own6 hg6 hloc6))
      have E6 : Ext w w6 := HEX.out.grown hg6 (fun i hi => (HOX.out.base hi).1)
      rw [HT.out] at own6
      go_roundw
      case rel => exact ⟨k + 1, by omega, by go_num, Lib.hid own6, Lib.hid E6⟩
      case measure => simp [intOf]; omega
    · obtain rfl : k = l.length := by omega
      have ho := HO.out
      rw [List.take_of_length_le (by rw [cycP_len]; exact Nat.le_refl _)] at ho
      have HO' := Lib.hid ho
      clear ho HO
      obtain ⟨a, c, rfl⟩ := HO'.out.form
      go_wp2_with fail
      go_ret
      exact ⟨_, _, _, rfl, HO'.out, HE.out⟩

set_option maxHeartbeats 4000000 in
theorem next_any (v : Value) (l : List (Int × Int)) (k m : Nat) (x y : Int) (w : World) (h : SlT w v l) (hn : l.length ≤ 1000000) (hk : k < l.length) (hmd : m = (k + 1) % l.length) (hxy : l[m]? = some (x, y)) :
    Calls Try.prog 19 #[v, .int .i64 (k : Int)] w fun e w' => e = .returned (.agg #[.int .i64 x, .int .i64 y]) ∧ Ext w w' := by
  obtain ⟨ad, nn, cap, b, off, rfl, rfl, h3, h4, h5, h6⟩ := id h
  have e1 : (((k : Int) + 1) % (l.length : Int)) = (m : Int) := by
    rw [hmd, Int.natCast_emod]; rfl
  have hm : m < l.length := by rw [hmd]; exact Nat.mod_lt _ (by omega)
  obtain ⟨b', off', he, hb', hc⟩ := h.at hxy
  cases he
  have c0 := hc 0 (.int .i64 x) rfl
  have c1 := hc 1 (.int .i64 y) rfl
  rw [Nat.add_zero] at c0
  have hl0 : ((l.length : Int) == 0) = false := by rw [beq_eq_false_iff_ne]; omega
  have hl1 : ¬ (l.length : Int) = 0 := by omega
  clear h h3 h4 h5 h6 hc hmd hxy
  have d0 : ∀ o, (w.alloc o).cell? ⟨b', off' + m * 2, none⟩ = some (.int .i64 x) := fun o => (((Ext.refl w).alloc o).cell (p := ⟨b', off' + m * 2, none⟩) hb').trans c0
  have d1 : ∀ o, (w.alloc o).cell? ⟨b', off' + m * 2 + 1, none⟩ = some (.int .i64 y) := fun o => (((Ext.refl w).alloc o).cell (p := ⟨b', off' + m * 2 + 1, none⟩) hb').trans c1
  go_enter Try.func19, Try.ntmps19
  go_wp2_with fail
  exact bodyPost_ret (v := .agg #[.int .i64 x, .int .i64 y]) (by simp [results, Try.results19, go_sem]) rfl ⟨rfl, (Ext.refl w).alloc _⟩
set_option maxHeartbeats 4000000 in
theorem rclosed_any (v : Value) (l : List (Int × Int)) (z rate : Int) (w : World) (h : SlT w v l) (hn : l.length ≤ 1000000) :
    Calls Try.prog 9 #[v, .int .i64 z, .int .i64 rate] w (RetM z rate w (cycP l)) := by
  obtain ⟨ad, nn, cap, b, off, rfl, rfl, h3, h4, h5, h6⟩ := id h
  have H := Lib.hid h; have HN := Lib.hid hn
  clear h h3 h4 h5 h6
  go_enter Try.func9, Try.ntmps9
  go_wp2_with fail
  go_loopw [7, 8] (fun out i wr => ∃ (k : Nat), k ≤ l.length ∧ i = .int .i64 k ∧ Hid (OwnG w.heap.size 31 7 (mC z rate) wr out ((cycP l).take k)) ∧ Hid (Ext w wr)) (fun _ i _ => l.length - (intOf i).toNat)
  case atStart => exact ⟨0, Nat.zero_le _, rfl, Lib.hid (OwnG.nil _ _ _), Lib.hid (Ext.refl w)⟩
  case round =>
    obtain ⟨k, hk, rfl, HO, HE⟩ := hrel
    by_cases hlt : k < l.length
    · obtain ⟨m, hmd⟩ : ∃ m, m = (k + 1) % l.length := ⟨_, rfl⟩
      have hm : m < l.length := by rw [hmd]; exact Nat.mod_lt _ (by omega)
      have e1 : (((k : Int) + 1) % (l.length : Int)) = (m : Int) := by
        rw [hmd, Int.natCast_emod]; rfl
      obtain ⟨⟨x, y⟩, hxy⟩ : ∃ p, l[m]? = some p := ⟨l[m], by simp [hm]⟩
      have HT : Hid ((cycP l).take k ++ [(x, y)] = (cycP l).take (k + 1)) := Lib.hid (by
        rw [List.take_succ_eq_append_getElem (by rw [cycP_len]; exact hlt)]
        congr 2
        simp [cycP, ← hmd, hxy])
      have HK : Hid (((cycP l).take k).length = k) := Lib.hid (by rw [List.length_take, cycP_len]; exact Nat.min_eq_left hk)
      have HNX := Lib.hid (next_any _ l k m x y wr (H.out.later HE.out) HN.out hlt hmd hxy)
      clear hmd hxy e1
      go_wp2_with fail
      refine HNX.out.mono ?_
      rintro e w2 ⟨rfl, x2⟩
      obtain ⟨W1, hW1, hb1, he1', -⟩ := row_alloc w2 #[.int .i64 x, .int .i64 y] 29
      obtain ⟨X, hX, hbX, heX, -⟩ := row_alloc W1 #[.int .i64 2, .int .i64 x, .int .i64 y, .int .i64 z, .int .i64 0, .int .i64 0, .int .i64 rate] 31
      have g0 := Lib.cell_of_heap hb1 0; have g1 := Lib.cell_of_heap hb1 1
      simp only [List.getElem?_toArray, List.getElem?_cons_succ, List.getElem?_cons_zero] at g0 g1
      have he1 : Ext wr W1 := x2.trans he1'
      clear hb1 he1' HNX x2
      have HSX : Hid (SlG 7 (mC z rate) X (.slice (some ⟨W1.heap.size, 0, none⟩) 1 1) [(x, y)]) := Lib.hid (by rw [← hX]; exact slG_lit (mC_len z rate) W1 31 [(x, y)])
      have HOX := Lib.hid (HO.out.later (he1.trans heX)); have HEX := Lib.hid (HE.out.trans (he1.trans heX))
      have HBX : Hid (w.heap.size ≤ X.heap.size) := Lib.hid HEX.out.size
      have HM : Hid (((cycP l).take k).length + [(x, y)].length ≤ maxLen) := Lib.hid (by rw [HK.out]; have := HN.out; unfold maxLen; simp; omega)
      have HB : Hid ((((cycP l).take k).length + [(x, y)].length) * 56 ≤ 140737488355328) := Lib.hid (by rw [HK.out]; have := HN.out; simp; omega)
      clear hbX heX he1 HO HE
      go_wp2_with ((at_builtin; refine appG_at rfl _ _ rfl Try.underlying25 Try.info_mv rfl (by decide) (mC_len z rate) (mC_one z rate) w.heap.size _ _ ((cycP l).take k) [(x, y)] rfl rfl HOX.out HSX.out HM.out HB.out HBX.out ?_; intro v6 w6 own6 hg6 hloc6))
      have E6 : Ext w w6 := HEX.out.grown hg6 (fun i hi => (HOX.out.base hi).1)
      rw [HT.out] at own6
      go_roundw
      case rel => exact ⟨k + 1, by omega, by go_num, Lib.hid own6, Lib.hid E6⟩
      case measure => simp [intOf]; omega
    · obtain rfl : k = l.length := by omega
      have ho := HO.out
      rw [List.take_of_length_le (by rw [cycP_len]; exact Nat.le_refl _)] at ho
      have HO' := Lib.hid ho
      clear ho HO
      obtain ⟨a, c, rfl⟩ := HO'.out.form
      go_wp2_with fail
      go_ret
      exact ⟨_, _, _, rfl, HO'.out, HE.out⟩
end Go.Proofs.Ytlkhkldgmlfhkaa

namespace Go.Proofs.Ytlkhkldgmlfhkaa
open Go.RowKit
set_option maxRecDepth 8000

set_option maxHeartbeats 1000000 in
theorem cloneT_any (v : Value) (l : List (Int × Int)) (w : World) (h : SlT w v l) (hn : l.length ≤ 1000000) :
    Calls Try.prog 8 #[v] w (RetT w l) := by
  obtain ⟨ad, n, cap, b, off, rfl, rfl, h3, h4, h5, h6⟩ := id h
  cases ad with
  | none =>
    have h0 : l.length = 0 := h3.resolve_right (by simp)
    obtain rfl := List.length_eq_zero_iff.1 h0
    obtain rfl := h4 rfl
    clear h h3 h4 h5 h6 h0
    have hq := fun w => Lib.run_eql_slice_nil (P := Try.prog) w 22 29 none 0 0 0 0 Try.underlying22
    go_enter Try.func8, Try.ntmps8
    go_wp2_with fail
    go_ret
    exact ⟨_, _, _, rfl, OwnG.nil _ _ _, Ext.refl w⟩
  | some ad =>
    have hq := fun w => Lib.run_eql_slice_nil (P := Try.prog) w 22 29 (some ad) l.length cap 0 0 Try.underlying22
    have hown0 : OwnT w.heap.size (w.alloc (.cells #[] 29)) (.slice (some ⟨w.heap.size, 0, none⟩) 0 0) [] := World.ownsRow_lit (base := w.heap.size) (e := 29) (size := 2) w #[] 0 (Nat.le_refl _) (by decide) rfl
    have HO := Lib.hid hown0
    have HS := Lib.hid (h.later ((Ext.refl w).alloc (.cells #[] 29)))
    have HM : Hid (([] : List (Int × Int)).length + l.length ≤ maxLen) := Lib.hid (by unfold maxLen; simp; omega)
    have HB : Hid ((([] : List (Int × Int)).length + l.length) * 16 ≤ 140737488355328) := Lib.hid (by simp; omega)
    clear hown0 h h3 h4 h5 h6
    go_enter Try.func8, Try.ntmps8
    go_wp2_with ((at_builtin; refine appG_at rfl _ _ rfl Try.underlying22 Try.info_g2 rfl (by decide) gC_len gC_one w.heap.size _ _ [] l rfl rfl HO.out HS.out HM.out HB.out (by simp) ?_; intro v6 w6 own6 hg6 hloc6))
    have E6 : Ext w w6 := ((Ext.refl w).alloc _).grown hg6 (fun i hi => by cases hi; exact Nat.le_refl _)
    rw [List.nil_append] at own6
    obtain ⟨a, c, rfl⟩ := own6.form
    go_ret
    exact ⟨_, _, _, rfl, own6, E6⟩

def Mv7 (z rate x y : Int) : Value := .agg #[.int .i64 2, .int .i64 x, .int .i64 y, .int .i64 z, .int .i64 0, .int .i64 0, .int .i64 rate]
theorem Try.neq_mv (z rate x y : Int) (w : World) : (binOp .neq 31 (Mv7 z rate x y) (Mv7 z rate x y)).run Try.prog w = .ok (.bool false) w := by simp [go_sem, Mv7]

set_option maxHeartbeats 4000000 in
theorem equalM_any (v v' : Value) (l : List (Int × Int)) (z rate : Int) (w : World) (h : SlG 7 (mC z rate) w v l) (h' : SlG 7 (mC z rate) w v' l) (hn : l.length ≤ 1000000) :
    Calls Try.prog 6 #[v, v'] w fun e w' => e = .returned (.bool true) ∧ Ext w w' := by
  obtain ⟨ad, nn, cap, b, off, rfl, rfl, -⟩ := id h
  obtain ⟨ad', nn', cap', b', off', rfl, rfl, -⟩ := id h'
  have H := Lib.hid h; have H' := Lib.hid h'; have HN := Lib.hid hn
  have hq : ((l.length : Int) != l.length) = false := by simp
  clear h h'
  go_enter Try.func6, Try.ntmps6
  go_wp2_with fail
  go_loopw [13] (fun i wr => ∃ (k : Nat), k ≤ l.length ∧ i = .int .i64 k ∧ Hid (Ext w wr)) (fun i _ => l.length - (intOf i).toNat)
  case atStart => exact ⟨0, Nat.zero_le _, rfl, Lib.hid (Ext.refl w)⟩
  case round =>
    obtain ⟨k, hk, rfl, HE⟩ := hrel
    by_cases hlt : k < l.length
    · obtain ⟨⟨x, y⟩, hxy⟩ : ∃ p, l[k]? = some p := ⟨l[k], by simp [hlt]⟩
      obtain ⟨g1, o1, he, hb1, hc⟩ := H.out.at hxy
      cases he
      obtain ⟨g2, o2, he, hb2, hd⟩ := H'.out.at hxy
      cases he
      have C : ∀ r u, (mC z rate (x, y))[r]? = some u → ∀ q : Later wr, q.w.cell? ⟨g1, o1 + k * 7 + r, none⟩ = some u := fun r u hu => Later.cell ((HE.out.cell (p := ⟨g1, o1 + k * 7 + r, none⟩) hb1).trans (hc r u hu))
      have D : ∀ r u, (mC z rate (x, y))[r]? = some u → ∀ q : Later wr, q.w.cell? ⟨g2, o2 + k * 7 + r, none⟩ = some u := fun r u hu => Later.cell ((HE.out.cell (p := ⟨g2, o2 + k * 7 + r, none⟩) hb2).trans (hd r u hu))
      have c0 := C 0 (.int .i64 2) rfl; have c1 := C 1 (.int .i64 x) rfl; have c2 := C 2 (.int .i64 y) rfl; have c3 := C 3 (.int .i64 z) rfl; have c4 := C 4 (.int .i64 0) rfl; have c5 := C 5 (.int .i64 0) rfl; have c6 := C 6 (.int .i64 rate) rfl
      have d0 := D 0 (.int .i64 2) rfl; have d1 := D 1 (.int .i64 x) rfl; have d2 := D 2 (.int .i64 y) rfl; have d3 := D 3 (.int .i64 z) rfl; have d4 := D 4 (.int .i64 0) rfl; have d5 := D 5 (.int .i64 0) rfl; have d6 := D 6 (.int .i64 rate) rfl
      rw [Nat.add_zero] at c0 d0
      have hne := fun w => Try.neq_mv z rate x y w
      unfold Mv7 at hne
      clear C D hc hd hxy
      go_wp2_with fail
      refine wp_region_later (by kernel_rfl) (by kernel_rfl) ?_
      repeat (go_big_quiet_step (fail))
      refine wpQuiet_nil ?_
      rintro _ ⟨q, rfl⟩
      have HE2 := Lib.hid (HE.out.trans q.ext)
      clear c0 c1 c2 c3 c4 c5 c6 d0 d1 d2 d3 d4 d5 d6 hne
      go_wp2_with fail
      go_roundw
      case rel => exact ⟨k + 1, by omega, by go_num, HE2⟩
      case measure => simp [intOf]; omega
    · obtain rfl : k = l.length := by omega
      go_wp2_with fail
      go_ret
      exact ⟨rfl, HE.out⟩
end Go.Proofs.Ytlkhkldgmlfhkaa

namespace Go.Proofs.Ytlkhkldgmlfhkaa
open Go.RowKit
set_option maxRecDepth 8000

abbrev B0 : Vc.Bs := ⟨0, [], [], []⟩
/-- The value v reads as a vector. -/
def IsV (w : World) (x y : Rat) (v : Value) : Prop := Vc.relK B0 w (.g [.R x, .R y]) v
theorem IsV.later {w w' : World} {x y : Rat} {v : Value} (h : IsV w x y v) (he : Ext w w') : IsV w' x y v := (Vc.Keep.ext he).relK h
theorem slP_of {w : World} {v : Value} {l : List (Int × Int)} (h : SlT w v l) : Vc.SlP w.heap.size w v l := by
  obtain ⟨a, n, cap, b, off, rfl, rfl, h3, h4, h5, h6⟩ := h
  refine ⟨a, cap, b, off, rfl, h3, h4, h5, fun i x hx => ?_⟩
  obtain ⟨p, q⟩ := h6 i x hx
  exact ⟨p, p, by have := q 0 (.int .i64 x.1) rfl; simpa using this, q 1 (.int .i64 x.2) rfl⟩
theorem wvec07 (m n : Int) (w : World) (h : (-9223372036854775808 ≤ m ∧ m ≤ 9223372036854775807) ∧ -9223372036854775808 ≤ n ∧ n ≤ 9223372036854775807) :
    Calls Try.prog 17 #[.int .i64 m, .int .i64 n] w fun e w' => ∃ v, e = .returned v ∧ Ext w w' ∧ IsV w' m n v :=
  Vc.cKvec07_ok.yes B0 w [.c (.v (.int .i64 m)), .c (.v (.int .i64 n))] [.int .i64 m, .int .i64 n] _ _ ⟨⟨rfl, rfl⟩, ⟨rfl, rfl⟩, trivial⟩ rfl rfl rfl h
theorem wwind (p v : Value) (l : List (Int × Int)) (x y : Rat) (w : World) (hp : SlT w p l) (hv : IsV w x y v) (h : Rt.okp l ∧ Vc.szR x ≤ 90 ∧ Vc.szR y ≤ 90) :
    Calls Try.prog 15 #[p, v] w fun e w' => e = .returned (.tuple #[.int .i64 (Rt.windN l ⟨x, y⟩), .int .i64 (Rt.windE l ⟨x, y⟩)]) ∧ Ext w w' := by
  refine (Vc.cCwind_ok.yes ⟨w.heap.size, [], [], []⟩ w [.c (.pt l), .g [.R x, .R y]] [p, v] _ _ ⟨slP_of hp, Vc.nobxK_rel rfl rfl rfl hv, trivial⟩ rfl rfl rfl h).mono ?_
  rintro e w' ⟨v', rfl, hx, us, rfl, hr⟩
  match us, hr with
  | [u1, u2], hr =>
    obtain ⟨⟨rfl, _⟩, ⟨rfl, _⟩, _⟩ := hr
    exact ⟨rfl, hx⟩
theorem wcov (q v : Value) (ps : List (List (Int × Int))) (r : Int) (x y : Rat) (w : World) (hq : Vc.SlQ w.heap.size w q ps) (hv : IsV w x y v) (h : (∀ j, Rt.okp (ps.getD j [])) ∧ ps.length ≤ 1000000000 ∧ (-9223372036854775808 ≤ r ∧ r ≤ 9223372036854775807) ∧ Vc.szR x ≤ 90 ∧ Vc.szR y ≤ 90) :
    Calls Try.prog 16 #[q, .int .i64 r, v] w fun e w' => e = .returned (.bool (Rt.covB ps r ⟨x, y⟩)) ∧ Ext w w' := by
  refine (Vc.cCcov_ok.yes ⟨w.heap.size, [], [], []⟩ w [.c (.pp ps), .c (.v (.int .i64 r)), .g [.R x, .R y]] [q, .int .i64 r, v] _ _ ⟨hq, ⟨rfl, rfl⟩, Vc.nobxK_rel rfl rfl rfl hv, trivial⟩ rfl rfl rfl h).mono ?_
  rintro e w' ⟨v', rfl, hx, rfl, _⟩
  exact ⟨rfl, hx⟩

theorem ex1 : Rt.windN [(0, 0), (10, 0), (10, 10)] ⟨((8 : Int) : Rat), ((2 : Int) : Rat)⟩ = 1 := by kernel_rfl
theorem ex2 : Rt.windE [(0, 0), (10, 0), (10, 10)] ⟨((8 : Int) : Rat), ((2 : Int) : Rat)⟩ = 0 := by kernel_rfl
theorem ex3 : Rt.windN [(0, 0), (10, 10), (10, 0)] ⟨((8 : Int) : Rat), ((2 : Int) : Rat)⟩ = -1 := by kernel_rfl
theorem ex4 : Rt.windE [(0, 0), (10, 10), (10, 0)] ⟨((8 : Int) : Rat), ((2 : Int) : Rat)⟩ = 0 := by kernel_rfl
theorem ex5 : Rt.windN [(0, 0), (10, 0), (10, 10)] ⟨((2 : Int) : Rat), ((8 : Int) : Rat)⟩ = 0 := by kernel_rfl
theorem ex6 : Rt.windE [(0, 0), (10, 0), (10, 10)] ⟨((2 : Int) : Rat), ((8 : Int) : Rat)⟩ = 0 := by kernel_rfl
theorem ex7 : Rt.covB [[(0, 0), (10, 0), (10, 10)]] 1 ⟨((5 : Int) : Rat), ((-1 : Int) : Rat)⟩ = true := by kernel_rfl
theorem ex_rev : Rt.revP [(0, 0), (10, 0), (10, 10)] = [(0, 0), (10, 10), (10, 0)] := by decide
end Go.Proofs.Ytlkhkldgmlfhkaa

namespace Go.Proofs.Ytlkhkldgmlfhkaa
open Go.RowKit
set_option maxRecDepth 8000

theorem okp_small (l : List (Int × Int)) (h : ∀ p ∈ l, (-1000000000 ≤ p.1 ∧ p.1 ≤ 1000000000) ∧ -1000000000 ≤ p.2 ∧ p.2 ≤ 1000000000) (hn : l.length ≤ 1000000000) : Rt.okp l := by
  refine ⟨fun k => ?_, hn⟩
  rcases Nat.lt_or_ge k l.length with hk | hk
  · have e : l.getD k (0, 0) = l[k] := by simp [List.getD_eq_getElem?_getD, hk]
    have := h l[k] (List.getElem_mem hk)
    rw [e]
    omega
  · have e : l.getD k (0, 0) = (0, 0) := by simp [List.getD_eq_getElem?_getD, hk]
    rw [e]
    exact ⟨⟨by decide, by decide⟩, by decide, by decide⟩
theorem okp_ex : Rt.okp [(0, 0), (10, 0), (10, 10)] := okp_small _ (by decide) (by decide)
theorem okp_ex2 : Rt.okp [(0, 0), (10, 10), (10, 0)] := okp_small _ (by decide) (by decide)
theorem sz_ex (n : Int) (h : n.natAbs < 1000000000) : Vc.szR (n : Rat) ≤ 90 := by
  have h1 : szI ((n : Rat).num) ≤ 1 := szI_le (by simpa [Lb.B] using h)
  have h2 : szI (((n : Rat).den : Nat) : Int) ≤ 1 := szI_le (by simp [Lb.B])
  unfold Vc.szR
  omega

set_option maxHeartbeats 16000000 in
theorem awake31_any (w : World) : Calls Try.prog 5 #[] w fun e w' => e = .returned (.bool true) ∧ Ext w w' := by
  obtain ⟨W0, hW0, hb0, hE0, -⟩ := row_alloc w #[.int .i64 0, .int .i64 0, .int .i64 10, .int .i64 0, .int .i64 10, .int .i64 10] 29
  have HP : Hid (SlT W0 (.slice (some ⟨w.heap.size, 0, none⟩) 3 3) [(0, 0), (10, 0), (10, 10)]) := Lib.hid (by rw [← hW0]; exact slG_lit gC_len w 29 [(0, 0), (10, 0), (10, 10)])
  have HE0 := Lib.hid hE0
  have k8 := sz_ex 8 (by decide); have k2 := sz_ex 2 (by decide); have k5 := sz_ex 5 (by decide); have k1 := sz_ex (-1) (by decide)
  have K8 := Lib.hid k8; have K2 := Lib.hid k2; have K5 := Lib.hid k5; have K1 := Lib.hid k1
  clear hb0 hE0 k8 k2 k5 k1
  go_enter Try.func5, Try.ntmps5
  go_wp2_with fail
  refine (wvec07 8 2 _ (by decide)).mono ?_
  rintro e w1 ⟨v1, rfl, x1, i1⟩
  have HP1 := Lib.hid (HP.out.later x1); have HX1 := Lib.hid x1; have HI1 := Lib.hid i1
  clear x1 i1
  go_wp2_with fail
  refine (wwind _ _ _ _ _ _ HP1.out HI1.out ⟨okp_ex, K8.out, K2.out⟩).mono ?_
  rintro e w2 ⟨rfl, x2⟩
  rw [ex1, ex2]
  have HP2 := Lib.hid (HP1.out.later x2); have HX2 := Lib.hid (HX1.out.trans x2)
  clear x2
  go_wp2_with fail
  refine (reversed_any _ _ _ HP2.out (by decide)).mono ?_
  rintro e w3 ⟨a3, n3, c3, rfl, o3, x3⟩
  have s3 := o3.sl gC_len
  rw [ex_rev] at s3
  have HS3 := Lib.hid s3; have HP3 := Lib.hid (HP2.out.later x3); have HX3 := Lib.hid (HX2.out.trans x3)
  clear o3 s3 x3
  go_wp2_with fail
  refine (wvec07 8 2 _ (by decide)).mono ?_
  rintro e w4 ⟨v4, rfl, x4, i4⟩
  have HS4 := Lib.hid (HS3.out.later x4); have HP4 := Lib.hid (HP3.out.later x4); have HX4 := Lib.hid (HX3.out.trans x4); have HI4 := Lib.hid i4
  clear x4 i4
  go_wp2_with fail
  refine (wwind _ _ _ _ _ _ HS4.out HI4.out ⟨okp_ex2, K8.out, K2.out⟩).mono ?_
  rintro e w5 ⟨rfl, x5⟩
  rw [ex3, ex4]
  have HP5 := Lib.hid (HP4.out.later x5); have HX5 := Lib.hid (HX4.out.trans x5)
  clear x5
  go_wp2_with fail
  refine (wvec07 2 8 _ (by decide)).mono ?_
  rintro e w6 ⟨v6, rfl, x6, i6⟩
  have HP6 := Lib.hid (HP5.out.later x6); have HX6 := Lib.hid (HX5.out.trans x6); have HI6 := Lib.hid i6
  clear x6 i6
  go_wp2_with fail
  refine (wwind _ _ _ _ _ _ HP6.out HI6.out ⟨okp_ex, K2.out, K8.out⟩).mono ?_
  rintro e w7 ⟨rfl, x7⟩
  rw [ex5, ex6]
  have HP7 := Lib.hid (HP6.out.later x7); have HX7 := Lib.hid (HX6.out.trans x7)
  clear x7
  go_wp2_with fail
  refine (cclosed_any _ _ (-5) 100 _ HP7.out (by decide)).mono ?_
  rintro e w8 ⟨a8, n8, c8, rfl, o8, x8⟩
  have HP8 := Lib.hid (HP7.out.later x8); have HX8 := Lib.hid (HX7.out.trans x8)
  have s8 := o8.sl (mC_len (-5) 100)
  have hn8 : n8 = 3 := s8.len
  subst hn8
  obtain ⟨g8, f8, rfl, hg8, hc8⟩ := s8.at (i := 2) (x := (0, 0)) (by decide)
  have c80 := hc8 1 (.int .i64 0) rfl; have c81 := hc8 2 (.int .i64 0) rfl; have c82 := hc8 3 (.int .i64 (-5)) rfl
  obtain ⟨X9, hX9, hb9, hE9, -⟩ := row_alloc w8 #[.slice (some ⟨w.heap.size, 0, none⟩) 3 3] 22
  have g9 := Lib.cell_of_heap hb9 0
  simp only [List.getElem?_toArray, List.getElem?_cons_zero] at g9
  have HG9 := Lib.hid g9; have HX9 := Lib.hid (HX8.out.trans hE9); have HP9 := Lib.hid (HP8.out.later hE9)
  have HZ9 : Hid (w8.heap.size < X9.heap.size) := Lib.hid (by rw [← hX9]; simp)
  clear o8 s8 hc8 x8 g9 hE9
  go_wp2_with fail
  refine (wvec07 5 (-1) _ (by decide)).mono ?_
  rintro e w10 ⟨v10, rfl, x10, i10⟩
  have HQ : Hid (Vc.SlQ w10.heap.size w10 (.slice (some ⟨w8.heap.size, 0, none⟩) 1 1) [[(0, 0), (10, 0), (10, 10)]]) := Lib.hid (by
    refine ⟨_, 1, w8.heap.size, 0, rfl, .inr rfl, fun h => (by cases h), Nat.le_refl _, fun i x hx => ?_⟩
    have hlt : w8.heap.size < w10.heap.size := Nat.lt_of_lt_of_le HZ9.out x10.size
    match i, hx with
    | 0, hx =>
      simp only [List.getElem?_cons_zero, Option.some.injEq] at hx
      subst hx
      exact ⟨hlt, hlt, _, (x10.cell (p := ⟨w8.heap.size, 0, none⟩) HZ9.out).trans HG9.out, slP_of (HP9.out.later x10)⟩)
  have HI10 := Lib.hid i10; have HX10 := Lib.hid (HX9.out.trans x10)
  clear x10 i10
  go_wp2_with fail
  refine (wcov _ _ _ _ _ _ _ HQ.out HI10.out ⟨fun j => ?_, by decide, by decide, K5.out, K1.out⟩).mono ?_
  · match j with
    | 0 => exact okp_ex
    | j + 1 => exact okp_small [] (by simp) (by simp)
  rintro e w11 ⟨rfl, x11⟩
  rw [ex7]
  go_wp2_with fail
  go_ret
  exact ⟨rfl, HE0.out.trans (HX10.out.trans x11)⟩
end Go.Proofs.Ytlkhkldgmlfhkaa

namespace Go.Proofs.Ytlkhkldgmlfhkaa
open Go.RowKit
set_option maxRecDepth 8000

set_option maxHeartbeats 4000000 in
theorem closed_walk (v : Value) (l : List (Int × Int)) (z rate : Int) (w : World) (h : SlT w v l) :
    Calls Try.prog 3 #[v, .int .i64 z, .int .i64 rate] w fun e w' => e = .returned (.bool true) ∧ Ext w w' := by
  obtain ⟨ad, nn, cap, b, off, rfl, rfl, h3, h4, h5, h6⟩ := id h
  have H := Lib.hid h
  clear h h3 h4 h5 h6
  by_cases hn : 20 < l.length
  · have hq : decide ((l.length : Int) > 20) = true := by simp; omega
    go_enter Try.func3, Try.ntmps3
    go_wp2_with fail
    refine (awake31_any _).mono ?_
    rintro e w1 ⟨rfl, x1⟩
    go_wp2_with fail
    refine (awake31_any _).mono ?_
    rintro e w2 ⟨rfl, x2⟩
    go_wp2_with fail
    go_ret
    exact ⟨rfl, x1.trans x2⟩
  · have hq : decide ((l.length : Int) > 20) = false := by simp; omega
    have hn6 : l.length ≤ 1000000 := by omega
    go_enter Try.func3, Try.ntmps3
    go_wp2_with fail
    refine (awake31_any _).mono ?_
    rintro e w1 ⟨rfl, x1⟩
    have H1 := Lib.hid (H.out.later x1); have X1 := Lib.hid x1
    clear x1
    go_wp2_with fail
    refine (cloneT_any _ _ _ H1.out hn6).mono ?_
    rintro e w2 ⟨a2, n2, c2, rfl, o2, x2⟩
    have H2 := Lib.hid (H1.out.later x2); have X2 := Lib.hid (X1.out.trans x2); have S2 := Lib.hid (o2.sl gC_len)
    clear x2 o2
    go_wp2_with fail
    refine (cclosed_any _ _ z rate _ S2.out hn6).mono ?_
    rintro e w3 ⟨a3, n3, c3, rfl, o3, x3⟩
    have H3 := Lib.hid (H2.out.later x3); have X3 := Lib.hid (X2.out.trans x3); have S3 := Lib.hid (o3.sl (mC_len z rate))
    clear x3 o3
    go_wp2_with fail
    refine (rclosed_any _ _ z rate _ H3.out hn6).mono ?_
    rintro e w4 ⟨a4, n4, c4, rfl, o4, x4⟩
    have X4 := Lib.hid (X3.out.trans x4); have S4 := Lib.hid (o4.sl (mC_len z rate)); have S34 := Lib.hid (S3.out.later x4)
    clear x4 o4
    go_wp2_with fail
    refine (equalM_any _ _ _ z rate _ S34.out S4.out (by rw [cycP_len]; exact hn6)).mono ?_
    rintro e w5 ⟨rfl, x5⟩
    go_wp2_with fail
    go_ret
    exact ⟨rfl, X4.out.trans x5⟩
end Go.Proofs.Ytlkhkldgmlfhkaa
