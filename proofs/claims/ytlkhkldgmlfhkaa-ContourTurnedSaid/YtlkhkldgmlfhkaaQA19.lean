/-
  Paths and moves by hand: next, Reversed, Closed (both), slices.Clone.
  Paths and moves by hand: the two Closed.
  Paths and moves by hand: slices.Clone, slices.Equal.
  The law's chapter examples: wrappers of contracts for walks; closed values.
  The law's chapter examples: awake.
  The reckoner at work: what is asked of a raw number (swarfref01.Valid, swarfref02.Valid, Small; small), Few, Area. (printed by gen/g8.py)
  The reckoner at work: next, Area (swarfref31). (printed by gen/g9.py)
  The law's turned paths: wrappers of contracts (Area, small, Few); the reference's Same and Turned.
  contour.Turned: the area by the reckoner. (printed by gen/ed.py)
-/
import Derived.Test.YtlkhkldgmlfhkaaQA18
namespace Go.Proofs.Ytlkhkldgmlfhkaa
open Go.RowKit Rt
set_option maxRecDepth 8000

/-- The cells of a position. -/
def gC (p : Int × Int) : List Value := [.int .i64 p.1, .int .i64 p.2]
theorem gC_len (p : Int × Int) : (gC p).length = 2 := rfl
theorem gC_one (p : Int × Int) : ∀ u ∈ gC p, u.oneCell' = true := by
  intro u hu
  simp only [gC, List.mem_cons, List.not_mem_nil, or_false] at hu
  rcases hu with rfl | rfl <;> rfl
abbrev SlT (w : World) (v : Value) (l : List (Int × Int)) : Prop := SlG 2 gC w v l
abbrev OwnT (B : Nat) (w : World) (v : Value) (l : List (Int × Int)) : Prop := OwnG B 29 2 gC w v l
theorem Try.info_g2 : (Try.prog.info? 29).map (fun i => (i.zero, i.size, i.bytes)) = some (some (.agg #[.int .i64 0, .int .i64 0]), 2, 16) := by kernel_rfl
/-- A path of the call's own is handed back. -/
def RetT (w : World) (l : List (Int × Int)) (e : Ending) (w' : World) : Prop := ∃ a n c, e = .returned (.slice a n c) ∧ OwnT w.heap.size w' (.slice a n c) l ∧ Ext w w'
theorem OwnG.form {α : Type} {f : α → List Value} {k B : Nat} {T : TypeId} {w : World} {v : Value} {l : List α} (h : OwnG B T k f w v l) : ∃ a c, v = .slice a l.length c := by
  obtain ⟨h1, h2⟩ := h
  rcases h2 with ⟨rfl, h3⟩ | ⟨g, cap, cur, rfl, _⟩
  · exact ⟨none, 0, by rw [h3]⟩
  · exact ⟨_, _, rfl⟩
/-- A position of a path, in any world that comes later. -/
theorem SlG.at {α : Type} {f : α → List Value} {k : Nat} {w : World} {a : Option Addr} {n c : Nat} {l : List α} (h : SlG k f w (.slice a n c) l) {i : Nat} {x : α} (hx : l[i]? = some x) : ∃ b off, a = some ⟨b, off, none⟩ ∧ b < w.heap.size ∧ ∀ r u, (f x)[r]? = some u → w.cell? ⟨b, off + i * k + r, none⟩ = some u := by
  obtain ⟨a', n', cap', b, off, e, h2, h3, h4, h5, h6⟩ := h
  cases e
  obtain ⟨p, q⟩ := h6 i x hx
  have hn : n ≠ 0 := by
    intro e
    rw [e] at h2
    have := List.length_eq_zero_iff.1 h2.symm
    subst this
    simp at hx
  exact ⟨b, off, h3.resolve_left hn, p, q⟩
theorem slG_lit {α : Type} {f : α → List Value} {k : Nat} (hf : ∀ x, (f x).length = k) (w : World) (T : TypeId) (l : List α) : SlG k f (w.alloc (.cells (cat f l).toArray T)) (.slice (some ⟨w.heap.size, 0, none⟩) l.length l.length) l := by
  refine ⟨_, _, _, w.heap.size, 0, rfl, rfl, .inr rfl, fun h => (by cases h), Nat.le_refl _, fun i x hx => ⟨by simp, fun r u hu => ?_⟩⟩
  have hr : r < k := by
    rcases Nat.lt_or_ge r (f x).length with h' | h'
    · rw [hf] at h'; exact h'
    · rw [List.getElem?_eq_none h'] at hu; cases hu
  have := cat_get hf l i r x hx hr
  rw [hu] at this
  rw [Nat.zero_add]
  have hb : (w.alloc (.cells (cat f l).toArray T)).heap[w.heap.size]? = some (.cells (cat f l).toArray T (0, 0)) := by unfold World.alloc; simp
  rw [Lib.cell_of_heap hb]
  simpa using this

set_option maxHeartbeats 4000000 in
theorem reversed_any (v : Value) (l : List (Int × Int)) (w : World) (h : SlT w v l) (hn : l.length ≤ 1000000) :
    Calls Try.prog 18 #[v] w (RetT w (revP l)) := by
  obtain ⟨ad, nn, cap, b, off, rfl, rfl, h3, h4, h5, h6⟩ := id h
  have H := Lib.hid h; have HN := Lib.hid hn
  clear h h3 h4 h5 h6
  go_enter Try.func18, Try.ntmps18
  go_wp2_with fail
  go_loopw [3, 4] (fun out i wr => ∃ (k : Nat), k ≤ l.length ∧ i = .int .i64 k ∧ Hid (OwnT w.heap.size wr out ((revP l).take k)) ∧ Hid (Ext w wr)) (fun _ i _ => l.length - (intOf i).toNat)
  case atStart => exact ⟨0, Nat.zero_le _, rfl, Lib.hid (OwnG.nil _ _ _), Lib.hid (Ext.refl w)⟩
  case round =>
    obtain ⟨k, hk, rfl, HO, HE⟩ := hrel
    by_cases hlt : k < l.length
    · obtain ⟨m, hmd⟩ : ∃ m, m = (l.length - k) % l.length := ⟨_, rfl⟩
      have hm : m < l.length := by rw [hmd]; exact Nat.mod_lt _ (by omega)
      have e1 : (((l.length : Int) - k) % (l.length : Int)) = (m : Int) := by
        rw [hmd, Int.natCast_emod, Int.natCast_sub (Nat.le_of_lt hlt)]
      obtain ⟨⟨x, y⟩, hxy⟩ : ∃ p, l[m]? = some p := ⟨l[m], by simp [hm]⟩
      have HT : Hid ((revP l).take k ++ [(x, y)] = (revP l).take (k + 1)) := Lib.hid (by
        rw [List.take_succ_eq_append_getElem (by rw [revP_len]; exact hlt)]
        congr 2
        simp [revP, ← hmd, hxy])
      have HK : Hid (((revP l).take k).length = k) := Lib.hid (by rw [List.length_take, revP_len]; exact Nat.min_eq_left hk)
      obtain ⟨b', off', he, hb', hc⟩ := H.out.at hxy
      cases he
      have c0 := (HE.out.cell (p := ⟨b', off' + m * 2 + 0, none⟩) hb').trans (hc 0 (.int .i64 x) rfl)
      have c1 := (HE.out.cell (p := ⟨b', off' + m * 2 + 1, none⟩) hb').trans (hc 1 (.int .i64 y) rfl)
      rw [Nat.add_zero] at c0
      have hl0 : ((l.length : Int) == 0) = false := by rw [beq_eq_false_iff_ne]; omega
      have hl1 : ¬ (l.length : Int) = 0 := by omega
      obtain ⟨X, hX, hbX, heX, -⟩ := row_alloc wr #[.int .i64 x, .int .i64 y] 29
      have HSX : Hid (SlT X (.slice (some ⟨wr.heap.size, 0, none⟩) 1 1) [(x, y)]) := Lib.hid (by rw [← hX]; exact slG_lit gC_len wr 29 [(x, y)])
      have HOX := Lib.hid (HO.out.later heX); have HEX := Lib.hid (HE.out.trans heX)
      have HBX : Hid (w.heap.size ≤ X.heap.size) := Lib.hid HEX.out.size
      have HM : Hid (((revP l).take k).length + [(x, y)].length ≤ maxLen) := Lib.hid (by rw [HK.out]; have := HN.out; unfold maxLen; simp; omega)
      have HB : Hid ((((revP l).take k).length + [(x, y)].length) * 16 ≤ 140737488355328) := Lib.hid (by rw [HK.out]; have := HN.out; simp; omega)
      clear hmd hxy hc hbX heX HO HE
      go_wp2_with ((at_builtin; refine appG_at rfl _ _ rfl Try.underlying22 Try.info_g2 rfl (by decide) gC_len gC_one w.heap.size _ _ ((revP l).take k) [(x, y)] rfl rfl HOX.out HSX.out HM.out HB.out HBX.out ?_; intro v6 w6 own6 hg6 hloc6))
      have E6 : Ext w w6 := HEX.out.grown hg6 (fun i hi => (HOX.out.base hi).1)
      rw [HT.out] at own6
      go_roundw
      case rel => exact ⟨k + 1, by omega, by go_num, Lib.hid own6, Lib.hid E6⟩
      case measure => simp [intOf]; omega
    · obtain rfl : k = l.length := by omega
      have ho := HO.out
      rw [List.take_of_length_le (by rw [revP_len]; exact Nat.le_refl _)] at ho
      have HO' := Lib.hid ho
      clear ho HO
      obtain ⟨a, c, rfl⟩ := HO'.out.form
      go_wp2_with fail
      go_ret
      exact ⟨_, _, _, rfl, HO'.out, HE.out⟩
end Go.Proofs.Ytlkhkldgmlfhkaa

namespace Go.Proofs.Ytlkhkldgmlfhkaa
open Go.RowKit
set_option maxRecDepth 8000

/-- The cells of a move. -/
def mC (z rate : Int) (p : Int × Int) : List Value := [.int .i64 2, .int .i64 p.1, .int .i64 p.2, .int .i64 z, .int .i64 0, .int .i64 0, .int .i64 rate]
theorem mC_len (z rate : Int) (p : Int × Int) : (mC z rate p).length = 7 := rfl
theorem mC_one (z rate : Int) (p : Int × Int) : ∀ u ∈ mC z rate p, u.oneCell' = true := by
  intro u hu
  simp only [mC, List.mem_cons, List.not_mem_nil, or_false] at hu
  rcases hu with rfl | rfl | rfl | rfl | rfl | rfl | rfl <;> rfl
theorem Try.info_mv : (Try.prog.info? 31).map (fun i => (i.zero, i.size, i.bytes)) = some (some (.agg #[.int .i64 0, .int .i64 0, .int .i64 0, .int .i64 0, .int .i64 0, .int .i64 0, .int .i64 0]), 7, 56) := by kernel_rfl
/-- Moves of the call's own are handed back. -/
def RetM (z rate : Int) (w : World) (l : List (Int × Int)) (e : Ending) (w' : World) : Prop := ∃ a n c, e = .returned (.slice a n c) ∧ OwnG w.heap.size 31 7 (mC z rate) w' (.slice a n c) l ∧ Ext w w'
/-- The positions behind, around the path. -/
def cycP (l : List (Int × Int)) : List (Int × Int) := (List.range l.length).map fun i => l.getD ((i + 1) % l.length) (0, 0)
theorem cycP_len (l : List (Int × Int)) : (cycP l).length = l.length := by simp [cycP]

set_option maxHeartbeats 4000000 in
theorem cclosed_any (v : Value) (l : List (Int × Int)) (z rate : Int) (w : World) (h : SlT w v l) (hn : l.length ≤ 1000000) :
    Calls Try.prog 7 #[v, .int .i64 z, .int .i64 rate] w (RetM z rate w (cycP l)) := by
  obtain ⟨ad, nn, cap, b, off, rfl, rfl, h3, h4, h5, h6⟩ := id h
  have H := Lib.hid h; have HN := Lib.hid hn
  clear h h3 h4 h5 h6
  go_enter Try.func7, Try.ntmps7
  go_wp2_with fail
  go_loopw [7, 12] (fun out i wr => ∃ (k : Nat), k ≤ l.length ∧ i = .int .i64 k ∧ Hid (OwnG w.heap.size 31 7 (mC z rate) wr out ((cycP l).take k)) ∧ Hid (Ext w wr)) (fun _ i _ => l.length - (intOf i).toNat)
  case atStart => exact ⟨0, Nat.zero_le _, rfl, Lib.hid (OwnG.nil _ _ _), Lib.hid (Ext.refl w)⟩
  case round =>
    obtain ⟨k, hk, rfl, HO, HE⟩ := hrel
    by_cases hlt : k < l.length
    · obtain ⟨m, hmd⟩ : ∃ m, m = (k + 1) % l.length := ⟨_, rfl⟩
      have hm : m < l.length := by rw [hmd]; exact Nat.mod_lt _ (by omega)
      have e1 : (((k : Int) + 1) % (l.length : Int)) = (m : Int) := by
        rw [hmd, Int.natCast_emod]; rfl
      obtain ⟨⟨x, y⟩, hxy⟩ : ∃ p, l[m]? = some p := ⟨l[m], by simp [hm]⟩
      have HT : Hid ((cycP l).take k ++ [(x, y)] = (cycP l).take (k + 1)) := Lib.hid (by
        rw [List.take_succ_eq_append_getElem (by rw [cycP_len]; exact hlt)]
        congr 2
        simp [cycP, ← hmd, hxy])
      have HK : Hid (((cycP l).take k).length = k) := Lib.hid (by rw [List.length_take, cycP_len]; exact Nat.min_eq_left hk)
      obtain ⟨b', off', he, hb', hc⟩ := H.out.at hxy
      cases he
      have c0 := (HE.out.cell (p := ⟨b', off' + m * 2 + 0, none⟩) hb').trans (hc 0 (.int .i64 x) rfl)
      have c1 := (HE.out.cell (p := ⟨b', off' + m * 2 + 1, none⟩) hb').trans (hc 1 (.int .i64 y) rfl)
      rw [Nat.add_zero] at c0
      have hl0 : ((l.length : Int) == 0) = false := by rw [beq_eq_false_iff_ne]; omega
      have hl1 : ¬ (l.length : Int) = 0 := by omega
      obtain ⟨W1, hW1, hb1, he1, -⟩ := row_alloc wr #[.int .i64 x, .int .i64 y] 29
      have hz1 : W1.heap.size = wr.heap.size + 1 := by rw [← hW1]; simp
      obtain ⟨X, hX, hbX, heX, -⟩ := row_alloc W1 #[.int .i64 2, .int .i64 x, .int .i64 y, .int .i64 z, .int .i64 0, .int .i64 0, .int .i64 rate] 31
      have g0 := Lib.cell_of_heap hb1 0; have g1 := Lib.cell_of_heap hb1 1
      simp only [List.getElem?_toArray, List.getElem?_cons_succ, List.getElem?_cons_zero] at g0 g1
      clear hmd hxy hc hb1 hz1
      have HSX : Hid (SlG 7 (mC z rate) X (.slice (some ⟨W1.heap.size, 0, none⟩) 1 1) [(x, y)]) := Lib.hid (by rw [← hX]; exact slG_lit (mC_len z rate) W1 31 [(x, y)])
      have HOX := Lib.hid (HO.out.later (he1.trans heX)); have HEX := Lib.hid (HE.out.trans (he1.trans heX))
      have HBX : Hid (w.heap.size ≤ X.heap.size) := Lib.hid HEX.out.size
      have HM : Hid (((cycP l).take k).length + [(x, y)].length ≤ maxLen) := Lib.hid (by rw [HK.out]; have := HN.out; unfold maxLen; simp; omega)
      have HB : Hid ((((cycP l).take k).length + [(x, y)].length) * 56 ≤ 140737488355328) := Lib.hid (by rw [HK.out]; have := HN.out; simp; omega)
      clear hbX heX he1 HO HE
      go_wp2_with ((at_builtin; refine appG_at rfl _ _ rfl Try.underlying25 Try.info_mv rfl (by decide) (mC_len z rate) (mC_one z rate) w.heap.size _ _ ((cycP l).take k) [(x, y)] rfl rfl HOX.out HSX.out HM.out HB.out HBX.out ?_; intro v6 w6 own6 hg6 hloc6))
      have E6 : Ext w w6 := HEX.out.grown hg6 (fun i hi => (HOX.out.base hi).1)
      rw [HT.out] at own6
      go_roundw
      case rel => exact ⟨k + 1, by omega, by go_num, Lib.hid own6, Lib.hid E6⟩
      case measure => simp [intOf]; omega
    · obtain rfl : k = l.length := by omega
      have ho := HO.out
      rw [List.take_of_length_le (by rw [cycP_len]; exact Nat.le_refl _)] at ho
      have HO' := Lib.hid ho
      clear ho HO
      obtain ⟨a, c, rfl⟩ := HO'.out.form
      go_wp2_with fail
      go_ret
      exact ⟨_, _, _, rfl, HO'.out, HE.out⟩

set_option maxHeartbeats 4000000 in
theorem next_any (v : Value) (l : List (Int × Int)) (k m : Nat) (x y : Int) (w : World) (h : SlT w v l) (hn : l.length ≤ 1000000) (hk : k < l.length) (hmd : m = (k + 1) % l.length) (hxy : l[m]? = some (x, y)) :
    Calls Try.prog 19 #[v, .int .i64 (k : Int)] w fun e w' => e = .returned (.agg #[.int .i64 x, .int .i64 y]) ∧ Ext w w' := by
  obtain ⟨ad, nn, cap, b, off, rfl, rfl, h3, h4, h5, h6⟩ := id h
  have e1 : (((k : Int) + 1) % (l.length : Int)) = (m : Int) := by
    rw [hmd, Int.natCast_emod]; rfl
  have hm : m < l.length := by rw [hmd]; exact Nat.mod_lt _ (by omega)
  obtain ⟨b', off', he, hb', hc⟩ := h.at hxy
  cases he
  have c0 := hc 0 (.int .i64 x) rfl
  have c1 := hc 1 (.int .i64 y) rfl
  rw [Nat.add_zero] at c0
  have hl0 : ((l.length : Int) == 0) = false := by rw [beq_eq_false_iff_ne]; omega
  have hl1 : ¬ (l.length : Int) = 0 := by omega
  clear h h3 h4 h5 h6 hc hmd hxy
  have d0 : ∀ o, (w.alloc o).cell? ⟨b', off' + m * 2, none⟩ = some (.int .i64 x) := fun o => (((Ext.refl w).alloc o).cell (p := ⟨b', off' + m * 2, none⟩) hb').trans c0
  have d1 : ∀ o, (w.alloc o).cell? ⟨b', off' + m * 2 + 1, none⟩ = some (.int .i64 y) := fun o => (((Ext.refl w).alloc o).cell (p := ⟨b', off' + m * 2 + 1, none⟩) hb').trans c1
  go_enter Try.func19, Try.ntmps19
  go_wp2_with fail
  exact bodyPost_ret (v := .agg #[.int .i64 x, .int .i64 y]) (by simp [results, Try.results19, go_sem]) rfl ⟨rfl, (Ext.refl w).alloc _⟩
set_option maxHeartbeats 4000000 in
theorem rclosed_any (v : Value) (l : List (Int × Int)) (z rate : Int) (w : World) (h : SlT w v l) (hn : l.length ≤ 1000000) :
    Calls Try.prog 9 #[v, .int .i64 z, .int .i64 rate] w (RetM z rate w (cycP l)) := by
  obtain ⟨ad, nn, cap, b, off, rfl, rfl, h3, h4, h5, h6⟩ := id h
  have H := Lib.hid h; have HN := Lib.hid hn
  clear h h3 h4 h5 h6
  go_enter Try.func9, Try.ntmps9
  go_wp2_with fail
  go_loopw [7, 8] (fun out i wr => ∃ (k : Nat), k ≤ l.length ∧ i = .int .i64 k ∧ Hid (OwnG w.heap.size 31 7 (mC z rate) wr out ((cycP l).take k)) ∧ Hid (Ext w wr)) (fun _ i _ => l.length - (intOf i).toNat)
  case atStart => exact ⟨0, Nat.zero_le _, rfl, Lib.hid (OwnG.nil _ _ _), Lib.hid (Ext.refl w)⟩
  case round =>
    obtain ⟨k, hk, rfl, HO, HE⟩ := hrel
    by_cases hlt : k < l.length
    · obtain ⟨m, hmd⟩ : ∃ m, m = (k + 1) % l.length := ⟨_, rfl⟩
      have hm : m < l.length := by rw [hmd]; exact Nat.mod_lt _ (by omega)
      have e1 : (((k : Int) + 1) % (l.length : Int)) = (m : Int) := by
        rw [hmd, Int.natCast_emod]; rfl
      obtain ⟨⟨x, y⟩, hxy⟩ : ∃ p, l[m]? = some p := ⟨l[m], by simp [hm]⟩
      have HT : Hid ((cycP l).take k ++ [(x, y)] = (cycP l).take (k + 1)) := Lib.hid (by
        rw [List.take_succ_eq_append_getElem (by rw [cycP_len]; exact hlt)]
        congr 2
        simp [cycP, ← hmd, hxy])
      have HK : Hid (((cycP l).take k).length = k) := Lib.hid (by rw [List.length_take, cycP_len]; exact Nat.min_eq_left hk)
      have HNX := Lib.hid (next_any _ l k m x y wr (H.out.later HE.out) HN.out hlt hmd hxy)
      clear hmd hxy e1
      go_wp2_with fail
      refine HNX.out.mono ?_
      rintro e w2 ⟨rfl, x2⟩
      obtain ⟨W1, hW1, hb1, he1', -⟩ := row_alloc w2 #[.int .i64 x, .int .i64 y] 29
      obtain ⟨X, hX, hbX, heX, -⟩ := row_alloc W1 #[.int .i64 2, .int .i64 x, .int .i64 y, .int .i64 z, .int .i64 0, .int .i64 0, .int .i64 rate] 31
      have g0 := Lib.cell_of_heap hb1 0; have g1 := Lib.cell_of_heap hb1 1
      simp only [List.getElem?_toArray, List.getElem?_cons_succ, List.getElem?_cons_zero] at g0 g1
      have he1 : Ext wr W1 := x2.trans he1'
      clear hb1 he1' HNX x2
      have HSX : Hid (SlG 7 (mC z rate) X (.slice (some ⟨W1.heap.size, 0, none⟩) 1 1) [(x, y)]) := Lib.hid (by rw [← hX]; exact slG_lit (mC_len z rate) W1 31 [(x, y)])
      have HOX := Lib.hid (HO.out.later (he1.trans heX)); have HEX := Lib.hid (HE.out.trans (he1.trans heX))
      have HBX : Hid (w.heap.size ≤ X.heap.size) := Lib.hid HEX.out.size
      have HM : Hid (((cycP l).take k).length + [(x, y)].length ≤ maxLen) := Lib.hid (by rw [HK.out]; have := HN.out; unfold maxLen; simp; omega)
      have HB : Hid ((((cycP l).take k).length + [(x, y)].length) * 56 ≤ 140737488355328) := Lib.hid (by rw [HK.out]; have := HN.out; simp; omega)
      clear hbX heX he1 HO HE
      go_wp2_with ((at_builtin; refine appG_at rfl _ _ rfl Try.underlying25 Try.info_mv rfl (by decide) (mC_len z rate) (mC_one z rate) w.heap.size _ _ ((cycP l).take k) [(x, y)] rfl rfl HOX.out HSX.out HM.out HB.out HBX.out ?_; intro v6 w6 own6 hg6 hloc6))
      have E6 : Ext w w6 := HEX.out.grown hg6 (fun i hi => (HOX.out.base hi).1)
      rw [HT.out] at own6
      go_roundw
      case rel => exact ⟨k + 1, by omega, by go_num, Lib.hid own6, Lib.hid E6⟩
      case measure => simp [intOf]; omega
    · obtain rfl : k = l.length := by omega
      have ho := HO.out
      rw [List.take_of_length_le (by rw [cycP_len]; exact Nat.le_refl _)] at ho
      have HO' := Lib.hid ho
      clear ho HO
      obtain ⟨a, c, rfl⟩ := HO'.out.form
      go_wp2_with fail
      go_ret
      exact ⟨_, _, _, rfl, HO'.out, HE.out⟩
end Go.Proofs.Ytlkhkldgmlfhkaa

namespace Go.Proofs.Ytlkhkldgmlfhkaa
open Go.RowKit
set_option maxRecDepth 8000

set_option maxHeartbeats 1000000 in
theorem cloneT_any (v : Value) (l : List (Int × Int)) (w : World) (h : SlT w v l) (hn : l.length ≤ 1000000) :
    Calls Try.prog 8 #[v] w (RetT w l) := by
  obtain ⟨ad, n, cap, b, off, rfl, rfl, h3, h4, h5, h6⟩ := id h
  cases ad with
  | none =>
    have h0 : l.length = 0 := h3.resolve_right (by simp)
    obtain rfl := List.length_eq_zero_iff.1 h0
    obtain rfl := h4 rfl
    clear h h3 h4 h5 h6 h0
    have hq := fun w => Lib.run_eql_slice_nil (P := Try.prog) w 22 29 none 0 0 0 0 Try.underlying22
    go_enter Try.func8, Try.ntmps8
    go_wp2_with fail
    go_ret
    exact ⟨_, _, _, rfl, OwnG.nil _ _ _, Ext.refl w⟩
  | some ad =>
    have hq := fun w => Lib.run_eql_slice_nil (P := Try.prog) w 22 29 (some ad) l.length cap 0 0 Try.underlying22
    have hown0 : OwnT w.heap.size (w.alloc (.cells #[] 29)) (.slice (some ⟨w.heap.size, 0, none⟩) 0 0) [] := World.ownsRow_lit (base := w.heap.size) (e := 29) (size := 2) w #[] 0 (Nat.le_refl _) (by decide) rfl
    have HO := Lib.hid hown0
    have HS := Lib.hid (h.later ((Ext.refl w).alloc (.cells #[] 29)))
    have HM : Hid (([] : List (Int × Int)).length + l.length ≤ maxLen) := Lib.hid (by unfold maxLen; simp; omega)
    have HB : Hid ((([] : List (Int × Int)).length + l.length) * 16 ≤ 140737488355328) := Lib.hid (by simp; omega)
    clear hown0 h h3 h4 h5 h6
    go_enter Try.func8, Try.ntmps8
    go_wp2_with ((at_builtin; refine appG_at rfl _ _ rfl Try.underlying22 Try.info_g2 rfl (by decide) gC_len gC_one w.heap.size _ _ [] l rfl rfl HO.out HS.out HM.out HB.out (by simp) ?_; intro v6 w6 own6 hg6 hloc6))
    have E6 : Ext w w6 := ((Ext.refl w).alloc _).grown hg6 (fun i hi => by cases hi; exact Nat.le_refl _)
    rw [List.nil_append] at own6
    obtain ⟨a, c, rfl⟩ := own6.form
    go_ret
    exact ⟨_, _, _, rfl, own6, E6⟩

def Mv7 (z rate x y : Int) : Value := .agg #[.int .i64 2, .int .i64 x, .int .i64 y, .int .i64 z, .int .i64 0, .int .i64 0, .int .i64 rate]
theorem Try.neq_mv (z rate x y : Int) (w : World) : (binOp .neq 31 (Mv7 z rate x y) (Mv7 z rate x y)).run Try.prog w = .ok (.bool false) w := by simp [go_sem, Mv7]

set_option maxHeartbeats 4000000 in
theorem equalM_any (v v' : Value) (l : List (Int × Int)) (z rate : Int) (w : World) (h : SlG 7 (mC z rate) w v l) (h' : SlG 7 (mC z rate) w v' l) (hn : l.length ≤ 1000000) :
    Calls Try.prog 6 #[v, v'] w fun e w' => e = .returned (.bool true) ∧ Ext w w' := by
  obtain ⟨ad, nn, cap, b, off, rfl, rfl, -⟩ := id h
  obtain ⟨ad', nn', cap', b', off', rfl, rfl, -⟩ := id h'
  have H := Lib.hid h; have H' := Lib.hid h'; have HN := Lib.hid hn
  have hq : ((l.length : Int) != l.length) = false := by simp
  clear h h'
  go_enter Try.func6, Try.ntmps6
  go_wp2_with fail
  go_loopw [13] (fun i wr => ∃ (k : Nat), k ≤ l.length ∧ i = .int .i64 k ∧ Hid (Ext w wr)) (fun i _ => l.length - (intOf i).toNat)
  case atStart => exact ⟨0, Nat.zero_le _, rfl, Lib.hid (Ext.refl w)⟩
  case round =>
    obtain ⟨k, hk, rfl, HE⟩ := hrel
    by_cases hlt : k < l.length
    · obtain ⟨⟨x, y⟩, hxy⟩ : ∃ p, l[k]? = some p := ⟨l[k], by simp [hlt]⟩
      obtain ⟨g1, o1, he, hb1, hc⟩ := H.out.at hxy
      cases he
      obtain ⟨g2, o2, he, hb2, hd⟩ := H'.out.at hxy
      cases he
      have C : ∀ r u, (mC z rate (x, y))[r]? = some u → ∀ q : Later wr, q.w.cell? ⟨g1, o1 + k * 7 + r, none⟩ = some u := fun r u hu => Later.cell ((HE.out.cell (p := ⟨g1, o1 + k * 7 + r, none⟩) hb1).trans (hc r u hu))
      have D : ∀ r u, (mC z rate (x, y))[r]? = some u → ∀ q : Later wr, q.w.cell? ⟨g2, o2 + k * 7 + r, none⟩ = some u := fun r u hu => Later.cell ((HE.out.cell (p := ⟨g2, o2 + k * 7 + r, none⟩) hb2).trans (hd r u hu))
      have c0 := C 0 (.int .i64 2) rfl; have c1 := C 1 (.int .i64 x) rfl; have c2 := C 2 (.int .i64 y) rfl; have c3 := C 3 (.int .i64 z) rfl; have c4 := C 4 (.int .i64 0) rfl; have c5 := C 5 (.int .i64 0) rfl; have c6 := C 6 (.int .i64 rate) rfl
      have d0 := D 0 (.int .i64 2) rfl; have d1 := D 1 (.int .i64 x) rfl; have d2 := D 2 (.int .i64 y) rfl; have d3 := D 3 (.int .i64 z) rfl; have d4 := D 4 (.int .i64 0) rfl; have d5 := D 5 (.int .i64 0) rfl; have d6 := D 6 (.int .i64 rate) rfl
      rw [Nat.add_zero] at c0 d0
      have hne := fun w => Try.neq_mv z rate x y w
      unfold Mv7 at hne
      clear C D hc hd hxy
      go_wp2_with fail
      refine wp_region_later (by kernel_rfl) (by kernel_rfl) ?_
      repeat (go_big_quiet_step (fail))
      refine wpQuiet_nil ?_
      rintro _ ⟨q, rfl⟩
      have HE2 := Lib.hid (HE.out.trans q.ext)
      clear c0 c1 c2 c3 c4 c5 c6 d0 d1 d2 d3 d4 d5 d6 hne
      go_wp2_with fail
      go_roundw
      case rel => exact ⟨k + 1, by omega, by go_num, HE2⟩
      case measure => simp [intOf]; omega
    · obtain rfl : k = l.length := by omega
      go_wp2_with fail
      go_ret
      exact ⟨rfl, HE.out⟩
end Go.Proofs.Ytlkhkldgmlfhkaa

namespace Go.Proofs.Ytlkhkldgmlfhkaa
open Go.RowKit
set_option maxRecDepth 8000

abbrev B0 : Vc.Bs := ⟨0, [], [], []⟩
/-- The value v reads as a vector. -/
def IsV (w : World) (x y : Rat) (v : Value) : Prop := Vc.relK B0 w (.g [.R x, .R y]) v
theorem IsV.later {w w' : World} {x y : Rat} {v : Value} (h : IsV w x y v) (he : Ext w w') : IsV w' x y v := (Vc.Keep.ext he).relK h
theorem slP_of {w : World} {v : Value} {l : List (Int × Int)} (h : SlT w v l) : Vc.SlP w.heap.size w v l := by
  obtain ⟨a, n, cap, b, off, rfl, rfl, h3, h4, h5, h6⟩ := h
  refine ⟨a, cap, b, off, rfl, h3, h4, h5, fun i x hx => ?_⟩
  obtain ⟨p, q⟩ := h6 i x hx
  exact ⟨p, p, by have := q 0 (.int .i64 x.1) rfl; simpa using this, q 1 (.int .i64 x.2) rfl⟩
theorem wvec07 (m n : Int) (w : World) (h : (-9223372036854775808 ≤ m ∧ m ≤ 9223372036854775807) ∧ -9223372036854775808 ≤ n ∧ n ≤ 9223372036854775807) :
    Calls Try.prog 17 #[.int .i64 m, .int .i64 n] w fun e w' => ∃ v, e = .returned v ∧ Ext w w' ∧ IsV w' m n v :=
  Vc.cKvec07_ok.yes B0 w [.c (.v (.int .i64 m)), .c (.v (.int .i64 n))] [.int .i64 m, .int .i64 n] _ _ ⟨⟨rfl, rfl⟩, ⟨rfl, rfl⟩, trivial⟩ rfl rfl rfl h
theorem wwind (p v : Value) (l : List (Int × Int)) (x y : Rat) (w : World) (hp : SlT w p l) (hv : IsV w x y v) (h : Rt.okp l ∧ Vc.szR x ≤ 90 ∧ Vc.szR y ≤ 90) :
    Calls Try.prog 15 #[p, v] w fun e w' => e = .returned (.tuple #[.int .i64 (Rt.windN l ⟨x, y⟩), .int .i64 (Rt.windE l ⟨x, y⟩)]) ∧ Ext w w' := by
  refine (Vc.cCwind_ok.yes ⟨w.heap.size, [], [], []⟩ w [.c (.pt l), .g [.R x, .R y]] [p, v] _ _ ⟨slP_of hp, Vc.nobxK_rel rfl rfl rfl hv, trivial⟩ rfl rfl rfl h).mono ?_
  rintro e w' ⟨v', rfl, hx, us, rfl, hr⟩
  match us, hr with
  | [u1, u2], hr =>
    obtain ⟨⟨rfl, _⟩, ⟨rfl, _⟩, _⟩ := hr
    exact ⟨rfl, hx⟩
theorem wcov (q v : Value) (ps : List (List (Int × Int))) (r : Int) (x y : Rat) (w : World) (hq : Vc.SlQ w.heap.size w q ps) (hv : IsV w x y v) (h : (∀ j, Rt.okp (ps.getD j [])) ∧ ps.length ≤ 1000000000 ∧ (-9223372036854775808 ≤ r ∧ r ≤ 9223372036854775807) ∧ Vc.szR x ≤ 90 ∧ Vc.szR y ≤ 90) :
    Calls Try.prog 16 #[q, .int .i64 r, v] w fun e w' => e = .returned (.bool (Rt.covB ps r ⟨x, y⟩)) ∧ Ext w w' := by
  refine (Vc.cCcov_ok.yes ⟨w.heap.size, [], [], []⟩ w [.c (.pp ps), .c (.v (.int .i64 r)), .g [.R x, .R y]] [q, .int .i64 r, v] _ _ ⟨hq, ⟨rfl, rfl⟩, Vc.nobxK_rel rfl rfl rfl hv, trivial⟩ rfl rfl rfl h).mono ?_
  rintro e w' ⟨v', rfl, hx, rfl, _⟩
  exact ⟨rfl, hx⟩

theorem ex1 : Rt.windN [(0, 0), (10, 0), (10, 10)] ⟨((8 : Int) : Rat), ((2 : Int) : Rat)⟩ = 1 := by kernel_rfl
theorem ex2 : Rt.windE [(0, 0), (10, 0), (10, 10)] ⟨((8 : Int) : Rat), ((2 : Int) : Rat)⟩ = 0 := by kernel_rfl
theorem ex3 : Rt.windN [(0, 0), (10, 10), (10, 0)] ⟨((8 : Int) : Rat), ((2 : Int) : Rat)⟩ = -1 := by kernel_rfl
theorem ex4 : Rt.windE [(0, 0), (10, 10), (10, 0)] ⟨((8 : Int) : Rat), ((2 : Int) : Rat)⟩ = 0 := by kernel_rfl
theorem ex5 : Rt.windN [(0, 0), (10, 0), (10, 10)] ⟨((2 : Int) : Rat), ((8 : Int) : Rat)⟩ = 0 := by kernel_rfl
theorem ex6 : Rt.windE [(0, 0), (10, 0), (10, 10)] ⟨((2 : Int) : Rat), ((8 : Int) : Rat)⟩ = 0 := by kernel_rfl
theorem ex7 : Rt.covB [[(0, 0), (10, 0), (10, 10)]] 1 ⟨((5 : Int) : Rat), ((-1 : Int) : Rat)⟩ = true := by kernel_rfl
theorem ex_rev : Rt.revP [(0, 0), (10, 0), (10, 10)] = [(0, 0), (10, 10), (10, 0)] := by decide
end Go.Proofs.Ytlkhkldgmlfhkaa

namespace Go.Proofs.Ytlkhkldgmlfhkaa
open Go.RowKit
set_option maxRecDepth 8000

theorem okp_small (l : List (Int × Int)) (h : ∀ p ∈ l, (-1000000000 ≤ p.1 ∧ p.1 ≤ 1000000000) ∧ -1000000000 ≤ p.2 ∧ p.2 ≤ 1000000000) (hn : l.length ≤ 1000000000) : Rt.okp l := by
  refine ⟨fun k => ?_, hn⟩
  rcases Nat.lt_or_ge k l.length with hk | hk
  · have e : l.getD k (0, 0) = l[k] := by simp [List.getD_eq_getElem?_getD, hk]
    have := h l[k] (List.getElem_mem hk)
    rw [e]
    omega
  · have e : l.getD k (0, 0) = (0, 0) := by simp [List.getD_eq_getElem?_getD, hk]
    rw [e]
    exact ⟨⟨by decide, by decide⟩, by decide, by decide⟩
theorem okp_ex : Rt.okp [(0, 0), (10, 0), (10, 10)] := okp_small _ (by decide) (by decide)
theorem okp_ex2 : Rt.okp [(0, 0), (10, 10), (10, 0)] := okp_small _ (by decide) (by decide)
theorem sz_ex (n : Int) (h : n.natAbs < 1000000000) : Vc.szR (n : Rat) ≤ 90 := by
  have h1 : szI ((n : Rat).num) ≤ 1 := szI_le (by simpa [Lb.B] using h)
  have h2 : szI (((n : Rat).den : Nat) : Int) ≤ 1 := szI_le (by simp [Lb.B])
  unfold Vc.szR
  omega

set_option maxHeartbeats 16000000 in
theorem awake31_any (w : World) : Calls Try.prog 5 #[] w fun e w' => e = .returned (.bool true) ∧ Ext w w' := by
  obtain ⟨W0, hW0, hb0, hE0, -⟩ := row_alloc w #[.int .i64 0, .int .i64 0, .int .i64 10, .int .i64 0, .int .i64 10, .int .i64 10] 29
  have HP : Hid (SlT W0 (.slice (some ⟨w.heap.size, 0, none⟩) 3 3) [(0, 0), (10, 0), (10, 10)]) := Lib.hid (by rw [← hW0]; exact slG_lit gC_len w 29 [(0, 0), (10, 0), (10, 10)])
  have HE0 := Lib.hid hE0
  have k8 := sz_ex 8 (by decide); have k2 := sz_ex 2 (by decide); have k5 := sz_ex 5 (by decide); have k1 := sz_ex (-1) (by decide)
  have K8 := Lib.hid k8; have K2 := Lib.hid k2; have K5 := Lib.hid k5; have K1 := Lib.hid k1
  clear hb0 hE0 k8 k2 k5 k1
  go_enter Try.func5, Try.ntmps5
  go_wp2_with fail
  refine (wvec07 8 2 _ (by decide)).mono ?_
  rintro e w1 ⟨v1, rfl, x1, i1⟩
  have HP1 := Lib.hid (HP.out.later x1); have HX1 := Lib.hid x1; have HI1 := Lib.hid i1
  clear x1 i1
  go_wp2_with fail
  refine (wwind _ _ _ _ _ _ HP1.out HI1.out ⟨okp_ex, K8.out, K2.out⟩).mono ?_
  rintro e w2 ⟨rfl, x2⟩
  rw [ex1, ex2]
  have HP2 := Lib.hid (HP1.out.later x2); have HX2 := Lib.hid (HX1.out.trans x2)
  clear x2
  go_wp2_with fail
  refine (reversed_any _ _ _ HP2.out (by decide)).mono ?_
  rintro e w3 ⟨a3, n3, c3, rfl, o3, x3⟩
  have s3 := o3.sl gC_len
  rw [ex_rev] at s3
  have HS3 := Lib.hid s3; have HP3 := Lib.hid (HP2.out.later x3); have HX3 := Lib.hid (HX2.out.trans x3)
  clear o3 s3 x3
  go_wp2_with fail
  refine (wvec07 8 2 _ (by decide)).mono ?_
  rintro e w4 ⟨v4, rfl, x4, i4⟩
  have HS4 := Lib.hid (HS3.out.later x4); have HP4 := Lib.hid (HP3.out.later x4); have HX4 := Lib.hid (HX3.out.trans x4); have HI4 := Lib.hid i4
  clear x4 i4
  go_wp2_with fail
  refine (wwind _ _ _ _ _ _ HS4.out HI4.out ⟨okp_ex2, K8.out, K2.out⟩).mono ?_
  rintro e w5 ⟨rfl, x5⟩
  rw [ex3, ex4]
  have HP5 := Lib.hid (HP4.out.later x5); have HX5 := Lib.hid (HX4.out.trans x5)
  clear x5
  go_wp2_with fail
  refine (wvec07 2 8 _ (by decide)).mono ?_
  rintro e w6 ⟨v6, rfl, x6, i6⟩
  have HP6 := Lib.hid (HP5.out.later x6); have HX6 := Lib.hid (HX5.out.trans x6); have HI6 := Lib.hid i6
  clear x6 i6
  go_wp2_with fail
  refine (wwind _ _ _ _ _ _ HP6.out HI6.out ⟨okp_ex, K2.out, K8.out⟩).mono ?_
  rintro e w7 ⟨rfl, x7⟩
  rw [ex5, ex6]
  have HP7 := Lib.hid (HP6.out.later x7); have HX7 := Lib.hid (HX6.out.trans x7)
  clear x7
  go_wp2_with fail
  refine (cclosed_any _ _ (-5) 100 _ HP7.out (by decide)).mono ?_
  rintro e w8 ⟨a8, n8, c8, rfl, o8, x8⟩
  have HP8 := Lib.hid (HP7.out.later x8); have HX8 := Lib.hid (HX7.out.trans x8)
  have s8 := o8.sl (mC_len (-5) 100)
  have hn8 : n8 = 3 := s8.len
  subst hn8
  obtain ⟨g8, f8, rfl, hg8, hc8⟩ := s8.at (i := 2) (x := (0, 0)) (by decide)
  have c80 := hc8 1 (.int .i64 0) rfl; have c81 := hc8 2 (.int .i64 0) rfl; have c82 := hc8 3 (.int .i64 (-5)) rfl
  obtain ⟨X9, hX9, hb9, hE9, -⟩ := row_alloc w8 #[.slice (some ⟨w.heap.size, 0, none⟩) 3 3] 22
  have g9 := Lib.cell_of_heap hb9 0
  simp only [List.getElem?_toArray, List.getElem?_cons_zero] at g9
  have HG9 := Lib.hid g9; have HX9 := Lib.hid (HX8.out.trans hE9); have HP9 := Lib.hid (HP8.out.later hE9)
  have HZ9 : Hid (w8.heap.size < X9.heap.size) := Lib.hid (by rw [← hX9]; simp)
  clear o8 s8 hc8 x8 g9 hE9
  go_wp2_with fail
  refine (wvec07 5 (-1) _ (by decide)).mono ?_
  rintro e w10 ⟨v10, rfl, x10, i10⟩
  have HQ : Hid (Vc.SlQ w10.heap.size w10 (.slice (some ⟨w8.heap.size, 0, none⟩) 1 1) [[(0, 0), (10, 0), (10, 10)]]) := Lib.hid (by
    refine ⟨_, 1, w8.heap.size, 0, rfl, .inr rfl, fun h => (by cases h), Nat.le_refl _, fun i x hx => ?_⟩
    have hlt : w8.heap.size < w10.heap.size := Nat.lt_of_lt_of_le HZ9.out x10.size
    match i, hx with
    | 0, hx =>
      simp only [List.getElem?_cons_zero, Option.some.injEq] at hx
      subst hx
      exact ⟨hlt, hlt, _, (x10.cell (p := ⟨w8.heap.size, 0, none⟩) HZ9.out).trans HG9.out, slP_of (HP9.out.later x10)⟩)
  have HI10 := Lib.hid i10; have HX10 := Lib.hid (HX9.out.trans x10)
  clear x10 i10
  go_wp2_with fail
  refine (wcov _ _ _ _ _ _ _ HQ.out HI10.out ⟨fun j => ?_, by decide, by decide, K5.out, K1.out⟩).mono ?_
  · match j with
    | 0 => exact okp_ex
    | j + 1 => exact okp_small [] (by simp) (by simp)
  rintro e w11 ⟨rfl, x11⟩
  rw [ex7]
  go_wp2_with fail
  go_ret
  exact ⟨rfl, HE0.out.trans (HX10.out.trans x11)⟩
end Go.Proofs.Ytlkhkldgmlfhkaa

namespace Go.Proofs.Ytlkhkldgmlfhkaa
open Go.RowKit
namespace Vc
/-- What a valid integer looks like. -/
def validL (b : Bool) (l : List Nat) : Bool := l.all (fun x => decide (x < 1000000000)) && (decide ((Lb.trim l).length = l.length) && (!b || decide (0 < l.length)))
theorem validL_spec {b : Bool} {l : List Nat} (h : validL b l = true) : Lb.Norm l ∧ b = decide (sgn b (Lb.val l) < 0) ∧ l = Lb.limbs (sgn b (Lb.val l)).natAbs := by
  unfold validL at h
  simp only [Bool.and_eq_true, List.all_eq_true, decide_eq_true_eq, Bool.or_eq_true, Bool.not_eq_true'] at h
  obtain ⟨h1, h2, h3⟩ := h
  have hl : Lb.Lt l := fun x hx => by rw [Lb.B_eq]; exact h1 x hx
  have ht : Lb.trim l = l := by rw [Lb.trim_take l, h2, List.take_length]
  have hn : Lb.Norm l := by rw [← ht]; exact Lb.norm_trim hl
  refine ⟨hn, ?_, ?_⟩
  · rw [sgn_neg]
    have : Lb.val l = 0 → l = [] := fun e => Lb.norm_zero hn e
    cases b with
    | false => rfl
    | true =>
      have h4 : 0 < l.length := by simpa using h3
      have : 0 < Lb.val l := by
        rcases Nat.eq_zero_or_pos (Lb.val l) with e | e
        · rw [this e] at h4; simp at h4
        · exact e
      simp [this]
  · rw [sgn_natAbs]
    exact Lb.norm_eq hn
def cWvalid : Ctr := ⟨58, fun | [.g [.v (.bool (b)), .sl (l)]] => .yes (l.length ≤ 1000000000) (.k (.c (.v (.bool (validL b l))))) | _ => .no⟩
theorem cWvalid_owes (b : Bool) (l : List Nat) (hp : l.length ≤ 1000000000) : owes LT ST4 [.inv 2 (Nat) (fun ξ => ⟨[.u, .k (.c (.bx 0 0)), .u, .k (.c (.v (.int .i64 ((ξ : Int))))), .u, .u, .u, .u, .u, .u, .u, .u, .u, .u, .u, .u, .u, .u, .u, .u, .u, .u, .u, .u, .u, .u, .u, .u, .u, .u, .u, .u, .u, .u, .u, .u], [⟨37, [.v (.bool (b)), .sl (l)]⟩]⟩) (fun _ ξ => (ξ ≤ l.length ∧ ∀ i, i < ξ → l.getD i 0 < 1000000000)) (fun ξ => l.length - ξ)] Try.f58 (Try.f58.body.getD .skip) [.g [.v (.bool (b)), .sl (l)]] (.k (.c (.v (.bool (validL b l))))) := by
  refine Eq.mp (show ((∃ x1 : Nat, (((x1 ≤ l.length ∧ ∀ i, i < x1 → l.getD i 0 < 1000000000)) ∧ (((True) ∧ ((Value.int .i64 ((0 : Int)) = (.int .i64 ((x1 : Int)))) ∧ (True))) ∧ (((Value.bool (b) = (.bool (b))) ∧ ((l = l) ∧ (True))) ∧ (True))))) ∧ (∀ x1 : Nat, ((x1 ≤ l.length ∧ ∀ i, i < x1 → l.getD i 0 < 1000000000) → (((decide (((x1 : Int)) < (((l).length : Int)))) = true → ((0 ≤ (x1 : Int) ∧ (x1 : Int) < ((l).length : Int)) ∧ (((decide (((((l).getD ((x1 : Int)).toNat 0 : Nat) : Int)) ≥ ((1000000000 : Int)))) = true → (Value.bool (false) = (.bool (validL b l)))) ∧ ((decide (((((l).getD ((x1 : Int)).toNat 0 : Nat) : Int)) ≥ ((1000000000 : Int)))) = false → ((inR .i64 (((x1 : Int)) + ((1 : Int)))) ∧ (∃ y1 : Nat, (((y1 ≤ l.length ∧ ∀ i, i < y1 → l.getD i 0 < 1000000000)) ∧ ((l.length - y1 < l.length - x1) ∧ (((True) ∧ ((Value.int .i64 (((x1 : Int)) + ((1 : Int))) = (.int .i64 ((y1 : Int)))) ∧ (True))) ∧ (((Value.bool (b) = (.bool (b))) ∧ ((l = l) ∧ (True))) ∧ (True))))))))))) ∧ ((decide (((x1 : Int)) < (((l).length : Int)))) = false → (((l).length ≤ 1000000000) ∧ (Value.bool (bif (((((Lb.trim (l))).length : Int)) == (((l).length : Int))) then (bif (!(b)) then (true) else (decide ((((l).length : Int)) > ((0 : Int))))) else (false)) = (.bool (validL b l))))))))) = owes LT ST4 [.inv 2 (Nat) (fun ξ => ⟨[.u, .k (.c (.bx 0 0)), .u, .k (.c (.v (.int .i64 ((ξ : Int))))), .u, .u, .u, .u, .u, .u, .u, .u, .u, .u, .u, .u, .u, .u, .u, .u, .u, .u, .u, .u, .u, .u, .u, .u, .u, .u, .u, .u, .u, .u, .u, .u], [⟨37, [.v (.bool (b)), .sl (l)]⟩]⟩) (fun _ ξ => (ξ ≤ l.length ∧ ∀ i, i < ξ → l.getD i 0 < 1000000000)) (fun ξ => l.length - ξ)] Try.f58 (Try.f58.body.getD .skip) [.g [.v (.bool (b)), .sl (l)]] (.k (.c (.v (.bool (validL b l))))) by kernel_rfl) ?_
  refine ⟨⟨0, ⟨Nat.zero_le _, fun i hi => absurd hi (by omega)⟩, by simp, by simp, trivial⟩, ?_⟩
  rintro k ⟨hk, hall⟩
  refine ⟨fun h => ?_, fun h => ?_⟩
  · have hkl : k < l.length := by simpa using h
    have ea : l.getD k 0 = l[k] := by simp [List.getD_eq_getElem?_getD, hkl]
    simp only [Int.toNat_natCast, ea]
    refine ⟨⟨by omega, by omega⟩, fun c => ?_, fun c => ⟨by simp only [inR]; omega, k + 1, ⟨hkl, fun i hi => ?_⟩, by omega, by simp, by simp, trivial⟩⟩
    · have hx := of_decide_eq_true c
      have hA : l.all (fun x => decide (x < 1000000000)) = false := by
        rw [List.all_eq_false]
        exact ⟨l[k], List.getElem_mem hkl, by simp; omega⟩
      simp [validL, hA]
    · rcases Nat.lt_or_ge i k with h' | h'
      · exact hall i h'
      · obtain rfl : i = k := by omega
        rw [ea]
        have := of_decide_eq_false c
        omega
  · have hkl : k = l.length := by
      have := of_decide_eq_false h
      omega
    subst hkl
    refine ⟨hp, ?_⟩
    have hA : l.all (fun x => decide (x < 1000000000)) = true := by
      rw [List.all_eq_true]
      intro x hx
      obtain ⟨i, hi, rfl⟩ := List.mem_iff_getElem.1 hx
      have := hall i hi
      have ea : l.getD i 0 = l[i] := by simp [List.getD_eq_getElem?_getD, hi]
      rw [ea] at this
      simpa using this
    have e1 : (((Lb.trim l).length : Int) == (l.length : Int)) = decide ((Lb.trim l).length = l.length) := by
      rw [Bool.eq_iff_iff]; simp; omega
    have e2 : decide ((l.length : Int) > 0) = decide (0 < l.length) := by rw [decide_eq_decide]; omega
    unfold validL
    rw [hA, e1, e2]
    cases decide ((Lb.trim l).length = l.length) <;> cases b <;> cases decide (0 < l.length) <;> rfl
theorem cWvalid_ok : CtrOK Try.prog cWvalid := .of (by kernel_rfl) (fun bs w xs vs pre r hr hA hG h hp => by
  simp only [cWvalid] at h
  split at h
  · cases h
    exact ctr_calls mixed LT_ok ST4_ok Try.func58 (by kernel_rfl) hr hA hG rfl rfl (cWvalid_owes _ _ hp)
  · cases h) (fun xs α pre φ r => by simp only [cWvalid]; split <;> (intro h; cases h))
def cWsign : Ctr := ⟨59, fun | [.g [.v (.bool (b)), .sl (l)]] => .yes (True) (.k (.c (.v (.int .i64 ((if l = [] then 0 else if b then -1 else 1)))))) | _ => .no⟩
theorem cWsign_owes (b : Bool) (l : List Nat) : owes LT ST4 [] Try.f59 (Try.f59.body.getD .skip) [.g [.v (.bool (b)), .sl (l)]] (.k (.c (.v (.int .i64 ((if l = [] then 0 else if b then -1 else 1)))))) := by
  refine Eq.mp (show ((((((l).length : Int)) == ((0 : Int))) = true → (Value.int .i64 ((0 : Int)) = (.int .i64 ((if l = [] then 0 else if b then -1 else 1))))) ∧ (((((l).length : Int)) == ((0 : Int))) = false → (((b) = true → (Value.int .i64 ((-1 : Int)) = (.int .i64 ((if l = [] then 0 else if b then -1 else 1))))) ∧ ((b) = false → (Value.int .i64 ((1 : Int)) = (.int .i64 ((if l = [] then 0 else if b then -1 else 1)))))))) = owes LT ST4 [] Try.f59 (Try.f59.body.getD .skip) [.g [.v (.bool (b)), .sl (l)]] (.k (.c (.v (.int .i64 ((if l = [] then 0 else if b then -1 else 1)))))) by kernel_rfl) ?_
  rcases l with _ | ⟨x, l⟩
  · exact ⟨fun _ => rfl, fun h => by simp at h⟩
  · refine ⟨fun h => ?_, fun _ => ⟨fun h => ?_, fun h => ?_⟩⟩
    · exfalso
      have : ((x :: l).length : Int) = 0 := by simpa using h
      simp only [List.length_cons] at this
      omega
    · subst h; rfl
    · subst h; rfl
theorem cWsign_ok : CtrOK Try.prog cWsign := .of (by kernel_rfl) (fun bs w xs vs pre r hr hA hG h hp => by
  simp only [cWsign] at h
  split at h
  · cases h
    exact ctr_calls mixed LT_ok ST4_ok Try.func59 (by kernel_rfl) hr hA hG rfl rfl (cWsign_owes _ _)
  · cases h) (fun xs α pre φ r => by simp only [cWsign]; split <;> (intro h; cases h))
def cWgcd : Ctr := ⟨61, fun | [.g [.v (.bool b), .sl l], .g [.v (.bool c), .sl m]] => .yes ((validL b l = true ∧ validL c m = true) ∧ l.length ≤ 5000000 ∧ m.length ≤ 5000000) (.k (.g [.I ((Int.gcd (sgn b (Lb.val l)) (sgn c (Lb.val m)) : Nat) : Int)])) | _ => .no⟩
theorem raw_I {bs : Bs} {w : World} {b : Bool} {l : List Nat} {u : Value} (h : validL b l = true) (k : relK bs w (.g [.v (.bool b), .sl l]) u) : relK bs w (.g [.I (sgn b (Lb.val l))]) u := by
  obtain ⟨us, rfl, k⟩ := k
  obtain ⟨_, h1, h2⟩ := validL_spec h
  refine ⟨us, rfl, ?_⟩
  match us, k with
  | [u1, u2], k =>
    obtain ⟨⟨rfl, k1⟩, k2, _⟩ := k
    exact ⟨⟨by rw [← h1], rfl⟩, by rw [← h2]; exact k2, trivial⟩
theorem szI_raw {b : Bool} {l : List Nat} (h : validL b l = true) : szI (sgn b (Lb.val l)) = l.length := by
  have := (validL_spec h).2.2
  unfold szI
  rw [← this]
theorem cWgcd_ok : CtrOK Try.prog cWgcd := .of (by kernel_rfl) (fun bs w xs vs pre r hr hA hG h hp => by
  simp only [cWgcd] at h
  split at h
  · cases h
    obtain ⟨u, v, rfl, h1, h2⟩ := relKs_two hr
    exact cJgcd_ok.yes bs w [.g [.I _], .g [.I _]] [u, v] _ _ ⟨raw_I hp.1.1 h1, raw_I hp.1.2 h2, trivial⟩ hA hG rfl ⟨by rw [szI_raw hp.1.1]; exact hp.2.1, by rw [szI_raw hp.1.2]; exact hp.2.2⟩
  · cases h) (fun xs α pre φ r => by simp only [cWgcd]; split <;> (intro h; cases h))
def WT0 : List Ctr := [cWvalid, cWsign, cWgcd]
theorem WT0_ok : ∀ c ∈ WT0, CtrOK Try.prog c := by
  intro c hc
  simp only [WT0, List.mem_cons, List.not_mem_nil, or_false] at hc
  rcases hc with rfl | rfl | rfl
  · exact cWvalid_ok
  · exact cWsign_ok
  · exact cWgcd_ok
def WT1 : List Ctr := WT0 ++ ST4
theorem WT1_ok : ∀ c ∈ WT1, CtrOK Try.prog c := ok_app WT0_ok ST4_ok
/-- What a valid fraction looks like. -/
def validR (b : Bool) (l : List Nat) (c : Bool) (m : List Nat) : Bool := validL b l && (validL c m && ((!c && decide (0 < m.length)) && decide (Int.gcd (sgn b (Lb.val l)) (sgn c (Lb.val m)) = 1)))
def cWvalidR : Ctr := ⟨37, fun | [.g [.v (.bool (b)), .sl (l), .v (.bool (c)), .sl (m)]] => .yes (l.length ≤ 2 ∧ m.length ≤ 2) (.k (.c (.v (.bool (validR b l c m))))) | _ => .no⟩
theorem cWvalidR_owes (b : Bool) (l : List Nat) (c : Bool) (m : List Nat) (hp : l.length ≤ 2 ∧ m.length ≤ 2) : owes LT WT1 [] Try.f37 (Try.f37.body.getD .skip) [.g [.v (.bool (b)), .sl (l), .v (.bool (c)), .sl (m)]] (.k (.c (.v (.bool (validR b l c m))))) := by
  refine Eq.mp (show (((l).length ≤ 1000000000) ∧ ((((!(validL (b) (l))) == false) = true → ((m).length ≤ 1000000000)) ∧ ((((bif (!(validL (b) (l))) then (true) else (!(validL (c) (m)))) == false) = true → (True)) ∧ (((bif (bif (!(validL (b) (l))) then (true) else (!(validL (c) (m)))) then (true) else (((if m = [] then 0 else if c then -1 else 1)) != ((1 : Int)))) = true → (Value.bool (false) = (.bool (validR b l c m)))) ∧ ((bif (bif (!(validL (b) (l))) then (true) else (!(validL (c) (m)))) then (true) else (((if m = [] then 0 else if c then -1 else 1)) != ((1 : Int)))) = false → (((validL (b) (l) = true ∧ validL (c) (m) = true) ∧ (l).length ≤ 5000000 ∧ (m).length ≤ 5000000) ∧ ((True) ∧ ((szI (((Int.gcd (sgn (b) (Lb.val (l))) (sgn (c) (Lb.val (m))) : Nat) : Int)) ≤ 10000000 ∧ szI ((1 : Int)) ≤ 10000000) ∧ (Value.bool (decide ((((Int.gcd (sgn (b) (Lb.val (l))) (sgn (c) (Lb.val (m))) : Nat) : Int)) = ((1 : Int)))) = (.bool (validR b l c m))))))))))) = owes LT WT1 [] Try.f37 (Try.f37.body.getD .skip) [.g [.v (.bool (b)), .sl (l), .v (.bool (c)), .sl (m)]] (.k (.c (.v (.bool (validR b l c m))))) by kernel_rfl) ?_
  have hs : ((if m = [] then (0 : Int) else if c = true then -1 else 1) != 1) = !(!c && decide (0 < m.length)) := by
    rcases m with _ | ⟨x, m⟩ <;> cases c <;> simp
  rw [hs]
  obtain ⟨hl, hm⟩ := hp
  have hgs : validL b l = true → validL c m = true → (!c && decide (0 < m.length)) = true → szI ((Int.gcd (sgn b (Lb.val l)) (sgn c (Lb.val m)) : Nat) : Int) ≤ 10000000 := fun h1 h2 h3 => by
    have hN := (validL_spec h2).1
    simp only [Bool.and_eq_true, decide_eq_true_eq] at h3
    have hv : Lb.val m ≠ 0 := fun e => by
      rw [Lb.norm_zero hN e] at h3
      simp at h3
    have hz : szI (sgn c (Lb.val m)) ≤ 2 := by rw [szI_raw h2]; exact hm
    refine Nat.le_trans (szI_mono (b := sgn c (Lb.val m)) ?_) (by omega)
    rw [Int.natAbs_natCast, sgn_natAbs]
    have := Nat.gcd_dvd_right (sgn b (Lb.val l)).natAbs (sgn c (Lb.val m)).natAbs
    rw [sgn_natAbs c] at this
    exact Nat.le_of_dvd (by omega) (by simpa [Int.gcd, sgn_natAbs] using this)
  have o1 := szI_one
  have e1 : decide (((Int.gcd (sgn b (Lb.val l)) (sgn c (Lb.val m)) : Nat) : Int) = 1) = decide (Int.gcd (sgn b (Lb.val l)) (sgn c (Lb.val m)) = 1) := by rw [decide_eq_decide]; omega
  rw [e1]
  unfold validR
  refine ⟨by omega, fun _ => by omega, fun _ => trivial, fun h => ?_, fun h => ?_⟩
  · cases h1 : validL b l with
    | false => rfl
    | true =>
      cases h2 : validL c m with
      | false => rfl
      | true =>
        cases h3 : (!c && decide (0 < m.length)) with
        | false => rfl
        | true => rw [h1, h2, h3] at h; cases h
  · cases h1 : validL b l with
    | false => rw [h1] at h; cases h
    | true =>
      cases h2 : validL c m with
      | false => rw [h1, h2] at h; cases h
      | true =>
        cases h3 : (!c && decide (0 < m.length)) with
        | false => rw [h1, h2, h3] at h; cases h
        | true => exact ⟨⟨⟨rfl, rfl⟩, by omega, by omega⟩, trivial, ⟨hgs h1 h2 h3, by omega⟩, rfl⟩
theorem cWvalidR_ok : CtrOK Try.prog cWvalidR := .of (by kernel_rfl) (fun bs w xs vs pre r hr hA hG h hp => by
  simp only [cWvalidR] at h
  split at h
  · cases h
    exact ctr_calls mixed LT_ok WT1_ok Try.func37 (by kernel_rfl) hr hA hG rfl rfl (cWvalidR_owes _ _ _ _ hp)
  · cases h) (fun xs α pre φ r => by simp only [cWvalidR]; split <;> (intro h; cases h))
def WT2 : List Ctr := [cWvalidR] ++ WT1
theorem WT2_ok : ∀ c ∈ WT2, CtrOK Try.prog c := ok_app (by
  intro c hc
  simp only [List.mem_cons, List.not_mem_nil, or_false] at hc
  subst hc
  exact cWvalidR_ok) WT1_ok
def cWsmall : Ctr := ⟨20, fun | [.g [.v (.bool (b)), .sl (l), .v (.bool (c)), .sl (m)], .c (.v (.int .i64 (n)))] => .yes (n = 2) (.k (.c (.v (.bool (bif bif decide ((l.length : Int) ≤ n) then decide ((m.length : Int) ≤ n) else false then validR b l c m else false))))) | _ => .no⟩
theorem cWsmall_owes (b : Bool) (l : List Nat) (c : Bool) (m : List Nat) (n : Int) (hp : n = 2) : owes LT WT2 [] Try.f20 (Try.f20.body.getD .skip) [.g [.v (.bool (b)), .sl (l), .v (.bool (c)), .sl (m)], .c (.v (.int .i64 (n)))] (.k (.c (.v (.bool (bif bif decide ((l.length : Int) ≤ n) then decide ((m.length : Int) ≤ n) else false then validR b l c m else false))))) := by
  refine Eq.mp (show ((((bif (decide ((((l).length : Int)) ≤ (n))) then (decide ((((m).length : Int)) ≤ (n))) else (false)) == true) = true → ((l).length ≤ 2 ∧ (m).length ≤ 2)) ∧ (Value.bool (bif (bif (decide ((((l).length : Int)) ≤ (n))) then (decide ((((m).length : Int)) ≤ (n))) else (false)) then (validR (b) (l) (c) (m)) else (false)) = (.bool (bif bif decide ((l.length : Int) ≤ n) then decide ((m.length : Int) ≤ n) else false then validR b l c m else false)))) = owes LT WT2 [] Try.f20 (Try.f20.body.getD .skip) [.g [.v (.bool (b)), .sl (l), .v (.bool (c)), .sl (m)], .c (.v (.int .i64 (n)))] (.k (.c (.v (.bool (bif bif decide ((l.length : Int) ≤ n) then decide ((m.length : Int) ≤ n) else false then validR b l c m else false))))) by kernel_rfl) ?_
  subst hp
  refine ⟨fun h => ?_, rfl⟩
  cases h1 : decide ((l.length : Int) ≤ 2) with
  | false => rw [h1] at h; cases h
  | true =>
    cases h2 : decide ((m.length : Int) ≤ 2) with
    | false => rw [h1, h2] at h; cases h
    | true =>
      have := of_decide_eq_true h1
      have := of_decide_eq_true h2
      exact ⟨by omega, by omega⟩
theorem cWsmall_ok : CtrOK Try.prog cWsmall := .of (by kernel_rfl) (fun bs w xs vs pre r hr hA hG h hp => by
  simp only [cWsmall] at h
  split at h
  · cases h
    exact ctr_calls mixed LT_ok WT2_ok Try.func20 (by kernel_rfl) hr hA hG rfl rfl (cWsmall_owes _ _ _ _ _ hp)
  · cases h) (fun xs α pre φ r => by simp only [cWsmall]; split <;> (intro h; cases h))
def WT3 : List Ctr := [cWsmall] ++ WT2
theorem WT3_ok : ∀ c ∈ WT3, CtrOK Try.prog c := ok_app (by
  intro c hc
  simp only [List.mem_cons, List.not_mem_nil, or_false] at hc
  subst hc
  exact cWsmall_ok) WT2_ok
def smallR (b : Bool) (l : List Nat) (c : Bool) (m : List Nat) : Bool := bif bif decide ((l.length : Int) ≤ 2) then decide ((m.length : Int) ≤ 2) else false then validR b l c m else false
def cWsmall31 : Ctr := ⟨11, fun | [.g [.v (.bool (b)), .sl (l), .v (.bool (c)), .sl (m), .v (.bool (b1)), .sl (l1), .v (.bool (c1)), .sl (m1)]] => .yes (True) (.k (.c (.v (.bool (bif smallR b l c m then smallR b1 l1 c1 m1 else false))))) | _ => .no⟩
theorem cWsmall31_owes (b : Bool) (l : List Nat) (c : Bool) (m : List Nat) (b1 : Bool) (l1 : List Nat) (c1 : Bool) (m1 : List Nat) : owes LT WT3 [] Try.f11 (Try.f11.body.getD .skip) [.g [.v (.bool (b)), .sl (l), .v (.bool (c)), .sl (m), .v (.bool (b1)), .sl (l1), .v (.bool (c1)), .sl (m1)]] (.k (.c (.v (.bool (bif smallR b l c m then smallR b1 l1 c1 m1 else false))))) := by
  refine Eq.mp (show (((2 : Int) = 2) ∧ ((((bif bif decide (((l).length : Int) ≤ ((2 : Int))) then decide (((m).length : Int) ≤ ((2 : Int))) else false then validR (b) (l) (c) (m) else false) == true) = true → ((2 : Int) = 2)) ∧ (Value.bool (bif (bif bif decide (((l).length : Int) ≤ ((2 : Int))) then decide (((m).length : Int) ≤ ((2 : Int))) else false then validR (b) (l) (c) (m) else false) then (bif bif decide (((l1).length : Int) ≤ ((2 : Int))) then decide (((m1).length : Int) ≤ ((2 : Int))) else false then validR (b1) (l1) (c1) (m1) else false) else (false)) = (.bool (bif smallR b l c m then smallR b1 l1 c1 m1 else false))))) = owes LT WT3 [] Try.f11 (Try.f11.body.getD .skip) [.g [.v (.bool (b)), .sl (l), .v (.bool (c)), .sl (m), .v (.bool (b1)), .sl (l1), .v (.bool (c1)), .sl (m1)]] (.k (.c (.v (.bool (bif smallR b l c m then smallR b1 l1 c1 m1 else false))))) by kernel_rfl) ?_
  exact ⟨rfl, fun _ => rfl, rfl⟩
theorem cWsmall31_ok : CtrOK Try.prog cWsmall31 := .of (by kernel_rfl) (fun bs w xs vs pre r hr hA hG h hp => by
  simp only [cWsmall31] at h
  split at h
  · cases h
    exact ctr_calls mixed LT_ok WT3_ok Try.func11 (by kernel_rfl) hr hA hG rfl rfl (cWsmall31_owes _ _ _ _ _ _ _ _)
  · cases h) (fun xs α pre φ r => by simp only [cWsmall31]; split <;> (intro h; cases h))
/-- The coordinates are those of a grid. -/
def inG (p : Int × Int) : Bool := decide (p.1 ≤ 10000000) && (decide (-10000000 ≤ p.1) && (decide (p.2 ≤ 10000000) && decide (-10000000 ≤ p.2)))
theorem inG_eq (p : Int × Int) : (bif bif bif decide (p.1 > 10000000) then true else decide (p.1 < -10000000) then true else decide (p.2 > 10000000) then true else decide (p.2 < -10000000)) = !inG p := by
  unfold inG
  by_cases h1 : p.1 > 10000000
  · have e : decide (p.1 ≤ 10000000) = false := by simp; omega
    simp [h1, e]
  by_cases h2 : p.1 < -10000000
  · have e : decide (-10000000 ≤ p.1) = false := by simp; omega
    simp [h1, h2, e]
  by_cases h3 : p.2 > 10000000
  · have e : decide (p.2 ≤ 10000000) = false := by simp; omega
    simp [h1, h2, h3, e]
  by_cases h4 : p.2 < -10000000
  · have e : decide (-10000000 ≤ p.2) = false := by simp; omega
    simp [h1, h2, h3, h4, e]
  have e1 : decide (p.1 ≤ 10000000) = true := by simp; omega
  have e2 : decide (-10000000 ≤ p.1) = true := by simp; omega
  have e3 : decide (p.2 ≤ 10000000) = true := by simp; omega
  have e4 : decide (-10000000 ≤ p.2) = true := by simp; omega
  simp [h1, h2, h3, h4, e1, e2, e3, e4]
def fewB (l : List (Int × Int)) (n : Int) : Bool := decide ((l.length : Int) ≤ n) && l.all inG
def cWfew : Ctr := ⟨10, fun | [.c (.pt (l)), .c (.v (.int .i64 (n)))] => .yes (n ≤ 1000000) (.k (.c (.v (.bool (fewB l n))))) | _ => .no⟩
theorem cWfew_owes (l : List (Int × Int)) (n : Int) (hp : n ≤ 1000000) : owes LT WT3 [.inv 4 (Nat) (fun ξ => ⟨[.k (.c (.pt (l))), .u, .u, .u, .u, .k (.c (.v (.int .i64 ((ξ : Int))))), .u, .u, .u, .u, .u, .u, .u, .u, .u, .u, .u, .u, .u, .u, .u, .u, .u, .u, .u, .u, .u, .u, .u, .u, .u, .u, .u, .u, .u, .u, .u, .u, .u, .u, .u, .u, .u, .u, .u, .u], []⟩) (fun _ ξ => (ξ ≤ l.length ∧ ∀ i, i < ξ → inG (l.getD i (0, 0)) = true)) (fun ξ => l.length - ξ)] Try.f10 (Try.f10.body.getD .skip) [.c (.pt (l)), .c (.v (.int .i64 (n)))] (.k (.c (.v (.bool (fewB l n))))) := by
  refine Eq.mp (show (((decide ((((l).length : Int)) > (n))) = true → (Value.bool (false) = (.bool (fewB l n)))) ∧ ((decide ((((l).length : Int)) > (n))) = false → ((∃ x1 : Nat, (((x1 ≤ l.length ∧ ∀ i, i < x1 → inG (l.getD i (0, 0)) = true)) ∧ (((l = l) ∧ ((Value.int .i64 ((0 : Int)) = (.int .i64 ((x1 : Int)))) ∧ (True))) ∧ (True)))) ∧ (∀ x1 : Nat, ((x1 ≤ l.length ∧ ∀ i, i < x1 → inG (l.getD i (0, 0)) = true) → (((decide (((x1 : Int)) < (((l).length : Int)))) = true → ((0 ≤ (x1 : Int) ∧ (x1 : Int) < ((l).length : Int)) ∧ ((((decide ((((l).getD ((x1 : Int)).toNat (0, 0)).1) > ((10000000 : Int)))) == false) = true → (0 ≤ (x1 : Int) ∧ (x1 : Int) < ((l).length : Int))) ∧ ((((bif (decide ((((l).getD ((x1 : Int)).toNat (0, 0)).1) > ((10000000 : Int)))) then (true) else (decide ((((l).getD ((x1 : Int)).toNat (0, 0)).1) < ((-10000000 : Int))))) == false) = true → (0 ≤ (x1 : Int) ∧ (x1 : Int) < ((l).length : Int))) ∧ ((((bif (bif (decide ((((l).getD ((x1 : Int)).toNat (0, 0)).1) > ((10000000 : Int)))) then (true) else (decide ((((l).getD ((x1 : Int)).toNat (0, 0)).1) < ((-10000000 : Int))))) then (true) else (decide ((((l).getD ((x1 : Int)).toNat (0, 0)).2) > ((10000000 : Int))))) == false) = true → (0 ≤ (x1 : Int) ∧ (x1 : Int) < ((l).length : Int))) ∧ (((bif (bif (bif (decide ((((l).getD ((x1 : Int)).toNat (0, 0)).1) > ((10000000 : Int)))) then (true) else (decide ((((l).getD ((x1 : Int)).toNat (0, 0)).1) < ((-10000000 : Int))))) then (true) else (decide ((((l).getD ((x1 : Int)).toNat (0, 0)).2) > ((10000000 : Int))))) then (true) else (decide ((((l).getD ((x1 : Int)).toNat (0, 0)).2) < ((-10000000 : Int))))) = true → (Value.bool (false) = (.bool (fewB l n)))) ∧ ((bif (bif (bif (decide ((((l).getD ((x1 : Int)).toNat (0, 0)).1) > ((10000000 : Int)))) then (true) else (decide ((((l).getD ((x1 : Int)).toNat (0, 0)).1) < ((-10000000 : Int))))) then (true) else (decide ((((l).getD ((x1 : Int)).toNat (0, 0)).2) > ((10000000 : Int))))) then (true) else (decide ((((l).getD ((x1 : Int)).toNat (0, 0)).2) < ((-10000000 : Int))))) = false → ((inR .i64 (((x1 : Int)) + ((1 : Int)))) ∧ (∃ y1 : Nat, (((y1 ≤ l.length ∧ ∀ i, i < y1 → inG (l.getD i (0, 0)) = true)) ∧ ((l.length - y1 < l.length - x1) ∧ (((l = l) ∧ ((Value.int .i64 (((x1 : Int)) + ((1 : Int))) = (.int .i64 ((y1 : Int)))) ∧ (True))) ∧ (True))))))))))))) ∧ ((decide (((x1 : Int)) < (((l).length : Int)))) = false → (Value.bool (true) = (.bool (fewB l n)))))))))) = owes LT WT3 [.inv 4 (Nat) (fun ξ => ⟨[.k (.c (.pt (l))), .u, .u, .u, .u, .k (.c (.v (.int .i64 ((ξ : Int))))), .u, .u, .u, .u, .u, .u, .u, .u, .u, .u, .u, .u, .u, .u, .u, .u, .u, .u, .u, .u, .u, .u, .u, .u, .u, .u, .u, .u, .u, .u, .u, .u, .u, .u, .u, .u, .u, .u, .u, .u], []⟩) (fun _ ξ => (ξ ≤ l.length ∧ ∀ i, i < ξ → inG (l.getD i (0, 0)) = true)) (fun ξ => l.length - ξ)] Try.f10 (Try.f10.body.getD .skip) [.c (.pt (l)), .c (.v (.int .i64 (n)))] (.k (.c (.v (.bool (fewB l n))))) by kernel_rfl) ?_
  refine ⟨fun h => ?_, fun h => ⟨⟨0, ⟨Nat.zero_le _, fun i hi => absurd hi (by omega)⟩, by simp, trivial⟩, ?_⟩⟩
  · have : ¬ (l.length : Int) ≤ n := by have := of_decide_eq_true h; omega
    simp [fewB, this]
  have hn : (l.length : Int) ≤ n := by have := of_decide_eq_false h; omega
  rintro k ⟨hk, hall⟩
  refine ⟨fun h => ?_, fun h => ?_⟩
  · have hkl : k < l.length := by simpa using h
    simp only [Int.toNat_natCast, inG_eq]
    have ea : l.getD k (0, 0) = l[k] := by simp [List.getD_eq_getElem?_getD, hkl]
    refine ⟨⟨by omega, by omega⟩, fun _ => ⟨by omega, by omega⟩, fun _ => ⟨by omega, by omega⟩, fun _ => ⟨by omega, by omega⟩, fun c => ?_, fun c => ⟨by simp only [inR]; omega, k + 1, ⟨hkl, fun i hi => ?_⟩, by omega, by simp, trivial⟩⟩
    · have hx : inG l[k] = false := by rw [ea] at c; simpa using c
      have hA : l.all inG = false := by
        rw [List.all_eq_false]
        exact ⟨l[k], List.getElem_mem hkl, by rw [hx]; simp⟩
      simp [fewB, hA]
    · rcases Nat.lt_or_ge i k with h' | h'
      · exact hall i h'
      · obtain rfl : i = k := by omega
        simpa using c
  · have hkl : k = l.length := by
      have := of_decide_eq_false h
      omega
    subst hkl
    have hA : l.all inG = true := by
      rw [List.all_eq_true]
      intro x hx
      obtain ⟨i, hi, rfl⟩ := List.mem_iff_getElem.1 hx
      have := hall i hi
      have ea : l.getD i (0, 0) = l[i] := by simp [List.getD_eq_getElem?_getD, hi]
      rwa [ea] at this
    simp [fewB, hA, hn]
theorem cWfew_ok : CtrOK Try.prog cWfew := .of (by kernel_rfl) (fun bs w xs vs pre r hr hA hG h hp => by
  simp only [cWfew] at h
  split at h
  · cases h
    exact ctr_calls mixed LT_ok WT3_ok Try.func10 (by kernel_rfl) hr hA hG rfl rfl (cWfew_owes _ _ hp)
  · cases h) (fun xs α pre φ r => by simp only [cWfew]; split <;> (intro h; cases h))
end Vc
end Go.Proofs.Ytlkhkldgmlfhkaa

namespace Go.Proofs.Ytlkhkldgmlfhkaa
open Go.RowKit
namespace Vc
def cKnext : Ctr := ⟨19, fun | [.c (.pt (l)), .c (.v (.int .i64 (k)))] => .yes ((0 ≤ k ∧ k < (l.length : Int)) ∧ l.length ≤ 1000000000) (.k (.g [.v (.int .i64 ((l.getD (Rt.nxt l k.toNat) (0, 0)).1)), .v (.int .i64 ((l.getD (Rt.nxt l k.toNat) (0, 0)).2))])) | _ => .no⟩
theorem cKnext_owes (l : List (Int × Int)) (k : Int) (hp : (0 ≤ k ∧ k < (l.length : Int)) ∧ l.length ≤ 1000000000) : owes LT WT3 [] Try.f19 (Try.f19.body.getD .skip) [.c (.pt (l)), .c (.v (.int .i64 (k)))] (.k (.g [.v (.int .i64 ((l.getD (Rt.nxt l k.toNat) (0, 0)).1)), .v (.int .i64 ((l.getD (Rt.nxt l k.toNat) (0, 0)).2))])) := by
  refine Eq.mp (show ((inR .i64 ((k) + ((1 : Int)))) ∧ ((0 ≤ (k) + ((1 : Int)) ∧ 0 < ((l).length : Int)) ∧ ((0 ≤ ((k) + ((1 : Int))) % (((l).length : Int)) ∧ ((k) + ((1 : Int))) % (((l).length : Int)) < ((l).length : Int)) ∧ ((Value.int .i64 (((l).getD (((k) + ((1 : Int))) % (((l).length : Int))).toNat (0, 0)).1) = (.int .i64 ((l.getD (Rt.nxt l k.toNat) (0, 0)).1))) ∧ ((Value.int .i64 (((l).getD (((k) + ((1 : Int))) % (((l).length : Int))).toNat (0, 0)).2) = (.int .i64 ((l.getD (Rt.nxt l k.toNat) (0, 0)).2))) ∧ (True)))))) = owes LT WT3 [] Try.f19 (Try.f19.body.getD .skip) [.c (.pt (l)), .c (.v (.int .i64 (k)))] (.k (.g [.v (.int .i64 ((l.getD (Rt.nxt l k.toNat) (0, 0)).1)), .v (.int .i64 ((l.getD (Rt.nxt l k.toNat) (0, 0)).2))])) by kernel_rfl) ?_
  obtain ⟨⟨h0, h1⟩, h2⟩ := hp
  obtain ⟨n, rfl⟩ : ∃ n : Nat, k = n := ⟨k.toNat, by omega⟩
  have h3 : 0 < (l.length : Int) := by omega
  have h4 := Int.emod_nonneg ((n : Int) + 1) (show (l.length : Int) ≠ 0 by omega)
  have h5 := Int.emod_lt_of_pos ((n : Int) + 1) h3
  rw [nxt_int, Int.toNat_natCast]
  exact ⟨by simp only [inR]; omega, ⟨by omega, h3⟩, ⟨h4, h5⟩, rfl, rfl, trivial⟩
theorem cKnext_ok : CtrOK Try.prog cKnext := .of (by kernel_rfl) (fun bs w xs vs pre r hr hA hG h hp => by
  simp only [cKnext] at h
  split at h
  · cases h
    exact ctr_calls mixed LT_ok WT3_ok Try.func19 (by kernel_rfl) hr hA hG rfl rfl (cKnext_owes _ _ hp)
  · cases h) (fun xs α pre φ r => by simp only [cKnext]; split <;> (intro h; cases h))
def WT4 : List Ctr := WT3 ++ [cKnext]
theorem WT4_ok : ∀ c ∈ WT4, CtrOK Try.prog c := ok_app WT3_ok (by
  intro c hc
  simp only [List.mem_cons, List.not_mem_nil, or_false] at hc
  rcases hc with rfl
  · exact cKnext_ok)
theorem inG_spec {p : Int × Int} (h : inG p = true) : (-10000000 ≤ p.1 ∧ p.1 ≤ 10000000) ∧ -10000000 ≤ p.2 ∧ p.2 ≤ 10000000 := by
  simp only [inG, Bool.and_eq_true, decide_eq_true_eq] at h
  omega
theorem mul_bound {a b : Int} (h1 : -10000000 ≤ a ∧ a ≤ 10000000) (h2 : -10000000 ≤ b ∧ b ≤ 10000000) : -100000000000000 ≤ a * b ∧ a * b ≤ 100000000000000 := by
  have : (a * b).natAbs ≤ 10000000 * 10000000 := by
    rw [Int.natAbs_mul]
    exact Nat.mul_le_mul (by omega) (by omega)
  omega
theorem area_bound {l : List (Int × Int)} (hg : ∀ i, inG (l.getD i (0, 0)) = true) : ∀ k : Nat, -(200000000000000 * (k : Int)) ≤ Rt.areaK l k ∧ Rt.areaK l k ≤ 200000000000000 * (k : Int)
  | 0 => by unfold Rt.areaK Rt.sumN; omega
  | k + 1 => by
    have ih := area_bound hg k
    obtain ⟨a1, a2⟩ := inG_spec (hg k)
    obtain ⟨b1, b2⟩ := inG_spec (hg (Rt.nxt l k))
    have m1 := mul_bound a1 b2
    have m2 := mul_bound a2 b1
    unfold Rt.areaK at ih ⊢
    unfold Rt.sumN
    generalize (l.getD k (0, 0)).1 * (l.getD (Rt.nxt l k) (0, 0)).2 = u at *
    generalize (l.getD k (0, 0)).2 * (l.getD (Rt.nxt l k) (0, 0)).1 = v at *
    omega
theorem szR_big {n : Int} (h : n.natAbs < 1000000000000000000000000000) : szR (n : Rat) ≤ 3 := by
  have h1 : szI ((n : Rat).num) ≤ 3 := szI_le (by
    have : Lb.B ^ 3 = 1000000000000000000000000000 := rfl
    simpa [this] using h)
  have h2 : szI (((n : Rat).den : Nat) : Int) ≤ 1 := szI_le (by simp [Lb.B])
  unfold szR
  omega
theorem sg_int (n : Int) : Rt.sg (n : Rat) = n.sign := by simp [Rt.sg]
def cKarea : Ctr := ⟨27, fun | [.c (.pt (l))] => .yes ((∀ i, inG (l.getD i (0, 0)) = true) ∧ l.length ≤ 1000) (.k (.c (.v (.int .i64 ((Rt.area l).sign))))) | _ => .no⟩
theorem cKarea_owes (l : List (Int × Int)) (hp : (∀ i, inG (l.getD i (0, 0)) = true) ∧ l.length ≤ 1000) : owes LT WT4 [.inv 3 (Nat) (fun ξ => ⟨[.k (.c (.pt (l))), .u, .u, .k (.c (.bx 0 0)), .k (.c (.v (.int .i64 ((ξ : Int))))), .u, .u, .u, .u, .u, .u, .u, .u, .u, .u, .u, .u, .u, .u, .u, .u, .u, .u, .u, .u, .u], [⟨39, [.R (((Rt.areaK l ξ : Int) : Rat))]⟩]⟩) (fun _ ξ => (ξ ≤ l.length)) (fun ξ => l.length - ξ)] Try.f27 (Try.f27.body.getD .skip) [.c (.pt (l))] (.k (.c (.v (.int .i64 ((Rt.area l).sign))))) := by
  refine Eq.mp (show ((-9223372036854775808 ≤ ((0 : Int)) ∧ ((0 : Int)) ≤ 9223372036854775807) ∧ ((∃ x1 : Nat, (((x1 ≤ l.length)) ∧ (((l = l) ∧ ((True) ∧ ((Value.int .i64 ((0 : Int)) = (.int .i64 ((x1 : Int)))) ∧ (True)))) ∧ ((((((0 : Int)) : Rat) = ((Rt.areaK l x1 : Int) : Rat)) ∧ (True)) ∧ (True))))) ∧ (∀ x1 : Nat, ((x1 ≤ l.length) → (((decide (((x1 : Int)) < (((l).length : Int)))) = true → ((0 ≤ (x1 : Int) ∧ (x1 : Int) < ((l).length : Int)) ∧ (((-9223372036854775808 ≤ (((l).getD ((x1 : Int)).toNat (0, 0)).1) ∧ (((l).getD ((x1 : Int)).toNat (0, 0)).1) ≤ 9223372036854775807) ∧ -9223372036854775808 ≤ (((l).getD ((x1 : Int)).toNat (0, 0)).2) ∧ (((l).getD ((x1 : Int)).toNat (0, 0)).2) ≤ 9223372036854775807) ∧ (((0 ≤ (x1 : Int) ∧ (x1 : Int) < ((l).length : Int)) ∧ (l).length ≤ 1000000000) ∧ (((-9223372036854775808 ≤ (((l).getD (Rt.nxt (l) ((x1 : Int)).toNat) (0, 0)).1) ∧ (((l).getD (Rt.nxt (l) ((x1 : Int)).toNat) (0, 0)).1) ≤ 9223372036854775807) ∧ -9223372036854775808 ≤ (((l).getD (Rt.nxt (l) ((x1 : Int)).toNat) (0, 0)).2) ∧ (((l).getD (Rt.nxt (l) ((x1 : Int)).toNat) (0, 0)).2) ≤ 9223372036854775807) ∧ (((szR ((((((l).getD ((x1 : Int)).toNat (0, 0)).1 : Int)) : Rat)) ≤ 100000 ∧ szR ((((((l).getD ((x1 : Int)).toNat (0, 0)).2 : Int)) : Rat)) ≤ 100000) ∧ szR ((((((l).getD (Rt.nxt (l) ((x1 : Int)).toNat) (0, 0)).1 : Int)) : Rat)) ≤ 100000 ∧ szR ((((((l).getD (Rt.nxt (l) ((x1 : Int)).toNat) (0, 0)).2 : Int)) : Rat)) ≤ 100000) ∧ ((szR (((Rt.areaK l x1 : Int) : Rat)) ≤ 1000000 ∧ szR ((((((((l).getD ((x1 : Int)).toNat (0, 0)).1 : Int)) : Rat)) * ((((((l).getD (Rt.nxt (l) ((x1 : Int)).toNat) (0, 0)).2 : Int)) : Rat)) - ((((((l).getD ((x1 : Int)).toNat (0, 0)).2 : Int)) : Rat)) * ((((((l).getD (Rt.nxt (l) ((x1 : Int)).toNat) (0, 0)).1 : Int)) : Rat)))) ≤ 1000000) ∧ ((inR .i64 (((x1 : Int)) + ((1 : Int)))) ∧ (∃ y1 : Nat, (((y1 ≤ l.length)) ∧ ((l.length - y1 < l.length - x1) ∧ (((l = l) ∧ ((True) ∧ ((Value.int .i64 (((x1 : Int)) + ((1 : Int))) = (.int .i64 ((y1 : Int)))) ∧ (True)))) ∧ (((((((Rt.areaK l x1 : Int) : Rat)) + ((((((((l).getD ((x1 : Int)).toNat (0, 0)).1 : Int)) : Rat)) * ((((((l).getD (Rt.nxt (l) ((x1 : Int)).toNat) (0, 0)).2 : Int)) : Rat)) - ((((((l).getD ((x1 : Int)).toNat (0, 0)).2 : Int)) : Rat)) * ((((((l).getD (Rt.nxt (l) ((x1 : Int)).toNat) (0, 0)).1 : Int)) : Rat))))) = ((Rt.areaK l y1 : Int) : Rat)) ∧ (True)) ∧ (True)))))))))))))) ∧ ((decide (((x1 : Int)) < (((l).length : Int)))) = false → ((True) ∧ (Value.int .i64 ((Rt.sg (((Rt.areaK l x1 : Int) : Rat)))) = (.int .i64 ((Rt.area l).sign)))))))))) = owes LT WT4 [.inv 3 (Nat) (fun ξ => ⟨[.k (.c (.pt (l))), .u, .u, .k (.c (.bx 0 0)), .k (.c (.v (.int .i64 ((ξ : Int))))), .u, .u, .u, .u, .u, .u, .u, .u, .u, .u, .u, .u, .u, .u, .u, .u, .u, .u, .u, .u, .u], [⟨39, [.R (((Rt.areaK l ξ : Int) : Rat))]⟩]⟩) (fun _ ξ => (ξ ≤ l.length)) (fun ξ => l.length - ξ)] Try.f27 (Try.f27.body.getD .skip) [.c (.pt (l))] (.k (.c (.v (.int .i64 ((Rt.area l).sign))))) by kernel_rfl) ?_
  obtain ⟨hg, hl⟩ := hp
  refine ⟨⟨by omega, by omega⟩, ⟨0, Nat.zero_le _, by simp, ⟨by simp [Rt.areaK, Rt.sumN], trivial⟩, trivial⟩, ?_⟩
  intro k hk
  simp only [Int.toNat_natCast]
  obtain ⟨a1, a2⟩ := inG_spec (hg k)
  obtain ⟨b1, b2⟩ := inG_spec (hg (Rt.nxt l k))
  have hA := area_bound hg k
  have m1 := mul_bound a1 b2
  have m2 := mul_bound a2 b1
  have hstep : Rt.areaK l (k + 1) = Rt.areaK l k + ((l.getD k (0, 0)).1 * (l.getD (Rt.nxt l k) (0, 0)).2 - (l.getD k (0, 0)).2 * (l.getD (Rt.nxt l k) (0, 0)).1) := rfl
  have i3 : ∀ z : Int, -10000000 ≤ z ∧ z ≤ 10000000 → szR (z : Rat) ≤ 3 := fun z hz => szR_big (by omega)
  refine ⟨fun h => ?_, fun h => ?_⟩
  · have hkl : k < l.length := by simpa using h
    have e : ((l.getD k (0, 0)).1 : Rat) * ((l.getD (Rt.nxt l k) (0, 0)).2 : Rat) - ((l.getD k (0, 0)).2 : Rat) * ((l.getD (Rt.nxt l k) (0, 0)).1 : Rat) = (((l.getD k (0, 0)).1 * (l.getD (Rt.nxt l k) (0, 0)).2 - (l.getD k (0, 0)).2 * (l.getD (Rt.nxt l k) (0, 0)).1 : Int) : Rat) := by
      rw [Rat.intCast_sub, Rat.intCast_mul, Rat.intCast_mul]
    rw [e, ← Rat.intCast_add, ← hstep]
    have s1 := i3 _ a1; have s2 := i3 _ a2; have s3 := i3 _ b1; have s4 := i3 _ b2
    have s5 : szR ((Rt.areaK l k : Int) : Rat) ≤ 3 := szR_big (by omega)
    have s6 : szR (((l.getD k (0, 0)).1 * (l.getD (Rt.nxt l k) (0, 0)).2 - (l.getD k (0, 0)).2 * (l.getD (Rt.nxt l k) (0, 0)).1 : Int) : Rat) ≤ 3 := szR_big (by omega)
    exact ⟨⟨by omega, by omega⟩, ⟨⟨by omega, by omega⟩, by omega, by omega⟩, ⟨⟨by omega, by omega⟩, by omega⟩, ⟨⟨by omega, by omega⟩, by omega, by omega⟩, ⟨⟨by omega, by omega⟩, by omega, by omega⟩, ⟨by omega, by omega⟩, by simp only [inR]; omega, k + 1, hkl, by omega, by simp, ⟨rfl, trivial⟩, trivial⟩
  · have hkl : k = l.length := by
      have := of_decide_eq_false h
      omega
    subst hkl
    rw [sg_int]
    exact ⟨trivial, rfl⟩
theorem cKarea_ok : CtrOK Try.prog cKarea := .of (by kernel_rfl) (fun bs w xs vs pre r hr hA hG h hp => by
  simp only [cKarea] at h
  split at h
  · cases h
    exact ctr_calls mixed LT_ok WT4_ok Try.func27 (by kernel_rfl) hr hA hG rfl rfl (cKarea_owes _ hp)
  · cases h) (fun xs α pre φ r => by simp only [cKarea]; split <;> (intro h; cases h))
end Vc
end Go.Proofs.Ytlkhkldgmlfhkaa

namespace Go.Proofs.Ytlkhkldgmlfhkaa
open Go.RowKit Rt
set_option maxRecDepth 8000

theorem warea (p : Value) (l : List (Int × Int)) (w : World) (hp : SlT w p l) (h : (∀ i, Vc.inG (l.getD i (0, 0)) = true) ∧ l.length ≤ 1000) :
    Calls Try.prog 27 #[p] w fun e w' => e = .returned (.int .i64 (area l).sign) ∧ Ext w w' := by
  refine (Vc.cKarea_ok.yes ⟨w.heap.size, [], [], []⟩ w [.c (.pt l)] [p] _ _ ⟨slP_of hp, trivial⟩ rfl rfl rfl h).mono ?_
  rintro e w' ⟨v', rfl, hx, rfl, _⟩
  exact ⟨rfl, hx⟩
theorem wfew (p : Value) (l : List (Int × Int)) (n : Int) (w : World) (hp : SlT w p l) (h : n ≤ 1000000) :
    Calls Try.prog 10 #[p, .int .i64 n] w fun e w' => e = .returned (.bool (Vc.fewB l n)) ∧ Ext w w' := by
  refine (Vc.cWfew_ok.yes ⟨w.heap.size, [], [], []⟩ w [.c (.pt l), .c (.v (.int .i64 n))] [p, .int .i64 n] _ _ ⟨slP_of hp, ⟨rfl, rfl⟩, trivial⟩ rfl rfl rfl h).mono ?_
  rintro e w' ⟨v', rfl, hx, rfl, _⟩
  exact ⟨rfl, hx⟩
/-- A vector as it comes in: signs and limbs. -/
structure Raw where
  b : Bool
  l : List Nat
  c : Bool
  m : List Nat
  b1 : Bool
  l1 : List Nat
  c1 : Bool
  m1 : List Nat
def Raw.ac (r : Raw) : List Vc.AC := [.v (.bool r.b), .sl r.l, .v (.bool r.c), .sl r.m, .v (.bool r.b1), .sl r.l1, .v (.bool r.c1), .sl r.m1]
def Raw.small (r : Raw) : Bool := bif Vc.smallR r.b r.l r.c r.m then Vc.smallR r.b1 r.l1 r.c1 r.m1 else false
def IsRaw (w : World) (r : Raw) (v : Value) : Prop := Vc.relK B0 w (.g r.ac) v
theorem IsRaw.later {w w' : World} {r : Raw} {v : Value} (h : IsRaw w r v) (he : Ext w w') : IsRaw w' r v := (Vc.Keep.ext he).relK h
theorem wsmall (v : Value) (r : Raw) (w : World) (h : IsRaw w r v) :
    Calls Try.prog 11 #[v] w fun e w' => e = .returned (.bool r.small) ∧ Ext w w' := by
  refine (Vc.cWsmall31_ok.yes B0 w [.g r.ac] [v] _ _ ⟨h, trivial⟩ rfl rfl rfl trivial).mono ?_
  rintro e w' ⟨v', rfl, hx, rfl, _⟩
  exact ⟨rfl, hx⟩
theorem raw_R {b : Bool} {l : List Nat} {c : Bool} {m : List Nat} (h : Vc.validR b l c m = true) : ∃ q : Rat, Vc.AC.flat (.R q) = [.v (.bool b), .sl l, .v (.bool c), .sl m] := by
  unfold Vc.validR at h
  simp only [Bool.and_eq_true, Bool.not_eq_true', decide_eq_true_eq] at h
  obtain ⟨h1, h2, ⟨h3, h4⟩, h5⟩ := h
  obtain ⟨n1, s1, e1⟩ := Vc.validL_spec h1
  obtain ⟨n2, s2, e2⟩ := Vc.validL_spec h2
  subst h3
  have hs : sgn false (Lb.val m) = (Lb.val m : Int) := rfl
  rw [hs] at h5 s2 e2
  have hv : Lb.val m ≠ 0 := fun e => by
    rw [Lb.norm_zero n2 e] at h4
    simp at h4
  refine ⟨⟨sgn b (Lb.val l), Lb.val m, hv, by simpa [Int.gcd] using h5⟩, ?_⟩
  simp only [Vc.AC.flat]
  rw [← s1, ← e1, ← s2, ← e2]
theorem smallR_spec {b : Bool} {l : List Nat} {c : Bool} {m : List Nat} (h : Vc.smallR b l c m = true) : ∃ q : Rat, Vc.AC.flat (.R q) = [.v (.bool b), .sl l, .v (.bool c), .sl m] ∧ Vc.szR q ≤ 2 := by
  unfold Vc.smallR at h
  have k1 : decide ((l.length : Int) ≤ 2) = true := by
    cases e : decide ((l.length : Int) ≤ 2) with
    | true => rfl
    | false => rw [e] at h; cases h
  have k2 : decide ((m.length : Int) ≤ 2) = true := by
    cases e : decide ((m.length : Int) ≤ 2) with
    | true => rfl
    | false => rw [k1, e] at h; cases h
  rw [k1, k2] at h
  obtain ⟨q, hq⟩ := raw_R h
  refine ⟨q, hq, ?_⟩
  simp only [Vc.AC.flat, List.cons.injEq, Vc.AC.v.injEq, Vc.AC.sl.injEq, Value.bool.injEq, and_true] at hq
  obtain ⟨_, q2, _, q4⟩ := hq
  have := of_decide_eq_true k1
  have := of_decide_eq_true k2
  unfold Vc.szR szI
  rw [q2, q4]
  omega
theorem IsRaw.vec {w : World} {r : Raw} {v : Value} (h : IsRaw w r v) (hs : r.small = true) : ∃ x y : Rat, IsV w x y v ∧ Vc.szR x ≤ 2 ∧ Vc.szR y ≤ 2 := by
  unfold Raw.small at hs
  have h1 : Vc.smallR r.b r.l r.c r.m = true := by
    cases e : Vc.smallR r.b r.l r.c r.m with
    | true => rfl
    | false => rw [e] at hs; cases hs
  rw [h1] at hs
  obtain ⟨x, hx, sx⟩ := smallR_spec h1
  obtain ⟨y, hy, sy⟩ := smallR_spec (b := r.b1) (l := r.l1) (c := r.c1) (m := r.m1) hs
  refine ⟨x, y, ?_, sx, sy⟩
  obtain ⟨us, rfl, k⟩ := h
  refine ⟨us, rfl, ?_⟩
  simp only [Vc.flats]
  rw [hx, hy]
  exact k

theorem OwnG.weak {α : Type} {f : α → List Value} {k B B' : Nat} {T : TypeId} {w : World} {v : Value} {l : List α} (h : OwnG B' T k f w v l) (hb : B ≤ B') : OwnG B T k f w v l := by
  obtain ⟨h1, h2⟩ := h
  refine ⟨h1, ?_⟩
  rcases h2 with h2 | ⟨g, cap, cur, h3, h4, h5⟩
  · exact .inl h2
  · exact .inr ⟨g, cap, cur, h3, Nat.le_trans hb h4, h5⟩

def Gd (x y : Int) : Value := .agg #[.int .i64 x, .int .i64 y]
theorem Try.neq_g2 (x y : Int) (w : World) : (binOp .neq 29 (Gd x y) (Gd x y)).run Try.prog w = .ok (.bool false) w := by simp [go_sem, Gd]

set_option maxHeartbeats 4000000 in
theorem same_any31 (v v' : Value) (l : List (Int × Int)) (w : World) (h : SlT w v l) (h' : SlT w v' l) (hn : l.length ≤ 1000000) :
    Calls Try.prog 13 #[v, v'] w fun e w' => e = .returned (.bool true) ∧ Ext w w' := by
  obtain ⟨ad, nn, cap, b, off, rfl, rfl, -⟩ := id h
  obtain ⟨ad', nn', cap', b', off', rfl, rfl, -⟩ := id h'
  have H := Lib.hid h; have H' := Lib.hid h'; have HN := Lib.hid hn
  have hq : ((l.length : Int) != l.length) = false := by simp
  clear h h'
  go_enter Try.func13, Try.ntmps13
  go_wp2_with fail
  go_loopw [5] (fun i wr => ∃ (k : Nat), k ≤ l.length ∧ i = .int .i64 k ∧ Hid (Ext w wr)) (fun i _ => l.length - (intOf i).toNat)
  case atStart => exact ⟨0, Nat.zero_le _, rfl, Lib.hid (Ext.refl w)⟩
  case round =>
    obtain ⟨k, hk, rfl, HE⟩ := hrel
    by_cases hlt : k < l.length
    · obtain ⟨⟨x, y⟩, hxy⟩ : ∃ p, l[k]? = some p := ⟨l[k], by simp [hlt]⟩
      obtain ⟨g1, o1, he, hb1, hc⟩ := H.out.at hxy
      cases he
      obtain ⟨g2, o2, he, hb2, hd⟩ := H'.out.at hxy
      cases he
      have C : ∀ r u, (gC (x, y))[r]? = some u → ∀ q : Later wr, q.w.cell? ⟨g1, o1 + k * 2 + r, none⟩ = some u := fun r u hu => Later.cell ((HE.out.cell (p := ⟨g1, o1 + k * 2 + r, none⟩) hb1).trans (hc r u hu))
      have D : ∀ r u, (gC (x, y))[r]? = some u → ∀ q : Later wr, q.w.cell? ⟨g2, o2 + k * 2 + r, none⟩ = some u := fun r u hu => Later.cell ((HE.out.cell (p := ⟨g2, o2 + k * 2 + r, none⟩) hb2).trans (hd r u hu))
      have c0 := C 0 (.int .i64 x) rfl; have c1 := C 1 (.int .i64 y) rfl
      have d0 := D 0 (.int .i64 x) rfl; have d1 := D 1 (.int .i64 y) rfl
      rw [Nat.add_zero] at c0 d0
      have hne := fun w => Try.neq_g2 x y w
      unfold Gd at hne
      clear C D hc hd hxy
      go_wp2_with fail
      refine wp_region_later (by kernel_rfl) (by kernel_rfl) ?_
      repeat (go_big_quiet_step (fail))
      refine wpQuiet_nil ?_
      rintro _ ⟨q, rfl⟩
      have HE2 := Lib.hid (HE.out.trans q.ext)
      clear c0 c1 d0 d1 hne
      go_wp2_with fail
      go_roundw
      case rel => exact ⟨k + 1, by omega, by go_num, HE2⟩
      case measure => simp [intOf]; omega
    · obtain rfl : k = l.length := by omega
      go_wp2_with fail
      go_ret
      exact ⟨rfl, HE.out⟩

set_option maxHeartbeats 4000000 in
theorem rturned_any (v : Value) (l : List (Int × Int)) (ccw : Bool) (w : World) (h : SlT w v l) (hg : ∀ i, Vc.inG (l.getD i (0, 0)) = true) (hn : l.length ≤ 1000) :
    Calls Try.prog 14 #[v, .bool ccw] w (RetT w (turn l ccw)) := by
  obtain ⟨ad, nn, cap, b, off, rfl, rfl, h3, h4, h5, h6⟩ := id h
  have H := Lib.hid h; have HN := Lib.hid hn
  by_cases ht : (0 < area l ∧ ccw = false) ∨ (area l < 0 ∧ ccw = true)
  · have HT : Hid (turn l ccw = revP l) := Lib.hid (if_pos ht)
    have HC := Lib.hid (warea _ _ _ H.out ⟨hg, hn⟩)
    have hs : (0 < (area l).sign ∧ ccw = false) ∨ ((area l).sign < 0 ∧ ccw = true) := by rw [Int.sign_pos_iff, Int.sign_neg_iff]; exact ht
    clear h h3 h4 h5 h6 ht hg hn
    generalize (area l).sign = s at *
    go_enter Try.func14, Try.ntmps14
    go_wp2_with fail
    refine HC.out.mono ?_
    rintro e w1 ⟨rfl, x1⟩
    have H1 := Lib.hid (H.out.later x1); have X1 := Lib.hid x1
    clear x1 HC
    rcases hs with ⟨hs, rfl⟩ | ⟨hs, rfl⟩
    all_goals
      go_wp2_with fail
      refine (reversed_any _ _ _ H1.out (by have := HN.out; omega)).mono ?_
      rintro e w2 ⟨a2, n2, c2, rfl, o2, x2⟩
      go_wp2_with fail
      go_ret
      rw [HT.out]
      exact ⟨_, _, _, rfl, o2.weak X1.out.size, X1.out.trans x2⟩
  · have HT : Hid (turn l ccw = l) := Lib.hid (if_neg ht)
    have HC := Lib.hid (warea _ _ _ H.out ⟨hg, hn⟩)
    have hs : ((area l).sign < 0 ∧ ccw = false) ∨ ((area l).sign = 0 ∧ ccw = false) ∨ (0 < (area l).sign ∧ ccw = true) ∨ ((area l).sign = 0 ∧ ccw = true) := by
      rw [Int.sign_pos_iff, Int.sign_neg_iff, Int.sign_eq_zero_iff_zero]
      cases ccw
      · simp at ht ⊢; omega
      · simp at ht ⊢; omega
    have HM : Hid (([] : List (Int × Int)).length + l.length ≤ maxLen) := Lib.hid (by unfold maxLen; simp; omega)
    have HB : Hid ((([] : List (Int × Int)).length + l.length) * 16 ≤ 140737488355328) := Lib.hid (by simp; omega)
    clear h h3 h4 h5 h6 ht hg hn
    generalize (area l).sign = s at *
    go_enter Try.func14, Try.ntmps14
    go_wp2_with fail
    refine HC.out.mono ?_
    rintro e w1 ⟨rfl, x1⟩
    have hown0 : OwnT w1.heap.size (w1.alloc (.cells #[] 29)) (.slice (some ⟨w1.heap.size, 0, none⟩) 0 0) [] := World.ownsRow_lit (base := w1.heap.size) (e := 29) (size := 2) w1 #[] 0 (Nat.le_refl _) (by decide) rfl
    have HO := Lib.hid hown0
    have HS := Lib.hid (H.out.later (x1.alloc (.cells #[] 29)))
    have X1 := Lib.hid x1
    clear x1 HC hown0
    rcases hs with ⟨hs, rfl⟩ | ⟨rfl, rfl⟩ | ⟨hs, rfl⟩ | ⟨rfl, rfl⟩
    all_goals
      go_wp2_with ((at_builtin; refine appG_at rfl _ _ rfl Try.underlying22 Try.info_g2 rfl (by decide) gC_len gC_one w1.heap.size _ _ [] l rfl rfl HO.out HS.out HM.out HB.out (by simp) ?_; intro v6 w6 own6 hg6 hloc6))
      have E6 : Ext w w6 := (X1.out.alloc _).grown hg6 (fun i hi => by cases hi; exact X1.out.size)
      rw [List.nil_append] at own6
      obtain ⟨a, c, rfl⟩ := own6.form
      go_wp2_with fail
      go_ret
      rw [HT.out]
      exact ⟨_, _, _, rfl, own6.weak X1.out.size, E6⟩
end Go.Proofs.Ytlkhkldgmlfhkaa

namespace Go.Proofs.Ytlkhkldgmlfhkaa
open Go.RowKit
namespace Vc
def cdA : Code → Code
  | .seq a _ => a
  | c => c
def cdB : Code → Code
  | .seq _ b => b
  | _ => .skip
def preT (b : Code) : Code := .seq (cdA b) (.seq (cdA (cdB b)) (cdA (cdB (cdB b))))
theorem wp_pre3 {P : Program} {L : List Lay} {C : List Ctr} {I : List LI} {W0 : World} (hm : P.follows .mixedOrders = true) (hL : ∀ l ∈ L, LayOK P l) (hC : ∀ c ∈ C, CtrOK P c) {a b e d : Code} {s : St} {bs : Bs} {a0 : Act} {w : World} {S : St} {Q : Exit → Act → World → Prop}
    (h : ∀ Qa : AEx → St → Prop, Qa .normal S → awp L C I (.seq a (.seq b e)) s Qa) (hR : Rl W0 bs s a0 w) (hk : ∀ bs' a' w', Rl W0 bs' S a' w' → d.wp P Q a' w') : (Code.seq a (.seq b (.seq e d))).wp P Q a0 w := by
  have h := h (fun x y => x = .normal ∧ y = S) ⟨rfl, rfl⟩
  refine wp_seq (awp_sound hm hL hC a s bs a0 w _ _ h hR fun x s1 b1 a1 w1 hq hR1 => ?_)
  cases x with
  | normal =>
    refine wp_seq (awp_sound hm hL hC b s1 b1 a1 w1 _ _ hq hR1 fun x s2 b2 a2 w2 hq hR2 => ?_)
    cases x with
    | normal =>
      refine wp_seq (awp_sound hm hL hC e s2 b2 a2 w2 _ _ hq hR2 fun x s3 b3 a3 w3 hq hR3 => ?_)
      obtain ⟨rfl, rfl⟩ := hq
      exact hk b3 a3 w3 hR3
    | ret => cases hq.1
    | exit id => cases hq.1
  | ret => cases hq.1
  | exit id => cases hq.1
theorem rl_start {w : World} {bs : Bs} {n : Nat} {xs : List AK} {vs : List Value} (hx : relKs bs w xs vs) (hnx : argKs xs = true) : Rl w ⟨w.heap.size, [], [], []⟩ ⟨xs.map .k ++ List.replicate (n - xs.length) .u, []⟩ { tmps := vs.toArray ++ Array.replicate (n - vs.toArray.size) undef, defers := [] } w := by
  have hxl := hx.len
  refine ⟨Ext.refl w, rfl, rfl, rfl, List.nodup_nil, rfl, fun i b x h _ => (by simp at h), fun b hb => (by cases hb), fun t x ht => ?_, by simp [hxl], rfl⟩
  simp only at ht
  rcases Nat.lt_or_ge t xs.length with hlt | hge
  · rw [List.getElem?_append_left (by simpa using hlt)] at ht
    simp only [List.getElem?_map, Option.map_eq_some_iff] at ht
    obtain ⟨y, hy, rfl⟩ := ht
    obtain ⟨u, h1, h2⟩ := (argKs_rel hnx hx).get hy
    have hlt' : t < vs.length := by omega
    have e : (vs.toArray ++ Array.replicate (n - vs.toArray.size) undef).getD t undef = u := by
      have hu : vs[t] = u := by simpa [hlt'] using h1
      simp [Array.getD_eq_getD_getElem?, Array.getElem?_append, hlt', hu]
    rw [e]
    exact h2
  · rw [List.getElem?_append_right (by simpa using hge)] at ht
    rw [List.getElem?_replicate] at ht
    split at ht
    · simp only [Option.some.injEq] at ht
      subst ht
      trivial
    · cases ht
def finT (l : List (Int × Int)) (ccw : Bool) : St := ⟨[.k (.c (.pt (l))), .k (.c (.v (.bool (ccw)))), .u, .u, .u, .k (.c (.bx 0 0)), .u, .u, .u, .u, .u, .u, .k (.c (.pt (l))), .k (.c (.v (.int .i64 ((l.length : Int))))), .k (.c (.v (.int .i64 ((l.length : Int))))), .k (.c (.v (.bool (decide (((l.length : Int)) < ((l.length : Int))))))), .u, .u, .u, .u, .u, .u, .u, .u, .u, .u, .u, .u, .u, .u, .u, .u, .u, .u, .u, .u, .u, .u, .u, .u, .u, .u, .u, .u, .u, .u, .u, .u, .u, .u, .u, .u, .u, .u, .u, .u, .u, .u, .u, .u, .u, .u], [⟨37, [.I ((Rt.areaK l l.length))]⟩]⟩
set_option maxHeartbeats 4000000 in
theorem turned_pre (l : List (Int × Int)) (ccw : Bool) (hp : (∀ i, inG (l.getD i (0, 0)) = true) ∧ l.length ≤ 1000) (Qa : AEx → St → Prop) (hQ : Qa .normal (finT l ccw)) :
    awp LT CT0 [.inv 3 (Nat) (fun ξ => ⟨[.k (.c (.pt (l))), .k (.c (.v (.bool (ccw)))), .u, .u, .u, .k (.c (.bx 0 0)), .u, .u, .u, .u, .u, .u, .k (.c (.pt (l))), .k (.c (.v (.int .i64 ((l.length : Int))))), .k (.c (.v (.int .i64 ((ξ : Int))))), .u, .u, .u, .u, .u, .u, .u, .u, .u, .u, .u, .u, .u, .u, .u, .u, .u, .u, .u, .u, .u, .u, .u, .u, .u, .u, .u, .u, .u, .u, .u, .u, .u, .u, .u, .u, .u, .u, .u, .u, .u, .u, .u, .u, .u, .u, .u], [⟨37, [.I ((Rt.areaK l ξ))]⟩]⟩) (fun _ ξ => (ξ ≤ l.length)) (fun ξ => l.length - ξ)] (preT (Try.f12.body.getD .skip)) ⟨[.k (.c (.pt (l))), .k (.c (.v (.bool (ccw)))), .u, .u, .u, .u, .u, .u, .u, .u, .u, .u, .u, .u, .u, .u, .u, .u, .u, .u, .u, .u, .u, .u, .u, .u, .u, .u, .u, .u, .u, .u, .u, .u, .u, .u, .u, .u, .u, .u, .u, .u, .u, .u, .u, .u, .u, .u, .u, .u, .u, .u, .u, .u, .u, .u, .u, .u, .u, .u, .u, .u], []⟩ Qa := by
  refine Eq.mp (show ((-9223372036854775808 ≤ (0 : Int) ∧ (0 : Int) ≤ 9223372036854775807) ∧ ((∃ x1 : Nat, (((x1 ≤ l.length)) ∧ (((l = l) ∧ ((Value.bool (ccw) = (.bool (ccw))) ∧ ((True) ∧ ((l = l) ∧ ((Value.int .i64 (((l).length : Int)) = (.int .i64 ((l.length : Int)))) ∧ ((Value.int .i64 ((0 : Int)) = (.int .i64 ((x1 : Int)))) ∧ (True))))))) ∧ ((((0 : Int) = (Rt.areaK l x1)) ∧ (True)) ∧ (True))))) ∧ (∀ x1 : Nat, ((x1 ≤ l.length) → (((decide (((x1 : Int)) < ((l.length : Int)))) = true → ((0 ≤ (x1 : Int) ∧ (x1 : Int) < ((l).length : Int)) ∧ ((inR .i64 (((x1 : Int)) + ((1 : Int)))) ∧ ((0 ≤ ((x1 : Int)) + ((1 : Int)) ∧ 0 < ((l).length : Int)) ∧ ((0 ≤ (((x1 : Int)) + ((1 : Int))) % (((l).length : Int)) ∧ (((x1 : Int)) + ((1 : Int))) % (((l).length : Int)) < ((l).length : Int)) ∧ ((-9223372036854775808 ≤ ((l).getD ((x1 : Int)).toNat (0, 0)).1 ∧ ((l).getD ((x1 : Int)).toNat (0, 0)).1 ≤ 9223372036854775807) ∧ ((-9223372036854775808 ≤ ((l).getD ((((x1 : Int)) + ((1 : Int))) % (((l).length : Int))).toNat (0, 0)).2 ∧ ((l).getD ((((x1 : Int)) + ((1 : Int))) % (((l).length : Int))).toNat (0, 0)).2 ≤ 9223372036854775807) ∧ ((szI (((l).getD ((x1 : Int)).toNat (0, 0)).1) ≤ 10000000 ∧ szI (((l).getD ((((x1 : Int)) + ((1 : Int))) % (((l).length : Int))).toNat (0, 0)).2) ≤ 10000000) ∧ ((szI ((Rt.areaK l x1)) ≤ 10000000 ∧ szI ((((l).getD ((x1 : Int)).toNat (0, 0)).1 * ((l).getD ((((x1 : Int)) + ((1 : Int))) % (((l).length : Int))).toNat (0, 0)).2)) ≤ 10000000) ∧ ((-9223372036854775808 ≤ ((l).getD ((x1 : Int)).toNat (0, 0)).2 ∧ ((l).getD ((x1 : Int)).toNat (0, 0)).2 ≤ 9223372036854775807) ∧ ((-9223372036854775808 ≤ ((l).getD ((((x1 : Int)) + ((1 : Int))) % (((l).length : Int))).toNat (0, 0)).1 ∧ ((l).getD ((((x1 : Int)) + ((1 : Int))) % (((l).length : Int))).toNat (0, 0)).1 ≤ 9223372036854775807) ∧ ((szI (((l).getD ((x1 : Int)).toNat (0, 0)).2) ≤ 10000000 ∧ szI (((l).getD ((((x1 : Int)) + ((1 : Int))) % (((l).length : Int))).toNat (0, 0)).1) ≤ 10000000) ∧ ((szI (((Rt.areaK l x1) + (((l).getD ((x1 : Int)).toNat (0, 0)).1 * ((l).getD ((((x1 : Int)) + ((1 : Int))) % (((l).length : Int))).toNat (0, 0)).2))) ≤ 10000000 ∧ szI ((((l).getD ((x1 : Int)).toNat (0, 0)).2 * ((l).getD ((((x1 : Int)) + ((1 : Int))) % (((l).length : Int))).toNat (0, 0)).1)) ≤ 10000000) ∧ ((inR .i64 (((x1 : Int)) + ((1 : Int)))) ∧ (∃ y1 : Nat, (((y1 ≤ l.length)) ∧ ((l.length - y1 < l.length - x1) ∧ (((l = l) ∧ ((Value.bool (ccw) = (.bool (ccw))) ∧ ((True) ∧ ((l = l) ∧ ((Value.int .i64 ((l.length : Int)) = (.int .i64 ((l.length : Int)))) ∧ ((Value.int .i64 (((x1 : Int)) + ((1 : Int))) = (.int .i64 ((y1 : Int)))) ∧ (True))))))) ∧ ((((((Rt.areaK l x1) + (((l).getD ((x1 : Int)).toNat (0, 0)).1 * ((l).getD ((((x1 : Int)) + ((1 : Int))) % (((l).length : Int))).toNat (0, 0)).2)) - (((l).getD ((x1 : Int)).toNat (0, 0)).2 * ((l).getD ((((x1 : Int)) + ((1 : Int))) % (((l).length : Int))).toNat (0, 0)).1)) = (Rt.areaK l y1)) ∧ (True)) ∧ (True)))))))))))))))))))) ∧ ((decide (((x1 : Int)) < ((l.length : Int)))) = false → (Qa .normal ⟨[.k (.c (.pt (l))), .k (.c (.v (.bool (ccw)))), .u, .u, .u, .k (.c (.bx 0 0)), .u, .u, .u, .u, .u, .u, .k (.c (.pt (l))), .k (.c (.v (.int .i64 ((l.length : Int))))), .k (.c (.v (.int .i64 ((x1 : Int))))), .k (.c (.v (.bool (decide (((x1 : Int)) < ((l.length : Int))))))), .u, .u, .u, .u, .u, .u, .u, .u, .u, .u, .u, .u, .u, .u, .u, .u, .u, .u, .u, .u, .u, .u, .u, .u, .u, .u, .u, .u, .u, .u, .u, .u, .u, .u, .u, .u, .u, .u, .u, .u, .u, .u, .u, .u, .u, .u], [⟨37, [.I ((Rt.areaK l x1))]⟩]⟩))))))) = awp LT CT0 [.inv 3 (Nat) (fun ξ => ⟨[.k (.c (.pt (l))), .k (.c (.v (.bool (ccw)))), .u, .u, .u, .k (.c (.bx 0 0)), .u, .u, .u, .u, .u, .u, .k (.c (.pt (l))), .k (.c (.v (.int .i64 ((l.length : Int))))), .k (.c (.v (.int .i64 ((ξ : Int))))), .u, .u, .u, .u, .u, .u, .u, .u, .u, .u, .u, .u, .u, .u, .u, .u, .u, .u, .u, .u, .u, .u, .u, .u, .u, .u, .u, .u, .u, .u, .u, .u, .u, .u, .u, .u, .u, .u, .u, .u, .u, .u, .u, .u, .u, .u, .u], [⟨37, [.I ((Rt.areaK l ξ))]⟩]⟩) (fun _ ξ => (ξ ≤ l.length)) (fun ξ => l.length - ξ)] (preT (Try.f12.body.getD .skip)) ⟨[.k (.c (.pt (l))), .k (.c (.v (.bool (ccw)))), .u, .u, .u, .u, .u, .u, .u, .u, .u, .u, .u, .u, .u, .u, .u, .u, .u, .u, .u, .u, .u, .u, .u, .u, .u, .u, .u, .u, .u, .u, .u, .u, .u, .u, .u, .u, .u, .u, .u, .u, .u, .u, .u, .u, .u, .u, .u, .u, .u, .u, .u, .u, .u, .u, .u, .u, .u, .u, .u, .u], []⟩ Qa by kernel_rfl) ?_
  obtain ⟨hg, hl⟩ := hp
  refine ⟨⟨by omega, by omega⟩, ⟨0, Nat.zero_le _, ⟨rfl, rfl, trivial, rfl, rfl, rfl, trivial⟩, ⟨by simp [Rt.areaK, Rt.sumN], trivial⟩, trivial⟩, ?_⟩
  intro k hk
  rw [nxt_int, Int.toNat_natCast]
  obtain ⟨a1, a2⟩ := inG_spec (hg k)
  obtain ⟨b1, b2⟩ := inG_spec (hg (Rt.nxt l k))
  have hA := area_bound hg k
  have m1 := mul_bound a1 b2
  have m2 := mul_bound a2 b1
  have hstep : Rt.areaK l (k + 1) = Rt.areaK l k + ((l.getD k (0, 0)).1 * (l.getD (Rt.nxt l k) (0, 0)).2 - (l.getD k (0, 0)).2 * (l.getD (Rt.nxt l k) (0, 0)).1) := rfl
  have i3 : ∀ z : Int, z.natAbs < 1000000000000000000000000000 → szI z ≤ 10000000 := fun z hz => by
    have h1 : szI z ≤ 3 := szI_le (by
      have : Lb.B ^ 3 = 1000000000000000000000000000 := rfl
      rw [this]; exact hz)
    omega
  refine ⟨fun h => ?_, fun h => ?_⟩
  · have hkl : k < l.length := by simpa using h
    have h3 : 0 < (l.length : Int) := by omega
    have h4 := Int.emod_nonneg ((k : Int) + 1) (show (l.length : Int) ≠ 0 by omega)
    have h5 := Int.emod_lt_of_pos ((k : Int) + 1) h3
    generalize (l.getD k (0, 0)).1 * (l.getD (Rt.nxt l k) (0, 0)).2 = u at *
    generalize (l.getD k (0, 0)).2 * (l.getD (Rt.nxt l k) (0, 0)).1 = v at *
    exact ⟨⟨by omega, by omega⟩, by simp only [inR]; omega, ⟨by omega, h3⟩, ⟨h4, h5⟩, ⟨by omega, by omega⟩, ⟨by omega, by omega⟩, ⟨i3 _ (by omega), i3 _ (by omega)⟩, ⟨i3 _ (by omega), i3 _ (by omega)⟩, ⟨by omega, by omega⟩, ⟨by omega, by omega⟩, ⟨i3 _ (by omega), i3 _ (by omega)⟩, ⟨i3 _ (by omega), i3 _ (by omega)⟩, by simp only [inR]; omega, k + 1, hkl, by omega, ⟨rfl, rfl, trivial, rfl, rfl, rfl, trivial⟩, ⟨by rw [hstep]; omega, trivial⟩, trivial⟩
  · have hkl : k = l.length := by
      have := of_decide_eq_false h
      omega
    subst hkl
    exact hQ
end Vc
end Go.Proofs.Ytlkhkldgmlfhkaa
