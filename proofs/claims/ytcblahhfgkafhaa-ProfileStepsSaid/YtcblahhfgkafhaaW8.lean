/-
  Walks: Smooth of layer 49, in the reference; limits that are not valid.
-/
import Derived.Test.YtcblahhfgkafhaaW7
namespace Go.Proofs.Ytcblahhfgkafhaa
open Go.RowKit

/-- A box of limits in a world that extends w. -/
structure LBox (w wr : World) (N : Nat) (s a j : Int) : Prop where
  ext : Ext w wr
  nlt : N < wr.heap.size
  c0 : wr.cell? ⟨N, 0, none⟩ = some (.int .i64 s)
  c1 : wr.cell? ⟨N, 1, none⟩ = some (.int .i64 a)
  c2 : wr.cell? ⟨N, 2, none⟩ = some (.int .i64 j)
theorem LBox.later {w wr w1 : World} {N : Nat} {s a j : Int} (h : LBox w wr N s a j) (he : Ext wr w1) : LBox w w1 N s a j where
  ext := h.ext.trans he
  nlt := Nat.lt_of_lt_of_le h.nlt he.size
  c0 := by rw [he.cell h.nlt]; exact h.c0
  c1 := by rw [he.cell h.nlt]; exact h.c1
  c2 := by rw [he.cell h.nlt]; exact h.c2
theorem LBox.mk' {w w1 : World} {s a j : Int} {t : TypeId} (he : Ext (w.alloc (.cells #[.int .i64 s, .int .i64 a, .int .i64 j] t)) w1) : LBox w w1 w.heap.size s a j := by
  obtain ⟨k0, k1, k2⟩ := box_cells he
  have hz := he.size
  simp at hz
  exact ⟨((Ext.refl w).alloc _).trans he, by omega, k0, k1, k2⟩

set_option maxHeartbeats 2000000 in
theorem rsmooth_core (ad : Option Addr) (cap b off : Nat) (l : List Int) (s a j : Int) (w : World) (hv : vld s a j = true) (hn : l.length ≤ 1000000000000) (had : l.length = 0 ∨ ad = some ⟨b, off, none⟩)
    (hc : ∀ i, i < l.length → b < w.heap.size ∧ w.cell? ⟨b, off + i, none⟩ = some (.int .i64 (l.getD i 0))) :
    Calls Try.prog 18 #[.slice ad l.length cap, Lm s a j] w fun e w' => e = .returned (.bool (smth s a j l)) ∧ Ext w w' := by
  have hs := (vld_iff s a j).1 hv
  have HV := Lib.hid hv; clear hv
  have HC := Lib.hid hc; clear hc
  have HAD := Lib.hid had; clear had
  have he1 : smth s a j l = smGo s a j 0 0 (l ++ [0, 0]) := by simp [smth, HV.out]
  have HE := Lib.hid he1; clear he1
  generalize hN : l.length = n at hn
  have HN := Lib.hid hN; clear hN
  obtain ⟨⟨s1, s2⟩, ⟨a1, a2⟩, ⟨j1, j2⟩⟩ := hs
  go_enter Try.func18, Try.ntmps18
  go_wp2_with fail
  refine (rvalid_yes s a j _ HV.out).mono ?_
  rintro e w1 ⟨rfl, he⟩
  have hb1 := LBox.mk' he
  obtain ⟨k0, k1, k2⟩ := box_cells he
  go_wp2
  go_loopw [5, 6, 7] (fun p q t wr => ∃ (k : Nat) (x y : Int), k ≤ n + 2 ∧ t = .int .i64 k ∧ p = .int .i64 x ∧ q = .int .i64 y ∧ LBox w wr w.heap.size s a j ∧ 0 ≤ x ∧ x ≤ s ∧ -a ≤ y ∧ y ≤ a ∧ smGo s a j 0 0 (l ++ [0, 0]) = smGo s a j x y ((l ++ [0, 0]).drop k)) (fun _ _ t _ => n + 2 - (intOf t).toNat)
  case atStart => exact ⟨0, 0, 0, by omega, rfl, rfl, rfl, hb1, by omega, by omega, by omega, by omega, rfl⟩
  case round =>
    obtain ⟨k, x, y, hk, rfl, rfl, rfl, hb, x1, x2, y1, y2, hsm⟩ := hrel
    clear he k0 k1 k2
    have c0 := hb.c0; have c1 := hb.c1; have c2 := hb.c2
    by_cases hlt : k < n + 2
    · have hdr := getD_app2 l k (by rw [HN.out]; exact hlt)
      rw [HN.out] at hdr
      by_cases hkn : k < n
      · rw [if_pos hkn] at hdr
        obtain ⟨hbn, hcell⟩ := HC.out k (by rw [HN.out]; exact hkn)
        have hcell' := hcell
        rw [← hb.ext.cell (p := ⟨b, off + k, none⟩) hbn] at hcell'
        obtain rfl : ad = some ⟨b, off, none⟩ := (HAD.out).resolve_left (by rw [HN.out]; omega)
        clear hcell
        generalize l.getD k 0 = e at hdr hcell'
        have G := Lib.hid (And.intro hsm (And.intro hdr trivial))
        clear hsm hdr
        cases t1 : inR e 0 s
        · have hf : smth s a j l = false := by rw [HE.out, G.out.1, G.out.2.1]; simp [smGo, t1]
          have HF := Lib.hid hf; clear hf
          go_wp2_with ((go_at_call 33; refine (within_ref _ _ _ _).mono ?_; rintro e w' ⟨rfl, rfl⟩))
          go_ret
          exact ⟨ret_bool HF.out.symm, hb.ext⟩
        obtain ⟨e1, e2⟩ := (inR_iff _ _ _).1 t1
        cases t2 : inR (e - x) (-a) a
        · have hf : smth s a j l = false := by rw [HE.out, G.out.1, G.out.2.1]; simp [smGo, t1, t2]
          have HF := Lib.hid hf; clear hf
          go_wp2_with ((go_at_call 33; refine (within_ref _ _ _ _).mono ?_; rintro e w' ⟨rfl, rfl⟩))
          go_ret
          exact ⟨ret_bool HF.out.symm, hb.ext⟩
        obtain ⟨e3, e4⟩ := (inR_iff _ _ _).1 t2
        cases t3 : inR (e - x - y) (-j) j
        · have hf : smth s a j l = false := by rw [HE.out, G.out.1, G.out.2.1]; simp [smGo, t1, t2, t3]
          have HF := Lib.hid hf; clear hf
          go_wp2_with ((go_at_call 33; refine (within_ref _ _ _ _).mono ?_; rintro e w' ⟨rfl, rfl⟩))
          go_ret
          exact ⟨ret_bool HF.out.symm, hb.ext⟩
        have hg : smGo s a j 0 0 (l ++ [0, 0]) = smGo s a j e (e - x) ((l ++ [0, 0]).drop (k + 1)) := by rw [G.out.1, G.out.2.1]; simp [smGo, t1, t2, t3]
        have HG := Lib.hid hg; clear hg
        go_wp2_with ((go_at_call 33; refine (within_ref _ _ _ _).mono ?_; rintro e w' ⟨rfl, rfl⟩))
        go_roundw
        case rel => exact ⟨k + 1, e, e - x, by omega, by go_num, rfl, rfl, hb, by omega, by omega, by omega, by omega, HG.out⟩
        case measure => simp [intOf]; omega
      · rw [if_neg hkn] at hdr
        have G := Lib.hid (And.intro hsm (And.intro hdr trivial))
        clear hsm hdr
        cases t1 : inR 0 0 s
        · have hf : smth s a j l = false := by rw [HE.out, G.out.1, G.out.2.1]; simp [smGo, t1]
          have HF := Lib.hid hf; clear hf
          go_wp2_with ((go_at_call 33; refine (within_ref _ _ _ _).mono ?_; rintro e w' ⟨rfl, rfl⟩))
          go_ret
          exact ⟨ret_bool HF.out.symm, hb.ext⟩
        obtain ⟨e1, e2⟩ := (inR_iff _ _ _).1 t1
        cases t2 : inR (-x) (-a) a
        · have hf : smth s a j l = false := by rw [HE.out, G.out.1, G.out.2.1]; simp [smGo, t1, t2]
          have HF := Lib.hid hf; clear hf
          go_wp2_with ((go_at_call 33; refine (within_ref _ _ _ _).mono ?_; rintro e w' ⟨rfl, rfl⟩))
          go_ret
          exact ⟨ret_bool HF.out.symm, hb.ext⟩
        obtain ⟨e3, e4⟩ := (inR_iff _ _ _).1 t2
        cases t3 : inR (-x - y) (-j) j
        · have hf : smth s a j l = false := by rw [HE.out, G.out.1, G.out.2.1]; simp [smGo, t1, t2, t3]
          have HF := Lib.hid hf; clear hf
          go_wp2_with ((go_at_call 33; refine (within_ref _ _ _ _).mono ?_; rintro e w' ⟨rfl, rfl⟩))
          go_ret
          exact ⟨ret_bool HF.out.symm, hb.ext⟩
        have hg : smGo s a j 0 0 (l ++ [0, 0]) = smGo s a j 0 (-x) ((l ++ [0, 0]).drop (k + 1)) := by rw [G.out.1, G.out.2.1]; simp [smGo, t1, t2, t3]
        have HG := Lib.hid hg; clear hg
        go_wp2_with ((go_at_call 33; refine (within_ref _ _ _ _).mono ?_; rintro e w' ⟨rfl, rfl⟩))
        go_roundw
        case rel => exact ⟨k + 1, 0, -x, by omega, by go_num, rfl, rfl, hb, by omega, by omega, by omega, by omega, HG.out⟩
        case measure => simp [intOf]; omega
    · have hk2 : k = n + 2 := by omega
      have hf : smth s a j l = true := by
        rw [HE.out, hsm, List.drop_of_length_le (by simp [HN.out, hk2])]; rfl
      have HF := Lib.hid hf; clear hf hsm hk2
      go_wp2
      go_ret
      exact ⟨ret_bool HF.out.symm, hb.ext⟩

set_option maxHeartbeats 400000 in
theorem smooth_no (v : Value) (l : List Int) (s a j : Int) (w : World) (hv : vld s a j = false) :
    Calls Try.prog 17 #[v, Lm s a j] w fun e w' => e = .returned (.bool (smth s a j l)) ∧ Ext w w' := by
  have he1 : smth s a j l = false := by simp [smth, hv]
  rw [he1]; clear he1
  have HV := Lib.hid hv; clear hv
  go_enter Try.func17, Try.ntmps17
  go_wp2_with fail
  refine (valid_no s a j _ HV.out).mono ?_
  rintro e w1 ⟨rfl, he⟩
  go_wp2
  go_ret
  exact ⟨rfl, ((Ext.refl w).alloc _).trans he⟩

set_option maxHeartbeats 400000 in
theorem rsmooth_no (v : Value) (l : List Int) (s a j : Int) (w : World) (hv : vld s a j = false) :
    Calls Try.prog 18 #[v, Lm s a j] w fun e w' => e = .returned (.bool (smth s a j l)) ∧ Ext w w' := by
  have he1 : smth s a j l = false := by simp [smth, hv]
  rw [he1]; clear he1
  have HV := Lib.hid hv; clear hv
  go_enter Try.func18, Try.ntmps18
  go_wp2_with fail
  refine (rvalid_no s a j _ HV.out).mono ?_
  rintro e w1 ⟨rfl, he⟩
  go_wp2
  go_ret
  exact ⟨rfl, ((Ext.refl w).alloc _).trans he⟩

theorem smooth_any (v : Value) (l : List Int) (s a j : Int) (w : World) (h : SlI w v l) (hn : l.length ≤ 1000000000000) :
    Calls Try.prog 17 #[v, Lm s a j] w fun e w' => e = .returned (.bool (smth s a j l)) ∧ Ext w w' := by
  cases hv : vld s a j
  · exact smooth_no v l s a j w hv
  · obtain ⟨ad, n, cap, b, off, rfl, rfl, h3, h4⟩ := h
    exact smooth_core ad cap b off l s a j w hv hn h3 h4
theorem rsmooth_any (v : Value) (l : List Int) (s a j : Int) (w : World) (h : SlI w v l) (hn : l.length ≤ 1000000000000) :
    Calls Try.prog 18 #[v, Lm s a j] w fun e w' => e = .returned (.bool (smth s a j l)) ∧ Ext w w' := by
  cases hv : vld s a j
  · exact rsmooth_no v l s a j w hv
  · obtain ⟨ad, n, cap, b, off, rfl, rfl, h3, h4⟩ := h
    exact rsmooth_core ad cap b off l s a j w hv hn h3 h4

end Go.Proofs.Ytcblahhfgkafhaa
