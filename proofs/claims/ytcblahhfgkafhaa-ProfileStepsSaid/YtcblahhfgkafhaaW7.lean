/-
  Walks: Smooth of layer 49, in the program and in the reference.
-/
import Derived.Test.YtcblahhfgkafhaaW6
import Derived.Test.YtcblahhfgkafhaaMath2
namespace Go.Proofs.Ytcblahhfgkafhaa
open Go.RowKit

/-- A slice that reads as a list of numbers. -/
def SlI (w : World) (v : Value) (l : List Int) : Prop :=
  ∃ (a : Option Addr) (n cap b off : Nat), v = .slice a n cap ∧ n = l.length ∧ (n = 0 ∨ a = some ⟨b, off, none⟩) ∧ ∀ i, i < n → b < w.heap.size ∧ w.cell? ⟨b, off + i, none⟩ = some (.int .i64 (l.getD i 0))

theorem SlI.later {w w' : World} {v : Value} {l : List Int} (h : SlI w v l) (he : Ext w w') : SlI w' v l := by
  obtain ⟨a, n, cap, b, off, h1, h2, h3, h4⟩ := h
  refine ⟨a, n, cap, b, off, h1, h2, h3, fun i hi => ?_⟩
  obtain ⟨p, q⟩ := h4 i hi
  exact ⟨Nat.lt_of_lt_of_le p he.size, by rw [he.cell p]; exact q⟩

theorem Own.sl {B : Nat} {w : World} {v : Value} {l : List Int} (h : Own B w v l) : SlI w v l := by
  obtain ⟨h1, h2⟩ := h
  rcases h2 with ⟨rfl, h3⟩ | ⟨g, cap, cur, rfl, h3, h4, h5, h6, h7, h8⟩
  · exact ⟨none, 0, 0, 0, 0, rfl, h3.symm, .inl rfl, fun i hi => by omega⟩
  · refine ⟨_, _, cap, g, 0, rfl, rfl, .inr rfl, fun i hi => ⟨?_, ?_⟩⟩
    · rcases Nat.lt_or_ge g w.heap.size with h' | h'
      · exact h'
      · rw [Array.getElem?_eq_none h'] at h4; cases h4
    · have e : cur[i]? = some (.int .i64 (l.getD i 0)) := by
        have : (cur.toList.take (l.length * 1))[i]? = (l.map (Value.int .i64))[i]? := by rw [h8]
        rw [List.getElem?_take_of_lt (by omega)] at this
        simpa [hi] using this
      simp [World.cell?, h4, e]

set_option maxHeartbeats 2000000 in
theorem smooth_core (ad : Option Addr) (cap b off : Nat) (l : List Int) (s a j : Int) (w : World) (hv : vld s a j = true) (hn : l.length ≤ 1000000000000) (had : l.length = 0 ∨ ad = some ⟨b, off, none⟩)
    (hc : ∀ i, i < l.length → b < w.heap.size ∧ w.cell? ⟨b, off + i, none⟩ = some (.int .i64 (l.getD i 0))) :
    Calls Try.prog 17 #[.slice ad l.length cap, Lm s a j] w fun e w' => e = .returned (.bool (smth s a j l)) ∧ Ext w w' := by
  have hs := (vld_iff s a j).1 hv
  have HV := Lib.hid hv; clear hv
  have HC := Lib.hid hc; clear hc
  have HAD := Lib.hid had; clear had
  have he1 : smth s a j l = smGo s a j 0 0 (l ++ [0, 0]) := by simp [smth, HV.out]
  have HE := Lib.hid he1; clear he1
  generalize hN : l.length = n at hn
  have HN := Lib.hid hN; clear hN
  obtain ⟨⟨s1, s2⟩, ⟨a1, a2⟩, ⟨j1, j2⟩⟩ := hs
  go_enter Try.func17, Try.ntmps17
  go_wp2_with fail
  refine (valid_yes s a j _ HV.out).mono ?_
  rintro e w1 ⟨rfl, he⟩
  obtain ⟨k0, k1, k2⟩ := box_cells he
  go_wp2
  go_loopw [15] (fun t wr => ∃ (k : Nat) (x y : Int), k ≤ n + 2 ∧ t = .int .i64 k ∧ DBox w wr w.heap.size w1.heap.size s a j x y ∧ 0 ≤ x ∧ x ≤ s ∧ -a ≤ y ∧ y ≤ a ∧ smGo s a j 0 0 (l ++ [0, 0]) = smGo s a j x y ((l ++ [0, 0]).drop k)) (fun t _ => n + 2 - (intOf t).toNat)
  case atStart =>
    have hz := he.size
    simp at hz
    refine ⟨0, 0, 0, by omega, rfl, ?_, by omega, by omega, by omega, by omega, rfl⟩
    exact { ext := (((Ext.refl w).alloc _).trans he).alloc _, old := by omega, nm := by omega, nlt := by simp; omega, mlt := by simp, c0 := by rw [World.cell?_alloc_past _ _ _ (show w.heap.size < w1.heap.size by omega)]; exact k0, c1 := by rw [World.cell?_alloc_past _ _ _ (show w.heap.size < w1.heap.size by omega)]; exact k1, c2 := by rw [World.cell?_alloc_past _ _ _ (show w.heap.size < w1.heap.size by omega)]; exact k2, d0 := by simp [go_sem], d1 := by simp [go_sem], f0 := by simp [go_sem], f1 := by simp [go_sem] }
  case round =>
    obtain ⟨k, x, y, hk, rfl, hb, x1, x2, y1, y2, hsm⟩ := hrel
    clear he k0 k1 k2
    have c0 := hb.c0; have c1 := hb.c1; have c2 := hb.c2; have d0 := hb.d0; have d1 := hb.d1; have f0 := hb.f0; have f1 := hb.f1
    by_cases hlt : k < n + 2
    · have hdr := getD_app2 l k (by rw [HN.out]; exact hlt)
      rw [HN.out] at hdr
      by_cases hkn : k < n
      · rw [if_pos hkn] at hdr
        obtain ⟨hbn, hcell⟩ := HC.out k (by rw [HN.out]; exact hkn)
        have hcell' := hcell
        rw [← hb.ext.cell (p := ⟨b, off + k, none⟩) hbn] at hcell'
        obtain rfl : ad = some ⟨b, off, none⟩ := (HAD.out).resolve_left (by rw [HN.out]; omega)
        clear hcell
        generalize l.getD k 0 = e at hdr hcell'
        have G := Lib.hid (And.intro hsm (And.intro hdr trivial))
        clear hsm hdr
        cases t1 : inR e 0 s
        · have hf : smth s a j l = false := by rw [HE.out, G.out.1, G.out.2.1]; simp [smGo, t1]
          have HF := Lib.hid hf; clear hf
          go_wp2_with ((go_at_call 32; refine (within_any _ _ _ _).mono ?_; rintro e w' ⟨rfl, rfl⟩))
          go_ret
          exact ⟨ret_bool HF.out.symm, hb.ext⟩
        obtain ⟨e1, e2⟩ := (inR_iff _ _ _).1 t1
        cases t2 : inR (e - x) (-a) a
        · have hf : smth s a j l = false := by rw [HE.out, G.out.1, G.out.2.1]; simp [smGo, t1, t2]
          have HF := Lib.hid hf; clear hf
          go_wp2_with ((go_at_call 32; refine (within_any _ _ _ _).mono ?_; rintro e w' ⟨rfl, rfl⟩))
          go_ret
          exact ⟨ret_bool HF.out.symm, hb.ext⟩
        obtain ⟨e3, e4⟩ := (inR_iff _ _ _).1 t2
        cases t3 : inR (e - x - y) (-j) j
        · have hf : smth s a j l = false := by rw [HE.out, G.out.1, G.out.2.1]; simp [smGo, t1, t2, t3]
          have HF := Lib.hid hf; clear hf
          go_wp2_with ((go_at_call 32; refine (within_any _ _ _ _).mono ?_; rintro e w' ⟨rfl, rfl⟩))
          go_ret
          exact ⟨ret_bool HF.out.symm, hb.ext⟩
        have hg : smGo s a j 0 0 (l ++ [0, 0]) = smGo s a j e (e - x) ((l ++ [0, 0]).drop (k + 1)) := by rw [G.out.1, G.out.2.1]; simp [smGo, t1, t2, t3]
        have HG := Lib.hid hg; clear hg
        go_wp2_with ((go_at_call 32; refine (within_any _ _ _ _).mono ?_; rintro e w' ⟨rfl, rfl⟩))
        go_roundw
        case rel => exact ⟨k + 1, e, e - x, by omega, by go_num, hb.set e (e - x), by omega, by omega, by omega, by omega, HG.out⟩
        case measure => simp [intOf]; omega
      · rw [if_neg hkn] at hdr
        obtain ⟨e, he0⟩ : ∃ e : Int, e = 0 := ⟨0, rfl⟩
        rw [← he0] at hdr
        have G := Lib.hid (And.intro hsm (And.intro hdr trivial))
        clear hsm hdr
        subst he0
        cases t1 : inR 0 0 s
        · have hf : smth s a j l = false := by rw [HE.out, G.out.1, G.out.2.1]; simp [smGo, t1]
          have HF := Lib.hid hf; clear hf
          go_wp2_with ((go_at_call 32; refine (within_any _ _ _ _).mono ?_; rintro e w' ⟨rfl, rfl⟩))
          go_ret
          exact ⟨ret_bool HF.out.symm, hb.ext⟩
        obtain ⟨e1, e2⟩ := (inR_iff _ _ _).1 t1
        cases t2 : inR (-x) (-a) a
        · have hf : smth s a j l = false := by rw [HE.out, G.out.1, G.out.2.1]; simp [smGo, t1, t2]
          have HF := Lib.hid hf; clear hf
          go_wp2_with ((go_at_call 32; refine (within_any _ _ _ _).mono ?_; rintro e w' ⟨rfl, rfl⟩))
          go_ret
          exact ⟨ret_bool HF.out.symm, hb.ext⟩
        obtain ⟨e3, e4⟩ := (inR_iff _ _ _).1 t2
        cases t3 : inR (-x - y) (-j) j
        · have hf : smth s a j l = false := by rw [HE.out, G.out.1, G.out.2.1]; simp [smGo, t1, t2, t3]
          have HF := Lib.hid hf; clear hf
          go_wp2_with ((go_at_call 32; refine (within_any _ _ _ _).mono ?_; rintro e w' ⟨rfl, rfl⟩))
          go_ret
          exact ⟨ret_bool HF.out.symm, hb.ext⟩
        have hg : smGo s a j 0 0 (l ++ [0, 0]) = smGo s a j 0 (-x) ((l ++ [0, 0]).drop (k + 1)) := by rw [G.out.1, G.out.2.1]; simp [smGo, t1, t2, t3]
        have HG := Lib.hid hg; clear hg
        go_wp2_with ((go_at_call 32; refine (within_any _ _ _ _).mono ?_; rintro e w' ⟨rfl, rfl⟩))
        go_roundw
        case rel => exact ⟨k + 1, 0, -x, by omega, by go_num, hb.set 0 (-x), by omega, by omega, by omega, by omega, HG.out⟩
        case measure => simp [intOf]; omega
    · have hk2 : k = n + 2 := by omega
      have hf : smth s a j l = true := by
        rw [HE.out, hsm, List.drop_of_length_le (by simp [HN.out, hk2])]; rfl
      have HF := Lib.hid hf; clear hf hsm hk2
      go_wp2
      go_ret
      exact ⟨ret_bool HF.out.symm, hb.ext⟩

end Go.Proofs.Ytcblahhfgkafhaa
