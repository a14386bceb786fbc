/-
  Walks: Position of layer 49, continued.
-/
import Derived.Test.YtcblahhfgkafhaaW9
namespace Go.Proofs.Ytcblahhfgkafhaa
open Go.RowKit

set_option maxHeartbeats 1000000 in
theorem pos_bad (ax ay az bx cy bz p n : Int) (w : World) (h : n < 1 ∨ p < 0 ∨ n < p) :
    Calls Try.prog 26 #[Ps ax ay az, Ps bx cy bz, .int .i64 p, .int .i64 n] w fun e w' => e = .returned (.tuple #[Ps 0 0 0, .int .i64 1]) ∧ Ext w w' := by
  rcases (show n < 1 ∨ (¬ n < 1 ∧ p < 0) ∨ (¬ n < 1 ∧ ¬ p < 0 ∧ n < p) by omega) with h1 | ⟨h1, h2⟩ | ⟨h1, h2, h3⟩
  · clear h
    go_enter Try.func26, Try.ntmps26
    go_wp2
    refine bodyPost_ret (v := .tuple #[Ps 0 0 0, .int .i64 1]) (by simp [results, Try.results26, go_sem]) rfl ⟨rfl, ?_⟩
    exact (((((Ext.refl w).alloc _).alloc _).alloc _).alloc _).alloc _
  · have h1' : decide (n < 1) = false := by simpa using h1
    clear h
    go_enter Try.func26, Try.ntmps26
    go_wp2
    refine bodyPost_ret (v := .tuple #[Ps 0 0 0, .int .i64 1]) (by simp [results, Try.results26, go_sem]) rfl ⟨rfl, ?_⟩
    exact (((((Ext.refl w).alloc _).alloc _).alloc _).alloc _).alloc _
  · have h1' : decide (n < 1) = false := by simpa using h1
    have h2' : decide (p < 0) = false := by simpa using h2
    clear h
    go_enter Try.func26, Try.ntmps26
    go_wp2
    refine bodyPost_ret (v := .tuple #[Ps 0 0 0, .int .i64 1]) (by simp [results, Try.results26, go_sem]) rfl ⟨rfl, ?_⟩
    exact (((((Ext.refl w).alloc _).alloc _).alloc _).alloc _).alloc _

/-- The numbers that Position looks at. -/
def lookAt (ax ay az bx cy bz n : Int) : List Int := [n, ax, ay, az, bx, cy, bz]

/-- The boxes of Position. -/
structure PBox (w W : World) (ax ay az bx cy bz p n : Int) : Prop where
  ext : Ext w W
  a0 : ∀ x : Later W, x.w.cell? ⟨w.heap.size, 0, none⟩ = some (.int .i64 ax)
  a1 : ∀ x : Later W, x.w.cell? ⟨w.heap.size, 1, none⟩ = some (.int .i64 ay)
  a2 : ∀ x : Later W, x.w.cell? ⟨w.heap.size, 2, none⟩ = some (.int .i64 az)
  b0 : ∀ x : Later W, x.w.cell? ⟨w.heap.size + 1, 0, none⟩ = some (.int .i64 bx)
  b1 : ∀ x : Later W, x.w.cell? ⟨w.heap.size + 1, 1, none⟩ = some (.int .i64 cy)
  b2 : ∀ x : Later W, x.w.cell? ⟨w.heap.size + 1, 2, none⟩ = some (.int .i64 bz)
  c : ∀ x : Later W, x.w.cell? ⟨w.heap.size + 1 + 1, 0, none⟩ = some (.int .i64 p)
  d : ∀ x : Later W, x.w.cell? ⟨w.heap.size + 1 + 1 + 1, 0, none⟩ = some (.int .i64 n)
  r0 : ∀ x : Later W, x.w.cell? ⟨w.heap.size + 1 + 1 + 1 + 1, 0, none⟩ = some (.int .i64 0)
  r1 : ∀ x : Later W, x.w.cell? ⟨w.heap.size + 1 + 1 + 1 + 1, 1, none⟩ = some (.int .i64 0)
  r2 : ∀ x : Later W, x.w.cell? ⟨w.heap.size + 1 + 1 + 1 + 1, 2, none⟩ = some (.int .i64 0)
  f0 : ∀ x : Later W, x.w.frozen? ⟨w.heap.size + 1 + 1 + 1 + 1, 0, none⟩ = false
  f1 : ∀ x : Later W, x.w.frozen? ⟨w.heap.size + 1 + 1 + 1 + 1, 1, none⟩ = false
  f2 : ∀ x : Later W, x.w.frozen? ⟨w.heap.size + 1 + 1 + 1 + 1, 2, none⟩ = false
  l : ∀ k, k < 7 → W.cell? ⟨w.heap.size + 1 + 1 + 1 + 1 + 1, k, none⟩ = some (.int .i64 ((lookAt ax ay az bx cy bz n).getD k 0))

theorem pos_boxes {w : World} (ax ay az bx cy bz p n : Int) (t t2 : TypeId) : ∃ W : World, (((((w.alloc (.cells #[.int .i64 ax, .int .i64 ay, .int .i64 az] t)).alloc (.cells #[.int .i64 bx, .int .i64 cy, .int .i64 bz] t)).alloc (.cells #[.int .i64 p] t2)).alloc (.cells #[.int .i64 n] t2)).alloc (.cells #[.int .i64 0, .int .i64 0, .int .i64 0] t)).alloc (.cells #[.int .i64 n, .int .i64 ax, .int .i64 ay, .int .i64 az, .int .i64 bx, .int .i64 cy, .int .i64 bz] t2) = W ∧ PBox w W ax ay az bx cy bz p n := by
  refine ⟨_, rfl, ?_⟩
  exact {
    ext := ((((((Ext.refl w).alloc _).alloc _).alloc _).alloc _).alloc _).alloc _
    a0 := Later.cell (by simp [go_sem])
    a1 := Later.cell (by simp [go_sem])
    a2 := Later.cell (by simp [go_sem])
    b0 := Later.cell (by simp [go_sem])
    b1 := Later.cell (by simp [go_sem])
    b2 := Later.cell (by simp [go_sem])
    c := Later.cell (by simp [go_sem])
    d := Later.cell (by simp [go_sem])
    r0 := Later.cell (by simp [go_sem])
    r1 := Later.cell (by simp [go_sem])
    r2 := Later.cell (by simp [go_sem])
    f0 := Later.frozen (by simp) (by simp [go_sem])
    f1 := Later.frozen (by simp) (by simp [go_sem])
    f2 := Later.frozen (by simp) (by simp [go_sem])
    l := fun k hk => by
      have : k = 0 ∨ k = 1 ∨ k = 2 ∨ k = 3 ∨ k = 4 ∨ k = 5 ∨ k = 6 := by omega
      rcases this with rfl | rfl | rfl | rfl | rfl | rfl | rfl <;> simp [go_sem, lookAt] }

/-- What Position returns, where the arguments are valid. -/
def posV (ax ay az bx cy bz p n : Int) : Value := if (lookAt ax ay az bx cy bz n).all near then .tuple #[Ps (btw ax bx p n) (btw ay cy p n) (btw az bz p n), .int .i64 0] else .tuple #[Ps 0 0 0, .int .i64 11]
theorem posV_far {ax ay az bx cy bz p n : Int} (h : (lookAt ax ay az bx cy bz n).all near = false) : posV ax ay az bx cy bz p n = .tuple #[Ps 0 0 0, .int .i64 11] := by simp [posV, h]
theorem posV_near {ax ay az bx cy bz p n : Int} (h : (lookAt ax ay az bx cy bz n).all near = true) : posV ax ay az bx cy bz p n = .tuple #[Ps (btw ax bx p n) (btw ay cy p n) (btw az bz p n), .int .i64 0] := by simp [posV, h]
theorem ret_val {a b : Value} (h : a = b) : Ending.returned a = .returned b := by rw [h]

theorem all_of_getD {l : List Int} (m : Nat) (hm : l.length = m) (h : ∀ i, i < m → near (l.getD i 0) = true) : l.all near = true := by
  rw [List.all_eq_true]
  intro x hx
  obtain ⟨i, hi, rfl⟩ := List.mem_iff_getElem.1 hx
  have := h i (by omega)
  simpa [hi] using this
theorem not_all_of_getD {l : List Int} {k : Nat} (hk : k < l.length) (h : near (l.getD k 0) = false) : l.all near = false := by
  cases h' : l.all near
  · rfl
  · rw [List.all_eq_true] at h'
    have := h' l[k] (List.getElem_mem hk)
    simp [hk, this] at h

set_option maxHeartbeats 2000000 in
theorem pos_walk (ax ay az bx cy bz p n : Int) (w : World) (h1 : ¬ n < 1) (h2 : ¬ p < 0) (h3 : ¬ n < p) :
    Calls Try.prog 26 #[Ps ax ay az, Ps bx cy bz, .int .i64 p, .int .i64 n] w fun e w' => e = .returned (posV ax ay az bx cy bz p n) ∧ Ext w w' := by
  have h1' : decide (n < 1) = false := by simpa using h1
  have h2' : decide (p < 0) = false := by simpa using h2
  have h3' : decide (n < p) = false := by simpa using h3
  go_enter Try.func26, Try.ntmps26
  go_wp2
  obtain ⟨W, hW, B⟩ := pos_boxes (w := w) ax ay az bx cy bz p n 47 2
  rw [hW]; clear hW
  go_loop [40] (fun t => ∃ k : Nat, k ≤ 7 ∧ t = .int .i64 k ∧ ∀ i, i < k → near ((lookAt ax ay az bx cy bz n).getD i 0) = true) (fun t => 7 - (intOf t).toNat)
  case atStart => exact ⟨0, by omega, rfl, fun i hi => by omega⟩
  case round =>
    obtain ⟨k, hk, rfl, hall⟩ := hrel
    by_cases hlt : k < 7
    · have hcell := B.l k hlt
      cases hn : near ((lookAt ax ay az bx cy bz n).getD k 0)
      · have hf := posV_far (p := p) (not_all_of_getD (l := lookAt ax ay az bx cy bz n) hlt hn)
        have HF := Lib.hid hf; clear hf hall
        unfold near at hn
        generalize (lookAt ax ay az bx cy bz n).getD k 0 = q at hcell hn
        have r0 := B.r0 (Later.self W); have r1 := B.r1 (Later.self W); have r2 := B.r2 (Later.self W); have f0 := B.f0 (Later.self W); have f1 := B.f1 (Later.self W); have f2 := B.f2 (Later.self W)
        change W.cell? _ = _ at r0 r1 r2
        change W.frozen? _ = _ at f0 f1 f2
        go_wp2_with ((go_at_call 32; refine (within_any _ _ _ _).mono ?_; rintro e w' ⟨rfl, rfl⟩))
        refine bodyPost_ret (v := .tuple #[Ps 0 0 0, .int .i64 11]) (by simp [results, Try.results26, go_sem, r0, r1, r2]) rfl ⟨ret_val HF.out.symm, ?_⟩
        exact ((B.ext.setCell (by simp; omega) _).setCell (by simp; omega) _).setCell (by simp; omega) _
      · have HN := Lib.hid hn
        have HA := Lib.hid hall
        clear hall
        unfold near at hn
        generalize (lookAt ax ay az bx cy bz n).getD k 0 = q at hcell hn
        go_wp2_with ((go_at_call 32; refine (within_any _ _ _ _).mono ?_; rintro e w' ⟨rfl, rfl⟩))
        go_round
        case rel => 
          refine ⟨k + 1, by omega, by go_num, fun i hi => ?_⟩
          by_cases hik : i = k
          · subst hik; exact HN.out
          · exact HA.out i (by omega)
        case measure => simp [intOf]; omega
    · obtain rfl : k = 7 := by omega
      have hall' := all_of_getD (l := lookAt ax ay az bx cy bz n) 7 rfl hall
      have hv := posV_near (p := p) hall'
      have HV := Lib.hid hv; clear hv
      simp only [lookAt, List.all_cons, List.all_nil, Bool.and_true, Bool.and_eq_true, near, inR_iff] at hall'
      obtain ⟨⟨n1, n2⟩, ⟨ax1, ax2⟩, ⟨ay1, ay2⟩, ⟨az1, az2⟩, ⟨bx1, bx2⟩, ⟨cy1, cy2⟩, ⟨bz1, bz2⟩⟩ := hall'
      clear hall
      have a0 := B.a0; have a1 := B.a1; have a2 := B.a2; have b0 := B.b0; have b1 := B.b1; have b2 := B.b2; have c := B.c; have d := B.d
      go_wp2
      refine wp_region_tail 19 (by kernel_rfl) (by kernel_rfl) (by kernel_rfl) ?_
      simp only [List.take_succ_cons, List.take_zero, List.drop_succ_cons, List.drop_zero]
      repeat (go_big_quiet_step ((go_at_call 38; exact Calls.later_same (at_any _ _ p n _ _ _ (by omega) (by omega) (by omega) (by omega) (by omega) (by omega) (by omega) (by omega) (c _) (d _)))))
      refine wpQuiet_nil ?_
      rintro _ ⟨x, rfl⟩
      have r0 := B.r0; have r1 := B.r1; have r2 := B.r2; have f0 := B.f0; have f1 := B.f1; have f2 := B.f2
      go_wp2
      refine bodyPost_ret (v := .tuple #[Ps (btw ax bx p n) (btw ay cy p n) (btw az bz p n), .int .i64 0]) (by simp [results, Try.results26, go_sem, r0, r1, r2]) rfl ⟨ret_val HV.out.symm, ?_⟩
      exact (((B.ext.trans x.ext).setCell (by simp; omega) _).setCell (by simp; omega) _).setCell (by simp; omega) _

end Go.Proofs.Ytcblahhfgkafhaa
