/-
  Walks: swarfref47.Same, End and Connected; slices.ContainsFunc at the law's own function.
  Plain laws for the statements about disturbed jobs: how many pieces there are, what an error leaves, chains.
  What a law of disturbed jobs is given.
-/
import Derived.Test.YtjibcnnbclcboaaGreatDoorQB30
import Derived.Test.YtjibcnnbclcboaaGreatDoorQB33
namespace Go.Proofs.YtjibcnnbclcboaaGreatDoor
open Go.RowKit
set_option maxRecDepth 8000

set_option maxHeartbeats 2000000 in
theorem same47_core (ad ad' : Option Addr) (cap b off cap' b' off' : Nat) (l l' : List Mot) (w : World) (hn : l.length ≤ 1000000000000) (hn' : l'.length ≤ 1000000000000) (had : l.length = 0 ∨ ad = some ⟨b, off, none⟩) (had' : l'.length = 0 ∨ ad' = some ⟨b', off', none⟩)
    (hc : ∀ i, i < l.length → CellsM w b (off + i * 9) (l.getD i Mot.zero)) (hc' : ∀ i, i < l'.length → CellsM w b' (off' + i * 9) (l'.getD i Mot.zero)) :
    Calls Tryz.prog 14 #[.slice ad l.length cap, .slice ad' l'.length cap'] w fun e w' => e = .returned (.bool (decide (l = l'))) ∧ Ext w w' := by
  have HC := Lib.hid hc; clear hc
  have HC' := Lib.hid hc'; clear hc'
  have HAD := Lib.hid had; clear had
  have HAD' := Lib.hid had'; clear had'
  by_cases hl : l.length = l'.length
  · generalize hN : l'.length = n at hl HC' HAD' hn'
    generalize hM : l.length = n' at hl HC HAD hn
    subst hl
    have HN := Lib.hid hN; have HM := Lib.hid hM
    clear hN hM hn'
    go_enter Tryz.func14, Tryz.ntmps14
    go_wp2
    go_loopw [5] (fun t wr => ∃ (k : Nat) (x : Later w), k ≤ n' ∧ t = .int .i64 k ∧ wr = x.w ∧ ∀ i, i < k → l.getD i Mot.zero = l'.getD i Mot.zero) (fun t _ => n' - (intOf t).toNat)
    case atStart => exact ⟨0, Later.self w, by omega, rfl, rfl, fun i hi => by omega⟩
    case round =>
      obtain ⟨k, x, hk, rfl, rfl, hall⟩ := hrel
      have HA := Lib.hid hall; clear hall
      by_cases hlt : k < n'
      · have hb2 := HC.out k hlt
        have hb2' := HC'.out k hlt
        obtain rfl : ad = some ⟨b, off, none⟩ := (HAD.out).resolve_left (by omega)
        obtain rfl : ad' = some ⟨b', off', none⟩ := (HAD'.out).resolve_left (by omega)
        have c0 := Later.cell hb2.c0; have c1 := Later.cell hb2.c1; have c2 := Later.cell hb2.c2; have c3 := Later.cell hb2.c3; have c4 := Later.cell hb2.c4; have c5 := Later.cell hb2.c5; have c6 := Later.cell hb2.c6; have c7 := Later.cell hb2.c7; have c8 := Later.cell hb2.c8
        have d0 := Later.cell hb2'.c0; have d1 := Later.cell hb2'.c1; have d2 := Later.cell hb2'.c2; have d3 := Later.cell hb2'.c3; have d4 := Later.cell hb2'.c4; have d5 := Later.cell hb2'.c5; have d6 := Later.cell hb2'.c6; have d7 := Later.cell hb2'.c7; have d8 := Later.cell hb2'.c8
        clear hb2 hb2'
        have hne := fun w => Tryz.neq_mot (l.getD k Mot.zero) (l'.getD k Mot.zero) w
        obtain ⟨bv, hbv⟩ : ∃ bv, bv = !decide (l.getD k Mot.zero = l'.getD k Mot.zero) := ⟨_, rfl⟩
        rw [← hbv] at hne
        have HB := Lib.hid hbv; clear hbv
        generalize l.getD k Mot.zero = p at hne c0 c1 c2 c3 c4 c5 c6 c7 c8
        generalize l'.getD k Mot.zero = q at hne d0 d1 d2 d3 d4 d5 d6 d7 d8
        go_wp2
        refine wp_region_later_at x (by kernel_rfl) (by kernel_rfl) ?_
        repeat (go_big_quiet_step (fail))
        refine wpQuiet_nil ?_
        rintro _ ⟨x2, rfl⟩
        cases bv
        · go_wp2
          go_roundw
          case rel =>
            refine ⟨k + 1, x2, by omega, by go_num, rfl, fun i hi => ?_⟩
            by_cases hik : i = k
            · subst hik; simpa using HB.out
            · exact HA.out i (by omega)
          case measure => simp [intOf]; omega
        · have hf : decide (l = l') = false := by
            rw [decide_eq_false_iff_not]; intro h; have := HB.out; simp [h] at this
          have HF := Lib.hid hf
          clear hf
          go_wp2
          go_ret
          exact ⟨ret_bool HF.out.symm, x2.ext⟩
      · have hkn : k = n' := by omega
        have hf : decide (l = l') = true := by
          rw [decide_eq_true_iff]
          refine List.ext_getElem (HM.out.trans HN.out.symm) fun i h1 h2 => ?_
          have := HA.out i (by have := HN.out; omega)
          simpa [h1, h2] using this
        have HF := Lib.hid hf
        clear hf hkn
        go_wp2
        go_ret
        exact ⟨ret_bool HF.out.symm, x.ext⟩
  · have hf : decide (l = l') = false := by
      rw [decide_eq_false_iff_not]; rintro rfl; exact hl rfl
    rw [hf]
    have hl' : ¬ (l.length : Int) = (l'.length : Int) := by omega
    go_enter Tryz.func14, Tryz.ntmps14
    go_wp2
    go_ret
    exact ⟨rfl, Ext.refl w⟩

theorem same47_any (v v' : Value) (l l' : List Mot) (w : World) (h : SlM w v l) (h' : SlM w v' l') (hn : l.length ≤ 1000000000000) (hn' : l'.length ≤ 1000000000000) :
    Calls Tryz.prog 14 #[v, v'] w fun e w' => e = .returned (.bool (decide (l = l'))) ∧ Ext w w' := by
  obtain ⟨ad, n, cap, b, off, rfl, rfl, h3, -, h4⟩ := h
  obtain ⟨ad', n', cap', b', off', rfl, rfl, h3', -, h4'⟩ := h'
  exact same47_core ad ad' cap b off cap' b' off' l l' w hn hn' h3 h3' (fun i hi => (h4 i hi).2) (fun i hi => (h4' i hi).2)


/-- Where motions end. -/
def endL (p : Int × Int × Int) (l : List Mot) : Int × Int × Int := if l.length = 0 then p else (l.getD (l.length - 1) Mot.zero).t3

set_option maxHeartbeats 1000000 in
theorem end47_any (x y z : Int) (v : Value) (l : List Mot) (w : World) (h : SlM w v l) (hn : l.length ≤ 1000000000) :
    Calls Tryz.prog 16 #[Ps x y z, v] w fun e w' => e = .returned (P3 (endL (x, y, z) l)) ∧ Ext w w' := by
  obtain ⟨ad, n, cap, b, off, rfl, rfl, h3, -, h4⟩ := h
  by_cases h1 : 0 < l.length
  · have hB : endL (x, y, z) l = (l.getD (l.length - 1) Mot.zero).t3 := by unfold endL; rw [if_neg (by omega)]
    rw [hB]; clear hB
    obtain ⟨hb1, hb2⟩ := h4 (l.length - 1) (by omega)
    obtain rfl : ad = some ⟨b, off, none⟩ := h3.resolve_left (by omega)
    clear h3 h4
    generalize l.getD (l.length - 1) Mot.zero = p at *
    generalize l.length = n at *
    obtain ⟨m, rfl⟩ : ∃ m, n = m + 1 := ⟨n - 1, by omega⟩
    rw [Nat.add_sub_cancel] at hb2
    have c3 := hb2.c3; have c4 := hb2.c4; have c5 := hb2.c5
    have hz : (((m + 1 : Nat) : Int) == 0) = false := by simp; omega
    go_enter Tryz.func16, Tryz.ntmps16
    go_wp2
    refine bodyPost_ret (v := Ps p.tx p.ty p.tz) (by simp [results, Tryz.results16, go_sem]) rfl ⟨rfl, ?_⟩
    exact ((Ext.refl w).alloc _).alloc _
  · have hB : endL (x, y, z) l = (x, y, z) := by unfold endL; rw [if_pos (by omega)]
    rw [hB]; clear hB
    have hz : l.length = 0 := by omega
    rw [hz]
    clear h3 h4 h1 hz hn
    go_enter Tryz.func16, Tryz.ntmps16
    go_wp2
    refine bodyPost_ret (v := Ps x y z) (by simp [results, Tryz.results16, go_sem]) rfl ⟨rfl, ?_⟩
    exact ((Ext.refl w).alloc _).alloc _

theorem slice_head {w : World} {b off cap n : Nat} {l : List Mot} (h : SlM w (.slice (some ⟨b, off, none⟩) n cap) l) (hc : n ≤ cap) (k : Nat) (hk : k ≤ n) :
    (∀ wx, (Instr.slice 33 (.slice (some ⟨b, off, none⟩) n cap) none (some (.int .i64 k)) none).run Tryz.prog wx = .ok (.slice (some ⟨b, off, none⟩) k cap) wx) ∧ SlM w (.slice (some ⟨b, off, none⟩) k cap) (l.take k) := by
  obtain ⟨ad, n', cap', b', off', hv, hn, h3, h5, h4⟩ := h
  cases hv
  refine ⟨fun wx => ?_, ?_⟩
  · obtain ⟨i0, hi0, hz0, hz1, hz2⟩ := info_parts Tryz.info_mot
    have := run_slice_h (P := Tryz.prog) (w := wx) 33 (some ⟨b, off, none⟩) n cap (by rw [Tryz.elem_mots]; exact Tryz.underlying33) .i64 (k : Int) (by omega) (by omega)
    rw [this, Tryz.elem_mots]
    simp [Go.sliced, Addr.add_none, sizeOf, typeInfo, hi0, hz1]
  · refine ⟨_, k, cap, b', off', rfl, by rw [List.length_take]; omega, ?_, (fun e => by cases e), fun i hi => ?_⟩
    · rcases h3 with h3 | h3
      · exact .inl (by omega)
      · exact .inr h3
    · have := h4 i (by omega)
      rw [show (l.take k).getD i Mot.zero = l.getD i Mot.zero by simp [List.getD, hi]]
      exact this

set_option maxHeartbeats 4000000 in
theorem conn47_any (x y z : Int) (v : Value) (l : List Mot) (w : World) (h : SlM w v l) (hcap : CapV v) (hn : l.length ≤ 1000000000) (hall : ∀ k, k < l.length → (l.getD k Mot.zero).f3 = endL (x, y, z) (l.take k)) :
    Calls Tryz.prog 15 #[Ps x y z, v] w fun e w' => e = .returned (.bool true) ∧ Ext w w' := by
  have HS := Lib.hid h
  obtain ⟨ad, n, cap, b, off, rfl, rfl, h3, -, h4⟩ := h
  have H3 := Lib.hid h3; have H4 := Lib.hid h4; have HA := Lib.hid hall
  obtain ⟨W1, hW1, P1, hE1⟩ := P3Box.mk' w x y z
  have HP1 := Lib.hid P1
  clear h3 h4 hall P1
  go_enter Tryz.func15, Tryz.ntmps15
  go_wp2_with fail
  clear hW1
  go_loopw [5] (fun t wr => ∃ (k : Nat), k ≤ l.length ∧ t = .int .i64 k ∧ Ext W1 wr) (fun t _ => l.length - (intOf t).toNat)
  case atStart => exact ⟨0, by omega, rfl, Ext.refl _⟩
  case round =>
    obtain ⟨k, hk, rfl, hE⟩ := hrel
    by_cases hlt : k < l.length
    · obtain rfl : ad = some ⟨b, off, none⟩ := (H3.out).resolve_left (by omega)
      obtain ⟨hb1, hb2⟩ := H4.out k hlt
      have hb3 := hb2.later hb1 (hE1.trans hE)
      obtain ⟨p0, p1, p2, -, -, -⟩ := (HP1.out.later hE).at
      have c0 := Later.cell hb3.c0; have c1 := Later.cell hb3.c1; have c2 := Later.cell hb3.c2
      have q0 := Later.cell p0; have q1 := Later.cell p1; have q2 := Later.cell p2
      obtain ⟨hsl, hs2⟩ := slice_head HS.out (hcap _ _ _ rfl) k (by omega)
      have hq := HA.out k hlt
      have ke : ∀ (w' : World) (he : Ext wr w'), Calls Tryz.prog 16 #[Ps x y z, .slice (some ⟨b, off, none⟩) k cap] w' fun e w'' => e = .returned (Ps (l.getD k Mot.zero).fx (l.getD k Mot.zero).fy (l.getD k Mot.zero).fz) ∧ Ext w' w'' := fun w' he => by
        have := end47_any x y z _ _ w' (hs2.later ((hE1.trans hE).trans he)) (by rw [List.length_take]; omega)
        rw [← hq] at this
        exact this
      have KE := Lib.hid ke
      have hne := fun w => Tryz.neq_pos (l.getD k Mot.zero).fx (l.getD k Mot.zero).fy (l.getD k Mot.zero).fz (l.getD k Mot.zero).fx (l.getD k Mot.zero).fy (l.getD k Mot.zero).fz w
      rw [show eqP (l.getD k Mot.zero).fx (l.getD k Mot.zero).fy (l.getD k Mot.zero).fz (l.getD k Mot.zero).fx (l.getD k Mot.zero).fy (l.getD k Mot.zero).fz = true by simp [eqP]] at hne
      clear ke hb1 hb2 hb3 hq hs2 p0 p1 p2
      generalize l.getD k Mot.zero = p at *
      go_wp2_with fail
      refine wp_region_later (by kernel_rfl) (by kernel_rfl) ?_
      repeat (go_big_quiet_step ((go_at_call 16; exact Calls.later (KE.out _ (Later.ext _)))))
      refine wpQuiet_nil ?_
      rintro _ ⟨x2, rfl⟩
      go_wp2
      go_roundw
      case rel => exact ⟨k + 1, by omega, by go_num, hE.trans x2.ext⟩
      case measure => simp [intOf]; omega
    · obtain rfl : k = l.length := by omega
      go_wp2
      go_ret
      exact ⟨rfl, hE1.trans hE⟩

set_option maxHeartbeats 1000000 in
theorem nolen_any (m : Mot) (w : World) (hm : m.f3 ≠ m.t3) :
    Calls Tryz.prog 18 #[Mv m] w fun e w' => e = .returned (.bool false) ∧ Ext w w' := by
  have heq := fun w => Tryz.eql_pos m.fx m.fy m.fz m.tx m.ty m.tz w
  have hf : eqP m.fx m.fy m.fz m.tx m.ty m.tz = false := by
    cases h : eqP m.fx m.fy m.fz m.tx m.ty m.tz
    · rfl
    · exfalso; apply hm; simp [eqP] at h; simp [Mot.f3, Mot.t3, h]
  rw [hf] at heq
  clear hf hm
  go_enter Tryz.func18, Tryz.ntmps18
  go_wp2
  go_ret
  exact ⟨rfl, (Ext.refl w).alloc _⟩

set_option maxHeartbeats 2000000 in
theorem indexF_any (v : Value) (l : List Mot) (w : World) (h : SlM w v l) (hn : l.length ≤ 1000000000) (hall : ∀ k, k < l.length → (l.getD k Mot.zero).f3 ≠ (l.getD k Mot.zero).t3) :
    Calls Tryz.prog 39 #[v, .func (.func 18) #[] #[]] w fun e w' => e = .returned (.int .i64 (-1)) ∧ Ext w w' := by
  obtain ⟨ad, n, cap, b, off, rfl, rfl, h3, -, h4⟩ := h
  have H3 := Lib.hid h3; have H4 := Lib.hid h4; have HA := Lib.hid hall
  clear h3 h4 hall
  go_enter Tryz.func39, Tryz.ntmps39
  go_wp2_with fail
  go_loopw [8] (fun t wr => ∃ (k : Nat), k ≤ l.length ∧ t = .int .i64 k ∧ Ext w wr) (fun t _ => l.length - (intOf t).toNat)
  case atStart => exact ⟨0, by omega, rfl, Ext.refl _⟩
  case round =>
    obtain ⟨k, hk, rfl, hE⟩ := hrel
    by_cases hlt : k < l.length
    · obtain rfl : ad = some ⟨b, off, none⟩ := (H3.out).resolve_left (by omega)
      obtain ⟨hb1, hb2⟩ := H4.out k hlt
      have hb3 := hb2.later hb1 hE
      have c0 := hb3.c0; have c1 := hb3.c1; have c2 := hb3.c2; have c3 := hb3.c3; have c4 := hb3.c4; have c5 := hb3.c5; have c6 := hb3.c6; have c7 := hb3.c7; have c8 := hb3.c8
      have KN := Lib.hid (nolen_any (l.getD k Mot.zero) wr (HA.out k hlt))
      clear hb1 hb2 hb3
      generalize l.getD k Mot.zero = p at *
      go_wp2_with ((go_at_call 18; refine (KN.out).mono ?_); rintro e w2 ⟨rfl, hx2⟩)
      go_roundw
      case rel => exact ⟨k + 1, by omega, by go_num, hE.trans hx2⟩
      case measure => simp [intOf]; omega
    · obtain rfl : k = l.length := by omega
      go_wp2
      go_ret
      exact ⟨rfl, hE⟩

set_option maxHeartbeats 1000000 in
theorem containsF_any (v : Value) (l : List Mot) (w : World) (h : SlM w v l) (hn : l.length ≤ 1000000000) (hall : ∀ k, k < l.length → (l.getD k Mot.zero).f3 ≠ (l.getD k Mot.zero).t3) :
    Calls Tryz.prog 17 #[v, .func (.func 18) #[] #[]] w fun e w' => e = .returned (.bool false) ∧ Ext w w' := by
  have KI := Lib.hid (indexF_any v l w h hn hall)
  clear h hall
  go_enter Tryz.func17, Tryz.ntmps17
  go_wp2_with ((go_at_call 39; refine (KI.out).mono ?_); rintro e w2 ⟨rfl, hx2⟩)
  go_ret
  exact ⟨rfl, hx2⟩

end Go.Proofs.YtjibcnnbclcboaaGreatDoor

namespace Go.Proofs.YtjibcnnbclcboaaGreatDoor
open Go.RowKit

theorem endL_nil (p : Int × Int × Int) : endL p [] = p := rfl
theorem endL_cons (p : Int × Int × Int) (m : Mot) (r : List Mot) : endL p (m :: r) = endL m.t3 r := by
  unfold endL
  rw [if_neg (by simp)]
  cases r with
  | nil => rfl
  | cons x r => rw [if_neg (by simp)]; rfl
theorem chain_end : ∀ {l : List Mot} {p q : Int × Int × Int}, Chain p l q → endL p l = q
  | [], p, q, h => h
  | m :: r, p, q, h => by rw [endL_cons]; exact chain_end h.2.2
theorem chain_conn : ∀ {l : List Mot} {p q : Int × Int × Int}, Chain p l q → ∀ k, k < l.length → (l.getD k Mot.zero).f3 = endL p (l.take k) ∧ (l.getD k Mot.zero).f3 ≠ (l.getD k Mot.zero).t3
  | [], p, q, h, k, hk => by simp at hk
  | m :: r, p, q, h, 0, hk => ⟨h.1, h.2.1⟩
  | m :: r, p, q, h, k + 1, hk => by
    have := chain_conn h.2.2 k (by simpa using hk)
    show (r.getD k Mot.zero).f3 = endL p (m :: r.take k) ∧ _
    rw [endL_cons]
    exact this

theorem evs_len {s a j safe t : Int} (hs : in64 safe) : ∀ (es : List (Int × Int)) (J : JobS) (k q : Nat), J.Ok k q → (JobS.evs s a j safe t es J).1 = 0 →
    ∃ k' q', (JobS.evs s a j safe t es J).2.1.Ok k' q' ∧ k' + 2 * (JobS.evs s a j safe t es J).2.2.length ≤ k + 2 * es.length
  | [], J, k, q, ho, _ => ⟨k, q, ho, Nat.le_refl _⟩
  | e :: r, J, k, q, ho, h0 => by
    by_cases h1 : e.1 ≤ t
    · by_cases h2 : (J.ev s a j safe t e).1 = 0
      · rw [evs_ok h1 h2] at h0 ⊢
        obtain ⟨k', q', h3, h4⟩ := evs_len hs r _ _ _ (ho.ev hs h2) h0
        exact ⟨k', q', h3, by simp only [List.length_cons]; omega⟩
      · rw [evs_bad h1 h2] at h0; exact absurd h0 h2
    · rw [evs_later h1]
      exact ⟨k, q, ho, Nat.le_refl _⟩

theorem out_len {J : JobS} {k q : Nat} (ho : J.Ok k q) : J.out.length ≤ k + 1 := by
  have h1 := doneL_len J.C
  have h2 := ho.ps
  unfold JobS.out
  rw [List.length_append]
  omega

theorem run_len {s a j safe : Int} (hs : in64 safe) : ∀ (f : Nat) (t : Int) (J : JobS) (es : List (Int × Int)) (k q : Nat), J.Ok k q → (JobS.run s a j safe f t J es).2.length ≤ k + 2 * f + 2 * es.length + 1
  | 0, t, J, es, k, q, ho => by
    have := out_len ho
    unfold JobS.run
    split
    · simp only; omega
    · simp
  | f + 1, t, J, es, k, q, ho => by
    have h1 := out_len ho
    unfold JobS.run
    split
    · simp only; omega
    · split
      · rename_i h0
        obtain ⟨k', q', h3, h4⟩ := evs_len hs es (J.wake t) k q (ho.wake t) h0
        split
        · have := out_len h3
          simp only; omega
        · have := run_len (s := s) (a := a) (j := j) hs f (t + 1) (JobS.evs s a j safe t es (J.wake t)).2.1.tick (JobS.evs s a j safe t es (J.wake t)).2.2 (k' + 2) q' h3.tick
          omega
      · simp

theorem run_err {s a j safe : Int} : ∀ (f : Nat) (t : Int) (J : JobS) (es : List (Int × Int)), (JobS.run s a j safe f t J es).1 ≠ 0 → (JobS.run s a j safe f t J es).2 = []
  | 0, t, J, es, h => by
    unfold JobS.run at h ⊢
    split
    · rename_i h1; rw [if_pos h1] at h; exact absurd rfl h
    · rfl
  | f + 1, t, J, es, h => by
    unfold JobS.run at h ⊢
    split
    · rename_i h1; rw [if_pos h1] at h; exact absurd rfl h
    · rename_i h1
      rw [if_neg h1] at h
      split
      · rename_i h2
        rw [if_pos h2] at h
        split
        · rename_i h3; rw [if_pos h3] at h; exact absurd rfl h
        · rename_i h3
          rw [if_neg h3] at h
          exact run_err f (t + 1) _ _ h
      · rfl

theorem dist_len {l : List Mot} {s a j safe : Int} {es : List (Int × Int)} (hw : WfL l) (hs : in64 safe) (he : es.length ≤ 20) : (dist l s a j safe es).2.length ≤ 1000000 := by
  unfold dist
  split
  · rename_i hc
    have := run_len (s := s) (a := a) (j := j) hs 100000 0 (JobS.new l s a j) es 0 l.length (JobS.Ok.new hc hw)
    omega
  · simp
theorem dist_err {l : List Mot} {s a j safe : Int} {es : List (Int × Int)} (h : (dist l s a j safe es).1 ≠ 0) : (dist l s a j safe es).2 = [] := by
  unfold dist at h ⊢
  split
  · rename_i hc
    rw [if_pos hc] at h
    exact run_err _ _ _ _ h
  · rfl
theorem distE_len {l : List Mot} {s a j safe : Int} {es : List (Int × Int)} (hw : WfL l) (hs : in64 safe) : (distE l s a j safe es).2.length ≤ 1000000 := by
  unfold distE
  split
  · rename_i hv
    exact dist_len hw hs (validE_ok hv).2
  · simp
theorem distE_err {l : List Mot} {s a j safe : Int} {es : List (Int × Int)} (h : (distE l s a j safe es).1 ≠ 0) : (distE l s a j safe es).2 = [] := by
  unfold distE at h ⊢
  split
  · rename_i hv
    rw [if_pos hv] at h
    exact dist_err h
  · rfl
theorem dist_none {s a j safe : Int} {es : List (Int × Int)} : (dist [] s a j safe es).2 = [] := by
  unfold dist
  split
  · have hd : (JobS.new [] s a j).doneB = true := rfl
    have ho : (JobS.new [] s a j).out = [] := rfl
    unfold JobS.run
    rw [if_pos hd, ho]
  · rfl
theorem distE_none {s a j safe : Int} {es : List (Int × Int)} : (distE [] s a j safe es).2 = [] := by
  unfold distE
  split
  · exact dist_none
  · rfl
theorem distE_chain {l : List Mot} {s a j safe : Int} {es : List (Int × Int)} (hw : WfL l) (hs : in64 safe) (hn : 0 < l.length) (h0 : (distE l s a j safe es).1 = 0) : Chain (l.getD 0 Mot.zero).f3 (distE l s a j safe es).2 (endOf l) := by
  unfold distE at h0 ⊢
  split
  · rename_i hv
    rw [if_pos hv] at h0
    exact dist_chain hw hs hn h0
  · rename_i hv
    rw [if_neg hv] at h0; cases h0

end Go.Proofs.YtjibcnnbclcboaaGreatDoor

namespace Go.Proofs.YtjibcnnbclcboaaGreatDoor
open Go.RowKit

theorem fast_len {l : List Way} {s a j safe : Int} (h : fastB l s a j safe = true) : l.length ≤ 6 := by
  unfold fastB at h
  simp only [Bool.and_eq_true] at h
  have := h.2.1
  unfold shortW at this
  simp only [Bool.and_eq_true, decide_eq_true_eq] at this
  omega
theorem slW_is {w : World} {v : Value} {l : List Way} (h : SlW w v l) : ∃ x c, v = .slice x l.length c := by
  obtain ⟨ad, n, cap, b', off, rfl, hn, _⟩ := h
  exact ⟨ad, cap, by rw [hn]⟩

theorem cell_at {w : World} {b : Nat} {cs : Array Value} {t : TypeId} {fz : Nat × Nat} (h : w.heap[b]? = some (.cells cs t fz)) (i : Nat) {v : Value} (hv : cs[i]? = some v) : w.cell? ⟨b, i, none⟩ = some v := by rw [Lib.cell_of_heap h]; exact hv

/-- What is given to a law: a trip and events. -/
structure LawIn (x y z : Int) (vw : Value) (s a j safe : Int) (ways : List Way) (ve : Value) (es : List (Int × Int)) (w : World) : Prop where
  sw : SlW w vw ways
  small : ∀ w ∈ ways, w.small
  near : nearP (x, y, z) 32768
  wl : ways.length ≤ 9223372036854775807
  se : SlE w ve es
  ne : ∀ c, ve = .slice none 0 c → c = 0
  el : es.length * 16 ≤ 140737488355328
  sf : in64 safe

end Go.Proofs.YtjibcnnbclcboaaGreatDoor
