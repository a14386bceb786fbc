/-
  Plain laws of a job with feed holds alone: its pieces, joined, are the motions that have a length.
  Plain laws of a trip: its motions are connected, short, and have blocks of their own.
  A disturbed job in memory: events, the machine, what a controller's call leaves below it.
  Events: valid or not; the code's function and the reference's.
  Slices of events of the call's own; walks: events, slices.Clone.
  Ways in memory; walks: Short of the reference.
  Walks: Route of the reference.
  A trip in memory; walks: motions, fast, limits.
  Restart of the reference, walked.
-/
import Derived.Test.YtjibcnnbclcboaaDoorQS11
namespace Go.Proofs.YtjibcnnbclcboaaDoor
open Go.RowKit

/-- The motions that lead somewhere. -/
def wayB (m : Mot) : Bool := !eq3 m.f3 m.t3
def ways (l : List Mot) : List Mot := l.filter wayB

/-- One piece more, joined to the last one where they belong together. -/
def joinTo (acc : List Mot) (p : Mot) : List Mot :=
  match acc.getLast? with
  | some k => if k.block = p.block ∧ k.t3 = p.f3 ∧ k.rate = p.rate ∧ k.tool = p.tool then acc.dropLast ++ [{ k with tx := p.tx, ty := p.ty, tz := p.tz }] else acc ++ [p]
  | none => acc ++ [p]
def joinL (l : List Mot) : List Mot := l.foldl joinTo []
theorem joinL_snoc (l : List Mot) (p : Mot) : joinL (l ++ [p]) = joinTo (joinL l) p := by simp [joinL]

theorem joinTo_new {acc : List Mot} {p : Mot} (h : ∀ k ∈ acc, k.block ≠ p.block) : joinTo acc p = acc ++ [p] := by
  unfold joinTo
  cases hl : acc.getLast? with
  | none => rfl
  | some k =>
    have hm : k ∈ acc := List.mem_of_getLast? hl
    simp only
    rw [if_neg (fun e => h k hm e.1)]
theorem joinTo_last {acc : List Mot} {k p : Mot} (h : k.block = p.block ∧ k.t3 = p.f3 ∧ k.rate = p.rate ∧ k.tool = p.tool) : joinTo (acc ++ [k]) p = acc ++ [{ k with tx := p.tx, ty := p.ty, tz := p.tz }] := by
  unfold joinTo
  rw [List.getLast?_append]
  simp only [List.getLast?_singleton, Option.some_or]
  rw [if_pos h]
  simp

theorem ways_succ {l : List Mot} {i : Nat} (h : i < l.length) : ways (l.take (i + 1)) = ways (l.take i) ++ (if wayB (l.getD i Mot.zero) = true then [l.getD i Mot.zero] else []) := by
  unfold ways
  rw [take_succ_getD h, List.filter_append]
  congr 1
  simp only [List.filter_cons, List.filter_nil]
theorem ways_skip {l : List Mot} (hr : ∀ i, i < l.length → (l.getD i Mot.zero).rng) : ∀ (j i : Nat), i ≤ j → j ≤ l.length → (∀ k, i ≤ k → k < j → (l.getD k Mot.zero).len = 0) → ways (l.take j) = ways (l.take i)
  | 0, i, h, _, _ => by have : i = 0 := by omega
                        subst this; rfl
  | j + 1, i, h, hj, hz => by
    rcases Nat.lt_or_ge i (j + 1) with h1 | h1
    · rw [ways_succ (by omega), ways_skip hr j i (by omega) (by omega) (fun k a b => hz k a (by omega))]
      have : wayB (l.getD j Mot.zero) = false := by
        unfold wayB
        rw [eq3_iff.2 (Mot.flat (hr j (by omega)) (hz j (by omega) (by omega)))]
        rfl
      rw [this]
      simp
    · have : i = j + 1 := by omega
      subst this; rfl

theorem Mot.ways_of_len {m : Mot} (h : 1 ≤ m.len) (hr : m.rng) : wayB m = true := by
  unfold wayB
  cases e : eq3 m.f3 m.t3
  · rfl
  · exfalso
    have := eq3_iff.1 e
    have h0 : m.pos 0 = m.t3 := by rw [Mot.pos_zero h]; exact this
    unfold Mot.f3 Mot.t3 at this
    simp only [Prod.mk.injEq] at this
    obtain ⟨n0, n1, n2⟩ := Mot.len_is hr
    have hsq : m.sq = 0 := by
      unfold Mot.sq
      rw [this.1, this.2.1, this.2.2]
      simp
    rw [hsq] at n2
    have h1 := n2 (by omega)
    have h2 : 0 ≤ (m.len - 1) * (m.len - 1) := sq_nonneg' _
    omega

/-! ### Without events -/
/-- Each motion is one piece. -/
structure Ctl.Full (C : Ctl) : Prop where
  cn : Conn C.ms
  ps : C.ps = ways (C.ms.take C.idx)
  at_ : C.idx < C.ms.length → C.last3 = C.cur.f3
  br : C.br = false
  hd : C.hd = false
  bk : C.bk = false

theorem way_self (m : Mot) : m.way m.f3 m.t3 = m := rfl

theorem stopd_full {C : Ctl} (hb : C.Base) (h : C.Full) (hi : C.idx < C.ms.length) (p1 : C.part = C.cur.len) (p2 : 1 ≤ C.cur.len) : C.stopd.Full := by
  have h0 : C.cur.len - C.part = 0 := by omega
  have e1 : C.stopd.idx = skp C.ms (C.idx + 1) := by unfold Ctl.stopd; simp only; rw [if_pos h0]
  have hat : C.at3 = C.cur.t3 := by rw [at3_cur hi, p1]; exact Mot.pos_full p2
  have hw : wayB C.cur = true := Mot.ways_of_len p2 (hb.rng C.idx hi)
  have hw2 : wayB (C.ms.getD C.idx Mot.zero) = true := hw
  have hne : eq3 C.cur.f3 C.cur.t3 = false := by
    unfold wayB at hw
    cases e : eq3 C.cur.f3 C.cur.t3
    · rfl
    · rw [e] at hw; cases hw
  have hs := skp_le (ms := C.ms) (i := C.idx + 1) (by omega)
  refine ⟨h.cn, ?_, fun hlt => ?_, rfl, h.hd, h.bk⟩
  · show C.psAdd = ways (C.ms.take C.stopd.idx)
    rw [e1, ways_skip hb.rng _ _ hs.1 hs.2 (fun k a b => skp_between a b), ways_succ hi, if_pos hw2]
    unfold Ctl.psAdd
    rw [h.at_ hi, hat, hne, if_neg (by decide), h.ps, way_self]
    rfl
  · show C.at3 = C.stopd.cur.f3
    have hcu : C.stopd.cur = C.ms.getD (skp C.ms (C.idx + 1)) Mot.zero := by unfold Ctl.cur; rw [e1]; rfl
    rw [hcu, hat]
    have hlt : skp C.ms (C.idx + 1) < C.ms.length := by rw [← e1]; exact hlt
    exact conn_skip h.cn hb.rng _ (C.idx + 1) hs.1 hlt (fun k a b => skp_between a b) (h.cn C.idx (by omega))

theorem advd_full {C : Ctl} (hp : C.Pre) (h : C.Full) : C.advd.Full := by
  have hs := sum_drop hp.run
  have hg := getD_pos hp.pos hp.run
  have h2 := hp.p0
  obtain ⟨f1, f2⟩ := hp.full h.br
  unfold Ctl.advd
  split
  · rename_i hl
    have hn : C.plan.drop (C.pos + 1) = [] := List.drop_eq_nil_iff.2 (by omega)
    rw [hn] at hs
    simp only [List.sum_nil, Int.add_zero] at hs
    refine stopd_full ⟨hp.vl, hp.n, hp.rng, hp.rate, hp.stp⟩ ⟨h.cn, h.ps, h.at_, h.br, h.hd, h.bk⟩ hp.lt ?_ ?_
    · show C.part + C.plan.getD C.pos 0 = C.cur.len; omega
    · show 1 ≤ C.cur.len
      have hd0 := sum_nonneg' (drop_pos hp.pos C.pos)
      omega
  · exact ⟨h.cn, h.ps, h.at_, h.br, h.hd, h.bk⟩
theorem tick_full {C : Ctl} (ho : C.Ok) (h : C.Full) : C.tickC.Full := by
  unfold Ctl.tickC
  split
  · rename_i ht
    have hi : C.idx < C.ms.length := by
      unfold Ctl.tickB at ht
      simp only [Bool.and_eq_true, decide_eq_true_eq] at ht
      exact ht.1.2
    split
    · exact advd_full (ho.pre_start hi) ⟨h.cn, h.ps, h.at_, rfl, h.hd, h.bk⟩
    · rename_i hp; exact advd_full (ho.pre_run hp) h
  · exact h
theorem new_full {l : List Mot} {s a j : Int} (hc : Conn l) (hr : ∀ i, i < l.length → (l.getD i Mot.zero).rng) : (Ctl.new l s a j).Full := by
  have hs := skp_le (ms := l) (i := 0) (by omega)
  refine ⟨hc, ?_, fun hlt => ?_, rfl, rfl, rfl⟩
  · show [] = ways (l.take (skp l 0))
    rw [ways_skip hr _ _ hs.1 hs.2 (fun k a b => skp_between a b)]
    rfl
  · exact conn_skip hc hr (skp l 0) 0 hs.1 hlt (fun k a b => skp_between a b) rfl

theorem rem_pos {C : Ctl} (ho : C.Ok) (hi : C.idx < C.ms.length) : 1 ≤ C.rem := by
  have h1 := ho.p1 hi
  have h2 := lsum_mono ho.rng (C.idx + 1) (j := C.ms.length) (by omega) (Nat.le_refl _)
  have h3 : lsum C.ms (C.idx + 1) = lsum C.ms C.idx + C.cur.len := rfl
  unfold Ctl.rem
  rw [if_pos hi]
  omega

theorem run_nil {s a j safe : Int} : ∀ (f : Nat) (t : Int) (J : JobS), J.C.Ok → J.C.Full → J.C.ms = J.l → J.held = false → J.C.rem ≤ f → JobS.run s a j safe f t J [] = (0, J.ps ++ ways J.l)
  | f, t, J, ho, hf, hm, hh, hr => by
    by_cases hd : J.doneB = true
    · have he : J.C.idx = J.C.ms.length := by rw [hm]; exact of_decide_eq_true hd
      have ho2 : J.out = J.ps ++ ways J.l := by
        unfold JobS.out Ctl.doneL Ctl.pieceB
        rw [decide_eq_false (show ¬ J.C.idx < J.C.ms.length by omega), if_neg (fun h => by cases h.1), hf.ps, he, List.take_length, hm]
      cases f with
      | zero => unfold JobS.run; rw [if_pos hd, ho2]
      | succ f => unfold JobS.run; rw [if_pos hd, ho2]
    · have hi : J.C.idx < J.C.ms.length := by
        have := ho.le
        have hnd : J.C.idx ≠ J.l.length := fun e => hd (decide_eq_true e)
        rw [← hm] at hnd
        omega
      have hrp := rem_pos ho hi
      cases f with
      | zero => exfalso; simp only [Int.natCast_zero] at hr; omega
      | succ f =>
        have hwk : J.wake t = J := by unfold JobS.wake; rw [if_neg (fun h => by rw [hh] at h; cases h.1)]
        have htb : J.C.tickB = true := by unfold Ctl.tickB; rw [hf.bk, hf.hd, decide_eq_true hi]; simp
        have hrt := ho.tick_rem htb
        unfold JobS.run
        rw [if_neg hd, hwk]
        have e0 : JobS.evs s a j safe t [] J = (0, J, []) := rfl
        rw [e0]
        show (if (0 : Int) = 0 then (if J.doneB = true then (0, J.out) else JobS.run s a j safe f (t + 1) J.tick []) else (0, [])) = _
        rw [if_pos rfl, if_neg hd]
        exact run_nil f (t + 1) J.tick ho.tick (tick_full ho hf) ((tickC_ms J.C).1.trans hm) hh (by show J.C.tickC.rem ≤ f; push_cast at hr; omega)

/-! ### With holds -/
theorem btw_back {a b p q n : Int} (h : 1 ≤ n) (h0 : 0 ≤ q) (hp : q ≤ p) (he : btw a b p n = a) : btw a b q n = a := by
  by_cases hb : 0 ≤ b - a
  · have h1 := btw_up a b q p n h hb hp
    have h2 := btw_up a b 0 q n h hb h0
    rw [btw_zero a b n h] at h2
    omega
  · have h1 := btw_down a b q p n h (by omega) hp
    have h2 := btw_down a b 0 q n h (by omega) h0
    rw [btw_zero a b n h] at h2
    omega
theorem Mot.pos_back {m : Mot} {p q : Int} (h : 1 ≤ m.len) (h0 : 0 ≤ q) (hp : q ≤ p) (he : m.pos p = m.f3) : m.pos q = m.f3 := by
  unfold Mot.pos Mot.f3 at *
  simp only [Prod.mk.injEq] at *
  exact ⟨btw_back h h0 hp he.1, btw_back h h0 hp he.2.1, btw_back h h0 hp he.2.2⟩

/-- No two motions have the same block. -/
def Blocks (l : List Mot) : Prop := ∀ i k, i < k → k < l.length → (l.getD i Mot.zero).block ≠ (l.getD k Mot.zero).block
theorem ways_block {l : List Mot} (hb : Blocks l) {i : Nat} (hi : i < l.length) : ∀ k ∈ ways (l.take i), k.block ≠ (l.getD i Mot.zero).block := fun k hk => by
  have h1 : k ∈ l.take i := (List.mem_filter.1 hk).1
  obtain ⟨n, hn, e⟩ := List.getElem_of_mem h1
  have hn2 : n < i := by rw [List.length_take] at hn; omega
  have := hb n i hn2 hi
  rw [show l.getD n Mot.zero = k by simp [show n < l.length by omega, ← e]] at this
  exact this

/-- The piece of the present motion that is done. -/
def Ctl.tailL (C : Ctl) (p : Int × Int × Int) : List Mot := if C.idx < C.ms.length ∧ ¬ eq3 C.cur.f3 p = true then [C.cur.way C.cur.f3 p] else []
structure Ctl.Jn (C : Ctl) : Prop where
  cn : Conn C.ms
  bl : Blocks C.ms
  jn : joinL C.ps = ways (C.ms.take C.idx) ++ C.tailL C.last3
  at_ : C.idx < C.ms.length → ∃ q, 0 ≤ q ∧ q ≤ C.part ∧ C.last3 = C.cur.pos q

theorem stopd_jn {C : Ctl} (hb : C.Base) (h : C.Jn) (hi : C.idx < C.ms.length) (p0 : 0 ≤ C.part) (p2 : 1 ≤ C.cur.len) : C.stopd.Jn := by
  obtain ⟨q, q0, q1, hq⟩ := h.at_ hi
  have hat := at3_cur hi
  have hj : joinL C.psAdd = ways (C.ms.take C.idx) ++ C.tailL C.at3 := by
    unfold Ctl.psAdd
    by_cases he : eq3 C.last3 C.at3 = true
    · rw [if_pos he, h.jn, eq3_iff.1 he]
    · rw [if_neg he, joinL_snoc, h.jn]
      by_cases hf : eq3 C.cur.f3 C.last3 = true
      · have e1 : C.tailL C.last3 = [] := by unfold Ctl.tailL; rw [if_neg (fun x => x.2 hf)]
        have hne : ¬ eq3 C.cur.f3 C.at3 = true := by rw [eq3_iff.1 hf]; exact he
        have e2 : C.tailL C.at3 = [C.cur.way C.cur.f3 C.at3] := by unfold Ctl.tailL; rw [if_pos ⟨hi, hne⟩]
        rw [e1, e2, List.append_nil, joinTo_new (p := C.cur.way C.last3 C.at3) (ways_block h.bl hi), eq3_iff.1 hf]
      · have hne : ¬ eq3 C.cur.f3 C.at3 = true := fun e => by
          have e' := (eq3_iff.1 e).symm
          rw [hat] at e'
          have := Mot.pos_back p2 q0 q1 e'
          rw [← hq] at this
          exact hf (eq3_iff.2 this.symm)
        have e1 : C.tailL C.last3 = [C.cur.way C.cur.f3 C.last3] := by unfold Ctl.tailL; rw [if_pos ⟨hi, hf⟩]
        have e2 : C.tailL C.at3 = [C.cur.way C.cur.f3 C.at3] := by unfold Ctl.tailL; rw [if_pos ⟨hi, hne⟩]
        rw [e1, e2, joinTo_last (k := C.cur.way C.cur.f3 C.last3) (p := C.cur.way C.last3 C.at3) ⟨rfl, rfl, rfl, rfl⟩]
        rfl
  have hms : C.stopd.ms = C.ms := rfl
  have hst : C.stopd.last3 = C.at3 := rfl
  by_cases h0 : C.cur.len - C.part = 0
  · have e1 : C.stopd.idx = skp C.ms (C.idx + 1) := by unfold Ctl.stopd; simp only; rw [if_pos h0]
    have e2 : C.stopd.part = 0 := by unfold Ctl.stopd; simp only; rw [if_pos h0]
    have hs := skp_le (ms := C.ms) (i := C.idx + 1) (by omega)
    have hfull : C.at3 = C.cur.t3 := by rw [hat, show C.part = C.cur.len by omega]; exact Mot.pos_full p2
    have hw : wayB C.cur = true := Mot.ways_of_len p2 (hb.rng C.idx hi)
    have hw2 : wayB (C.ms.getD C.idx Mot.zero) = true := hw
    have hne : ¬ eq3 C.cur.f3 C.at3 = true := by
      rw [hfull]
      intro e
      unfold wayB at hw
      rw [e] at hw
      cases hw
    have e3 : C.tailL C.at3 = [C.cur] := by unfold Ctl.tailL; rw [if_pos ⟨hi, hne⟩, hfull, way_self]
    have hfrom : C.stopd.idx < C.stopd.ms.length → C.at3 = C.stopd.cur.f3 := fun hlt => by
      have hcu : C.stopd.cur = C.ms.getD (skp C.ms (C.idx + 1)) Mot.zero := by unfold Ctl.cur; rw [hms, e1]
      rw [hcu, hfull]
      have hlt : skp C.ms (C.idx + 1) < C.ms.length := by rw [← e1]; exact hlt
      exact conn_skip h.cn hb.rng _ (C.idx + 1) hs.1 hlt (fun k a b => skp_between a b) (h.cn C.idx (by omega))
    refine ⟨h.cn, h.bl, ?_, fun hlt => ?_⟩
    · show joinL C.psAdd = ways (C.ms.take C.stopd.idx) ++ C.stopd.tailL C.at3
      have e4 : C.stopd.tailL C.at3 = [] := by
        unfold Ctl.tailL
        rw [if_neg (fun x => x.2 (eq3_iff.2 (hfrom x.1).symm))]
      rw [hj, e3, e4, e1, List.append_nil, ways_skip hb.rng _ _ hs.1 hs.2 (fun k a b => skp_between a b), ways_succ hi, if_pos hw2]
      rfl
    · have hl1 : 1 ≤ C.stopd.cur.len := by
        have hlt' : skp C.ms (C.idx + 1) < C.ms.length := by rw [← e1]; exact hlt
        have hcu : C.stopd.cur = C.ms.getD (skp C.ms (C.idx + 1)) Mot.zero := by unfold Ctl.cur; rw [hms, e1]
        have h1 := skp_pos hlt'; have h2 := hb.len0 hlt'
        rw [hcu]; omega
      refine ⟨0, Int.le_refl _, by rw [e2]; exact Int.le_refl _, ?_⟩
      rw [hst, hfrom hlt, Mot.pos_zero hl1]
  · have e1 : C.stopd.idx = C.idx := by unfold Ctl.stopd; simp only; rw [if_neg h0]
    have e2 : C.stopd.part = C.part := by unfold Ctl.stopd; simp only; rw [if_neg h0]
    have hcu : C.stopd.cur = C.cur := by unfold Ctl.cur; rw [hms, e1]
    refine ⟨h.cn, h.bl, ?_, fun _ => ⟨C.part, p0, by rw [e2]; exact Int.le_refl _, by rw [hst, hcu, hat]⟩⟩
    show joinL C.psAdd = ways (C.ms.take C.stopd.idx) ++ C.stopd.tailL C.at3
    rw [hj, e1]
    unfold Ctl.tailL
    rw [hcu, hms, e1]

theorem advd_jn {C : Ctl} (hp : C.Pre) (h : C.Jn) : C.advd.Jn := by
  have hs := sum_drop hp.run
  have hg := getD_pos hp.pos hp.run
  have hd0 := sum_nonneg' (drop_pos hp.pos (C.pos + 1))
  have h1 := hp.sum
  have h2 := hp.p0
  have hl : Ctl.Jn { C with part := C.part + C.plan.getD C.pos 0, pos := C.pos + 1 } := by
    refine ⟨h.cn, h.bl, h.jn, fun hi => ?_⟩
    obtain ⟨q, q0, q1, hq⟩ := h.at_ hi
    exact ⟨q, q0, by show q ≤ C.part + C.plan.getD C.pos 0; omega, hq⟩
  unfold Ctl.advd
  split
  · refine stopd_jn ⟨hp.vl, hp.n, hp.rng, hp.rate, hp.stp⟩ hl hp.lt ?_ ?_
    · show 0 ≤ C.part + C.plan.getD C.pos 0; omega
    · show 1 ≤ C.cur.len; omega
  · exact hl
theorem tick_jn {C : Ctl} (ho : C.Ok) (h : C.Jn) : C.tickC.Jn := by
  unfold Ctl.tickC
  split
  · rename_i ht
    have hi : C.idx < C.ms.length := by
      unfold Ctl.tickB at ht
      simp only [Bool.and_eq_true, decide_eq_true_eq] at ht
      exact ht.1.2
    split
    · exact advd_jn (ho.pre_start hi) ⟨h.cn, h.bl, h.jn, h.at_⟩
    · rename_i hp; exact advd_jn (ho.pre_run hp) h
  · exact h
theorem hold_jn {C : Ctl} (ho : C.Ok) (h : C.Jn) : C.holdC.Jn := by
  unfold Ctl.holdC
  split
  · exact h
  · split
    · exact ⟨h.cn, h.bl, h.jn, h.at_⟩
    · rename_i hc
      have hp : C.pos ≠ C.plan.length := fun e => hc (.inl e)
      have hn : C.plan ≠ [] := fun e => hp (by rw [ho.rest e, e]; rfl)
      obtain ⟨r1, r2⟩ := ho.run hn
      have q0 := ho.p0 r1
      have q1 := ho.p1 r1
      split
      · split
        · refine stopd_jn ⟨ho.vl, ho.n, ho.rng, ho.rate, ho.stp⟩ ⟨h.cn, h.bl, h.jn, h.at_⟩ r1 q0 ?_
          show 1 ≤ C.cur.len; omega
        · exact ⟨h.cn, h.bl, h.jn, h.at_⟩
      · exact ⟨h.cn, h.bl, h.jn, h.at_⟩
theorem new_jn {l : List Mot} {s a j : Int} (hc : Conn l) (hb : Blocks l) (hr : ∀ i, i < l.length → (l.getD i Mot.zero).rng) : (Ctl.new l s a j).Jn := by
  have hf := new_full (s := s) (a := a) (j := j) hc hr
  refine ⟨hc, hb, ?_, fun hlt => ⟨0, Int.le_refl _, Int.le_refl _, ?_⟩⟩
  · show [] = ways (l.take (skp l 0)) ++ (Ctl.new l s a j).tailL (Ctl.new l s a j).last3
    have e1 : ways (l.take (skp l 0)) = [] := hf.ps.symm
    have e2 : (Ctl.new l s a j).tailL (Ctl.new l s a j).last3 = [] := by
      unfold Ctl.tailL
      rw [if_neg (fun x => x.2 (eq3_iff.2 (hf.at_ x.1).symm))]
    rw [e1, e2]; rfl
  · have hlt' : skp l 0 < l.length := hlt
    have hl1 : 1 ≤ (l.getD (skp l 0) Mot.zero).len := by
      have h1 := skp_pos (ms := l) (i := 0) hlt'; have h2 := Mot.len_bounds (hr _ hlt'); omega
    rw [hf.at_ hlt]
    exact (Mot.pos_zero hl1).symm

/-- Holds alone never fail. -/
theorem evs_hold {s a j safe t : Int} : ∀ (es : List (Int × Int)) (J : JobS), (∀ e ∈ es, e.2 ≠ 0) → J.C.Ok → J.C.Jn → J.C.ms = J.l →
    (JobS.evs s a j safe t es J).1 = 0 ∧ (JobS.evs s a j safe t es J).2.1.C.Ok ∧ (JobS.evs s a j safe t es J).2.1.C.Jn ∧ (JobS.evs s a j safe t es J).2.1.C.ms = J.l ∧ (JobS.evs s a j safe t es J).2.1.l = J.l ∧ (JobS.evs s a j safe t es J).2.1.ps = J.ps ∧ ∀ e ∈ (JobS.evs s a j safe t es J).2.2, e.2 ≠ 0
  | [], J, hn, ho, hj, hm => ⟨rfl, ho, hj, hm, rfl, rfl, fun e he => by cases he⟩
  | e :: r, J, hn, ho, hj, hm => by
    unfold JobS.evs
    by_cases h1 : e.1 ≤ t
    · rw [if_pos h1, if_neg (hn e (by simp))]
      exact evs_hold r (J.hold e.2 t) (fun x hx => hn x (by simp [hx])) ho.hold (hold_jn ho hj) ((holdC_ms J.C).1.trans hm)
    · rw [if_neg h1]
      exact ⟨rfl, ho, hj, hm, rfl, rfl, hn⟩

theorem run_hold {s a j safe : Int} : ∀ (f : Nat) (t : Int) (J : JobS) (es : List (Int × Int)), (∀ e ∈ es, e.2 ≠ 0) → J.C.Ok → J.C.Jn → J.C.ms = J.l → J.ps = [] →
    (JobS.run s a j safe f t J es).1 = 3 ∨ ((JobS.run s a j safe f t J es).1 = 0 ∧ joinL (JobS.run s a j safe f t J es).2 = ways J.l)
  | f, t, J, es, hn, ho, hj, hm, hp => by
    have hdone : ∀ J' : JobS, J'.C.Jn → J'.C.ms = J.l → J'.l = J.l → J'.ps = [] → J'.doneB = true → joinL J'.out = ways J.l := fun J' hj' hm' hl' hp' hd => by
      have he : J'.C.idx = J'.C.ms.length := by rw [hm', ← hl']; exact of_decide_eq_true hd
      have e1 : J'.out = J'.C.ps := by
        unfold JobS.out Ctl.doneL Ctl.pieceB
        rw [decide_eq_false (show ¬ J'.C.idx < J'.C.ms.length by omega), if_neg (fun h => by cases h.1), hp']
        rfl
      have e2 : J'.C.tailL J'.C.last3 = [] := by unfold Ctl.tailL; rw [if_neg (fun x => by omega)]
      rw [e1, hj'.jn, e2, List.append_nil, he, List.take_length, hm']
    by_cases hd : J.doneB = true
    · right
      cases f with
      | zero => unfold JobS.run; rw [if_pos hd]; exact ⟨rfl, hdone J hj hm rfl hp hd⟩
      | succ f => unfold JobS.run; rw [if_pos hd]; exact ⟨rfl, hdone J hj hm rfl hp hd⟩
    · cases f with
      | zero => left; unfold JobS.run; rw [if_neg hd]
      | succ f =>
        have w1 : (J.wake t).C.Ok := by unfold JobS.wake; split; exact ho.resume; exact ho
        have w2 : (J.wake t).C.Jn := by unfold JobS.wake; split; exact ⟨hj.cn, hj.bl, hj.jn, hj.at_⟩; exact hj
        have w3 : (J.wake t).C.ms = (J.wake t).l := by unfold JobS.wake; split <;> exact hm
        have w4 : (J.wake t).l = J.l := by unfold JobS.wake; split <;> rfl
        have w5 : (J.wake t).ps = [] := by unfold JobS.wake; split <;> exact hp
        obtain ⟨v1, v2, v3, v4, v5, v6, v7⟩ := evs_hold (s := s) (a := a) (j := j) (safe := safe) (t := t) es (J.wake t) hn w1 w2 w3
        rw [w4] at v4 v5
        rw [w5] at v6
        unfold JobS.run
        rw [if_neg hd, if_pos v1]
        generalize JobS.evs s a j safe t es (J.wake t) = E at *
        by_cases h2 : E.2.1.doneB = true
        · rw [if_pos h2]
          exact .inr ⟨rfl, hdone E.2.1 v3 v4 v5 v6 h2⟩
        · rw [if_neg h2]
          have hr := run_hold (s := s) (a := a) (j := j) (safe := safe) f (t + 1) E.2.1.tick E.2.2 v7 v2.tick (tick_jn v2 v3) ((tickC_ms E.2.1.C).1.trans (v4.trans v5.symm)) v6
          rw [show E.2.1.tick.l = J.l from v5] at hr
          exact hr

/-- Without events the pieces are the motions that lead somewhere. -/
theorem dist_nil {l : List Mot} {s a j safe : Int} (hw : WfL l) (hc : chk l s a j = 0) (hr : lsum l l.length ≤ 100000) : dist l s a j safe [] = (0, ways l) := by
  obtain ⟨c1, c2, c3⟩ := chk_zero hc
  unfold dist
  rw [if_pos hc]
  have := run_nil (s := s) (a := a) (j := j) (safe := safe) 100000 0 (JobS.new l s a j) (new_ok_of hc hw) (new_full (conn_of c2) (fun i hi => rngTo_at (conn_zero c2).2.1 i hi)) rfl rfl (by show (Ctl.new l s a j).rem ≤ _; rw [new_rem]; exact hr)
  rw [this]
  rfl

/-- With holds alone the pieces, joined, are the motions that lead somewhere. -/
theorem dist_hold {l : List Mot} {s a j safe : Int} {es : List (Int × Int)} (hw : WfL l) (hb : Blocks l) (hn : ∀ e ∈ es, e.2 ≠ 0) (hc : chk l s a j = 0) :
    (dist l s a j safe es).1 = 3 ∨ ((dist l s a j safe es).1 = 0 ∧ joinL (dist l s a j safe es).2 = ways l) := by
  obtain ⟨c1, c2, c3⟩ := chk_zero hc
  unfold dist
  rw [if_pos hc]
  exact run_hold (s := s) (a := a) (j := j) (safe := safe) 100000 0 (JobS.new l s a j) es hn (new_ok_of hc hw) (new_jn (conn_of c2) hb (fun i hi => rngTo_at (conn_zero c2).2.1 i hi)) rfl rfl

end Go.Proofs.YtjibcnnbclcboaaDoor

namespace Go.Proofs.YtjibcnnbclcboaaDoor
open Go.RowKit

/-- A way: the differences of the coordinates, and the rate. -/
structure Way where
  x : Int
  y : Int
  z : Int
  r : Int

/-- The motion of a way from a place, with its number. -/
def Way.mot (w : Way) (p : Int × Int × Int) (i : Nat) : Mot := ⟨p.1, p.2.1, p.2.2, p.1 + w.x, p.2.1 + w.y, p.2.2 + w.z, 1000 * w.r, 1 + ((i / 3 : Nat) : Int), (i : Nat)⟩
/-- The motions of ways. -/
def routeGo : List Way → Int × Int × Int → Nat → List Mot
  | [], _, _ => []
  | w :: r, p, i => w.mot p i :: routeGo r (p.1 + w.x, p.2.1 + w.y, p.2.2 + w.z) (i + 1)
def route (p : Int × Int × Int) (l : List Way) : List Mot := routeGo l p 0

/-- The place behind so many ways. -/
def placeGo : List Way → Int × Int × Int → Nat → Int × Int × Int
  | [], p, _ => p
  | _ :: _, p, 0 => p
  | w :: r, p, k + 1 => placeGo r (p.1 + w.x, p.2.1 + w.y, p.2.2 + w.z) k

/-- Ways of small numbers. -/
structure Way.small (w : Way) : Prop where
  x : -32768 ≤ w.x ∧ w.x ≤ 32767
  y : -32768 ≤ w.y ∧ w.y ≤ 32767
  z : -32768 ≤ w.z ∧ w.z ≤ 32767
  r : 0 ≤ w.r ∧ w.r ≤ 255

theorem routeGo_length : ∀ (l : List Way) (p : Int × Int × Int) (i : Nat), (routeGo l p i).length = l.length
  | [], _, _ => rfl
  | w :: r, p, i => by simp [routeGo, routeGo_length r]
theorem routeGo_block : ∀ (l : List Way) (p : Int × Int × Int) (i k : Nat), k < l.length → ((routeGo l p i).getD k Mot.zero).block = ((i + k : Nat) : Int)
  | [], _, _, k, h => by simp at h
  | w :: r, p, i, 0, _ => by simp [routeGo, Way.mot]
  | w :: r, p, i, k + 1, h => by
    have := routeGo_block r (p.1 + w.x, p.2.1 + w.y, p.2.2 + w.z) (i + 1) k (by simpa using h)
    show ((routeGo r _ (i + 1)).getD k Mot.zero).block = _
    rw [this]
    congr 1
    omega
theorem route_blocks (p : Int × Int × Int) (l : List Way) : Blocks (route p l) := fun i k hik hk => by
  unfold route at *
  rw [routeGo_length] at hk
  rw [routeGo_block l p 0 i (by omega), routeGo_block l p 0 k hk]
  omega

def l1 (w : Way) : Int := (if w.x < -w.x then -w.x else w.x) + (if w.y < -w.y then -w.y else w.y) + (if w.z < -w.z then -w.z else w.z)
def l1sum : List Way → Int
  | [] => 0
  | w :: r => l1 w + l1sum r
theorem l1_nonneg (w : Way) : 0 ≤ l1 w := by
  unfold l1
  split <;> split <;> split <;> omega
theorem l1sum_nonneg : ∀ l : List Way, 0 ≤ l1sum l
  | [] => Int.le_refl _
  | w :: r => by have := l1_nonneg w; have := l1sum_nonneg r; show 0 ≤ l1 w + l1sum r; omega

theorem abs_sq (x : Int) : (if x < -x then -x else x) * (if x < -x then -x else x) = x * x := by
  split
  · rw [Int.neg_mul_neg]
  · rfl
theorem sum_sq {a b c : Int} (ha : 0 ≤ a) (hb : 0 ≤ b) (hc : 0 ≤ c) : a * a + b * b + c * c ≤ (a + b + c) * (a + b + c) := by
  have h1 : 0 ≤ a * b := Int.mul_nonneg ha hb
  have h2 : 0 ≤ a * c := Int.mul_nonneg ha hc
  have h3 : 0 ≤ b * c := Int.mul_nonneg hb hc
  have e : (a + b + c) * (a + b + c) = a * a + b * b + c * c + 2 * (a * b) + 2 * (a * c) + 2 * (b * c) := by
    simp only [Int.add_mul, Int.mul_add, Int.mul_comm b a, Int.mul_comm c a, Int.mul_comm c b]
    omega
  rw [e]
  omega
theorem len_l1 {m : Mot} {w : Way} {p : Int × Int × Int} {i : Nat} (hm : m = w.mot p i) (hr : m.rng) : m.len ≤ l1 w := by
  obtain ⟨n0, n1, n2⟩ := Mot.len_is hr
  by_cases h0 : 0 < m.len
  · have h1 := n2 h0
    have hs : m.sq ≤ l1 w * l1 w := by
      have e : m.sq = w.x * w.x + w.y * w.y + w.z * w.z := by
        subst hm
        unfold Mot.sq Way.mot
        simp only
        rw [show p.1 + w.x - p.1 = w.x by omega, show p.2.1 + w.y - p.2.1 = w.y by omega, show p.2.2 + w.z - p.2.2 = w.z by omega]
      rw [e, ← abs_sq w.x, ← abs_sq w.y, ← abs_sq w.z]
      unfold l1
      exact sum_sq (by split <;> omega) (by split <;> omega) (by split <;> omega)
    have hl := l1_nonneg w
    rcases (by omega : l1 w < m.len ∨ m.len ≤ l1 w) with h | h
    · exfalso
      have : l1 w * l1 w ≤ (m.len - 1) * (m.len - 1) := sq_mono hl (by omega)
      omega
    · exact h
  · have := l1_nonneg w; omega

/-- A place that is not far. -/
def nearP (p : Int × Int × Int) (b : Int) : Prop := -b ≤ p.1 ∧ p.1 ≤ b ∧ -b ≤ p.2.1 ∧ p.2.1 ≤ b ∧ -b ≤ p.2.2 ∧ p.2.2 ≤ b

theorem routeGo_all {Q : Mot → Prop} : ∀ (l : List Way) (p : Int × Int × Int) (i : Nat) (b : Int), (∀ w ∈ l, w.small) → nearP p b → b + 32768 * l.length ≤ 1000000 → (∀ (w : Way) (p : Int × Int × Int) (i : Nat), w.small → nearP p 1000000 → nearP (p.1 + w.x, p.2.1 + w.y, p.2.2 + w.z) 1000000 → Q (w.mot p i)) → ∀ m ∈ routeGo l p i, Q m
  | [], _, _, _, _, _, _, _, m, hm => by simp [routeGo] at hm
  | w :: r, p, i, b, hw, hp, hb, hQ, m, hm => by
    have hs := hw w (by simp)
    simp only [List.length_cons] at hb
    push_cast at hb
    have hx := hs.x; have hy := hs.y; have hz := hs.z
    obtain ⟨p1, p2, p3, p4, p5, p6⟩ := hp
    have hp2 : nearP (p.1 + w.x, p.2.1 + w.y, p.2.2 + w.z) (b + 32768) := by
      refine ⟨?_, ?_, ?_, ?_, ?_, ?_⟩ <;> simp only <;> omega
    rcases List.mem_cons.1 (show m ∈ w.mot p i :: routeGo r _ (i + 1) from hm) with h | h
    · rw [h]
      refine hQ w p i hs ?_ ?_
      · refine ⟨?_, ?_, ?_, ?_, ?_, ?_⟩ <;> omega
      · refine ⟨?_, ?_, ?_, ?_, ?_, ?_⟩ <;> simp only <;> omega
    · exact routeGo_all r _ (i + 1) (b + 32768) (fun x hx => hw x (by simp [hx])) hp2 (by omega) hQ m h

theorem route_wf {p : Int × Int × Int} {l : List Way} (hw : ∀ w ∈ l, w.small) (hp : nearP p 32768) (hl : l.length ≤ 6) : WfL (route p l) := by
  refine WfL.of (routeGo_all (Q := Mot.wf) l p 0 32768 hw hp (by omega) fun w p i hs h1 h2 => ?_)
  obtain ⟨a1, a2, a3, a4, a5, a6⟩ := h1
  obtain ⟨b1, b2, b3, b4, b5, b6⟩ := h2
  have hr := hs.r
  simp only at b1 b2 b3 b4 b5 b6
  refine ⟨?_, ?_, ?_, ?_, ?_, ?_, ?_⟩ <;> show _ ∧ _ <;> simp only [Way.mot] <;> omega
theorem route_rng {p : Int × Int × Int} {l : List Way} (hw : ∀ w ∈ l, w.small) (hp : nearP p 32768) (hl : l.length ≤ 6) : ∀ m ∈ route p l, m.rng := by
  refine routeGo_all (Q := Mot.rng) l p 0 32768 hw hp (by omega) fun w p i hs h1 h2 => ?_
  obtain ⟨a1, a2, a3, a4, a5, a6⟩ := h1
  obtain ⟨b1, b2, b3, b4, b5, b6⟩ := h2
  simp only at b1 b2 b3 b4 b5 b6
  refine ⟨⟨?_, ?_, ?_⟩, ?_, ?_, ?_⟩ <;> unfold inG <;> simp only [Way.mot] <;> omega

theorem lsum_cons (m : Mot) (l : List Mot) : ∀ k, lsum (m :: l) (k + 1) = m.len + lsum l k
  | 0 => by show lsum (m :: l) 0 + m.len = m.len + lsum l 0; show (0 : Int) + m.len = m.len + 0; omega
  | k + 1 => by
    show lsum (m :: l) (k + 1) + ((m :: l).getD (k + 1) Mot.zero).len = m.len + (lsum l k + (l.getD k Mot.zero).len)
    rw [lsum_cons m l k]
    have : (m :: l).getD (k + 1) Mot.zero = l.getD k Mot.zero := rfl
    rw [this]
    omega
theorem routeGo_lsum : ∀ (l : List Way) (p : Int × Int × Int) (i : Nat), (∀ m ∈ routeGo l p i, m.rng) → lsum (routeGo l p i) (routeGo l p i).length ≤ l1sum l
  | [], _, _, _ => Int.le_refl _
  | w :: r, p, i, h => by
    have h1 := routeGo_lsum r (p.1 + w.x, p.2.1 + w.y, p.2.2 + w.z) (i + 1) (fun m hm => h m (by show m ∈ w.mot p i :: _; simp [hm]))
    have h2 : (w.mot p i).len ≤ l1 w := len_l1 rfl (h _ (by show w.mot p i ∈ w.mot p i :: _; simp))
    show lsum (w.mot p i :: routeGo r _ (i + 1)) ((routeGo r _ (i + 1)).length + 1) ≤ l1 w + l1sum r
    rw [lsum_cons]
    omega
theorem route_lsum {p : Int × Int × Int} {l : List Way} (hw : ∀ w ∈ l, w.small) (hp : nearP p 32768) (hl : l.length ≤ 6) (hs : l1sum l ≤ 4000) : lsum (route p l) (route p l).length ≤ 100000 := by
  have := routeGo_lsum l p 0 (route_rng hw hp hl)
  unfold route
  omega

end Go.Proofs.YtjibcnnbclcboaaDoor

namespace Go.Proofs.YtjibcnnbclcboaaDoor
open Go.RowKit
set_option maxRecDepth 8000

/-- A slice that reads as events: two numbers each. -/
def SlE (w : World) (v : Value) (l : List (Int × Int)) : Prop :=
  ∃ (a : Option Addr) (n cap b off : Nat), v = .slice a n cap ∧ n = l.length ∧ (n = 0 ∨ a = some ⟨b, off, none⟩) ∧ n ≤ cap ∧ ∀ i, i < n → b < w.heap.size ∧ w.cell? ⟨b, off + i * 2, none⟩ = some (.int .i64 (l.getD i (0, 0)).1) ∧ w.cell? ⟨b, off + i * 2 + 1, none⟩ = some (.int .i64 (l.getD i (0, 0)).2)

theorem SlE.only {D : Nat → Prop} {w w' : World} {v : Value} {l : List (Int × Int)} (h : SlE w v l) (k : Only D w w') (hd : Off D v) : SlE w' v l := by
  obtain ⟨ad, n, cap, b, off, rfl, h2, h3, h5, h4⟩ := h
  refine ⟨ad, n, cap, b, off, rfl, h2, h3, h5, fun i hi => ?_⟩
  obtain ⟨p, q, r⟩ := h4 i hi
  have hb : ad = some ⟨b, off, none⟩ := h3.resolve_left (by omega)
  have hne : ¬ D b := hd b (by subst hb; rfl)
  exact ⟨Nat.lt_of_lt_of_le p k.size, by rw [k.cell (p := ⟨b, _, none⟩) p hne]; exact q, by rw [k.cell (p := ⟨b, _, none⟩) p hne]; exact r⟩
theorem SlE.later {w w' : World} {v : Value} {l : List (Int × Int)} (h : SlE w v l) (he : Ext w w') : SlE w' v l := h.only (D := fun _ => False) (Only.of_ext he) (fun _ _ h => h)
theorem SlE.tail {w : World} {b o n c : Nat} {x : Int × Int} {r : List (Int × Int)} (h : SlE w (.slice (some ⟨b, o, none⟩) (n + 1) c) (x :: r)) : SlE w (.slice (some ⟨b, o + 2, none⟩) n (c - 1)) r := by
  obtain ⟨a, n1, c1, b1, o1, hv, hn, h3, h5, h4⟩ := h
  cases hv
  have e := h3.resolve_left (by omega)
  injection e with e
  injection e with e1 e2
  subst e1 e2
  simp only [List.length_cons] at hn
  refine ⟨_, n, c - 1, b, o + 2, rfl, by omega, .inr rfl, by omega, fun i hi => ?_⟩
  obtain ⟨q1, q2, q3⟩ := h4 (i + 1) (by omega)
  have e1 : o + (i + 1) * 2 = o + 2 + i * 2 := by omega
  rw [e1] at q2 q3
  exact ⟨q1, by simpa using q2, by simpa using q3⟩
theorem SlE.none {w : World} {a : Option Addr} {c : Nat} : SlE w (.slice a 0 c) [] := ⟨a, 0, c, 0, 0, rfl, rfl, .inl rfl, by omega, fun i hi => by omega⟩

/-- What a controller's call may have changed lies from its base on. -/
theorem Foot.base {B : Nat} {w w' : World} {N : Nat} {vm vp vq : Value} {C : Ctl} (h : CAt B w N vm vp vq C) (hO : Only (Foot N vq) w w') : Only (fun k => B ≤ k) w w' :=
  hO.mono (fun k _ hk => by
    rcases hk with rfl | hk
    · exact h.inv.base
    · exact h.inv.sq.base hk)

/-- A controller in memory, from the base on. -/
def CIn (B : Nat) (w : World) (N : Nat) (C : Ctl) : Prop := ∃ vm vp vq, CAt B w N vm vp vq C ∧ (∀ b, vm.ownBlock = some b → B ≤ b) ∧ (∀ b, vp.ownBlock = some b → B ≤ b) ∧ B ≤ w.heap.size
theorem CIn.later {B : Nat} {w w' : World} {N : Nat} {C : Ctl} (h : CIn B w N C) (he : Ext w w') : CIn B w' N C := by
  obtain ⟨vm, vp, vq, h, h1, h2, h3⟩ := h
  exact ⟨vm, vp, vq, h.later he, h1, h2, Nat.le_trans h3 he.size⟩
/-- Changes below the base do not touch it. -/
theorem CIn.low {B : Nat} {D : Nat → Prop} {w w' : World} {N : Nat} {C : Ctl} (h : CIn B w N C) (k : Only D w w') (hd : ∀ b, D b → b < B) : CIn B w' N C := by
  obtain ⟨vm, vp, vq, h, h1, h2, h3⟩ := h
  have hb := h.inv.base
  refine ⟨vm, vp, vq, h.only k (fun e => by have := hd _ e; omega) (fun b hb' e => ?_) (fun b hb' e => ?_) (fun b hb' e => ?_), h1, h2, Nat.le_trans h3 k.size⟩
  · have := hd _ e; have := h1 b hb'; omega
  · have := hd _ e; have := h2 b hb'; omega
  · have := hd _ e; have := h.inv.sq.base hb'; omega
theorem CIn.ok {B : Nat} {w : World} {N : Nat} {C : Ctl} (h : CIn B w N C) : C.Ok := by
  obtain ⟨vm, vp, vq, h, _⟩ := h
  exact h.ok
theorem CIn.lt {B : Nat} {w : World} {N : Nat} {C : Ctl} (h : CIn B w N C) : B ≤ N ∧ N < w.heap.size := by
  obtain ⟨vm, vp, vq, h, _⟩ := h
  exact ⟨h.inv.base, h.inv.box.lt⟩
theorem CIn.ret {B : Nat} {w : World} {N : Nat} {vm vp vq : Value} {C C' : Ctl} {v : Value} (h : CAt B w N vm vp vq C) (h1 : ∀ b, vm.ownBlock = some b → B ≤ b) (h2 : ∀ b, vp.ownBlock = some b → B ≤ b) (h3 : B ≤ w.heap.size) {e : Ending} {w' : World} (k : CRet B w N vm vp vq C' v e w') :
    e = .returned v ∧ CIn B w' N C' ∧ Only (fun k => B ≤ k) w w' := by
  obtain ⟨he, vp', vq', hA, hO, _, hp⟩ := k
  refine ⟨he, ⟨vm, vp', vq', hA, h1, fun b hb => ?_, Nat.le_trans h3 hO.size⟩, Foot.base h hO⟩
  rcases hp b hb with e | e
  · exact h2 b e
  · omega

section
variable {B : Nat} {w : World} {N : Nat} {C : Ctl}
theorem tick_in (h : CIn B w N C) (hps : C.ps.length ≤ 999999999) :
    Calls Tryd.prog 23 #[.pointer (some ⟨N, 0, none⟩)] w fun e w' => e = .returned (.bool C.tickB) ∧ CIn B w' N C.tickC ∧ Only (fun k => B ≤ k) w w' := by
  obtain ⟨vm, vp, vq, h, h1, h2, h3⟩ := h
  exact (tick_any h hps).mono fun _ _ k => CIn.ret h h1 h2 h3 k
theorem hold_in (h : CIn B w N C) (hps : C.ps.length ≤ 999999999) :
    Calls Tryd.prog 35 #[.pointer (some ⟨N, 0, none⟩)] w fun e w' => e = .returned (.tuple #[]) ∧ CIn B w' N C.holdC ∧ Only (fun k => B ≤ k) w w' := by
  obtain ⟨vm, vp, vq, h, h1, h2, h3⟩ := h
  exact (hold_any h hps).mono fun _ _ k => CIn.ret h h1 h2 h3 k
theorem break_in (h : CIn B w N C) (hps : C.ps.length ≤ 999999999) :
    Calls Tryd.prog 53 #[.pointer (some ⟨N, 0, none⟩)] w fun e w' => e = .returned (.tuple #[]) ∧ CIn B w' N C.brkC ∧ Only (fun k => B ≤ k) w w' := by
  obtain ⟨vm, vp, vq, h, h1, h2, h3⟩ := h
  exact (break_any h hps).mono fun _ _ k => CIn.ret h h1 h2 h3 k
theorem resume_in (h : CIn B w N C) :
    Calls Tryd.prog 21 #[.pointer (some ⟨N, 0, none⟩)] w fun e w' => e = .returned (.tuple #[]) ∧ CIn B w' N { C with hd := false } ∧ Only (fun k => B ≤ k) w w' := by
  obtain ⟨vm, vp, vq, h, h1, h2, h3⟩ := h
  exact (resume_at h).mono fun _ _ k => CIn.ret h h1 h2 h3 k
theorem index_in (h : CIn B w N C) :
    Calls Tryd.prog 33 #[.pointer (some ⟨N, 0, none⟩)] w fun e w' => e = .returned (.int .i64 C.idx) ∧ w = w' := by
  obtain ⟨vm, vp, vq, h, _⟩ := h
  exact index_any h.inv.box
theorem pos_in (h : CIn B w N C) :
    Calls Tryd.prog 52 #[.pointer (some ⟨N, 0, none⟩)] w fun e w' => e = .returned (P3 C.at3) ∧ Ext w w' := by
  obtain ⟨vm, vp, vq, h, _⟩ := h
  exact cpos_any h.inv.box h.inv.sm h.ok.posOk
theorem done_in (h : CIn B w N C) (hps : C.ps.length ≤ 999999999) :
    Calls Tryd.prog 24 #[.pointer (some ⟨N, 0, none⟩)] w (RetMots w C.doneL) := by
  obtain ⟨vm, vp, vq, h, _⟩ := h
  exact done_any h.inv h.ok.posOk hps
theorem new_in (v : Value) (l : List Mot) (s a j : Int) (w : World) (h : SlM w v l) (hn : l.length ≤ 1000000000) (hw : WfL l) (hc : chk l s a j = 0) :
    Calls Tryd.prog 32 #[v, Lm s a j] w fun e w' => ∃ N, e = .returned (.tuple #[.pointer (some ⟨N, 0, none⟩), .int .i64 0]) ∧ CIn w.heap.size w' N (Ctl.new l s a j) ∧ Ext w w' := by
  obtain ⟨c1, c2, c3⟩ := chk_zero hc
  refine (new_ok v l s a j w h hn hw (fun i hi => rngTo_at (conn_zero c2).2.1 i hi) hc).mono ?_
  rintro e w' ⟨N, vm, rfl, hI, hE, hlm⟩
  exact ⟨N, rfl, ⟨vm, _, _, ⟨hI, (fun b hb => by cases hb), fun b hb => (hlm b hb).2, new_Ok hc hw⟩, fun b hb => (hlm b hb).1, (fun b hb => by cases hb), hE.size⟩, hE⟩
end

end Go.Proofs.YtjibcnnbclcboaaDoor

namespace Go.Proofs.YtjibcnnbclcboaaDoor
open Go.RowKit
set_option maxRecDepth 8000
set_option maxRecDepth 8000

def evGood (l : List (Int × Int)) (k : Nat) : Bool := !(decide ((l.getD k (0, 0)).1 < 0)) && (!(decide (1000000 < (l.getD k (0, 0)).1)) && (!(decide ((l.getD k (0, 0)).2 < 0)) && (!(decide (1000000 < (l.getD k (0, 0)).2)) && (decide (k = 0) || !(decide ((l.getD k (0, 0)).1 < (l.getD (k - 1) (0, 0)).1))))))
def evTo (l : List (Int × Int)) : Nat → Bool
  | 0 => true
  | k + 1 => evTo l k && evGood l k
/-- Events are valid. -/
def validE (l : List (Int × Int)) : Bool := evTo l l.length && decide (l.length ≤ 20)
theorem evTo_false {l : List (Int × Int)} {k : Nat} (h : evGood l k = false) : ∀ n, k < n → evTo l n = false
  | 0, hn => by omega
  | n + 1, hn => by
    rcases Nat.lt_or_ge k n with h' | h'
    · simp [evTo, evTo_false h n h']
    · obtain rfl : k = n := by omega
      simp [evTo, h]
theorem evTo_at {l : List (Int × Int)} : ∀ {n k : Nat}, evTo l n = true → k < n → evGood l k = true
  | 0, k, _, hk => by omega
  | n + 1, k, h, hk => by
    simp only [evTo, Bool.and_eq_true] at h
    rcases Nat.lt_or_ge k n with h' | h'
    · exact evTo_at h.1 h'
    · obtain rfl : k = n := by omega
      exact h.2
theorem validE_bad {l : List (Int × Int)} {k : Nat} (hk : k < l.length) (h : evGood l k = false) : validE l = false := by
  simp [validE, evTo_false h l.length hk]
theorem evTo_succ {l : List (Int × Int)} {k : Nat} (h : evTo l k = true) (hg : evGood l k = true) : evTo l (k + 1) = true := by simp [evTo, h, hg]
theorem evGood_def (l : List (Int × Int)) (k : Nat) : evGood l k = (!(decide ((l.getD k (0, 0)).1 < 0)) && (!(decide (1000000 < (l.getD k (0, 0)).1)) && (!(decide ((l.getD k (0, 0)).2 < 0)) && (!(decide (1000000 < (l.getD k (0, 0)).2)) && (decide (k = 0) || !(decide ((l.getD k (0, 0)).1 < (l.getD (k - 1) (0, 0)).1))))))) := rfl

/-- A block of two cells. -/
structure B2 (W : World) (N : Nat) (x y : Value) : Prop where
  c0 : W.cell? ⟨N, 0, none⟩ = some x
  c1 : W.cell? ⟨N, 1, none⟩ = some y
  f0 : W.frozen? ⟨N, 0, none⟩ = false
  f1 : W.frozen? ⟨N, 1, none⟩ = false
  lt : N < W.heap.size
theorem B2.mk' (w : World) (x y : Value) (t : TypeId) : ∃ W : World, w.alloc (.cells #[x, y] t) = W ∧ B2 W w.heap.size x y ∧ Ext w W := by
  refine ⟨_, rfl, ?_, (Ext.refl w).alloc _⟩
  constructor <;> simp [go_sem]
theorem B2.only {D : Nat → Prop} {W W' : World} {N : Nat} {x y : Value} (h : B2 W N x y) (k : Only D W W') (hd : ¬ D N) : B2 W' N x y :=
  ⟨by rw [k.cell h.lt hd]; exact h.c0, by rw [k.cell h.lt hd]; exact h.c1, by rw [k.frozen h.lt hd]; exact h.f0, by rw [k.frozen h.lt hd]; exact h.f1, Nat.lt_of_lt_of_le h.lt k.size⟩
theorem B2.later {W W' : World} {N : Nat} {x y : Value} (h : B2 W N x y) (k : Ext W W') : B2 W' N x y := h.only (D := fun _ => False) (Only.of_ext k) (fun h => h)

set_option maxHeartbeats 4000000 in
theorem jvalid_core (ad : Option Addr) (cap b off : Nat) (l : List (Int × Int)) (w : World) (hn : l.length ≤ 9223372036854775807) (had : l.length = 0 ∨ ad = some ⟨b, off, none⟩) (hc : ∀ i, i < l.length → b < w.heap.size ∧ w.cell? ⟨b, off + i * 2, none⟩ = some (.int .i64 (l.getD i (0, 0)).1) ∧ w.cell? ⟨b, off + i * 2 + 1, none⟩ = some (.int .i64 (l.getD i (0, 0)).2)) :
    Calls Tryd.prog 17 #[.slice ad l.length cap] w fun e w' => e = .returned (.bool (validE l)) ∧ Ext w w' := by
  have HC := Lib.hid hc; clear hc
  have HAD := Lib.hid had; clear had
  generalize hN : l.length = n at *
  have HN := Lib.hid hN; clear hN
  go_enter Tryd.func17, Tryd.ntmps17
  go_wp2
  go_loopw [7] (fun t wr => ∃ (k : Nat) (x : Later w), k ≤ n ∧ t = .int .i64 k ∧ wr = x.w ∧ Hid (evTo l k = true)) (fun t _ => n - (intOf t).toNat)
  case atStart => exact ⟨0, Later.self w, by omega, rfl, rfl, Lib.hid rfl⟩
  case round =>
    obtain ⟨k, x, hk, rfl, rfl, HA⟩ := hrel
    by_cases hlt : k < n
    · obtain ⟨hb1, hb2, hb3⟩ := HC.out k hlt
      obtain rfl : ad = some ⟨b, off, none⟩ := (HAD.out).resolve_left (by omega)
      have hE := x.ext
      rw [← hE.cell (p := ⟨b, _, none⟩) hb1] at hb2 hb3
      generalize x.w = wx at *
      clear x
      have hX : evGood l k = false → validE l = false := fun h => validE_bad (by rw [HN.out]; exact hlt) h
      have HX := Lib.hid hX; clear hX
      have hS : evGood l k = true → evTo l (k + 1) = true := fun h => evTo_succ HA.out h
      have HS := Lib.hid hS; clear hS HA
      have hG := evGood_def l k
      have HG := Lib.hid hG; clear hG
      rcases Nat.eq_zero_or_pos k with hk0 | hk0
      · subst hk0
        simp only [Nat.zero_mul, Nat.add_zero] at hb2 hb3
        generalize (l.getD 0 (0, 0)).1 = pa at *
        generalize (l.getD 0 (0, 0)).2 = pn at *
        cases h0 : decide (pa < 0)
        rotate_left
        · have HF := Lib.hid (HX.out (by rw [HG.out]; simp only [h0]; rfl))
          clear HX HS HG
          go_wp2_with fail
          obtain ⟨W2, hW2, B2x, hE2⟩ := B2.mk' wx (.int .i64 pa) (.int .i64 pn) 57
          rw [hW2]; clear hW2
          have d0 := Later.cell B2x.c0; have d1 := Later.cell B2x.c1
          refine wp_region_later (by kernel_rfl) (by kernel_rfl) ?_
          repeat (go_big_quiet_step (fail))
          refine wpQuiet_nil ?_
          rintro _ ⟨x2, rfl⟩
          go_wp2
          go_ret
          exact ⟨ret_bool HF.out.symm, hE.trans (hE2.trans x2.ext)⟩
        cases h1 : decide (1000000 < pa)
        rotate_left
        · have HF := Lib.hid (HX.out (by rw [HG.out]; simp only [h0, h1]; rfl))
          clear HX HS HG
          go_wp2_with fail
          obtain ⟨W2, hW2, B2x, hE2⟩ := B2.mk' wx (.int .i64 pa) (.int .i64 pn) 57
          rw [hW2]; clear hW2
          have d0 := Later.cell B2x.c0; have d1 := Later.cell B2x.c1
          refine wp_region_later (by kernel_rfl) (by kernel_rfl) ?_
          repeat (go_big_quiet_step (fail))
          refine wpQuiet_nil ?_
          rintro _ ⟨x2, rfl⟩
          go_wp2
          go_ret
          exact ⟨ret_bool HF.out.symm, hE.trans (hE2.trans x2.ext)⟩
        cases h2 : decide (pn < 0)
        rotate_left
        · have HF := Lib.hid (HX.out (by rw [HG.out]; simp only [h0, h1, h2]; rfl))
          clear HX HS HG
          go_wp2_with fail
          obtain ⟨W2, hW2, B2x, hE2⟩ := B2.mk' wx (.int .i64 pa) (.int .i64 pn) 57
          rw [hW2]; clear hW2
          have d0 := Later.cell B2x.c0; have d1 := Later.cell B2x.c1
          refine wp_region_later (by kernel_rfl) (by kernel_rfl) ?_
          repeat (go_big_quiet_step (fail))
          refine wpQuiet_nil ?_
          rintro _ ⟨x2, rfl⟩
          go_wp2
          go_ret
          exact ⟨ret_bool HF.out.symm, hE.trans (hE2.trans x2.ext)⟩
        cases h3 : decide (1000000 < pn)
        rotate_left
        · have HF := Lib.hid (HX.out (by rw [HG.out]; simp only [h0, h1, h2, h3]; rfl))
          clear HX HS HG
          go_wp2_with fail
          obtain ⟨W2, hW2, B2x, hE2⟩ := B2.mk' wx (.int .i64 pa) (.int .i64 pn) 57
          rw [hW2]; clear hW2
          have d0 := Later.cell B2x.c0; have d1 := Later.cell B2x.c1
          refine wp_region_later (by kernel_rfl) (by kernel_rfl) ?_
          repeat (go_big_quiet_step (fail))
          refine wpQuiet_nil ?_
          rintro _ ⟨x2, rfl⟩
          go_wp2
          go_ret
          exact ⟨ret_bool HF.out.symm, hE.trans (hE2.trans x2.ext)⟩
        have HF := Lib.hid (HS.out (by rw [HG.out]; simp only [h0, h1, h2, h3]; rfl))
        clear HX HS HG
        go_wp2_with fail
        obtain ⟨W2, hW2, B2x, hE2⟩ := B2.mk' wx (.int .i64 pa) (.int .i64 pn) 57
        rw [hW2]; clear hW2
        have d0 := Later.cell B2x.c0; have d1 := Later.cell B2x.c1
        refine wp_region_later (by kernel_rfl) (by kernel_rfl) ?_
        repeat (go_big_quiet_step (fail))
        refine wpQuiet_nil ?_
        rintro _ ⟨x2, rfl⟩
        go_wp2
        go_roundw
        case rel => exact ⟨0 + 1, ⟨x2.w, hE.trans (hE2.trans x2.ext)⟩, by omega, by go_num, rfl, HF⟩
        case measure => simp [intOf]; omega
      · obtain ⟨k, rfl⟩ : ∃ i, k = i + 1 := ⟨k - 1, by omega⟩
        obtain ⟨_, hq, _⟩ := HC.out k (by omega)
        rw [← hE.cell (p := ⟨b, _, none⟩) hb1] at hq
        have e1 : (((k + 1 : Nat) : Int) - 1).toNat = k := by omega
        have hkp : decide (((k + 1 : Nat) : Int) > 0) = true := by simp
        rw [Nat.add_sub_cancel] at HG
        generalize (l.getD (k + 1) (0, 0)).1 = pa at *
        generalize (l.getD (k + 1) (0, 0)).2 = pn at *
        generalize (l.getD k (0, 0)).1 = pq at *
        cases h0 : decide (pa < 0)
        rotate_left
        · have HF := Lib.hid (HX.out (by rw [HG.out]; simp only [h0]; rfl))
          clear HX HS HG
          go_wp2_with fail
          obtain ⟨W2, hW2, B2x, hE2⟩ := B2.mk' wx (.int .i64 pa) (.int .i64 pn) 57
          rw [hW2]; clear hW2
          have d0 := Later.cell B2x.c0; have d1 := Later.cell B2x.c1
          have r0 := Later.cell ((hE2.cell (p := ⟨b, _, none⟩) (Nat.lt_of_lt_of_le hb1 hE.size)).trans hq)
          refine wp_region_later (by kernel_rfl) (by kernel_rfl) ?_
          repeat (go_big_quiet_step (fail))
          refine wpQuiet_nil ?_
          rintro _ ⟨x2, rfl⟩
          go_wp2
          go_ret
          exact ⟨ret_bool HF.out.symm, hE.trans (hE2.trans x2.ext)⟩
        cases h1 : decide (1000000 < pa)
        rotate_left
        · have HF := Lib.hid (HX.out (by rw [HG.out]; simp only [h0, h1]; rfl))
          clear HX HS HG
          go_wp2_with fail
          obtain ⟨W2, hW2, B2x, hE2⟩ := B2.mk' wx (.int .i64 pa) (.int .i64 pn) 57
          rw [hW2]; clear hW2
          have d0 := Later.cell B2x.c0; have d1 := Later.cell B2x.c1
          have r0 := Later.cell ((hE2.cell (p := ⟨b, _, none⟩) (Nat.lt_of_lt_of_le hb1 hE.size)).trans hq)
          refine wp_region_later (by kernel_rfl) (by kernel_rfl) ?_
          repeat (go_big_quiet_step (fail))
          refine wpQuiet_nil ?_
          rintro _ ⟨x2, rfl⟩
          go_wp2
          go_ret
          exact ⟨ret_bool HF.out.symm, hE.trans (hE2.trans x2.ext)⟩
        cases h2 : decide (pn < 0)
        rotate_left
        · have HF := Lib.hid (HX.out (by rw [HG.out]; simp only [h0, h1, h2]; rfl))
          clear HX HS HG
          go_wp2_with fail
          obtain ⟨W2, hW2, B2x, hE2⟩ := B2.mk' wx (.int .i64 pa) (.int .i64 pn) 57
          rw [hW2]; clear hW2
          have d0 := Later.cell B2x.c0; have d1 := Later.cell B2x.c1
          have r0 := Later.cell ((hE2.cell (p := ⟨b, _, none⟩) (Nat.lt_of_lt_of_le hb1 hE.size)).trans hq)
          refine wp_region_later (by kernel_rfl) (by kernel_rfl) ?_
          repeat (go_big_quiet_step (fail))
          refine wpQuiet_nil ?_
          rintro _ ⟨x2, rfl⟩
          go_wp2
          go_ret
          exact ⟨ret_bool HF.out.symm, hE.trans (hE2.trans x2.ext)⟩
        cases h3 : decide (1000000 < pn)
        rotate_left
        · have HF := Lib.hid (HX.out (by rw [HG.out]; simp only [h0, h1, h2, h3]; rfl))
          clear HX HS HG
          go_wp2_with fail
          obtain ⟨W2, hW2, B2x, hE2⟩ := B2.mk' wx (.int .i64 pa) (.int .i64 pn) 57
          rw [hW2]; clear hW2
          have d0 := Later.cell B2x.c0; have d1 := Later.cell B2x.c1
          have r0 := Later.cell ((hE2.cell (p := ⟨b, _, none⟩) (Nat.lt_of_lt_of_le hb1 hE.size)).trans hq)
          refine wp_region_later (by kernel_rfl) (by kernel_rfl) ?_
          repeat (go_big_quiet_step (fail))
          refine wpQuiet_nil ?_
          rintro _ ⟨x2, rfl⟩
          go_wp2
          go_ret
          exact ⟨ret_bool HF.out.symm, hE.trans (hE2.trans x2.ext)⟩
        cases h4 : decide (pa < pq)
        · have HF := Lib.hid (HS.out (by rw [HG.out]; simp only [h0, h1, h2, h3, h4]; rfl))
          clear HX HS HG
          go_wp2_with fail
          obtain ⟨W2, hW2, B2x, hE2⟩ := B2.mk' wx (.int .i64 pa) (.int .i64 pn) 57
          rw [hW2]; clear hW2
          have d0 := Later.cell B2x.c0; have d1 := Later.cell B2x.c1
          have r0 := Later.cell ((hE2.cell (p := ⟨b, _, none⟩) (Nat.lt_of_lt_of_le hb1 hE.size)).trans hq)
          refine wp_region_later (by kernel_rfl) (by kernel_rfl) ?_
          repeat (go_big_quiet_step (fail))
          refine wpQuiet_nil ?_
          rintro _ ⟨x2, rfl⟩
          go_wp2
          go_roundw
          case rel => exact ⟨k + 1 + 1, ⟨x2.w, hE.trans (hE2.trans x2.ext)⟩, by omega, by go_num, rfl, HF⟩
          case measure => simp [intOf]; omega
        · have HF := Lib.hid (HX.out (by rw [HG.out]; simp only [h0, h1, h2, h3, h4]; simp))
          clear HX HS HG
          go_wp2_with fail
          obtain ⟨W2, hW2, B2x, hE2⟩ := B2.mk' wx (.int .i64 pa) (.int .i64 pn) 57
          rw [hW2]; clear hW2
          have d0 := Later.cell B2x.c0; have d1 := Later.cell B2x.c1
          have r0 := Later.cell ((hE2.cell (p := ⟨b, _, none⟩) (Nat.lt_of_lt_of_le hb1 hE.size)).trans hq)
          refine wp_region_later (by kernel_rfl) (by kernel_rfl) ?_
          repeat (go_big_quiet_step (fail))
          refine wpQuiet_nil ?_
          rintro _ ⟨x2, rfl⟩
          go_wp2
          go_ret
          exact ⟨ret_bool HF.out.symm, hE.trans (hE2.trans x2.ext)⟩
    · have hkn : k = n := by omega
      have hg0 := HA.out
      rw [hkn, ← HN.out] at hg0
      have hF : validE l = decide (n ≤ 20) := by unfold validE; rw [hg0, HN.out]; rfl
      have HF := Lib.hid hF
      clear hF hkn hg0 HA
      have hE := x.ext
      by_cases hbig : n ≤ 20
      · go_wp2
        go_ret
        exact ⟨ret_bool (by rw [HF.out]; simp; omega), hE⟩
      · go_wp2
        go_ret
        exact ⟨ret_bool (by rw [HF.out]; simp; omega), hE⟩

theorem jvalid_any (v : Value) (l : List (Int × Int)) (w : World) (h : SlE w v l) (hn : l.length ≤ 9223372036854775807) :
    Calls Tryd.prog 17 #[v] w fun e w' => e = .returned (.bool (validE l)) ∧ Ext w w' := by
  obtain ⟨ad, n, cap, b, off, rfl, rfl, h3, -, h4⟩ := h
  exact jvalid_core ad cap b off l w hn h3 h4

end Go.Proofs.YtjibcnnbclcboaaDoor

namespace Go.Proofs.YtjibcnnbclcboaaDoor
open Go.RowKit
set_option maxRecDepth 8000
set_option maxRecDepth 8000

def rowE : List (Int × Int) → List Value
  | [] => []
  | m :: l => .int .i64 m.1 :: .int .i64 m.2 :: rowE l
theorem rowE_length : ∀ l : List (Int × Int), (rowE l).length = l.length * 2
  | [] => rfl
  | m :: l => by simp [rowE, rowE_length l]; omega
theorem rowE_append : ∀ l l' : List (Int × Int), rowE (l ++ l') = rowE l ++ rowE l'
  | [], l' => rfl
  | m :: l, l' => by simp [rowE, rowE_append l l']
theorem rowE_get0 : ∀ (l : List (Int × Int)) (i : Nat), i < l.length → (rowE l)[i * 2]? = some (.int .i64 (l.getD i (0, 0)).1)
  | [], i, h => by simp at h
  | m :: l, 0, _ => by simp [rowE]
  | m :: l, i + 1, h => by
    rw [show (i + 1) * 2 = i * 2 + 1 + 1 by omega]
    simp only [rowE, List.getElem?_cons_succ]
    rw [rowE_get0 l i (by simpa using h)]
    simp
theorem rowE_get1 : ∀ (l : List (Int × Int)) (i : Nat), i < l.length → (rowE l)[i * 2 + 1]? = some (.int .i64 (l.getD i (0, 0)).2)
  | [], i, h => by simp at h
  | m :: l, 0, _ => by simp [rowE]
  | m :: l, i + 1, h => by
    rw [show (i + 1) * 2 + 1 = i * 2 + 1 + 1 + 1 by omega]
    simp only [rowE, List.getElem?_cons_succ]
    rw [rowE_get1 l i (by simpa using h)]
    simp
theorem rowE_one : ∀ (l : List (Int × Int)), ∀ u ∈ rowE l, u.oneCell' = true
  | [], u, h => by simp [rowE] at h
  | m :: l, u, h => by
    simp only [rowE, List.mem_cons] at h
    rcases h with h | h | h
    · subst h; rfl
    · subst h; rfl
    · exact rowE_one l u h
theorem cells_rowE {w : World} {b off : Nat} {l : List (Int × Int)} (h : ∀ i, i < l.length → b < w.heap.size ∧ w.cell? ⟨b, off + i * 2, none⟩ = some (.int .i64 (l.getD i (0, 0)).1) ∧ w.cell? ⟨b, off + i * 2 + 1, none⟩ = some (.int .i64 (l.getD i (0, 0)).2)) (k : Nat) (u : Value) (hu : (rowE l)[k]? = some u) : w.cell? ⟨b, off + k, none⟩ = some u := by
  have hk : k < l.length * 2 := by
    rw [← rowE_length]
    rcases Nat.lt_or_ge k (rowE l).length with h' | h'
    · exact h'
    · simp [h'] at hu
  have hi : k / 2 < l.length := by omega
  obtain ⟨_, p, q⟩ := h _ hi
  have h2 : k % 2 = 0 ∨ k % 2 = 1 := by omega
  rcases h2 with h2 | h2
  · have e : k = k / 2 * 2 := by omega
    rw [e, rowE_get0 l _ hi] at hu
    rw [e, p]
    exact hu
  · have e : k = k / 2 * 2 + 1 := by omega
    rw [e, rowE_get1 l _ hi] at hu
    rw [e, ← Nat.add_assoc, q]
    exact hu

/-- A slice of the call's own that holds these events. -/
def OwnE (t : TypeId) (B : Nat) (w : World) (v : Value) (l : List (Int × Int)) : Prop := w.ownsRow B t 2 v l.length (rowE l)
theorem OwnE.later {t : TypeId} {B : Nat} {w w' : World} {v : Value} {l : List (Int × Int)} (h : OwnE t B w v l) (he : Ext w w') : OwnE t B w' v l := by
  refine World.ownsRow.kept h (row := none) ⟨he.out.os, he.out.tape, he.out.output, he.size, fun k hk _ => he.out.block k hk⟩ ?_
  cases h' : v.ownBlock <;> simp
theorem OwnE.nil (t : TypeId) (B : Nat) (w : World) : OwnE t B w (.slice none 0 0) [] := World.ownsRow_nil _ _ _ _
theorem OwnE.only {t : TypeId} {B : Nat} {D : Nat → Prop} {w w' : World} {v : Value} {l : List (Int × Int)} (h : OwnE t B w v l) (k : Only D w w') (hd : Off D v) : OwnE t B w' v l := ownsRow_only h k hd
theorem OwnE.sl {t : TypeId} {B : Nat} {w : World} {v : Value} {l : List (Int × Int)} (h : OwnE t B w v l) : SlE w v l := by
  obtain ⟨h1, h2⟩ := h
  rcases h2 with ⟨rfl, h3⟩ | ⟨g, cap, cur, rfl, h3, h4, h5, h6, h7, h8⟩
  · exact ⟨none, 0, 0, 0, 0, rfl, h3.symm, .inl rfl, Nat.le_refl _, fun i hi => by omega⟩
  · have hlt : g < w.heap.size := by
      rcases Nat.lt_or_ge g w.heap.size with h' | h'
      · exact h'
      · rw [Array.getElem?_eq_none h'] at h4; cases h4
    have key : ∀ k, k < l.length * 2 → cur[k]? = (rowE l)[k]? := fun k hk => by
      have : (cur.toList.take (l.length * 2))[k]? = (rowE l)[k]? := by rw [h8]
      rw [List.getElem?_take_of_lt hk] at this
      simpa using this
    refine ⟨_, _, cap, g, 0, rfl, rfl, .inr rfl, by first | exact h5 | exact h6 | omega, fun i hi => ⟨hlt, ?_, ?_⟩⟩
    · have := key (i * 2) (by omega)
      rw [rowE_get0 l i hi] at this
      simp [World.cell?, h4, this]
    · have := key (i * 2 + 1) (by omega)
      rw [rowE_get1 l i hi] at this
      simp [World.cell?, h4, this]
theorem OwnE.base {t : TypeId} {B : Nat} {w : World} {v : Value} {l : List (Int × Int)} (h : OwnE t B w v l) {b : Nat} (hb : v.ownBlock = some b) : B ≤ b := by
  obtain ⟨_, h2⟩ := h
  rcases h2 with ⟨rfl, _⟩ | ⟨g, cap, cur, rfl, h3, _⟩
  · cases hb
  · cases hb; exact h3
/-- A slice of events of the call's own is handed back. -/
def RetEvs (t : TypeId) (w : World) (l : List (Int × Int)) (e : Ending) (w' : World) : Prop := ∃ v, e = .returned v ∧ OwnE t w.heap.size w' v l ∧ Ext w w'


theorem Tryd.info_evJ : (Tryd.prog.info? 57).map (fun i => (i.zero, i.size, i.bytes)) = some (some (.agg #[.int .i64 0, .int .i64 0]), 2, 16) := by kernel_rfl
/-- append of events. -/
theorem appEJ {w : World} {ops : Array Oper} {rest : List Oper} {o : Oper} {A : Act} {Q : Exit → Act → World → Prop} (hg : o.guard = none) (x y : Operand)
    (ho : o.op = .call { callee := .builtin .append, args := #[x, y], argTypes := #[58, 58] }) (base : Nat) (v v2 : Value) (l l2 : List (Int × Int)) (hx : A.eval x = v) (hy : A.eval y = v2)
    (hown : OwnE 57 base w v l) (harg : SlE w v2 l2) (hne : ∀ c, v2 = .slice none 0 c → c = 0) (h63 : (l.length + l2.length) * 16 ≤ 140737488355328) (hbase : base ≤ w.heap.size)
    (hk : ∀ v' w3, OwnE 57 base w3 v' (l ++ l2) → w.grownBy w3 v.ownBlock → (v'.ownBlock = v.ownBlock ∨ v'.ownBlock = some w.heap.size) → wpList Tryd.prog ops Q rest (A.put o.dst v') w3) : wpList Tryd.prog ops Q (o :: rest) A w := by
  obtain ⟨i0, hi, hz0, hz1, hz2⟩ := info_parts Tryd.info_evJ
  obtain ⟨ad, n, cap, b, off, rfl, rfl, h3, h5, h4⟩ := harg
  cases ad with
  | none =>
    have h0 : l2.length = 0 := h3.resolve_right (by simp)
    obtain rfl := List.length_eq_zero_iff.1 h0
    obtain rfl := hne cap rfl
    exact wpList_append_own_none hg _ _ 58 ho base 57 i0 2 Tryd.underlying58 hi _ _ _ hx hown hy (hk _ _ (by rw [List.append_nil]; exact hown) ⟨rfl, rfl, rfl, Nat.le_refl _, fun _ _ _ => rfl⟩ (.inl rfl))
  | some x2 =>
    refine wpList_append_own_at w hg _ _ 58 ho base 57 i0 _ 2 16 Tryd.underlying58 hi hz0 hz1 hz2 rfl (by decide) _ _ _ hx hown x2 _ _ (rowE l2) hy (rowE_length l2) (fun k u hk' => ?_) (rowE_one l2) (by simp [maxLen]; omega) (by omega) hbase (fun v' w3 ho3 hg3 _ hat => hk v' w3 ?_ hg3 hat)
    · have hkl : k < l2.length * 2 := by
        rw [← rowE_length]
        rcases Nat.lt_or_ge k (rowE l2).length with h' | h'
        · exact h'
        · simp [h'] at hk'
      have hx2 : x2 = ⟨b, off, none⟩ := by simpa using h3.resolve_left (by omega)
      subst hx2
      rw [Addr.add_none]
      exact cells_rowE (fun i hi => h4 i hi) k u hk'
    · unfold OwnE; rw [List.length_append, rowE_append]; exact ho3


theorem lit_evJ (w : World) (a n : Int) : SlE (w.alloc (.cells #[.int .i64 a, .int .i64 n] 57)) (.slice (some ⟨w.heap.size, 0, none⟩) 1 1) [(a, n)] := by
  refine ⟨_, 1, 1, w.heap.size, 0, rfl, rfl, .inr rfl, Nat.le_refl _, fun i hi => ?_⟩
  obtain rfl : i = 0 := by omega
  refine ⟨by simp, ?_, ?_⟩ <;> simp [go_sem]

theorem take_snoc {l : List (Int × Int)} {k : Nat} (hk : k < l.length) : l.take k ++ [((l.getD k (0, 0)).1, (l.getD k (0, 0)).2)] = l.take (k + 1) := by
  have e : l.getD k (0, 0) = l[k] := by simp [hk]
  rw [e, List.take_add_one, List.getElem?_eq_getElem hk]
  rfl

end Go.Proofs.YtjibcnnbclcboaaDoor

namespace Go.Proofs.YtjibcnnbclcboaaDoor
open Go.RowKit
set_option maxRecDepth 8000

def Way.zero : Way := ⟨0, 0, 0, 0⟩
/-- The cells of a way. -/
structure CellsW (w : World) (b o : Nat) (m : Way) : Prop where
  c0 : w.cell? ⟨b, o, none⟩ = some (.int .i16 m.x)
  c1 : w.cell? ⟨b, o + 1, none⟩ = some (.int .i16 m.y)
  c2 : w.cell? ⟨b, o + 2, none⟩ = some (.int .i16 m.z)
  c3 : w.cell? ⟨b, o + 3, none⟩ = some (.int .u8 m.r)
theorem CellsW.later {w w' : World} {b o : Nat} {m : Way} (h : CellsW w b o m) (hb : b < w.heap.size) (he : Ext w w') : CellsW w' b o m :=
  ⟨by rw [he.cell (p := ⟨b, _, none⟩) hb]; exact h.c0, by rw [he.cell (p := ⟨b, _, none⟩) hb]; exact h.c1, by rw [he.cell (p := ⟨b, _, none⟩) hb]; exact h.c2, by rw [he.cell (p := ⟨b, _, none⟩) hb]; exact h.c3⟩
/-- A slice that reads as ways. -/
def SlW (w : World) (v : Value) (l : List Way) : Prop :=
  ∃ (a : Option Addr) (n cap b off : Nat), v = .slice a n cap ∧ n = l.length ∧ (n = 0 ∨ a = some ⟨b, off, none⟩) ∧ ∀ i, i < n → b < w.heap.size ∧ CellsW w b (off + i * 4) (l.getD i Way.zero)
theorem SlW.later {w w' : World} {v : Value} {l : List Way} (h : SlW w v l) (he : Ext w w') : SlW w' v l := by
  obtain ⟨a, n, cap, b, off, h1, h2, h3, h4⟩ := h
  refine ⟨a, n, cap, b, off, h1, h2, h3, fun i hi => ?_⟩
  obtain ⟨p, q⟩ := h4 i hi
  exact ⟨Nat.lt_of_lt_of_le p he.size, q.later p he⟩

/-- The sum of the first lengths. -/
def l1to (l : List Way) : Nat → Int
  | 0 => 0
  | k + 1 => l1to l k + (if (l.getD k Way.zero).x < -(l.getD k Way.zero).x then -(l.getD k Way.zero).x else (l.getD k Way.zero).x) + (if (l.getD k Way.zero).y < -(l.getD k Way.zero).y then -(l.getD k Way.zero).y else (l.getD k Way.zero).y) + (if (l.getD k Way.zero).z < -(l.getD k Way.zero).z then -(l.getD k Way.zero).z else (l.getD k Way.zero).z)
theorem l1to_cons (m : Way) (l : List Way) : ∀ k, l1to (m :: l) (k + 1) = l1 m + l1to l k
  | 0 => by
    show l1to (m :: l) 0 + _ + _ + _ = l1 m + 0
    unfold l1
    show (0 : Int) + (if m.x < -m.x then -m.x else m.x) + (if m.y < -m.y then -m.y else m.y) + (if m.z < -m.z then -m.z else m.z) = _
    omega
  | k + 1 => by
    have h := l1to_cons m l k
    have e : (m :: l).getD (k + 1) Way.zero = l.getD k Way.zero := rfl
    show l1to (m :: l) (k + 1) + _ + _ + _ = l1 m + (l1to l k + _ + _ + _)
    rw [h, e]
    omega
theorem l1to_all : ∀ l : List Way, l1to l l.length = l1sum l
  | [] => rfl
  | m :: l => by
    show l1to (m :: l) (l.length + 1) = l1 m + l1sum l
    rw [l1to_cons, l1to_all l]
theorem getD_small {l : List Way} (h : ∀ w ∈ l, w.small) (k : Nat) : (l.getD k Way.zero).small := by
  rcases Nat.lt_or_ge k l.length with h' | h'
  · rw [show l.getD k Way.zero = l[k] by simp [h']]; exact h _ (List.getElem_mem h')
  · rw [show l.getD k Way.zero = Way.zero by simp [h']]; constructor <;> decide
theorem l1to_le {l : List Way} (h : ∀ w ∈ l, w.small) : ∀ k : Nat, 0 ≤ l1to l k ∧ l1to l k ≤ 100000 * (k : Int)
  | 0 => ⟨Int.le_refl _, Int.le_refl _⟩
  | k + 1 => by
    have h1 := l1to_le h k
    have hs := getD_small h k
    have hx := hs.x; have hy := hs.y; have hz := hs.z
    show 0 ≤ l1to l k + _ + _ + _ ∧ l1to l k + _ + _ + _ ≤ _
    split <;> split <;> split <;> omega

/-- Ways are few, and short. -/
def shortW (l : List Way) : Bool := decide (l.length ≤ 6) && decide (l1sum l ≤ 4000)

end Go.Proofs.YtjibcnnbclcboaaDoor

namespace Go.Proofs.YtjibcnnbclcboaaDoor
open Go.RowKit
set_option maxRecDepth 8000

/-- The place behind the first ways. -/
def placeTo (l : List Way) (p : Int × Int × Int) : Nat → Int × Int × Int
  | 0 => p
  | k + 1 => ((placeTo l p k).1 + (l.getD k Way.zero).x, (placeTo l p k).2.1 + (l.getD k Way.zero).y, (placeTo l p k).2.2 + (l.getD k Way.zero).z)
/-- The motions of the first ways. -/
def routeTo (l : List Way) (p : Int × Int × Int) : Nat → List Mot
  | 0 => []
  | k + 1 => routeTo l p k ++ [(l.getD k Way.zero).mot (placeTo l p k) k]
theorem routeTo_length (l : List Way) (p : Int × Int × Int) : ∀ k, (routeTo l p k).length = k
  | 0 => rfl
  | k + 1 => by simp [routeTo, routeTo_length l p k]
theorem placeTo_cons (m : Way) (l : List Way) (p : Int × Int × Int) : ∀ k, placeTo (m :: l) p (k + 1) = placeTo l (p.1 + m.x, p.2.1 + m.y, p.2.2 + m.z) k
  | 0 => rfl
  | k + 1 => by
    have h := placeTo_cons m l p k
    have e : (m :: l).getD (k + 1) Way.zero = l.getD k Way.zero := rfl
    show ((placeTo (m :: l) p (k + 1)).1 + _, (placeTo (m :: l) p (k + 1)).2.1 + _, (placeTo (m :: l) p (k + 1)).2.2 + _) = _
    rw [h, e]
    rfl
theorem routeGo_snoc : ∀ (l : List Way) (p : Int × Int × Int) (i k : Nat), k ≤ l.length → (routeGo l p i).take k = (routeGo (l.take k) p i)
  | [], p, i, k, h => by simp [routeGo]
  | m :: l, p, i, 0, h => by simp [routeGo]
  | m :: l, p, i, k + 1, h => by
    simp only [routeGo, List.take_succ_cons]
    rw [routeGo_snoc l _ (i + 1) k (by simpa using h)]
theorem routeTo_go : ∀ (l : List Way) (p : Int × Int × Int) (i k : Nat), k < l.length → (routeGo l p i).getD k Mot.zero = (l.getD k Way.zero).mot (placeTo l p k) (i + k)
  | [], p, i, k, h => by simp at h
  | m :: l, p, i, 0, h => by simp [routeGo, placeTo]
  | m :: l, p, i, k + 1, h => by
    rw [placeTo_cons]
    have := routeTo_go l (p.1 + m.x, p.2.1 + m.y, p.2.2 + m.z) (i + 1) k (by simpa using h)
    show (routeGo l _ (i + 1)).getD k Mot.zero = (l.getD k Way.zero).mot _ _
    rw [this, show i + 1 + k = i + (k + 1) by omega]
theorem routeTo_take (l : List Way) (p : Int × Int × Int) : ∀ k, k ≤ l.length → routeTo l p k = (route p l).take k
  | 0, _ => by simp [routeTo]
  | k + 1, h => by
    have hl : k < (routeGo l p 0).length := by rw [routeGo_length]; omega
    have e := routeTo_go l p 0 k (by omega)
    rw [show (routeGo l p 0).getD k Mot.zero = (routeGo l p 0)[k] by simp [hl]] at e
    unfold route
    rw [List.take_add_one, List.getElem?_eq_getElem hl, e]
    have := routeTo_take l p k (by omega)
    unfold route at this
    rw [← this]
    simp [routeTo]
theorem routeTo_all (l : List Way) (p : Int × Int × Int) : routeTo l p l.length = route p l := by
  rw [routeTo_take l p _ (Nat.le_refl _)]
  have : (route p l).length = l.length := routeGo_length l p 0
  rw [← this, List.take_length]
theorem placeTo_near {l : List Way} (h : ∀ w ∈ l, w.small) {p : Int × Int × Int} (hp : nearP p 32768) : ∀ k : Nat, nearP (placeTo l p k) (32768 * ((k : Int) + 1))
  | 0 => by show nearP p _; simpa using hp
  | k + 1 => by
    have h1 := placeTo_near h hp k
    have hs := getD_small h k
    have hx := hs.x; have hy := hs.y; have hz := hs.z
    unfold nearP at *
    show _ ≤ (placeTo l p k).1 + _ ∧ (placeTo l p k).1 + _ ≤ _ ∧ _ ≤ (placeTo l p k).2.1 + _ ∧ (placeTo l p k).2.1 + _ ≤ _ ∧ _ ≤ (placeTo l p k).2.2 + _ ∧ (placeTo l p k).2.2 + _ ≤ _
    omega
theorem CellsW.only {D : Nat → Prop} {w w' : World} {b o : Nat} {m : Way} (h : CellsW w b o m) (hb : b < w.heap.size) (k : Only D w w') (hd : ¬ D b) : CellsW w' b o m :=
  ⟨by rw [k.cell (p := ⟨b, _, none⟩) hb hd]; exact h.c0, by rw [k.cell (p := ⟨b, _, none⟩) hb hd]; exact h.c1, by rw [k.cell (p := ⟨b, _, none⟩) hb hd]; exact h.c2, by rw [k.cell (p := ⟨b, _, none⟩) hb hd]; exact h.c3⟩

end Go.Proofs.YtjibcnnbclcboaaDoor

namespace Go.Proofs.YtjibcnnbclcboaaDoor
open Go.RowKit
set_option maxRecDepth 8000
set_option maxRecDepth 8000

/-- A trip as a value. -/
def TripV (x y z : Int) (v : Value) (s a j safe : Int) : Value := .agg #[.int .i16 x, .int .i16 y, .int .i16 z, v, .int .i64 s, .int .i64 a, .int .i64 j, .int .i64 safe]
def slowAt (l : List Way) (k : Nat) : Bool := decide ((l.getD k Way.zero).r > 0) && decide ((l.getD k Way.zero).r < 20)
/-- None of the first ways is slow. -/
def quickTo (l : List Way) : Nat → Bool
  | 0 => true
  | k + 1 => quickTo l k && !(slowAt l k)
theorem quickTo_false {l : List Way} {k : Nat} (h : slowAt l k = true) : ∀ n, k < n → quickTo l n = false
  | 0, hn => by omega
  | n + 1, hn => by
    rcases Nat.lt_or_ge k n with h' | h'
    · simp [quickTo, quickTo_false h n h']
    · obtain rfl : k = n := by omega
      simp [quickTo, h]
theorem quickTo_succ {l : List Way} {k : Nat} (h : quickTo l k = true) (hg : slowAt l k = false) : quickTo l (k + 1) = true := by simp [quickTo, h, hg]
def bigL (s a j : Int) : Bool := decide (s ≥ 20) && (decide (a ≥ 20) && decide (j ≥ 40))
/-- A trip is short, and fast. -/
def fastB (l : List Way) (s a j safe : Int) : Bool := quickTo l l.length && (shortW l && (decide (safe ≤ 10000) && (bigL s a j || !(vld s a j))))

structure T8 (W : World) (N : Nat) (v : Value) (s a j safe : Int) : Prop where
  c3 : W.cell? ⟨N, 3, none⟩ = some v
  c4 : W.cell? ⟨N, 4, none⟩ = some (.int .i64 s)
  c5 : W.cell? ⟨N, 5, none⟩ = some (.int .i64 a)
  c6 : W.cell? ⟨N, 6, none⟩ = some (.int .i64 j)
  c7 : W.cell? ⟨N, 7, none⟩ = some (.int .i64 safe)
  lt : N < W.heap.size
theorem T8.mk' (w : World) (x y z : Int) (v : Value) (s a j safe : Int) (t : TypeId) : ∃ W : World, w.alloc (.cells #[.int .i16 x, .int .i16 y, .int .i16 z, v, .int .i64 s, .int .i64 a, .int .i64 j, .int .i64 safe] t) = W ∧ T8 W w.heap.size v s a j safe ∧ Ext w W := by
  refine ⟨_, rfl, ?_, (Ext.refl w).alloc _⟩
  constructor <;> simp [go_sem]
theorem T8.later {W W' : World} {N : Nat} {v : Value} {s a j safe : Int} (h : T8 W N v s a j safe) (k : Ext W W') : T8 W' N v s a j safe :=
  ⟨by rw [k.cell (p := ⟨N, _, none⟩) h.lt]; exact h.c3, by rw [k.cell (p := ⟨N, _, none⟩) h.lt]; exact h.c4, by rw [k.cell (p := ⟨N, _, none⟩) h.lt]; exact h.c5, by rw [k.cell (p := ⟨N, _, none⟩) h.lt]; exact h.c6, by rw [k.cell (p := ⟨N, _, none⟩) h.lt]; exact h.c7, Nat.lt_of_lt_of_le h.lt k.size⟩

set_option maxHeartbeats 1000000 in
theorem limits_any (n : Int) (w : World) :
    Calls Tryd.prog 10 #[.int .i64 n] w fun e w' => e = .returned (Lm n n n) ∧ Ext w w' := by
  go_enter Tryd.func10, Tryd.ntmps10
  go_wp2
  refine bodyPost_ret (v := Lm n n n) (by simp [results, Tryd.results10, go_sem]) rfl ⟨rfl, ?_⟩
  exact (Ext.refl w).alloc _

end Go.Proofs.YtjibcnnbclcboaaDoor

namespace Go.Proofs.YtjibcnnbclcboaaDoor
open Go.RowKit
set_option maxRecDepth 8000
set_option maxRecDepth 8000

theorem M9Box.set_rate {W : World} {N : Nat} {m : Mot} (h : M9Box W N m) (r : Int) : M9Box (W.setCell ⟨N, 6, none⟩ (.int .i64 r)) N { m with rate := r } where
  c0 := by simp [go_sem, h.c0]
  c1 := by simp [go_sem, h.c1]
  c2 := by simp [go_sem, h.c2]
  c3 := by simp [go_sem, h.c3]
  c4 := by simp [go_sem, h.c4]
  c5 := by simp [go_sem, h.c5]
  c6 := by simp [go_sem, h.c6]
  c7 := by simp [go_sem, h.c7]
  c8 := by simp [go_sem, h.c8]
  f0 := by simpa using h.f0
  f1 := by simpa using h.f1
  f2 := by simpa using h.f2
  f3 := by simpa using h.f3
  f4 := by simpa using h.f4
  f5 := by simpa using h.f5
  f6 := by simpa using h.f6
  f7 := by simpa using h.f7
  f8 := by simpa using h.f8
  lt := by simpa using h.lt

/-- The places of the way back, in memory. -/
def TBox (W : World) (T : Nat) (p b : Int × Int × Int) (safe : Int) : Prop := T < W.heap.size ∧ ∀ k, k < 4 → W.cell? ⟨T, k * 3, none⟩ = some (.int .i64 (rPt p b safe k).1) ∧ W.cell? ⟨T, k * 3 + 1, none⟩ = some (.int .i64 (rPt p b safe k).2.1) ∧ W.cell? ⟨T, k * 3 + 2, none⟩ = some (.int .i64 (rPt p b safe k).2.2)
theorem TBox.mk' (w : World) (x y z bx bY bz safe mz : Int) (hm : (if bz < 1000 then 1000 else bz) = mz) : ∃ W : World, w.alloc (.cells #[.int .i64 x, .int .i64 y, .int .i64 safe, .int .i64 bx, .int .i64 bY, .int .i64 safe, .int .i64 bx, .int .i64 bY, .int .i64 mz, .int .i64 bx, .int .i64 bY, .int .i64 bz] 40) = W ∧ TBox W w.heap.size (x, y, z) (bx, bY, bz) safe ∧ Ext w W := by
  subst hm
  refine ⟨_, rfl, ⟨by simp, fun k hk => ?_⟩, (Ext.refl w).alloc _⟩
  match k, hk with
  | 0, _ => refine ⟨?_, ?_, ?_⟩ <;> simp [go_sem, rPt]
  | 1, _ => refine ⟨?_, ?_, ?_⟩ <;> simp [go_sem, rPt]
  | 2, _ => refine ⟨?_, ?_, ?_⟩ <;> simp [go_sem, rPt]
  | 3, _ => refine ⟨?_, ?_, ?_⟩ <;> simp [go_sem, rPt]
theorem TBox.only {D : Nat → Prop} {W W' : World} {T : Nat} {p b : Int × Int × Int} {safe : Int} (h : TBox W T p b safe) (k : Only D W W') (hd : ¬ D T) : TBox W' T p b safe :=
  ⟨Nat.lt_of_lt_of_le h.1 k.size, fun i hi => by
    obtain ⟨a, b, c⟩ := h.2 i hi
    exact ⟨by rw [k.cell (p := ⟨T, _, none⟩) h.1 hd]; exact a, by rw [k.cell (p := ⟨T, _, none⟩) h.1 hd]; exact b, by rw [k.cell (p := ⟨T, _, none⟩) h.1 hd]; exact c⟩⟩
theorem TBox.later {W W' : World} {T : Nat} {p b : Int × Int × Int} {safe : Int} (h : TBox W T p b safe) (k : Ext W W') : TBox W' T p b safe := h.only (D := fun _ => False) (Only.of_ext k) (fun h => h)

end Go.Proofs.YtjibcnnbclcboaaDoor
