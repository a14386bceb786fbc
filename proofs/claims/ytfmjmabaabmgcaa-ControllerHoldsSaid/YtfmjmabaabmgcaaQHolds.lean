/-
  Resume, told exactly; a broken controller.
  Plain laws: the pieces lead through the ends of all motions.
  ControllerHolds, walked.
  ControllerHolds: After any feed holds all motions are done: for every input the law returns true. No condition.
-/
import Derived.Test.YtfmjmabaabmgcaaQB12
import Derived.Test.YtfmjmabaabmgcaaQB13
namespace Go.Proofs.Ytfmjmabaabmgcaa
open Go.RowKit
set_option maxRecDepth 8000

set_option maxHeartbeats 1000000 in
theorem resume_exact {B : Nat} {w : World} {N : Nat} {vm vp vq : Value} {C : Ctl} (h : CInv B w N vm vp vq C) :
    Calls Try.prog 28 #[.pointer (some ⟨N, 0, none⟩)] w fun e w' => e = .returned (.tuple #[]) ∧ CInv B w' N vm vp vq { C with hd := false } ∧ Only (fun k => k = N) w w' := by
  have c9 := h.box.c9; have f9 := h.box.fr 9
  have hO : Only (fun k => k = N) w (w.setCell ⟨N, 9, none⟩ (.bool false)) := (Only.refl (fun k => k = N) w).set (.inl rfl) _
  have hI : CInv B (w.setCell ⟨N, 9, none⟩ (.bool false)) N vm vp vq { C with hd := false } := ⟨h.box.set_hd false, h.sm.only hO (fun b hb e => h.nm (by rw [hb, e])), h.sp.only hO (fun b hb e => h.np (by rw [hb, e])), h.sq.only hO (fun b hb e => h.nq (by rw [hb, e])), h.nm, h.np, h.nq, h.mq, h.pq, h.base⟩
  have HI := Lib.hid hI; have HO := Lib.hid hO
  clear hI hO h
  go_enter Try.func28, Try.ntmps28
  go_wp2
  go_end0
  exact ⟨rfl, HI.out, HO.out⟩

theorem resume_held {B : Nat} {w : World} {N : Nat} {vm vp vq : Value} {C : Ctl} (h : CAt B w N vm vp vq C) (hh : C.hd = false) :
    Calls Try.prog 28 #[.pointer (some ⟨N, 0, none⟩)] w fun e w' => e = .returned (.tuple #[]) ∧ CAt B w' N vm vp vq C ∧ Only (fun k => k = N) w w' := by
  refine (resume_exact h.inv).mono ?_
  rintro e w' ⟨he, hI, hO⟩
  have e2 : { C with hd := false } = C := by cases C; simp only at hh; subst hh; rfl
  rw [e2] at hI
  exact ⟨he, ⟨hI, fun b hb => Nat.lt_of_lt_of_le (h.lp b hb) hO.size, fun b hb => Nat.lt_of_lt_of_le (h.lm b hb) hO.size, h.ok⟩, hO⟩

theorem P3Box.only {D : Nat → Prop} {W W' : World} {N : Nat} {x y z : Int} (h : P3Box W N x y z) (k : Only D W W') (hd : ¬ D N) : P3Box W' N x y z := by
  obtain ⟨c0, c1, c2, f0, f1, f2⟩ := h.at
  exact P3Box.of (Nat.lt_of_lt_of_le h.lt k.size) (by rw [k.cell h.lt hd]; exact c0) (by rw [k.cell h.lt hd]; exact c1) (by rw [k.cell h.lt hd]; exact c2) (by rw [k.frozen h.lt hd]; exact f0) (by rw [k.frozen h.lt hd]; exact f1) (by rw [k.frozen h.lt hd]; exact f2)

theorem brkC_props {C : Ctl} (hb : C.bk = false) : C.brkC.bk = true ∧ C.brkC.hd = false ∧ C.brkC.pos = C.brkC.plan.length := by
  unfold Ctl.brkC
  rw [if_neg (by simp [hb])]
  exact ⟨rfl, rfl, rfl⟩
theorem doneL_len (C : Ctl) : C.doneL.length ≤ C.ps.length + 1 := by
  unfold Ctl.doneL
  split
  · simp
  · omega

end Go.Proofs.Ytfmjmabaabmgcaa

namespace Go.Proofs.Ytfmjmabaabmgcaa
open Go.RowKit

theorem half_zero (n : Int) (h : 1 ≤ n) : n / (2 * n) = 0 := Int.ediv_eq_zero_of_lt (by omega) (by omega)
theorem btw_zero (a b n : Int) (h : 1 ≤ n) : btw a b 0 n = a := by
  unfold btw; rw [Int.mul_zero, Int.zero_add, half_zero n h]; omega
theorem btw_full (a b n : Int) (h : 1 ≤ n) : btw a b n n = b := by
  unfold btw
  have : 2 * (b - a) * n + n = n + (b - a) * (2 * n) := by rw [Int.mul_comm 2 (b - a), Int.mul_assoc]; omega
  rw [this, Int.add_mul_ediv_right _ _ (by omega), half_zero n h]; omega
theorem btw_up (a b p q n : Int) (h : 1 ≤ n) (hb : 0 ≤ b - a) (hp : p ≤ q) : btw a b p n ≤ btw a b q n := by
  unfold btw
  have h1 : 2 * (b - a) * p ≤ 2 * (b - a) * q := Int.mul_le_mul_of_nonneg_left hp (by omega)
  have := Int.ediv_le_ediv (show 0 < 2 * n by omega) (show 2 * (b - a) * p + n ≤ 2 * (b - a) * q + n by omega)
  omega
theorem btw_down (a b p q n : Int) (h : 1 ≤ n) (hb : b - a ≤ 0) (hp : p ≤ q) : btw a b q n ≤ btw a b p n := by
  unfold btw
  have h1 : -(2 * (b - a)) * p ≤ -(2 * (b - a)) * q := Int.mul_le_mul_of_nonneg_left hp (by omega)
  rw [Int.neg_mul, Int.neg_mul] at h1
  have := Int.ediv_le_ediv (show 0 < 2 * n by omega) (show 2 * (b - a) * q + n ≤ 2 * (b - a) * p + n by omega)
  omega

/-- The position of a motion at a part of its length. -/
def Mot.pos (m : Mot) (p : Int) : Int × Int × Int := (btw m.fx m.tx p m.len, btw m.fy m.ty p m.len, btw m.fz m.tz p m.len)
def Mot.f3 (m : Mot) : Int × Int × Int := (m.fx, m.fy, m.fz)
def Mot.t3 (m : Mot) : Int × Int × Int := (m.tx, m.ty, m.tz)

theorem Mot.pos_zero {m : Mot} (h : 1 ≤ m.len) : m.pos 0 = m.f3 := by
  unfold Mot.pos Mot.f3; rw [btw_zero _ _ _ h, btw_zero _ _ _ h, btw_zero _ _ _ h]
theorem Mot.pos_full {m : Mot} (h : 1 ≤ m.len) : m.pos m.len = m.t3 := by
  unfold Mot.pos Mot.t3; rw [btw_full _ _ _ h, btw_full _ _ _ h, btw_full _ _ _ h]
theorem btw_reached {a b p q n : Int} (h : 1 ≤ n) (hp : p ≤ q) (hq : q ≤ n) (he : btw a b p n = b) : btw a b q n = b := by
  by_cases hb : 0 ≤ b - a
  · have h1 := btw_up a b p q n h hb hp
    have h2 := btw_up a b q n n h hb hq
    rw [btw_full a b n h] at h2
    omega
  · have h1 := btw_down a b p q n h (by omega) hp
    have h2 := btw_down a b q n n h (by omega) hq
    rw [btw_full a b n h] at h2
    omega
/-- Once at the end, it stays there. -/
theorem Mot.pos_reached {m : Mot} {p q : Int} (h : 1 ≤ m.len) (hp : p ≤ q) (hq : q ≤ m.len) (he : m.pos p = m.t3) : m.pos q = m.t3 := by
  unfold Mot.pos Mot.t3 at *
  simp only [Prod.mk.injEq] at *
  exact ⟨btw_reached h hp hq he.1, btw_reached h hp hq he.2.1, btw_reached h hp hq he.2.2⟩

theorem sq_zero {x : Int} (h : x * x ≤ 0) : x = 0 := by
  rcases Int.lt_trichotomy x 0 with h1 | h1 | h1
  · have := Int.mul_pos_of_neg_of_neg h1 h1; omega
  · exact h1
  · have := Int.mul_pos h1 h1; omega
theorem sq_nonneg' (x : Int) : 0 ≤ x * x := by
  rcases Int.lt_trichotomy x 0 with h1 | h1 | h1
  · exact Int.le_of_lt (Int.mul_pos_of_neg_of_neg h1 h1)
  · subst h1; decide
  · exact Int.le_of_lt (Int.mul_pos h1 h1)
/-- A motion without length ends where it begins. -/
theorem Mot.flat {m : Mot} (hr : m.rng) (h : m.len = 0) : m.f3 = m.t3 := by
  obtain ⟨n0, n1, _⟩ := Mot.len_is hr
  rw [h] at n1
  unfold Mot.sq at n1
  have a := sq_nonneg' (m.tx - m.fx)
  have b := sq_nonneg' (m.ty - m.fy)
  have c := sq_nonneg' (m.tz - m.fz)
  have x := sq_zero (show (m.tx - m.fx) * (m.tx - m.fx) ≤ 0 by omega)
  have y := sq_zero (show (m.ty - m.fy) * (m.ty - m.fy) ≤ 0 by omega)
  have z := sq_zero (show (m.tz - m.fz) * (m.tz - m.fz) ≤ 0 by omega)
  unfold Mot.f3 Mot.t3
  rw [show m.fx = m.tx by omega, show m.fy = m.ty by omega, show m.fz = m.tz by omega]

/-- A piece of a motion. -/
def pieceOf (m p : Mot) (a : Int × Int × Int) : Bool := decide (p.f3 = a) && decide (p.rate = m.rate) && decide (p.tool = m.tool) && decide (p.block = m.block)
/-- The pieces of a motion are taken off a list. -/
def chain (m : Mot) : Int × Int × Int → List Mot → Option (List Mot)
  | a, [] => if a = m.t3 then some [] else none
  | a, p :: d => if a = m.t3 then some (p :: d) else if pieceOf m p a = true then chain m p.t3 d else none
def thru : List Mot → List Mot → Option (List Mot)
  | [], d => some d
  | m :: ms, d => (chain m m.f3 d).bind (thru ms)

/-- The pieces lead on from a place to another one, and the motion's end comes last. -/
inductive Part (m : Mot) : Int × Int × Int → List Mot → Int × Int × Int → Prop
  | nil (a) : Part m a [] a
  | cons {a b p d} : a ≠ m.t3 → pieceOf m p a = true → Part m p.t3 d b → Part m a (p :: d) b

theorem Part.snoc {m : Mot} {a b : Int × Int × Int} {d : List Mot} (h : Part m a d b) {p : Mot} (hb : b ≠ m.t3) (hp : pieceOf m p b = true) : Part m a (d ++ [p]) p.t3 := by
  induction h with
  | nil a => exact .cons hb hp (.nil _)
  | cons h1 h2 _ ih => exact .cons h1 h2 (ih hb hp)
theorem Part.chain {m : Mot} {a : Int × Int × Int} {d : List Mot} {b : Int × Int × Int} (h : Part m a d b) (hb : b = m.t3) (r : List Mot) : Go.Proofs.Ytfmjmabaabmgcaa.chain m a (d ++ r) = some r := by
  induction h with
  | nil a =>
    rw [List.nil_append]
    cases r with
    | nil => unfold Go.Proofs.Ytfmjmabaabmgcaa.chain; rw [if_pos hb]
    | cons p d => unfold Go.Proofs.Ytfmjmabaabmgcaa.chain; rw [if_pos hb]
  | cons h1 h2 _ ih =>
    rw [List.cons_append]
    unfold Go.Proofs.Ytfmjmabaabmgcaa.chain
    rw [if_neg h1, if_pos h2]
    exact ih hb

/-- The pieces lead through the motions. -/
def Thru (ms d : List Mot) : Prop := ∀ r, thru ms (d ++ r) = some r
theorem Thru.nil : Thru [] [] := fun _ => rfl
theorem thru_append : ∀ (a b d : List Mot), thru (a ++ b) d = (thru a d).bind (thru b)
  | [], b, d => rfl
  | m :: a, b, d => by
    show (chain m m.f3 d).bind (thru (a ++ b)) = ((chain m m.f3 d).bind (thru a)).bind (thru b)
    cases chain m m.f3 d with
    | none => rfl
    | some d' => exact thru_append a b d'
theorem Thru.snoc {ms d e : List Mot} {m : Mot} (h : Thru ms d) (hc : Part m m.f3 e m.t3) : Thru (ms ++ [m]) (d ++ e) := fun r => by
  rw [thru_append, List.append_assoc, h]
  show (chain m m.f3 (e ++ r)).bind (thru []) = some r
  rw [hc.chain rfl]
  rfl
theorem Thru.flat {ms d : List Mot} {m : Mot} (h : Thru ms d) (hc : m.f3 = m.t3) : Thru (ms ++ [m]) d := by
  have := h.snoc (m := m) (e := []) (by rw [← hc]; exact .nil _)
  rwa [List.append_nil] at this

theorem take_succ_getD {l : List Mot} {i : Nat} (h : i < l.length) : l.take (i + 1) = l.take i ++ [l.getD i Mot.zero] := by
  rw [List.take_succ_eq_append_getElem h]
  simp [h]

/-- Motions without length are passed over. -/
theorem Thru.skip {l d : List Mot} (hr : ∀ i, i < l.length → (l.getD i Mot.zero).rng) : ∀ (j i : Nat), i ≤ j → j ≤ l.length → (∀ k, i ≤ k → k < j → (l.getD k Mot.zero).len = 0) → Thru (l.take i) d → Thru (l.take j) d
  | 0, i, h, _, _, ht => by have : i = 0 := by omega
                            subst this; exact ht
  | j + 1, i, h, hj, hz, ht => by
    rcases Nat.lt_or_ge i (j + 1) with h1 | h1
    · have h2 := Thru.skip hr j i (by omega) (by omega) (fun k a b => hz k a (by omega)) ht
      rw [take_succ_getD (by omega)]
      exact h2.flat (Mot.flat (hr j (by omega)) (hz j (by omega) (by omega)))
    · have : i = j + 1 := by omega
      subst this; exact ht

/-- The motions are connected. -/
def Conn (l : List Mot) : Prop := ∀ i, i + 1 < l.length → (l.getD i Mot.zero).t3 = (l.getD (i + 1) Mot.zero).f3
theorem conn_of {l : List Mot} (h : conn l = 0) : Conn l := fun i hi => by
  have := goodTo_at (conn_zero h).1 (i + 1) hi
  unfold goodAt at this
  simp only [Bool.and_eq_true, Bool.or_eq_true, Bool.not_eq_true', decide_eq_false_iff_not, Nat.add_sub_cancel] at this
  rcases this.2 with h1 | h1
  · omega
  · unfold eqP at h1
    simp only [decide_eq_true_eq] at h1
    unfold Mot.t3 Mot.f3
    rw [h1.1, h1.2.1, h1.2.2]
/-- Behind motions without length one stands where they began. -/
theorem conn_skip {l : List Mot} (hc : Conn l) (hr : ∀ i, i < l.length → (l.getD i Mot.zero).rng) {p : Int × Int × Int} : ∀ (j i : Nat), i ≤ j → j < l.length → (∀ k, i ≤ k → k < j → (l.getD k Mot.zero).len = 0) → p = (l.getD i Mot.zero).f3 → p = (l.getD j Mot.zero).f3
  | 0, i, h, _, _, ht => by have : i = 0 := by omega
                            subst this; exact ht
  | j + 1, i, h, hj, hz, ht => by
    rcases Nat.lt_or_ge i (j + 1) with h1 | h1
    · have h2 := conn_skip hc hr j i (by omega) (by omega) (fun k a b => hz k a (by omega)) ht
      rw [h2, Mot.flat (hr j (by omega)) (hz j (by omega) (by omega))]
      exact hc j hj
    · have : i = j + 1 := by omega
      subst this; exact ht

/-- Where the pieces stand. -/
structure Ctl.Led (C : Ctl) : Prop where
  cn : Conn C.ms
  led : ∃ pre cp, C.ps = pre ++ cp ∧ Thru (C.ms.take C.idx) pre ∧ (C.idx < C.ms.length → Part C.cur C.cur.f3 cp C.last3 ∧ ∃ q, 0 ≤ q ∧ q ≤ C.part ∧ C.last3 = C.cur.pos q) ∧ (¬ C.idx < C.ms.length → cp = [])

theorem at3_cur {C : Ctl} (h : C.idx < C.ms.length) : C.at3 = C.cur.pos C.part := by
  unfold Ctl.at3
  rw [if_neg (by omega), if_neg (by omega)]
  rfl

theorem stopd_led {C : Ctl} (hb : C.Base) (h : C.Led) (hi : C.idx < C.ms.length) (p0 : 0 ≤ C.part) (p1 : C.part ≤ C.cur.len) (p2 : 1 ≤ C.cur.len) : C.stopd.Led := by
  obtain ⟨cn, pre, cp, e, ht, hcur, _⟩ := h
  obtain ⟨hpart, q, q0, q1, hq⟩ := hcur hi
  have hat := at3_cur hi
  -- the pieces of the motion
  obtain ⟨cp', hps, hp'⟩ : ∃ cp', C.psAdd = pre ++ cp' ∧ Part C.cur C.cur.f3 cp' C.at3 := by
    unfold Ctl.psAdd
    by_cases he : eq3 C.last3 C.at3 = true
    · rw [if_pos he]
      exact ⟨cp, e, by rw [← eq3_iff.1 he]; exact hpart⟩
    · rw [if_neg he, e]
      refine ⟨cp ++ [C.cur.way C.last3 C.at3], List.append_assoc _ _ _, ?_⟩
      have hne : C.last3 ≠ C.cur.t3 := fun hx => he (eq3_iff.2 (by rw [hx, hat, Mot.pos_reached p2 q1 p1 (by rw [← hq]; exact hx)]))
      exact hpart.snoc hne (by simp [pieceOf, Mot.way, Mot.f3])
  have hst : C.stopd.last3 = C.at3 := rfl
  have hms : C.stopd.ms = C.ms := rfl
  have hpp : C.stopd.ps = C.psAdd := rfl
  by_cases h0 : C.cur.len - C.part = 0
  · have e1 : C.stopd.idx = skp C.ms (C.idx + 1) := by unfold Ctl.stopd; simp only; rw [if_pos h0]
    have e2 : C.stopd.part = 0 := by unfold Ctl.stopd; simp only; rw [if_pos h0]
    have hs := skp_le (ms := C.ms) (i := C.idx + 1) (by omega)
    have hfull : C.at3 = C.cur.t3 := by rw [hat, show C.part = C.cur.len by omega]; exact Mot.pos_full p2
    have hT1 : Thru (C.ms.take (C.idx + 1)) (pre ++ cp') := by
      rw [take_succ_getD hi]
      exact ht.snoc (by have := hp'; rw [hfull] at this; exact this)
    have hT2 := Thru.skip hb.rng _ _ hs.1 hs.2 (fun k a b => skp_between a b) hT1
    refine ⟨cn, pre ++ cp', [], ?_, ?_, ?_, fun _ => rfl⟩
    · rw [hpp, hps, List.append_nil]
    · rw [hms, e1]; exact hT2
    · intro hlt
      rw [hms, e1] at hlt
      have hl1 : 1 ≤ (C.ms.getD (skp C.ms (C.idx + 1)) Mot.zero).len := by
        have h1 := skp_pos hlt; have h2 := hb.len0 hlt; omega
      have hcu : C.stopd.cur = C.ms.getD (skp C.ms (C.idx + 1)) Mot.zero := by unfold Ctl.cur; rw [hms, e1]
      have hfrom : C.at3 = (C.ms.getD (skp C.ms (C.idx + 1)) Mot.zero).f3 := by
        refine conn_skip cn hb.rng _ (C.idx + 1) hs.1 hlt (fun k a b => skp_between a b) ?_
        rw [hfull]
        exact cn C.idx (by omega)
      rw [hst, hcu, e2]
      exact ⟨by rw [hfrom]; exact .nil _, 0, Int.le_refl _, Int.le_refl _, by rw [hfrom, Mot.pos_zero hl1]⟩
  · have e1 : C.stopd.idx = C.idx := by unfold Ctl.stopd; simp only; rw [if_neg h0]
    have e2 : C.stopd.part = C.part := by unfold Ctl.stopd; simp only; rw [if_neg h0]
    have hcu : C.stopd.cur = C.cur := by unfold Ctl.cur; rw [hms, e1]
    refine ⟨cn, pre, cp', ?_, ?_, ?_, ?_⟩
    · rw [hpp]; exact hps
    · rw [hms, e1]; exact ht
    · intro _
      rw [hst, hcu, e2]
      exact ⟨hp', C.part, p0, Int.le_refl _, hat⟩
    · intro hx; rw [hms, e1] at hx; exact absurd hi hx

theorem advd_led {C : Ctl} (hp : C.Pre) (h : C.Led) : C.advd.Led := by
  have hs := sum_drop hp.run
  have hg := getD_pos hp.pos hp.run
  have hd0 := sum_nonneg' (drop_pos hp.pos (C.pos + 1))
  have h1 := hp.sum
  have h2 := hp.p0
  have hl : Ctl.Led { C with part := C.part + C.plan.getD C.pos 0, pos := C.pos + 1 } := by
    obtain ⟨cn, pre, cp, e, ht, hcur, hx⟩ := h
    refine ⟨cn, pre, cp, e, ht, fun hi => ?_, hx⟩
    obtain ⟨hpart, q, q0, q1, hq⟩ := hcur hi
    exact ⟨hpart, q, q0, by show q ≤ C.part + C.plan.getD C.pos 0; omega, hq⟩
  unfold Ctl.advd
  split
  · refine stopd_led ⟨hp.vl, hp.n, hp.rng, hp.rate, hp.stp⟩ hl hp.lt ?_ ?_ ?_
    · show 0 ≤ C.part + C.plan.getD C.pos 0; omega
    · show C.part + C.plan.getD C.pos 0 ≤ C.cur.len; omega
    · show 1 ≤ C.cur.len; omega
  · exact hl

theorem tick_led {C : Ctl} (ho : C.Ok) (h : C.Led) : C.tickC.Led := by
  unfold Ctl.tickC
  split
  · rename_i ht
    have hi : C.idx < C.ms.length := by
      unfold Ctl.tickB at ht
      simp only [Bool.and_eq_true, decide_eq_true_eq] at ht
      exact ht.1.2
    split
    · exact advd_led (ho.pre_start hi) ⟨h.cn, h.led⟩
    · rename_i hp; exact advd_led (ho.pre_run hp) h
  · exact h

theorem hold_led {C : Ctl} (ho : C.Ok) (h : C.Led) : C.holdC.Led := by
  unfold Ctl.holdC
  split
  · exact h
  · split
    · exact ⟨h.cn, h.led⟩
    · rename_i hc
      have hp : C.pos ≠ C.plan.length := fun e => hc (.inl e)
      have hn : C.plan ≠ [] := fun e => hp (by rw [ho.rest e, e]; rfl)
      obtain ⟨r1, r2⟩ := ho.run hn
      have q0 := ho.p0 r1
      have q1 := ho.p1 r1
      split
      · split
        · refine stopd_led ⟨ho.vl, ho.n, ho.rng, ho.rate, ho.stp⟩ ⟨h.cn, h.led⟩ r1 q0 (Int.le_of_lt q1) ?_
          show 1 ≤ C.cur.len; omega
        · exact ⟨h.cn, h.led⟩
      · exact ⟨h.cn, h.led⟩

theorem new_led {l : List Mot} {s a j : Int} (hc : Conn l) (hr : ∀ i, i < l.length → (l.getD i Mot.zero).rng) : (Ctl.new l s a j).Led := by
  have hs := skp_le (ms := l) (i := 0) (by omega)
  refine ⟨hc, [], [], rfl, ?_, fun hlt => ?_, fun _ => rfl⟩
  · exact Thru.skip (l := l) hr (skp l 0) 0 hs.1 hs.2 (fun k a b => skp_between a b) (by rw [List.take_zero]; exact Thru.nil)
  · have hlt : skp l 0 < l.length := hlt
    have hl1 : 1 ≤ (l.getD (skp l 0) Mot.zero).len := by
      have h1 := skp_pos (ms := l) (i := 0) hlt; have h2 := Mot.len_bounds (hr _ hlt); omega
    have hfrom : (l.getD 0 Mot.zero).f3 = (l.getD (skp l 0) Mot.zero).f3 := conn_skip hc hr _ 0 hs.1 hlt (fun k a b => skp_between a b) rfl
    show Part (l.getD (skp l 0) Mot.zero) (l.getD (skp l 0) Mot.zero).f3 [] (l.getD 0 Mot.zero).f3 ∧ ∃ q, 0 ≤ q ∧ q ≤ (0 : Int) ∧ (l.getD 0 Mot.zero).f3 = (l.getD (skp l 0) Mot.zero).pos q
    rw [hfrom]
    exact ⟨.nil _, 0, Int.le_refl _, Int.le_refl _, (Mot.pos_zero hl1).symm⟩

theorem led_done {C : Ctl} (h : C.Led) (hi : C.idx = C.ms.length) : thru C.ms C.doneL = some [] := by
  obtain ⟨cn, pre, cp, e, ht, _, hx⟩ := h
  have hcp := hx (by omega)
  have hd : C.doneL = C.ps := by
    unfold Ctl.doneL Ctl.pieceB
    rw [if_neg]
    rw [decide_eq_false (by omega), Bool.false_and]
    exact fun h => by cases h.1
  rw [hd, e, hcp, List.append_nil]
  have := ht []
  rw [List.append_nil, hi, List.take_length] at this
  exact this

end Go.Proofs.Ytfmjmabaabmgcaa

namespace Go.Proofs.Ytfmjmabaabmgcaa
open Go.RowKit
set_option maxRecDepth 100000

/-- A slice of motions, within its capacity. -/
def SlD (w : World) (v : Value) (d : List Mot) : Prop := SlM w v d ∧ ∀ a n c, v = .slice a n c → n ≤ c
theorem SlD.later {w w' : World} {v : Value} {d : List Mot} (h : SlD w v d) (he : Ext w w') : SlD w' v d := ⟨h.1.later he, h.2⟩
theorem OwnM.sld {B : Nat} {w : World} {v : Value} {l : List Mot} (h : OwnM B w v l) : SlD w v l := by
  refine ⟨h.sl, fun a n c hv => ?_⟩
  obtain ⟨h1, h2⟩ := h
  rcases h2 with ⟨rfl, h3⟩ | ⟨g, cap, cur, rfl, h3, h4, h5, h6⟩
  · cases hv; omega
  · cases hv; exact h5
theorem SlD.tail {w : World} {b o n c : Nat} {p : Mot} {d : List Mot} (h : SlD w (.slice (some ⟨b, o, none⟩) (n + 1) c) (p :: d)) : SlD w (.slice (some ⟨b, o + 9, none⟩) n (c - 1)) d := by
  obtain ⟨⟨a, n1, c1, b1, o1, hv, hn, h3, h5, h4⟩, hc⟩ := h
  have hcc := hc _ _ _ rfl
  cases hv
  have e := h3.resolve_left (by omega)
  injection e with e
  injection e with e1 e2
  subst e1 e2
  simp only [List.length_cons] at hn
  refine ⟨⟨_, n, c - 1, b, o + 9, rfl, by omega, .inr rfl, (fun h => by cases h), fun i hi => ?_⟩, fun a' n' c' hv' => by cases hv'; omega⟩
  obtain ⟨q1, q2⟩ := h4 (i + 1) (by omega)
  refine ⟨q1, ?_⟩
  have e1 : o + (i + 1) * 9 = o + 9 + i * 9 := by omega
  rw [e1] at q2
  simpa using q2
theorem SlD.none {w : World} {a : Option Addr} {c : Nat} (h : a = none → c = 0) : SlD w (.slice a 0 c) [] :=
  ⟨⟨a, 0, c, 0, 0, rfl, rfl, .inl rfl, h, fun i hi => by omega⟩, fun _ _ _ hv => by cases hv; omega⟩
def slen : Value → Nat
  | .slice _ n _ => n
  | _ => 0
theorem done_idx {C : Ctl} (ho : C.Ok) (hb : C.bk = false) (hh : C.hd = false) (ht : C.tickB = false) : C.idx = C.ms.length := by
  unfold Ctl.tickB at ht
  simp only [hb, hh, Bool.not_false, Bool.true_and, Bool.and_false, Bool.and_true, decide_eq_false_iff_not] at ht
  have := ho.le
  omega

set_option maxHeartbeats 8000000 in
theorem lawHolds (v : Value) (l : List Mot) (s a j : Int) (vo : Value) (os : List Nat) (w : World) (h : SlM w v l) (hw : ∀ i, i < l.length → (l.getD i Mot.zero).wf) (hn : l.length ≤ 9223372036854775807) (hos : SlB w vo os) (hno : os.length ≤ 9223372036854775807) :
    Calls Try.prog 6 #[v, Lm s a j, vo] w fun e w' => e = .returned (.bool true) ∧ Ext w w' := by
  have kr := right_any v l s a j _ (h.later ((Ext.refl w).alloc (.cells #[.int .i64 s, .int .i64 a, .int .i64 j] 23))) hn hw
  have KR := Lib.hid kr; clear kr
  have HS := Lib.hid h; have HW := Lib.hid hw; have HOS := Lib.hid hos
  clear h hw hos
  obtain ⟨ao, no, co, bo, oo, hvo, hno1, -⟩ := HOS.out
  subst hvo
  have hno2 : no ≤ 9223372036854775807 := by omega
  obtain ⟨al, nl, cl, bl, ol, hvl, hnl, hal, -, hcl⟩ := HS.out
  subst hvl
  have HNL := Lib.hid hnl; have HAL := Lib.hid hal; have HCL := Lib.hid hcl
  rw [← hnl] at hn
  clear hnl hal hcl
  cases hR : rightB l s a j
  · rw [hR] at KR
    clear hR hno1
    go_enter Try.func6, Try.ntmps6
    go_wp2_with fail
    refine KR.out.mono ?_
    rintro e w1 ⟨rfl, hx1⟩
    have hE1 := ((Ext.refl w).alloc (.cells #[.int .i64 s, .int .i64 a, .int .i64 j] 23)).trans hx1
    clear hx1 KR
    go_wp2_with fail
    obtain ⟨W2, hW2, L2, hx2⟩ := B3.mk' w1 (.int .i64 s) (.int .i64 a) (.int .i64 j) 25
    rw [hW2]; clear hW2
    have hE2 := hE1.trans hx2
    generalize w1.heap.size = M at *
    clear hx2 hE1
    refine (awake_any W2).mono ?_
    rintro e w3 ⟨rfl, hx3⟩
    have L3 := L2.later hx3
    have hE3 := hE2.trans hx3
    clear hx3 L2 hE2
    go_wp2_with fail
    refine (awake_any _).mono ?_
    rintro e w4 ⟨rfl, hx4⟩
    go_wp2
    go_ret
    exact ⟨rfl, hE3.trans hx4⟩
  · have RT := Lib.hid (rt_of hR)
    rw [hR] at KR
    clear hR
    by_cases h60 : 60 < no
    · have h60' : decide ((no : Int) > 60) = true := by simp; omega
      go_enter Try.func6, Try.ntmps6
      go_wp2_with fail
      refine KR.out.mono ?_
      rintro e w1 ⟨rfl, hx1⟩
      have hE1 := ((Ext.refl w).alloc (.cells #[.int .i64 s, .int .i64 a, .int .i64 j] 23)).trans hx1
      clear hx1 KR
      go_wp2_with fail
      obtain ⟨W2, hW2, L2, hx2⟩ := B3.mk' w1 (.int .i64 s) (.int .i64 a) (.int .i64 j) 25
      rw [hW2]; clear hW2
      have hE2 := hE1.trans hx2
      generalize w1.heap.size = M at *
      clear hx2 hE1
      refine (awake_any W2).mono ?_
      rintro e w3 ⟨rfl, hx3⟩
      have L3 := L2.later hx3
      have hE3 := hE2.trans hx3
      clear hx3 L2 hE2
      go_wp2_with fail
      refine (awake_any _).mono ?_
      rintro e w4 ⟨rfl, hx4⟩
      go_wp2
      go_ret
      exact ⟨rfl, hE3.trans hx4⟩
    · have h60' : decide ((no : Int) > 60) = false := by simp; omega
      have HNO := Lib.hid hno1; clear hno1
      go_enter Try.func6, Try.ntmps6
      go_wp2_with fail
      refine KR.out.mono ?_
      rintro e w1 ⟨rfl, hx1⟩
      have hE1 := ((Ext.refl w).alloc (.cells #[.int .i64 s, .int .i64 a, .int .i64 j] 23)).trans hx1
      clear hx1 KR
      go_wp2_with fail
      obtain ⟨W2, hW2, L2, hx2⟩ := B3.mk' w1 (.int .i64 s) (.int .i64 a) (.int .i64 j) 25
      rw [hW2]; clear hW2
      have hE2 := hE1.trans hx2
      generalize w1.heap.size = M at *
      clear hx2 hE1
      refine (awake_any W2).mono ?_
      rintro e w3 ⟨rfl, hx3⟩
      have L3 := L2.later hx3
      have hE3 := hE2.trans hx3
      clear hx3 L2 hE2
      have l0 := L3.c0; have l1 := L3.c1; have l2 := L3.c2
      go_wp2_with fail
      refine (new_ok _ l s a j w3 (HS.out.later hE3) (by have := RT.out.n; omega) HW.out RT.out.rng RT.out.chk).mono ?_
      rintro e w4 ⟨N, vm, rfl, hI4, hE4, hlm⟩
      have hA4 : CAt w3.heap.size w4 N vm (.slice none 0 0) (.slice none 0 0) (Ctl.new l s a j) := ⟨hI4, (fun b hb => by cases hb), fun b hb => (hlm b hb).2, new_Ok RT.out.chk HW.out⟩
      have hG4 := Good.new RT.out
      have hbm : ∀ b, vm.ownBlock = some b → w3.heap.size ≤ b := fun b hb => (hlm b hb).1
      clear l0 l1 l2 hI4 hlm L3
      have hL4 : (Ctl.new l s a j).Led := new_led (conn_of RT.out.c) RT.out.rng
      generalize Ctl.new l s a j = C0 at *
      go_wp2_with fail
      go_loopw [50] (fun t wr => ∃ (k : Nat) (vp vq : Value) (C : Ctl), k ≤ no ∧ t = .int .i64 k ∧ CAt w3.heap.size wr N vm vp vq C ∧ Good l k C ∧ Hid C.Led ∧ Ext w3 wr) (fun t _ => no - (intOf t).toNat)
      case atStart => exact ⟨0, _, _, C0, by omega, rfl, hA4, hG4, Lib.hid hL4, hE4⟩
      case round =>
        clear hA4 hG4 hE4 hL4
        obtain ⟨k, vp, vq, C, hk, rfl, hA, hG, HL, hE⟩ := hrel
        by_cases hlt : k < no
        · obtain ⟨a1, n1, c1, b1, o1, hv1, hn1, h31, h41⟩ := (HOS.out.later hE3).later hE
          cases hv1
          obtain ⟨hb1, hy, hcell⟩ := h41 k hlt
          obtain rfl : ao = some ⟨b1, o1, none⟩ := h31.resolve_left (by omega)
          clear h31 h41 hn1
          generalize os.getD k 0 = y at *
          have hps : C.ps.length ≤ 999999999 := by have := hG.ps; omega
          have kh := hold_any hA hps
          have kr := resume_at hA
          have kt := tick_any hA hps
          have KH := Lib.hid kh; have KR := Lib.hid kr; have KT := Lib.hid kt
          clear kh kr kt
          have HG := Lib.hid hG; have HA := Lib.hid hA; have HA0 := Lib.hid hA
          clear hG hA hps
          by_cases h0 : y % 4 = 0
          · have t0 : ((y : Int) % 4 == 0) = true := by simp; omega
            go_wp2_with fail
            refine KH.out.mono ?_
            rintro e w5 ⟨rfl, vp', vq', hA5, hO5, _, _⟩
            have hE5 := HA.out.ext hE hO5
            clear HA hO5 KH KR KT
            go_wp2
            go_roundw
            case rel => exact ⟨k + 1, vp', vq', _, by omega, by go_num, hA5, HG.out.hold HA0.out.ok, Lib.hid (hold_led HA0.out.ok HL.out), hE5⟩
            case measure => simp [intOf]; omega
          · have t0 : ((y : Int) % 4 == 0) = false := by simp; omega
            by_cases h1 : y % 4 = 1
            · have t1 : ((y : Int) % 4 == 1) = true := by simp; omega
              go_wp2_with fail
              refine KR.out.mono ?_
              rintro e w5 ⟨rfl, vp', vq', hA5, hO5, _, _⟩
              have hE5 := HA.out.ext hE hO5
              clear HA hO5 KH KR KT
              go_wp2
              go_roundw
              case rel => exact ⟨k + 1, vp', vq', _, by omega, by go_num, hA5, HG.out.resume, Lib.hid ⟨HL.out.cn, HL.out.led⟩, hE5⟩
              case measure => simp [intOf]; omega
            · have t1 : ((y : Int) % 4 == 1) = false := by simp; omega
              go_wp2_with fail
              refine KT.out.mono ?_
              rintro e w5 ⟨rfl, vp', vq', hA5, hO5, _, _⟩
              have hE5 := HA.out.ext hE hO5
              clear HA hO5 KH KR KT
              go_wp2
              go_roundw
              case rel => exact ⟨k + 1, vp', vq', _, by omega, by go_num, hA5, HG.out.tick HA0.out.ok, Lib.hid (tick_led HA0.out.ok HL.out), hE5⟩
              case measure => simp [intOf]; omega
        · have hkn : k = no := by omega
          subst hkn
          have hGh := hG.resume
          have hdh : Hid (({ C with hd := false } : Ctl).hd = false) := Lib.hid rfl
          have hLr : Hid ({ C with hd := false } : Ctl).Led := Lib.hid ⟨HL.out.cn, HL.out.led⟩
          have kh := resume_at hA
          clear HL
          generalize ({ C with hd := false } : Ctl) = C5 at *
          go_wp2_with fail
          refine kh.mono ?_
          rintro e w5 ⟨rfl, vp5, vq5, hA5, hO5, _, _⟩
          have hE5 := hA.ext hE hO5
          clear kh hO5 hG hA hE
          clear C
          go_wp2_with fail
          go_loopw [13] (fun t wr => ∃ (n : Nat) (vp vq : Value) (C : Ctl), n ≤ 2000 ∧ t = .int .i64 n ∧ CAt w3.heap.size wr N vm vp vq C ∧ Good l (k + 1 + n) C ∧ Hid (C.hd = false) ∧ Hid C.Led ∧ (n : Int) + C.rem ≤ 2000 ∧ Ext w3 wr) (fun t _ => 2001 - (intOf t).toNat)
          case atStart => exact ⟨0, vp5, vq5, C5, by omega, rfl, hA5, hGh, hdh, hLr, by have := hGh.rem; omega, hE5⟩
          case round =>
            clear hA5 hGh hdh hE5 hLr
            obtain ⟨n, vp, vq, C, hn2, rfl, hA, hG, HHD, HL, hrem, hE⟩ := hrel
            have hps : C.ps.length ≤ 999999998 := by have := hG.ps; omega
            have kt := tick_any hA (by omega)
            have hT := hA.ok.tick
            cases htb : C.tickB
            · rw [htb, tickC_still htb] at kt
              have hidx := done_idx hA.ok hG.bk HHD.out htb
              have hms := hG.ms
              have hthru := led_done HL.out hidx
              rw [hms] at hidx hthru
              have HTH := Lib.hid hthru
              have HMS := Lib.hid hms
              have HIX := Lib.hid hidx
              clear htb hT hG hrem hms hidx hthru HL HHD
              go_wp2_with fail
              refine kt.mono ?_
              rintro e w6 ⟨rfl, vp6, vq6, hA6, hO6, _, _⟩
              have hE6 := hA.ext hE hO6
              clear kt hO6 hA hE
              have ki := index_any hA6.inv.box
              rw [HIX.out] at ki
              rw [← HNL.out] at ki
              go_wp2_with fail
              refine ki.mono ?_
              rintro e w7 ⟨rfl, hx7⟩
              subst hx7
              clear ki
              have kd := done_any hA6.inv hA6.ok.posOk (by omega)
              go_wp2_with fail
              refine kd.mono ?_
              rintro e w7 ⟨vd, rfl, own7, hx7⟩
              have hE7 := hE6.trans hx7
              have hd7 := own7.sld
              have hdl : C.doneL.length ≤ 999999999 := by have := doneL_len C; omega
              clear kd own7 hx7 hA6 hE6 hps
              generalize C.doneL = dl at *
              obtain ⟨ad, nd, cd, bd, od, hvd, -⟩ := hd7.1
              subst hvd
              go_wp2_with fail
              go_loopw [14, 86] (fun u t wr => ∃ (i : Nat) (d : List Mot), i ≤ nl ∧ t = .int .i64 i ∧ SlD w7 u d ∧ Hid (thru (l.drop i) d = some []) ∧ Ext w7 wr) (fun _ t _ => nl - (intOf t).toNat)
              case atStart => exact ⟨0, dl, by omega, rfl, hd7, Lib.hid (by rw [List.drop_zero]; exact HTH.out), Ext.refl w7⟩
              case round =>
                clear hd7
                obtain ⟨i, d, hi, rfl, hd, HT, hE⟩ := hrel
                obtain ⟨wo, rfl⟩ : ∃ wo : World, wo = wr := ⟨_, rfl⟩
                obtain ⟨a1, n1, c1, b1, o1, hv1, hn1, -⟩ := hd.1
                subst hv1
                have HN1 := Lib.hid hn1; clear hn1
                by_cases hlt2 : i < nl
                · obtain ⟨hb1, hb2⟩ := HCL.out i hlt2
                  obtain rfl : al = some ⟨bl, ol, none⟩ := (HAL.out).resolve_left (by omega)
                  have hE0 := hE3.trans (hE7.trans hE)
                  have hb3 := hb2.later hb1 hE0
                  clear hb2
                  have HTI : Hid ((chain (l.getD i Mot.zero) (l.getD i Mot.zero).f3 d).bind (thru (l.drop (i + 1))) = some []) := Lib.hid (by
                    have := HT.out
                    rw [List.drop_eq_getElem_cons (by rw [← HNL.out]; exact hlt2)] at this
                    have e : l[i]'(by rw [← HNL.out]; exact hlt2) = l.getD i Mot.zero := by simp [show i < l.length by rw [← HNL.out]; exact hlt2]
                    rw [e] at this
                    exact this)
                  clear HT
                  have c0 := hb3.c0; have c1 := hb3.c1; have c2 := hb3.c2; have c3 := hb3.c3; have c4 := hb3.c4; have c5 := hb3.c5; have c6 := hb3.c6; have c7 := hb3.c7; have c8 := hb3.c8
                  generalize l.getD i Mot.zero = m at *
                  clear hb3
                  go_wp2_with fail
                  obtain ⟨W8, hW8, B8, hx8⟩ := MBox.mk' wo m
                  have hz8 : W8.heap.size = wo.heap.size + 1 := by rw [← hW8]; simp
                  rw [hW8]; clear hW8
                  have hE8 := hE.trans hx8
                  obtain ⟨W9, hW9, P9, hx9⟩ := P3Box.mk' W8 m.fx m.fy m.fz
                  rw [hW9]; clear hW9
                  clear hx8
                  go_loopw [14, 17] (fun u t wr => ∃ (b17 : Nat) (ax ay az : Int) (d : List Mot), t = .pointer (some ⟨b17, 0, none⟩) ∧ P3Box wr b17 ax ay az ∧ SlD w7 u d ∧ Hid ((chain m (ax, ay, az) d).bind (thru (l.drop (i + 1))) = some []) ∧ W8.heap.size ≤ b17 ∧ Ext W8 wr) (fun u _ _ => slen u)
                  case atStart => exact ⟨W8.heap.size, m.fx, m.fy, m.fz, d, by rw [hz8], P9, hd, HTI, Nat.le_refl _, hx9⟩
                  case round =>
                    clear hd HTI P9 hx9
                    obtain ⟨b17, ax, ay, az, d2, rfl, P, hd2, HT2, hb17, hE2⟩ := hrel
                    have m0 := B8.c0 ⟨wr, hE2⟩; have m1 := B8.c1 ⟨wr, hE2⟩; have m2 := B8.c2 ⟨wr, hE2⟩; have m3 := B8.c3 ⟨wr, hE2⟩; have m4 := B8.c4 ⟨wr, hE2⟩; have m5 := B8.c5 ⟨wr, hE2⟩; have m6 := B8.c6 ⟨wr, hE2⟩; have m7 := B8.c7 ⟨wr, hE2⟩; have m8 := B8.c8 ⟨wr, hE2⟩
                    change wr.cell? _ = _ at m0 m1 m2 m3 m4 m5 m6 m7 m8
                    obtain ⟨p0, p1, p2, f0, f1, f2⟩ := P.at
                    have hne := fun w => Try.neq_pos ax ay az m.tx m.ty m.tz w
                    obtain ⟨a2, n2, c2, b2, o2, hv2, hn2, h32, -, h42⟩ := hd2.1
                    have hcap := hd2.2 _ _ _ hv2
                    subst hv2
                    by_cases hat : ((ax, ay, az) : Int × Int × Int) = m.t3
                    · have ee : eqP ax ay az m.tx m.ty m.tz = true := by
                        unfold Mot.t3 at hat
                        simp only [Prod.mk.injEq] at hat
                        simp [eqP, hat.1, hat.2.1, hat.2.2]
                      rw [ee] at hne
                      have HTE : Hid (thru (l.drop (i + 1)) d2 = some []) := Lib.hid (by
                        have := HT2.out
                        have ec : chain m (ax, ay, az) d2 = some d2 := by
                          cases d2 with
                          | nil => unfold chain; rw [if_pos hat]
                          | cons q r => unfold chain; rw [if_pos hat]
                        rw [ec] at this
                        exact this)
                      have HD2 := Lib.hid hd2
                      clear ee hat HT2 hn2 h32 h42 hcap hd2
                      go_wp2
                      go_roundw
                      case rel => exact ⟨i + 1, d2, by omega, by go_num, HD2.out, HTE, hE8.trans hE2⟩
                      case measure => simp [intOf]; omega
                    · have ee : eqP ax ay az m.tx m.ty m.tz = false := by
                        cases hx : eqP ax ay az m.tx m.ty m.tz
                        · rfl
                        · exfalso
                          apply hat
                          unfold eqP at hx
                          simp only [decide_eq_true_eq] at hx
                          unfold Mot.t3
                          rw [hx.1, hx.2.1, hx.2.2]
                      rw [ee] at hne
                      clear ee
                      cases d2 with
                      | nil =>
                        exfalso
                        have := HT2.out
                        unfold chain at this
                        rw [if_neg hat] at this
                        cases this
                      | cons p d' =>
                        have hpc : pieceOf m p (ax, ay, az) = true := by
                          have := HT2.out
                          unfold chain at this
                          rw [if_neg hat] at this
                          cases hx : pieceOf m p (ax, ay, az)
                          · rw [hx] at this; cases this
                          · rfl
                        have HT3 : Hid ((chain m p.t3 d').bind (thru (l.drop (i + 1))) = some []) := Lib.hid (by
                          have := HT2.out
                          unfold chain at this
                          rw [if_neg hat, if_pos hpc] at this
                          exact this)
                        clear HT2
                        simp only [pieceOf, Mot.f3, Bool.and_eq_true, decide_eq_true_eq, Prod.mk.injEq] at hpc
                        obtain ⟨⟨⟨⟨e1, e2, e3⟩, e4⟩, e5⟩, e6⟩ := hpc
                        obtain ⟨hbb, hcc⟩ := h42 0 (by rw [hn2]; simp)
                        obtain rfl : a2 = some ⟨b2, o2, none⟩ := h32.resolve_left (by rw [hn2]; simp)
                        rw [Nat.zero_mul, Nat.add_zero] at hcc
                        have hEw := hE8.trans hE2
                        have hcw := hcc.later hbb hEw
                        have hg0 : (p :: d').getD 0 Mot.zero = p := rfl
                        rw [hg0] at hcw
                        have g0 := hcw.c0; have g1 := hcw.c1; have g2 := hcw.c2; have g3 := hcw.c3; have g4 := hcw.c4; have g5 := hcw.c5; have g6 := hcw.c6; have g7 := hcw.c7; have g8 := hcw.c8
                        rw [e1] at g0; rw [e2] at g1; rw [e3] at g2; rw [e4] at g6; rw [e5] at g7; rw [e6] at g8
                        have hn3 : n2 = d'.length + 1 := by rw [hn2]; simp
                        obtain ⟨n3, rfl⟩ : ∃ n3, n2 = n3 + 1 := ⟨n2 - 1, by omega⟩
                        have hdl2 : n3 = d'.length := by omega
                        have HDL := Lib.hid hdl2
                        have HD2 := Lib.hid hd2
                        have hn0 : (((n3 : Int) + 1) == 0) = false := by simp; omega
                        have hn00 : ((((n3 + 1 : Nat) : Int)) == 0) = false := by simp; omega
                        have hb27 : ¬ b2 = b17 := by have := hE8.size; omega
                        clear e1 e2 e3 e4 e5 e6 hcw hg0 hn2 hn3 hdl2 h32 h42 hcc hd2
                        have hnn := fun w => Try.neq_pos ax ay az ax ay az w
                        have hself : eqP ax ay az ax ay az = true := by simp [eqP]
                        rw [hself] at hnn
                        clear hself
                        go_wp2_with fail
                        have G0 := Later.cell g0; have G1 := Later.cell g1; have G2 := Later.cell g2; have G3 := Later.cell g3; have G4 := Later.cell g4; have G5 := Later.cell g5; have G6 := Later.cell g6; have G7 := Later.cell g7; have G8 := Later.cell g8
                        have M6 := Later.cell m6; have M7 := Later.cell m7; have M8 := Later.cell m8
                        have Q0 := Later.cell p0; have Q1 := Later.cell p1; have Q2 := Later.cell p2
                        refine wp_region_later (by kernel_rfl) (by kernel_rfl) ?_
                        repeat (go_big_quiet_step (fail))
                        refine wpQuiet_nil ?_
                        rintro _ ⟨x, rfl⟩
                        have hxx := x.ext
                        have P' := P.later hxx
                        have hEx := hE2.trans hxx
                        have k3 : x.w.cell? ⟨b2, o2 + 3, none⟩ = some (.int .i64 p.tx) := G3 x
                        have k4 : x.w.cell? ⟨b2, o2 + 3 + 1, none⟩ = some (.int .i64 p.ty) := G4 x
                        have k5 : x.w.cell? ⟨b2, o2 + 3 + 2, none⟩ = some (.int .i64 p.tz) := G5 x
                        clear G0 G1 G2 G3 G4 G5 G6 G7 G8 M6 M7 M8 Q0 Q1 Q2 g0 g1 g2 g3 g4 g5 g6 g7 g8 m0 m1 m2 m3 m4 m5 m6 m7 m8 p0 p1 p2 P f0 f1 f2
                        generalize x.w = W10 at *
                        clear x hxx
                        go_wp2_with fail
                        have e3 := Chg.cell (D := fun k => k = b17) k3 hb27; have e4 := Chg.cell (D := fun k => k = b17) k4 hb27; have e5 := Chg.cell (D := fun k => k = b17) k5 hb27
                        obtain ⟨u0, u1, u2, v0, v1, v2⟩ := P'.at
                        by_cases hc1 : c2 = 1
                        · subst hc1
                          obtain rfl : n3 = 0 := by omega
                          have hd0 : d' = [] := List.length_eq_zero_iff.1 HDL.out.symm
                          have HSL : Hid (SlD w7 (.slice (some ⟨b2, o2, none⟩) 0 0) d') := Lib.hid (by rw [hd0]; exact SlD.none (fun h => by cases h))
                          clear hd0
                          refine wp_region_tree (fun w' => ∃ y : Chg (fun k => k = b17) W10, w' = y.w) 8 (.one [0, 1, 2, 3, 4, 5] 6 (.leaf [7])) (by kernel_rfl) (by kernel_rfl) (by kernel_rfl) ⟨⟨_, (Only.refl _ W10).drew⟩, rfl⟩ ?_
                          simp only [List.take_succ_cons, List.take_zero]
                          refine tree_one fun K hK => ?_
                          simp only [List.map_cons, List.map_nil, pickOp, List.getElem?_cons_zero, List.getElem?_cons_succ, Option.getD_some]
                          repeat (go_big_quiet_step (fail))
                          refine wpQuiet_nil ?_
                          go_wp2_with fail
                          have hO11 := ((Only.refl (fun k => k = b17) W10).set3 (.inl rfl) (.int .i64 p.tx) (.int .i64 p.ty) (.int .i64 p.tz)).drew
                          have P11 := (P'.put p.tx p.ty p.tz).later (Ext.refl _).drew
                          have hE11 : Ext W8 (((W10.setCell ⟨b17, 0, none⟩ (.int .i64 p.tx)).setCell ⟨b17, 1, none⟩ (.int .i64 p.ty)).setCell ⟨b17, 2, none⟩ (.int .i64 p.tz)).drew := (Ext.of_only ((Only.of_ext hEx).set3 (.inr hb17) _ _ _)).drew
                          refine onlyK_normal (hK _ _ ⟨⟨_, hO11⟩, rfl⟩ ?_); clear hK K
                          clear u0 u1 u2 v0 v1 v2 e3 e4 e5 k3 k4 k5 P' hO11
                          generalize (((W10.setCell ⟨b17, 0, none⟩ (.int .i64 p.tx)).setCell ⟨b17, 1, none⟩ (.int .i64 p.ty)).setCell ⟨b17, 2, none⟩ (.int .i64 p.tz)).drew = W11 at *
                          refine tree_leaf ?_
                          simp only [List.map_cons, List.map_nil, pickOp, List.getElem?_cons_zero, List.getElem?_cons_succ, Option.getD_some, List.drop_succ_cons, List.drop_zero]
                          repeat (go_big_quiet_step (fail))
                          refine wpQuiet_nil ?_
                          obtain ⟨u0, u1, u2, -, -, -⟩ := P11.at
                          go_wp2_with fail
                          obtain ⟨W12, hW12, P12, hx12⟩ := P3Box.mk' W11 p.tx p.ty p.tz
                          have hs12 : W8.heap.size ≤ W11.heap.size := hE11.size
                          go_wp2
                          rw [hW12]
                          go_roundw
                          case rel => exact ⟨W11.heap.size, p.tx, p.ty, p.tz, d', rfl, P12, HSL.out, HT3, hs12, hE11.trans hx12⟩
                          case measure => simp [slen]
                        · have HSL : Hid (SlD w7 (.slice (some ⟨b2, o2 + 9, none⟩) n3 (c2 - 1)) d') := Lib.hid HD2.out.tail
                          refine wp_region_tree (fun w' => ∃ y : Chg (fun k => k = b17) W10, w' = y.w) 8 (.one [0, 1, 2, 3, 4, 5] 6 (.leaf [7])) (by kernel_rfl) (by kernel_rfl) (by kernel_rfl) ⟨⟨_, (Only.refl _ W10).drew⟩, rfl⟩ ?_
                          simp only [List.take_succ_cons, List.take_zero]
                          refine tree_one fun K hK => ?_
                          simp only [List.map_cons, List.map_nil, pickOp, List.getElem?_cons_zero, List.getElem?_cons_succ, Option.getD_some]
                          repeat (go_big_quiet_step (fail))
                          refine wpQuiet_nil ?_
                          go_wp2_with fail
                          have hO11 := ((Only.refl (fun k => k = b17) W10).set3 (.inl rfl) (.int .i64 p.tx) (.int .i64 p.ty) (.int .i64 p.tz)).drew
                          have P11 := (P'.put p.tx p.ty p.tz).later (Ext.refl _).drew
                          have hE11 : Ext W8 (((W10.setCell ⟨b17, 0, none⟩ (.int .i64 p.tx)).setCell ⟨b17, 1, none⟩ (.int .i64 p.ty)).setCell ⟨b17, 2, none⟩ (.int .i64 p.tz)).drew := (Ext.of_only ((Only.of_ext hEx).set3 (.inr hb17) _ _ _)).drew
                          refine onlyK_normal (hK _ _ ⟨⟨_, hO11⟩, rfl⟩ ?_); clear hK K
                          clear u0 u1 u2 v0 v1 v2 e3 e4 e5 k3 k4 k5 P' hO11
                          generalize (((W10.setCell ⟨b17, 0, none⟩ (.int .i64 p.tx)).setCell ⟨b17, 1, none⟩ (.int .i64 p.ty)).setCell ⟨b17, 2, none⟩ (.int .i64 p.tz)).drew = W11 at *
                          refine tree_leaf ?_
                          simp only [List.map_cons, List.map_nil, pickOp, List.getElem?_cons_zero, List.getElem?_cons_succ, Option.getD_some, List.drop_succ_cons, List.drop_zero]
                          repeat (go_big_quiet_step (fail))
                          refine wpQuiet_nil ?_
                          obtain ⟨u0, u1, u2, -, -, -⟩ := P11.at
                          go_wp2_with fail
                          obtain ⟨W12, hW12, P12, hx12⟩ := P3Box.mk' W11 p.tx p.ty p.tz
                          have hs12 : W8.heap.size ≤ W11.heap.size := hE11.size
                          go_wp2
                          rw [hW12]
                          go_roundw
                          case rel => exact ⟨W11.heap.size, p.tx, p.ty, p.tz, d', rfl, P12, HSL.out, HT3, hs12, hE11.trans hx12⟩
                          case measure => simp [slen]
                · have hdz : d = [] := by
                    have := HT.out
                    rw [List.drop_eq_nil_of_le (by rw [← HNL.out]; omega)] at this
                    simpa [thru] using this
                  obtain rfl : n1 = 0 := by have := HN1.out; rw [hdz] at this; simpa using this
                  clear hdz HT HTH
                  have hEz := hE3.trans (hE7.trans hE)
                  go_wp2
                  go_ret
                  exact ⟨rfl, hEz⟩
            · rw [htb] at kt
              have hr1 := hA.ok.tick_rem htb
              have hr0 := hT.rem0
              have HGT := Lib.hid (hG.tick hA.ok)
              have HLT := Lib.hid (tick_led hA.ok HL.out)
              have HHT : Hid (C.tickC.hd = false) := Lib.hid (by rw [(tickC_ms C).2.2]; exact HHD.out)
              clear htb hG hps HHD HL
              go_wp2_with fail
              refine kt.mono ?_
              rintro e w6 ⟨rfl, vp6, vq6, hA6, hO6, _, _⟩
              have hE6 := hA.ext hE hO6
              clear kt hO6 hA
              generalize C.tickC = C6 at *
              go_wp2
              go_roundw
              case rel => exact ⟨n + 1, vp6, vq6, C6, by omega, by go_num, hA6, HGT.out, HHT, HLT, by omega, hE6⟩
              case measure => simp [intOf]; omega

end Go.Proofs.Ytfmjmabaabmgcaa

namespace Go.Proofs.Ytfmjmabaabmgcaa
open Go.ChangeShapes Go.WideShapes Go.ChangeAt Go.RowKit Go.Joins

set_option maxRecDepth 100000 in
theorem liftControllerHolds (os : Os) (started : os.Started) (H : Type) (enc : TypeId × Value → H) :
    ReturnsInHanded {} Try.checked os 6 .any (Rows.controllerHoldsSpec.pre6 enc Try.prog Try.f6 Rows.controllerHoldsRow.domain false) (Rows.controllerHoldsSpec.post enc Try.prog Try.f6 false true false false) := by
  refine returnsInHanded_of_change (C := Try.checked) Try.own started (by kernel_rfl) Try.func6
    (ChangeSpec.witness6 (enc := enc) (C := Try.checked) false ⟨#[], #[.slice none 0 0, .agg #[.int .i64 0, .int .i64 0, .int .i64 0], .slice none 0 0], []⟩ 8 (by kernel_rfl) (by kernel_rfl) (by kernel_rfl) (by kernel_rfl)) ?_
  intro W base args ds gs before hval0 hW hcnd _
  have hval : ∀ (j : Nat) t v, Try.f6.params[j]? = some t → args[j]? = some v → Value.okWide Try.prog W .any base t v := hval0
  have hW' := hW
  obtain ⟨p, q, hA0, hV, rfl, hfz, hnd⟩ := hW
  have hA : DataW.TrodAll enc Try.prog W 0 (fun _ => true) true Try.f6.params.toList args.toList ds p := hA0
  rw [Try.params6] at hA hval
  obtain ⟨v0, vs0, d0, ds0, p0, q0, hargs, rfl, rfl, h0, r0⟩ := trodAll_cons hA
  obtain ⟨v1, vs1, d1, ds1, p1, q1, rfl, rfl, rfl, h1, r1⟩ := trodAll_cons r0
  obtain ⟨v2, vs2, d2, ds2, p2, q2, rfl, rfl, rfl, h2, r2⟩ := trodAll_cons r1
  obtain ⟨rfl, rfl, rfl⟩ := trodAll_nil r2
  obtain rfl : args = #[v0, v1, v2] := by cases args; simp_all
  obtain ⟨rfl, rfl⟩ := trodVars_none hV
  have lt0 : ∀ x ∈ p0, x.block < W.heap.size := by obtain ⟨m, hm⟩ := h0; exact DataW.trod_lt m _ _ _ hm
  have lt1 : ∀ x ∈ p1, x.block < W.heap.size := by obtain ⟨m, hm⟩ := h1; exact DataW.trod_lt m _ _ _ hm
  have lt2 : ∀ x ∈ p2, x.block < W.heap.size := by obtain ⟨m, hm⟩ := h2; exact DataW.trod_lt m _ _ _ hm
  obtain ⟨l0, a0, w0, n0⟩ := argM_of (hval 0 22 v0 rfl rfl) h0
  obtain ⟨x1, y1, z1, e1⟩ := arr3_of Try.underlying23 (by kernel_rfl) (hval 1 23 v1 rfl rfl) h1
  subst e1
  obtain ⟨l2, a2, n2⟩ := argB_of (hval 2 57 v2 rfl rfl) h2
  clear hA0 hval0
  refine (lawHolds v0 l0 x1 y1 z1 v2 l2 W a0 w0 n0 a2 n2).mono fun e W' ⟨he, bel⟩ => ?_
  subst he
  exact ⟨_, rfl, _, _, _, [], _, [], hW', trodAll_mk1 (shut_bool Try.underlying4 _), (trodAll_cons_mk (Below.trod Try.laidOut (by kernel_rfl) (of_decide_eq_true (by kernel_rfl)) h0 bel.out lt0) (trodAll_cons_mk (Below.trod Try.laidOut (by kernel_rfl) (of_decide_eq_true (by kernel_rfl)) h1 bel.out lt1) (trodAll_cons_mk (Below.trod Try.laidOut (by kernel_rfl) (of_decide_eq_true (by kernel_rfl)) h2 bel.out lt2) trodAll_mk0))), rfl, bel.out.frame _, fun h => by cases h⟩

/-- The statement. -/
theorem cholds_holds : Rows.ControllerHoldsSaid :=
  OpenClaim.holds_of_wide 6 Try.f6 rfl rfl rfl rfl rfl rfl rfl ⟨rfl, rfl, rfl, rfl, rfl⟩ rfl rfl rfl rfl rfl (by kernel_rfl) Try.func6 (by kernel_rfl)
    (of_decide_eq_true (by kernel_rfl)) (by unfold Func.isWrapper; first | (rw [if_pos (by decide +kernel)]; kernel_rfl) | (rw [if_neg (by decide +kernel)]; exact ⟨rfl, rfl⟩))
    (fun os started H enc _ => liftControllerHolds os started H enc)

#print axioms cholds_holds
end Go.Proofs.Ytfmjmabaabmgcaa
