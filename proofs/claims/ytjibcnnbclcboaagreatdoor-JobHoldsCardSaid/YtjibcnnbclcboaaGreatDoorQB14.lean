/-
  Resume, told exactly; a broken controller.
  Plain laws: the pieces lead through the ends of all motions.
  Small facts for a seat without the law's model of layer 50.
  Restart: the plain answer; begin and Rate of the reference, walked.
  Restart: what it answers; a slice from an index on.
  Restart of the reference, walked.
-/
import Derived.Test.YtjibcnnbclcboaaGreatDoorQB12
namespace Go.Proofs.YtjibcnnbclcboaaGreatDoor
open Go.RowKit
set_option maxRecDepth 8000
set_option maxRecDepth 8000

set_option maxHeartbeats 1000000 in
theorem resume_exact {B : Nat} {w : World} {N : Nat} {vm vp vq : Value} {C : Ctl} (h : CInv B w N vm vp vq C) :
    Calls Tryz.prog 28 #[.pointer (some ⟨N, 0, none⟩)] w fun e w' => e = .returned (.tuple #[]) ∧ CInv B w' N vm vp vq { C with hd := false } ∧ Only (fun k => k = N) w w' := by
  have c9 := h.box.c9; have f9 := h.box.fr 9
  have hO : Only (fun k => k = N) w (w.setCell ⟨N, 9, none⟩ (.bool false)) := (Only.refl (fun k => k = N) w).set (.inl rfl) _
  have hI : CInv B (w.setCell ⟨N, 9, none⟩ (.bool false)) N vm vp vq { C with hd := false } := ⟨h.box.set_hd false, h.sm.only hO (fun b hb e => h.nm (by rw [hb, e])), h.sp.only hO (fun b hb e => h.np (by rw [hb, e])), h.sq.only hO (fun b hb e => h.nq (by rw [hb, e])), h.nm, h.np, h.nq, h.mq, h.pq, h.base⟩
  have HI := Lib.hid hI; have HO := Lib.hid hO
  clear hI hO h
  go_enter Tryz.func28, Tryz.ntmps28
  go_wp2
  go_end0
  exact ⟨rfl, HI.out, HO.out⟩

theorem resume_held {B : Nat} {w : World} {N : Nat} {vm vp vq : Value} {C : Ctl} (h : CAt B w N vm vp vq C) (hh : C.hd = false) :
    Calls Tryz.prog 28 #[.pointer (some ⟨N, 0, none⟩)] w fun e w' => e = .returned (.tuple #[]) ∧ CAt B w' N vm vp vq C ∧ Only (fun k => k = N) w w' := by
  refine (resume_exact h.inv).mono ?_
  rintro e w' ⟨he, hI, hO⟩
  have e2 : { C with hd := false } = C := by cases C; simp only at hh; subst hh; rfl
  rw [e2] at hI
  exact ⟨he, ⟨hI, fun b hb => Nat.lt_of_lt_of_le (h.lp b hb) hO.size, fun b hb => Nat.lt_of_lt_of_le (h.lm b hb) hO.size, h.ok⟩, hO⟩

theorem P3Box.only {D : Nat → Prop} {W W' : World} {N : Nat} {x y z : Int} (h : P3Box W N x y z) (k : Only D W W') (hd : ¬ D N) : P3Box W' N x y z := by
  obtain ⟨c0, c1, c2, f0, f1, f2⟩ := h.at
  exact P3Box.of (Nat.lt_of_lt_of_le h.lt k.size) (by rw [k.cell h.lt hd]; exact c0) (by rw [k.cell h.lt hd]; exact c1) (by rw [k.cell h.lt hd]; exact c2) (by rw [k.frozen h.lt hd]; exact f0) (by rw [k.frozen h.lt hd]; exact f1) (by rw [k.frozen h.lt hd]; exact f2)

theorem brkC_props {C : Ctl} (hb : C.bk = false) : C.brkC.bk = true ∧ C.brkC.hd = false ∧ C.brkC.pos = C.brkC.plan.length := by
  unfold Ctl.brkC
  rw [if_neg (by simp [hb])]
  exact ⟨rfl, rfl, rfl⟩
theorem doneL_len (C : Ctl) : C.doneL.length ≤ C.ps.length + 1 := by
  unfold Ctl.doneL
  split
  · simp
  · omega

end Go.Proofs.YtjibcnnbclcboaaGreatDoor

namespace Go.Proofs.YtjibcnnbclcboaaGreatDoor
open Go.RowKit

theorem half_zero (n : Int) (h : 1 ≤ n) : n / (2 * n) = 0 := Int.ediv_eq_zero_of_lt (by omega) (by omega)
theorem btw_zero (a b n : Int) (h : 1 ≤ n) : btw a b 0 n = a := by
  unfold btw; rw [Int.mul_zero, Int.zero_add, half_zero n h]; omega
theorem btw_full (a b n : Int) (h : 1 ≤ n) : btw a b n n = b := by
  unfold btw
  have : 2 * (b - a) * n + n = n + (b - a) * (2 * n) := by rw [Int.mul_comm 2 (b - a), Int.mul_assoc]; omega
  rw [this, Int.add_mul_ediv_right _ _ (by omega), half_zero n h]; omega
theorem btw_up (a b p q n : Int) (h : 1 ≤ n) (hb : 0 ≤ b - a) (hp : p ≤ q) : btw a b p n ≤ btw a b q n := by
  unfold btw
  have h1 : 2 * (b - a) * p ≤ 2 * (b - a) * q := Int.mul_le_mul_of_nonneg_left hp (by omega)
  have := Int.ediv_le_ediv (show 0 < 2 * n by omega) (show 2 * (b - a) * p + n ≤ 2 * (b - a) * q + n by omega)
  omega
theorem btw_down (a b p q n : Int) (h : 1 ≤ n) (hb : b - a ≤ 0) (hp : p ≤ q) : btw a b q n ≤ btw a b p n := by
  unfold btw
  have h1 : -(2 * (b - a)) * p ≤ -(2 * (b - a)) * q := Int.mul_le_mul_of_nonneg_left hp (by omega)
  rw [Int.neg_mul, Int.neg_mul] at h1
  have := Int.ediv_le_ediv (show 0 < 2 * n by omega) (show 2 * (b - a) * q + n ≤ 2 * (b - a) * p + n by omega)
  omega

/-- The position of a motion at a part of its length. -/
def Mot.pos (m : Mot) (p : Int) : Int × Int × Int := (btw m.fx m.tx p m.len, btw m.fy m.ty p m.len, btw m.fz m.tz p m.len)
def Mot.f3 (m : Mot) : Int × Int × Int := (m.fx, m.fy, m.fz)
def Mot.t3 (m : Mot) : Int × Int × Int := (m.tx, m.ty, m.tz)

theorem Mot.pos_zero {m : Mot} (h : 1 ≤ m.len) : m.pos 0 = m.f3 := by
  unfold Mot.pos Mot.f3; rw [btw_zero _ _ _ h, btw_zero _ _ _ h, btw_zero _ _ _ h]
theorem Mot.pos_full {m : Mot} (h : 1 ≤ m.len) : m.pos m.len = m.t3 := by
  unfold Mot.pos Mot.t3; rw [btw_full _ _ _ h, btw_full _ _ _ h, btw_full _ _ _ h]
theorem btw_reached {a b p q n : Int} (h : 1 ≤ n) (hp : p ≤ q) (hq : q ≤ n) (he : btw a b p n = b) : btw a b q n = b := by
  by_cases hb : 0 ≤ b - a
  · have h1 := btw_up a b p q n h hb hp
    have h2 := btw_up a b q n n h hb hq
    rw [btw_full a b n h] at h2
    omega
  · have h1 := btw_down a b p q n h (by omega) hp
    have h2 := btw_down a b q n n h (by omega) hq
    rw [btw_full a b n h] at h2
    omega
/-- Once at the end, it stays there. -/
theorem Mot.pos_reached {m : Mot} {p q : Int} (h : 1 ≤ m.len) (hp : p ≤ q) (hq : q ≤ m.len) (he : m.pos p = m.t3) : m.pos q = m.t3 := by
  unfold Mot.pos Mot.t3 at *
  simp only [Prod.mk.injEq] at *
  exact ⟨btw_reached h hp hq he.1, btw_reached h hp hq he.2.1, btw_reached h hp hq he.2.2⟩

theorem sq_zero {x : Int} (h : x * x ≤ 0) : x = 0 := by
  rcases Int.lt_trichotomy x 0 with h1 | h1 | h1
  · have := Int.mul_pos_of_neg_of_neg h1 h1; omega
  · exact h1
  · have := Int.mul_pos h1 h1; omega
theorem sq_nonneg' (x : Int) : 0 ≤ x * x := by
  rcases Int.lt_trichotomy x 0 with h1 | h1 | h1
  · exact Int.le_of_lt (Int.mul_pos_of_neg_of_neg h1 h1)
  · subst h1; decide
  · exact Int.le_of_lt (Int.mul_pos h1 h1)
/-- A motion without length ends where it begins. -/
theorem Mot.flat {m : Mot} (hr : m.rng) (h : m.len = 0) : m.f3 = m.t3 := by
  obtain ⟨n0, n1, _⟩ := Mot.len_is hr
  rw [h] at n1
  unfold Mot.sq at n1
  have a := sq_nonneg' (m.tx - m.fx)
  have b := sq_nonneg' (m.ty - m.fy)
  have c := sq_nonneg' (m.tz - m.fz)
  have x := sq_zero (show (m.tx - m.fx) * (m.tx - m.fx) ≤ 0 by omega)
  have y := sq_zero (show (m.ty - m.fy) * (m.ty - m.fy) ≤ 0 by omega)
  have z := sq_zero (show (m.tz - m.fz) * (m.tz - m.fz) ≤ 0 by omega)
  unfold Mot.f3 Mot.t3
  rw [show m.fx = m.tx by omega, show m.fy = m.ty by omega, show m.fz = m.tz by omega]

/-- A piece of a motion. -/
def pieceOf (m p : Mot) (a : Int × Int × Int) : Bool := decide (p.f3 = a) && decide (p.rate = m.rate) && decide (p.tool = m.tool) && decide (p.block = m.block)
/-- The pieces of a motion are taken off a list. -/
def chain (m : Mot) : Int × Int × Int → List Mot → Option (List Mot)
  | a, [] => if a = m.t3 then some [] else none
  | a, p :: d => if a = m.t3 then some (p :: d) else if pieceOf m p a = true then chain m p.t3 d else none
def thru : List Mot → List Mot → Option (List Mot)
  | [], d => some d
  | m :: ms, d => (chain m m.f3 d).bind (thru ms)

/-- The pieces lead on from a place to another one, and the motion's end comes last. -/
inductive Part (m : Mot) : Int × Int × Int → List Mot → Int × Int × Int → Prop
  | nil (a) : Part m a [] a
  | cons {a b p d} : a ≠ m.t3 → pieceOf m p a = true → Part m p.t3 d b → Part m a (p :: d) b

theorem Part.snoc {m : Mot} {a b : Int × Int × Int} {d : List Mot} (h : Part m a d b) {p : Mot} (hb : b ≠ m.t3) (hp : pieceOf m p b = true) : Part m a (d ++ [p]) p.t3 := by
  induction h with
  | nil a => exact .cons hb hp (.nil _)
  | cons h1 h2 _ ih => exact .cons h1 h2 (ih hb hp)
theorem Part.chain {m : Mot} {a : Int × Int × Int} {d : List Mot} {b : Int × Int × Int} (h : Part m a d b) (hb : b = m.t3) (r : List Mot) : Go.Proofs.YtjibcnnbclcboaaGreatDoor.chain m a (d ++ r) = some r := by
  induction h with
  | nil a =>
    rw [List.nil_append]
    cases r with
    | nil => unfold Go.Proofs.YtjibcnnbclcboaaGreatDoor.chain; rw [if_pos hb]
    | cons p d => unfold Go.Proofs.YtjibcnnbclcboaaGreatDoor.chain; rw [if_pos hb]
  | cons h1 h2 _ ih =>
    rw [List.cons_append]
    unfold Go.Proofs.YtjibcnnbclcboaaGreatDoor.chain
    rw [if_neg h1, if_pos h2]
    exact ih hb

/-- The pieces lead through the motions. -/
def Thru (ms d : List Mot) : Prop := ∀ r, thru ms (d ++ r) = some r
theorem Thru.nil : Thru [] [] := fun _ => rfl
theorem thru_append : ∀ (a b d : List Mot), thru (a ++ b) d = (thru a d).bind (thru b)
  | [], b, d => rfl
  | m :: a, b, d => by
    show (chain m m.f3 d).bind (thru (a ++ b)) = ((chain m m.f3 d).bind (thru a)).bind (thru b)
    cases chain m m.f3 d with
    | none => rfl
    | some d' => exact thru_append a b d'
theorem Thru.snoc {ms d e : List Mot} {m : Mot} (h : Thru ms d) (hc : Part m m.f3 e m.t3) : Thru (ms ++ [m]) (d ++ e) := fun r => by
  rw [thru_append, List.append_assoc, h]
  show (chain m m.f3 (e ++ r)).bind (thru []) = some r
  rw [hc.chain rfl]
  rfl
theorem Thru.flat {ms d : List Mot} {m : Mot} (h : Thru ms d) (hc : m.f3 = m.t3) : Thru (ms ++ [m]) d := by
  have := h.snoc (m := m) (e := []) (by rw [← hc]; exact .nil _)
  rwa [List.append_nil] at this

theorem take_succ_getD {l : List Mot} {i : Nat} (h : i < l.length) : l.take (i + 1) = l.take i ++ [l.getD i Mot.zero] := by
  rw [List.take_succ_eq_append_getElem h]
  simp [h]

/-- Motions without length are passed over. -/
theorem Thru.skip {l d : List Mot} (hr : ∀ i, i < l.length → (l.getD i Mot.zero).rng) : ∀ (j i : Nat), i ≤ j → j ≤ l.length → (∀ k, i ≤ k → k < j → (l.getD k Mot.zero).len = 0) → Thru (l.take i) d → Thru (l.take j) d
  | 0, i, h, _, _, ht => by have : i = 0 := by omega
                            subst this; exact ht
  | j + 1, i, h, hj, hz, ht => by
    rcases Nat.lt_or_ge i (j + 1) with h1 | h1
    · have h2 := Thru.skip hr j i (by omega) (by omega) (fun k a b => hz k a (by omega)) ht
      rw [take_succ_getD (by omega)]
      exact h2.flat (Mot.flat (hr j (by omega)) (hz j (by omega) (by omega)))
    · have : i = j + 1 := by omega
      subst this; exact ht

/-- The motions are connected. -/
def Conn (l : List Mot) : Prop := ∀ i, i + 1 < l.length → (l.getD i Mot.zero).t3 = (l.getD (i + 1) Mot.zero).f3
theorem conn_of {l : List Mot} (h : conn l = 0) : Conn l := fun i hi => by
  have := goodTo_at (conn_zero h).1 (i + 1) hi
  unfold goodAt at this
  simp only [Bool.and_eq_true, Bool.or_eq_true, Bool.not_eq_true', decide_eq_false_iff_not, Nat.add_sub_cancel] at this
  rcases this.2 with h1 | h1
  · omega
  · unfold eqP at h1
    simp only [decide_eq_true_eq] at h1
    unfold Mot.t3 Mot.f3
    rw [h1.1, h1.2.1, h1.2.2]
/-- Behind motions without length one stands where they began. -/
theorem conn_skip {l : List Mot} (hc : Conn l) (hr : ∀ i, i < l.length → (l.getD i Mot.zero).rng) {p : Int × Int × Int} : ∀ (j i : Nat), i ≤ j → j < l.length → (∀ k, i ≤ k → k < j → (l.getD k Mot.zero).len = 0) → p = (l.getD i Mot.zero).f3 → p = (l.getD j Mot.zero).f3
  | 0, i, h, _, _, ht => by have : i = 0 := by omega
                            subst this; exact ht
  | j + 1, i, h, hj, hz, ht => by
    rcases Nat.lt_or_ge i (j + 1) with h1 | h1
    · have h2 := conn_skip hc hr j i (by omega) (by omega) (fun k a b => hz k a (by omega)) ht
      rw [h2, Mot.flat (hr j (by omega)) (hz j (by omega) (by omega))]
      exact hc j hj
    · have : i = j + 1 := by omega
      subst this; exact ht

/-- Where the pieces stand. -/
structure Ctl.Led (C : Ctl) : Prop where
  cn : Conn C.ms
  led : ∃ pre cp, C.ps = pre ++ cp ∧ Thru (C.ms.take C.idx) pre ∧ (C.idx < C.ms.length → Part C.cur C.cur.f3 cp C.last3 ∧ ∃ q, 0 ≤ q ∧ q ≤ C.part ∧ C.last3 = C.cur.pos q) ∧ (¬ C.idx < C.ms.length → cp = [])

theorem at3_cur {C : Ctl} (h : C.idx < C.ms.length) : C.at3 = C.cur.pos C.part := by
  unfold Ctl.at3
  rw [if_neg (by omega), if_neg (by omega)]
  rfl

theorem stopd_led {C : Ctl} (hb : C.Base) (h : C.Led) (hi : C.idx < C.ms.length) (p0 : 0 ≤ C.part) (p1 : C.part ≤ C.cur.len) (p2 : 1 ≤ C.cur.len) : C.stopd.Led := by
  obtain ⟨cn, pre, cp, e, ht, hcur, _⟩ := h
  obtain ⟨hpart, q, q0, q1, hq⟩ := hcur hi
  have hat := at3_cur hi
  -- the pieces of the motion
  obtain ⟨cp', hps, hp'⟩ : ∃ cp', C.psAdd = pre ++ cp' ∧ Part C.cur C.cur.f3 cp' C.at3 := by
    unfold Ctl.psAdd
    by_cases he : eq3 C.last3 C.at3 = true
    · rw [if_pos he]
      exact ⟨cp, e, by rw [← eq3_iff.1 he]; exact hpart⟩
    · rw [if_neg he, e]
      refine ⟨cp ++ [C.cur.way C.last3 C.at3], List.append_assoc _ _ _, ?_⟩
      have hne : C.last3 ≠ C.cur.t3 := fun hx => he (eq3_iff.2 (by rw [hx, hat, Mot.pos_reached p2 q1 p1 (by rw [← hq]; exact hx)]))
      exact hpart.snoc hne (by simp [pieceOf, Mot.way, Mot.f3])
  have hst : C.stopd.last3 = C.at3 := rfl
  have hms : C.stopd.ms = C.ms := rfl
  have hpp : C.stopd.ps = C.psAdd := rfl
  by_cases h0 : C.cur.len - C.part = 0
  · have e1 : C.stopd.idx = skp C.ms (C.idx + 1) := by unfold Ctl.stopd; simp only; rw [if_pos h0]
    have e2 : C.stopd.part = 0 := by unfold Ctl.stopd; simp only; rw [if_pos h0]
    have hs := skp_le (ms := C.ms) (i := C.idx + 1) (by omega)
    have hfull : C.at3 = C.cur.t3 := by rw [hat, show C.part = C.cur.len by omega]; exact Mot.pos_full p2
    have hT1 : Thru (C.ms.take (C.idx + 1)) (pre ++ cp') := by
      rw [take_succ_getD hi]
      exact ht.snoc (by have := hp'; rw [hfull] at this; exact this)
    have hT2 := Thru.skip hb.rng _ _ hs.1 hs.2 (fun k a b => skp_between a b) hT1
    refine ⟨cn, pre ++ cp', [], ?_, ?_, ?_, fun _ => rfl⟩
    · rw [hpp, hps, List.append_nil]
    · rw [hms, e1]; exact hT2
    · intro hlt
      rw [hms, e1] at hlt
      have hl1 : 1 ≤ (C.ms.getD (skp C.ms (C.idx + 1)) Mot.zero).len := by
        have h1 := skp_pos hlt; have h2 := hb.len0 hlt; omega
      have hcu : C.stopd.cur = C.ms.getD (skp C.ms (C.idx + 1)) Mot.zero := by unfold Ctl.cur; rw [hms, e1]
      have hfrom : C.at3 = (C.ms.getD (skp C.ms (C.idx + 1)) Mot.zero).f3 := by
        refine conn_skip cn hb.rng _ (C.idx + 1) hs.1 hlt (fun k a b => skp_between a b) ?_
        rw [hfull]
        exact cn C.idx (by omega)
      rw [hst, hcu, e2]
      exact ⟨by rw [hfrom]; exact .nil _, 0, Int.le_refl _, Int.le_refl _, by rw [hfrom, Mot.pos_zero hl1]⟩
  · have e1 : C.stopd.idx = C.idx := by unfold Ctl.stopd; simp only; rw [if_neg h0]
    have e2 : C.stopd.part = C.part := by unfold Ctl.stopd; simp only; rw [if_neg h0]
    have hcu : C.stopd.cur = C.cur := by unfold Ctl.cur; rw [hms, e1]
    refine ⟨cn, pre, cp', ?_, ?_, ?_, ?_⟩
    · rw [hpp]; exact hps
    · rw [hms, e1]; exact ht
    · intro _
      rw [hst, hcu, e2]
      exact ⟨hp', C.part, p0, Int.le_refl _, hat⟩
    · intro hx; rw [hms, e1] at hx; exact absurd hi hx

theorem advd_led {C : Ctl} (hp : C.Pre) (h : C.Led) : C.advd.Led := by
  have hs := sum_drop hp.run
  have hg := getD_pos hp.pos hp.run
  have hd0 := sum_nonneg' (drop_pos hp.pos (C.pos + 1))
  have h1 := hp.sum
  have h2 := hp.p0
  have hl : Ctl.Led { C with part := C.part + C.plan.getD C.pos 0, pos := C.pos + 1 } := by
    obtain ⟨cn, pre, cp, e, ht, hcur, hx⟩ := h
    refine ⟨cn, pre, cp, e, ht, fun hi => ?_, hx⟩
    obtain ⟨hpart, q, q0, q1, hq⟩ := hcur hi
    exact ⟨hpart, q, q0, by show q ≤ C.part + C.plan.getD C.pos 0; omega, hq⟩
  unfold Ctl.advd
  split
  · refine stopd_led ⟨hp.vl, hp.n, hp.rng, hp.rate, hp.stp⟩ hl hp.lt ?_ ?_ ?_
    · show 0 ≤ C.part + C.plan.getD C.pos 0; omega
    · show C.part + C.plan.getD C.pos 0 ≤ C.cur.len; omega
    · show 1 ≤ C.cur.len; omega
  · exact hl

theorem tick_led {C : Ctl} (ho : C.Ok) (h : C.Led) : C.tickC.Led := by
  unfold Ctl.tickC
  split
  · rename_i ht
    have hi : C.idx < C.ms.length := by
      unfold Ctl.tickB at ht
      simp only [Bool.and_eq_true, decide_eq_true_eq] at ht
      exact ht.1.2
    split
    · exact advd_led (ho.pre_start hi) ⟨h.cn, h.led⟩
    · rename_i hp; exact advd_led (ho.pre_run hp) h
  · exact h

theorem hold_led {C : Ctl} (ho : C.Ok) (h : C.Led) : C.holdC.Led := by
  unfold Ctl.holdC
  split
  · exact h
  · split
    · exact ⟨h.cn, h.led⟩
    · rename_i hc
      have hp : C.pos ≠ C.plan.length := fun e => hc (.inl e)
      have hn : C.plan ≠ [] := fun e => hp (by rw [ho.rest e, e]; rfl)
      obtain ⟨r1, r2⟩ := ho.run hn
      have q0 := ho.p0 r1
      have q1 := ho.p1 r1
      split
      · split
        · refine stopd_led ⟨ho.vl, ho.n, ho.rng, ho.rate, ho.stp⟩ ⟨h.cn, h.led⟩ r1 q0 (Int.le_of_lt q1) ?_
          show 1 ≤ C.cur.len; omega
        · exact ⟨h.cn, h.led⟩
      · exact ⟨h.cn, h.led⟩

theorem new_led {l : List Mot} {s a j : Int} (hc : Conn l) (hr : ∀ i, i < l.length → (l.getD i Mot.zero).rng) : (Ctl.new l s a j).Led := by
  have hs := skp_le (ms := l) (i := 0) (by omega)
  refine ⟨hc, [], [], rfl, ?_, fun hlt => ?_, fun _ => rfl⟩
  · exact Thru.skip (l := l) hr (skp l 0) 0 hs.1 hs.2 (fun k a b => skp_between a b) (by rw [List.take_zero]; exact Thru.nil)
  · have hlt : skp l 0 < l.length := hlt
    have hl1 : 1 ≤ (l.getD (skp l 0) Mot.zero).len := by
      have h1 := skp_pos (ms := l) (i := 0) hlt; have h2 := Mot.len_bounds (hr _ hlt); omega
    have hfrom : (l.getD 0 Mot.zero).f3 = (l.getD (skp l 0) Mot.zero).f3 := conn_skip hc hr _ 0 hs.1 hlt (fun k a b => skp_between a b) rfl
    show Part (l.getD (skp l 0) Mot.zero) (l.getD (skp l 0) Mot.zero).f3 [] (l.getD 0 Mot.zero).f3 ∧ ∃ q, 0 ≤ q ∧ q ≤ (0 : Int) ∧ (l.getD 0 Mot.zero).f3 = (l.getD (skp l 0) Mot.zero).pos q
    rw [hfrom]
    exact ⟨.nil _, 0, Int.le_refl _, Int.le_refl _, (Mot.pos_zero hl1).symm⟩

theorem led_done {C : Ctl} (h : C.Led) (hi : C.idx = C.ms.length) : thru C.ms C.doneL = some [] := by
  obtain ⟨cn, pre, cp, e, ht, _, hx⟩ := h
  have hcp := hx (by omega)
  have hd : C.doneL = C.ps := by
    unfold Ctl.doneL Ctl.pieceB
    rw [if_neg]
    rw [decide_eq_false (by omega), Bool.false_and]
    exact fun h => by cases h.1
  rw [hd, e, hcp, List.append_nil]
  have := ht []
  rw [List.append_nil, hi, List.take_length] at this
  exact this

end Go.Proofs.YtjibcnnbclcboaaGreatDoor

namespace Go.Proofs.YtjibcnnbclcboaaGreatDoor
open Go.RowKit
set_option maxRecDepth 8000

theorem nilI (w : World) : SlI w (.slice none 0 0) [] := ⟨none, 0, 0, 0, 0, rfl, rfl, .inl rfl, fun i hi => by omega⟩
theorem nilM (w : World) : SlM w (.slice none 0 0) [] := ⟨none, 0, 0, 0, 0, rfl, rfl, .inl rfl, fun _ => rfl, fun i hi => by omega⟩
theorem OwnM.empty (B : Nat) (w : World) (hB : B ≤ w.heap.size) : OwnM B (w.alloc (.cells #[] 49)) (.slice (some ⟨w.heap.size, 0, none⟩) 0 0) [] := World.ownsRow_lit (base := B) (e := 49) (size := 9) w #[] 0 hB (by decide) rfl
/-- A slice within its capacity. -/
def CapV (v : Value) : Prop := ∀ a n c, v = .slice a n c → n ≤ c

theorem CAt.only {B : Nat} {D : Nat → Prop} {w w' : World} {N : Nat} {vm vp vq : Value} {C : Ctl} (h : CAt B w N vm vp vq C) (k : Only D w w') (hN : ¬ D N) (hm : Off D vm) (hp : Off D vp) (hq : Off D vq) : CAt B w' N vm vp vq C :=
  ⟨⟨h.inv.box.only k hN, h.inv.sm.only k hm, h.inv.sp.only k hp, h.inv.sq.only k hq, h.inv.nm, h.inv.np, h.inv.nq, h.inv.mq, h.inv.pq, h.inv.base⟩, fun b hb => Nat.lt_of_lt_of_le (h.lp b hb) k.size, fun b hb => Nat.lt_of_lt_of_le (h.lm b hb) k.size, h.ok⟩
theorem CellsM.only {D : Nat → Prop} {w w' : World} {b o : Nat} {m : Mot} (h : CellsM w b o m) (k : Only D w w') (hb : b < w.heap.size) (hd : ¬ D b) : CellsM w' b o m where
  c0 := by rw [k.cell (p := ⟨b, _, none⟩) hb hd]; exact h.c0
  c1 := by rw [k.cell (p := ⟨b, _, none⟩) hb hd]; exact h.c1
  c2 := by rw [k.cell (p := ⟨b, _, none⟩) hb hd]; exact h.c2
  c3 := by rw [k.cell (p := ⟨b, _, none⟩) hb hd]; exact h.c3
  c4 := by rw [k.cell (p := ⟨b, _, none⟩) hb hd]; exact h.c4
  c5 := by rw [k.cell (p := ⟨b, _, none⟩) hb hd]; exact h.c5
  c6 := by rw [k.cell (p := ⟨b, _, none⟩) hb hd]; exact h.c6
  c7 := by rw [k.cell (p := ⟨b, _, none⟩) hb hd]; exact h.c7
  c8 := by rw [k.cell (p := ⟨b, _, none⟩) hb hd]; exact h.c8
theorem off_one {G : Nat} {v : Value} (h : v.ownBlock ≠ some G) : Off (fun k => k = G) v := fun b hb e => h (by rw [hb, e])

end Go.Proofs.YtjibcnnbclcboaaGreatDoor

namespace Go.Proofs.YtjibcnnbclcboaaGreatDoor
open Go.RowKit
set_option maxRecDepth 8000

def rBeg (l : List Mot) (i : Nat) (p : Int × Int × Int) : Int × Int × Int := if i < l.length then (l.getD i Mot.zero).f3 else if 0 < l.length then (l.getD (l.length - 1) Mot.zero).t3 else p
def rRate (l : List Mot) : Nat → Int
  | 0 => 0
  | k + 1 => if (l.getD k Mot.zero).rate = 0 then rRate l k else (l.getD k Mot.zero).rate

/-- How many motions Rate looks at. -/
def rCount (l : List Mot) (i : Nat) : Nat := if i < l.length then i + 1 else l.length

end Go.Proofs.YtjibcnnbclcboaaGreatDoor

namespace Go.Proofs.YtjibcnnbclcboaaGreatDoor
open Go.RowKit
set_option maxRecDepth 8000

/-- The places of the way back. -/
def rPt (p b : Int × Int × Int) (safe : Int) : Nat → Int × Int × Int
  | 0 => (p.1, p.2.1, safe)
  | 1 => (b.1, b.2.1, safe)
  | 2 => (b.1, b.2.1, if b.2.2 < 1000 then 1000 else b.2.2)
  | _ => b
def rFrom (p b : Int × Int × Int) (safe : Int) : Nat → Int × Int × Int
  | 0 => p
  | k + 1 => rPt p b safe k
def rMot (p b : Int × Int × Int) (safe rate : Int) (m : Mot) (k : Nat) : Mot :=
  ⟨(rFrom p b safe k).1, (rFrom p b safe k).2.1, (rFrom p b safe k).2.2, (rPt p b safe k).1, (rPt p b safe k).2.1, (rPt p b safe k).2.2, if k = 3 then rate else 0, m.tool, m.block⟩
def rLegs (p b : Int × Int × Int) (safe rate : Int) (m : Mot) : Nat → List Mot
  | 0 => []
  | k + 1 => rLegs p b safe rate m k ++ (if eq3 (rFrom p b safe k) (rPt p b safe k) = true then [] else [rMot p b safe rate m k])

theorem rLegs_len (p b : Int × Int × Int) (safe rate : Int) (m : Mot) : ∀ k, (rLegs p b safe rate m k).length ≤ k
  | 0 => by simp [rLegs]
  | k + 1 => by
    have := rLegs_len p b safe rate m k
    unfold rLegs
    rw [List.length_append]
    split <;> simp <;> omega

def rLike (l : List Mot) (i : Nat) : Mot := l.getD (rCount l i - 1) Mot.zero

def rstE (l : List Mot) (i : Nat) (p : Int × Int × Int) (safe : Int) : Int :=
  if safe < p.2.2 ∨ safe < (rBeg l i p).2.2 ∨ safe < 1000 then 1
  else if eq3 p (rBeg l i p) = true then 0
  else if (rBeg l i p).2.2 < 1000 ∧ rRate l (rCount l i) = 0 then 13 else 0
def rstL (l : List Mot) (i : Nat) (p : Int × Int × Int) (safe : Int) : List Mot :=
  if safe < p.2.2 ∨ safe < (rBeg l i p).2.2 ∨ safe < 1000 then []
  else if eq3 p (rBeg l i p) = true then l.drop i
  else if (rBeg l i p).2.2 < 1000 ∧ rRate l (rCount l i) = 0 then [] else rLegs p (rBeg l i p) safe (rRate l (rCount l i)) (rLike l i) 4 ++ l.drop i

/-- A slice that was made behind a world. -/
def FreV (w : World) (v : Value) : Prop := CapV v ∧ ∀ b, v.ownBlock = some b → w.heap.size ≤ b
/-- What Restart hands back. -/
def RstPost (w : World) (L : List Mot) (c : Int) (e : Ending) (w' : World) : Prop := ∃ v, e = .returned (.tuple #[v, .int .i64 c]) ∧ SlM w' v L ∧ FreV w v ∧ Ext w w'

theorem capNil : CapV (.slice none 0 0) := fun a n c e => by cases e; omega
theorem OwnM.cap {B : Nat} {w : World} {v : Value} {l : List Mot} (h : OwnM B w v l) : CapV v := by
  intro a n c hv
  obtain ⟨h1, h2⟩ := h
  rcases h2 with ⟨rfl, h3⟩ | ⟨g, cap, cur, rfl, h3, h4, h5, h6⟩
  · cases hv; omega
  · cases hv; exact h5

theorem freNil (w : World) : FreV w (.slice none 0 0) := ⟨capNil, fun _ hb => by cases hb⟩
theorem OwnM.fre {B : Nat} {w w' : World} {v : Value} {l : List Mot} (h : OwnM B w' v l) (hB : w.heap.size ≤ B) : FreV w v := ⟨h.cap, fun _ hb => Nat.le_trans hB (h.base hb)⟩

theorem drop_getD (l : List Mot) (i k : Nat) : (l.drop i).getD k Mot.zero = l.getD (i + k) Mot.zero := by
  simp [List.getD, List.getElem?_drop]

/-- The slice from an index on. -/
theorem slice_from {w : World} {ad : Option Addr} {n cap : Nat} {l : List Mot} (h : SlM w (.slice ad n cap) l) (hc : n ≤ cap) (i : Nat) (hi : i ≤ n) :
    SlM w (Go.sliced ad i n cap 9) (l.drop i) := by
  obtain ⟨ad', n', cap', b, off, hv, hn, h3, h5, h4⟩ := h
  cases hv
  unfold Go.sliced
  by_cases hin : i < n
  · have e := h3.resolve_left (by omega)
    subst e
    rw [if_neg (by omega)]
    refine ⟨_, n - i, cap - i, b, off + i * 9, rfl, by rw [List.length_drop]; omega, .inr ?_, (fun h => by cases h), fun k hk => ?_⟩
    · show some ((⟨b, off, none⟩ : Addr).add (i * 9)) = _
      rw [Addr.add_none]
    · obtain ⟨p, q⟩ := h4 (i + k) (by omega)
      refine ⟨p, ?_⟩
      rw [drop_getD, show off + i * 9 + k * 9 = off + (i + k) * 9 by omega]
      exact q
  · have e : i = n := by omega
    subst e
    refine ⟨_, i - i, cap - i, 0, 0, rfl, by rw [List.length_drop]; omega, .inl (by omega), fun h => ?_, fun k hk => by omega⟩
    by_cases hci : cap = i
    · omega
    · rw [if_neg hci] at h
      cases ad with
      | none => have := h5 rfl; omega
      | some a => cases h

theorem Tryz.elem_mots : Tryz.prog.elem 33 = 49 := by kernel_rfl
theorem slice_run {ad : Option Addr} {n cap : Nat} (i : Nat) (hi : i ≤ n) (wx : World) :
    (Instr.slice 33 (.slice ad n cap) (some (.int .i64 (i : Int))) none none).run Tryz.prog wx = .ok (Go.sliced ad i n cap 9) wx := by
  obtain ⟨i0, hi0, hz0, hz1, hz2⟩ := info_parts Tryz.info_mot
  have := run_slice_l (P := Tryz.prog) (w := wx) 33 ad n cap (by rw [Tryz.elem_mots]; exact Tryz.underlying33) .i64 (i : Int) (by omega) (by omega)
  rw [this, Tryz.elem_mots]
  simp [sizeOf, typeInfo, hi0, hz1]

theorem slice_at {w : World} {ad : Option Addr} {n cap : Nat} {l : List Mot} (h : SlM w (.slice ad n cap) l) (hc : n ≤ cap) (i : Nat) (hi : i ≤ n) :
    ∃ a3 n3 c3, (∀ wx, (Instr.slice 33 (.slice ad n cap) (some (.int .i64 (i : Int))) none none).run Tryz.prog wx = .ok (.slice a3 n3 c3) wx) ∧ SlM w (.slice a3 n3 c3) (l.drop i) :=
  ⟨_, _, _, fun wx => slice_run i hi wx, slice_from h hc i hi⟩

end Go.Proofs.YtjibcnnbclcboaaGreatDoor

namespace Go.Proofs.YtjibcnnbclcboaaGreatDoor
open Go.RowKit
set_option maxRecDepth 8000
set_option maxRecDepth 8000

theorem M9Box.set_rate {W : World} {N : Nat} {m : Mot} (h : M9Box W N m) (r : Int) : M9Box (W.setCell ⟨N, 6, none⟩ (.int .i64 r)) N { m with rate := r } where
  c0 := by simp [go_sem, h.c0]
  c1 := by simp [go_sem, h.c1]
  c2 := by simp [go_sem, h.c2]
  c3 := by simp [go_sem, h.c3]
  c4 := by simp [go_sem, h.c4]
  c5 := by simp [go_sem, h.c5]
  c6 := by simp [go_sem, h.c6]
  c7 := by simp [go_sem, h.c7]
  c8 := by simp [go_sem, h.c8]
  f0 := by simpa using h.f0
  f1 := by simpa using h.f1
  f2 := by simpa using h.f2
  f3 := by simpa using h.f3
  f4 := by simpa using h.f4
  f5 := by simpa using h.f5
  f6 := by simpa using h.f6
  f7 := by simpa using h.f7
  f8 := by simpa using h.f8
  lt := by simpa using h.lt

/-- The places of the way back, in memory. -/
def TBox (W : World) (T : Nat) (p b : Int × Int × Int) (safe : Int) : Prop := T < W.heap.size ∧ ∀ k, k < 4 → W.cell? ⟨T, k * 3, none⟩ = some (.int .i64 (rPt p b safe k).1) ∧ W.cell? ⟨T, k * 3 + 1, none⟩ = some (.int .i64 (rPt p b safe k).2.1) ∧ W.cell? ⟨T, k * 3 + 2, none⟩ = some (.int .i64 (rPt p b safe k).2.2)
theorem TBox.mk' (w : World) (x y z bx bY bz safe mz : Int) (hm : (if bz < 1000 then 1000 else bz) = mz) : ∃ W : World, w.alloc (.cells #[.int .i64 x, .int .i64 y, .int .i64 safe, .int .i64 bx, .int .i64 bY, .int .i64 safe, .int .i64 bx, .int .i64 bY, .int .i64 mz, .int .i64 bx, .int .i64 bY, .int .i64 bz] 47) = W ∧ TBox W w.heap.size (x, y, z) (bx, bY, bz) safe ∧ Ext w W := by
  subst hm
  refine ⟨_, rfl, ⟨by simp, fun k hk => ?_⟩, (Ext.refl w).alloc _⟩
  match k, hk with
  | 0, _ => refine ⟨?_, ?_, ?_⟩ <;> simp [go_sem, rPt]
  | 1, _ => refine ⟨?_, ?_, ?_⟩ <;> simp [go_sem, rPt]
  | 2, _ => refine ⟨?_, ?_, ?_⟩ <;> simp [go_sem, rPt]
  | 3, _ => refine ⟨?_, ?_, ?_⟩ <;> simp [go_sem, rPt]
theorem TBox.only {D : Nat → Prop} {W W' : World} {T : Nat} {p b : Int × Int × Int} {safe : Int} (h : TBox W T p b safe) (k : Only D W W') (hd : ¬ D T) : TBox W' T p b safe :=
  ⟨Nat.lt_of_lt_of_le h.1 k.size, fun i hi => by
    obtain ⟨a, b, c⟩ := h.2 i hi
    exact ⟨by rw [k.cell (p := ⟨T, _, none⟩) h.1 hd]; exact a, by rw [k.cell (p := ⟨T, _, none⟩) h.1 hd]; exact b, by rw [k.cell (p := ⟨T, _, none⟩) h.1 hd]; exact c⟩⟩
theorem TBox.later {W W' : World} {T : Nat} {p b : Int × Int × Int} {safe : Int} (h : TBox W T p b safe) (k : Ext W W') : TBox W' T p b safe := h.only (D := fun _ => False) (Only.of_ext k) (fun h => h)

end Go.Proofs.YtjibcnnbclcboaaGreatDoor
