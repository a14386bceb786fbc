/-
  Resume, told exactly; a broken controller.
  Plain laws: the pieces lead through the ends of all motions.
  The law's model of a controller in memory.
  Walks: skip, rest, own of the law's model.
-/
import Derived.Test.YtfmjmabaabmgcaaQB12
namespace Go.Proofs.Ytfmjmabaabmgcaa
open Go.RowKit
set_option maxRecDepth 8000

set_option maxHeartbeats 1000000 in
theorem resume_exact {B : Nat} {w : World} {N : Nat} {vm vp vq : Value} {C : Ctl} (h : CInv B w N vm vp vq C) :
    Calls Try.prog 28 #[.pointer (some ⟨N, 0, none⟩)] w fun e w' => e = .returned (.tuple #[]) ∧ CInv B w' N vm vp vq { C with hd := false } ∧ Only (fun k => k = N) w w' := by
  have c9 := h.box.c9; have f9 := h.box.fr 9
  have hO : Only (fun k => k = N) w (w.setCell ⟨N, 9, none⟩ (.bool false)) := (Only.refl (fun k => k = N) w).set (.inl rfl) _
  have hI : CInv B (w.setCell ⟨N, 9, none⟩ (.bool false)) N vm vp vq { C with hd := false } := ⟨h.box.set_hd false, h.sm.only hO (fun b hb e => h.nm (by rw [hb, e])), h.sp.only hO (fun b hb e => h.np (by rw [hb, e])), h.sq.only hO (fun b hb e => h.nq (by rw [hb, e])), h.nm, h.np, h.nq, h.mq, h.pq, h.base⟩
  have HI := Lib.hid hI; have HO := Lib.hid hO
  clear hI hO h
  go_enter Try.func28, Try.ntmps28
  go_wp2
  go_end0
  exact ⟨rfl, HI.out, HO.out⟩

theorem resume_held {B : Nat} {w : World} {N : Nat} {vm vp vq : Value} {C : Ctl} (h : CAt B w N vm vp vq C) (hh : C.hd = false) :
    Calls Try.prog 28 #[.pointer (some ⟨N, 0, none⟩)] w fun e w' => e = .returned (.tuple #[]) ∧ CAt B w' N vm vp vq C ∧ Only (fun k => k = N) w w' := by
  refine (resume_exact h.inv).mono ?_
  rintro e w' ⟨he, hI, hO⟩
  have e2 : { C with hd := false } = C := by cases C; simp only at hh; subst hh; rfl
  rw [e2] at hI
  exact ⟨he, ⟨hI, fun b hb => Nat.lt_of_lt_of_le (h.lp b hb) hO.size, fun b hb => Nat.lt_of_lt_of_le (h.lm b hb) hO.size, h.ok⟩, hO⟩

theorem P3Box.only {D : Nat → Prop} {W W' : World} {N : Nat} {x y z : Int} (h : P3Box W N x y z) (k : Only D W W') (hd : ¬ D N) : P3Box W' N x y z := by
  obtain ⟨c0, c1, c2, f0, f1, f2⟩ := h.at
  exact P3Box.of (Nat.lt_of_lt_of_le h.lt k.size) (by rw [k.cell h.lt hd]; exact c0) (by rw [k.cell h.lt hd]; exact c1) (by rw [k.cell h.lt hd]; exact c2) (by rw [k.frozen h.lt hd]; exact f0) (by rw [k.frozen h.lt hd]; exact f1) (by rw [k.frozen h.lt hd]; exact f2)

theorem brkC_props {C : Ctl} (hb : C.bk = false) : C.brkC.bk = true ∧ C.brkC.hd = false ∧ C.brkC.pos = C.brkC.plan.length := by
  unfold Ctl.brkC
  rw [if_neg (by simp [hb])]
  exact ⟨rfl, rfl, rfl⟩
theorem doneL_len (C : Ctl) : C.doneL.length ≤ C.ps.length + 1 := by
  unfold Ctl.doneL
  split
  · simp
  · omega

end Go.Proofs.Ytfmjmabaabmgcaa

namespace Go.Proofs.Ytfmjmabaabmgcaa
open Go.RowKit

theorem half_zero (n : Int) (h : 1 ≤ n) : n / (2 * n) = 0 := Int.ediv_eq_zero_of_lt (by omega) (by omega)
theorem btw_zero (a b n : Int) (h : 1 ≤ n) : btw a b 0 n = a := by
  unfold btw; rw [Int.mul_zero, Int.zero_add, half_zero n h]; omega
theorem btw_full (a b n : Int) (h : 1 ≤ n) : btw a b n n = b := by
  unfold btw
  have : 2 * (b - a) * n + n = n + (b - a) * (2 * n) := by rw [Int.mul_comm 2 (b - a), Int.mul_assoc]; omega
  rw [this, Int.add_mul_ediv_right _ _ (by omega), half_zero n h]; omega
theorem btw_up (a b p q n : Int) (h : 1 ≤ n) (hb : 0 ≤ b - a) (hp : p ≤ q) : btw a b p n ≤ btw a b q n := by
  unfold btw
  have h1 : 2 * (b - a) * p ≤ 2 * (b - a) * q := Int.mul_le_mul_of_nonneg_left hp (by omega)
  have := Int.ediv_le_ediv (show 0 < 2 * n by omega) (show 2 * (b - a) * p + n ≤ 2 * (b - a) * q + n by omega)
  omega
theorem btw_down (a b p q n : Int) (h : 1 ≤ n) (hb : b - a ≤ 0) (hp : p ≤ q) : btw a b q n ≤ btw a b p n := by
  unfold btw
  have h1 : -(2 * (b - a)) * p ≤ -(2 * (b - a)) * q := Int.mul_le_mul_of_nonneg_left hp (by omega)
  rw [Int.neg_mul, Int.neg_mul] at h1
  have := Int.ediv_le_ediv (show 0 < 2 * n by omega) (show 2 * (b - a) * q + n ≤ 2 * (b - a) * p + n by omega)
  omega

/-- The position of a motion at a part of its length. -/
def Mot.pos (m : Mot) (p : Int) : Int × Int × Int := (btw m.fx m.tx p m.len, btw m.fy m.ty p m.len, btw m.fz m.tz p m.len)
def Mot.f3 (m : Mot) : Int × Int × Int := (m.fx, m.fy, m.fz)
def Mot.t3 (m : Mot) : Int × Int × Int := (m.tx, m.ty, m.tz)

theorem Mot.pos_zero {m : Mot} (h : 1 ≤ m.len) : m.pos 0 = m.f3 := by
  unfold Mot.pos Mot.f3; rw [btw_zero _ _ _ h, btw_zero _ _ _ h, btw_zero _ _ _ h]
theorem Mot.pos_full {m : Mot} (h : 1 ≤ m.len) : m.pos m.len = m.t3 := by
  unfold Mot.pos Mot.t3; rw [btw_full _ _ _ h, btw_full _ _ _ h, btw_full _ _ _ h]
theorem btw_reached {a b p q n : Int} (h : 1 ≤ n) (hp : p ≤ q) (hq : q ≤ n) (he : btw a b p n = b) : btw a b q n = b := by
  by_cases hb : 0 ≤ b - a
  · have h1 := btw_up a b p q n h hb hp
    have h2 := btw_up a b q n n h hb hq
    rw [btw_full a b n h] at h2
    omega
  · have h1 := btw_down a b p q n h (by omega) hp
    have h2 := btw_down a b q n n h (by omega) hq
    rw [btw_full a b n h] at h2
    omega
/-- Once at the end, it stays there. -/
theorem Mot.pos_reached {m : Mot} {p q : Int} (h : 1 ≤ m.len) (hp : p ≤ q) (hq : q ≤ m.len) (he : m.pos p = m.t3) : m.pos q = m.t3 := by
  unfold Mot.pos Mot.t3 at *
  simp only [Prod.mk.injEq] at *
  exact ⟨btw_reached h hp hq he.1, btw_reached h hp hq he.2.1, btw_reached h hp hq he.2.2⟩

theorem sq_zero {x : Int} (h : x * x ≤ 0) : x = 0 := by
  rcases Int.lt_trichotomy x 0 with h1 | h1 | h1
  · have := Int.mul_pos_of_neg_of_neg h1 h1; omega
  · exact h1
  · have := Int.mul_pos h1 h1; omega
theorem sq_nonneg' (x : Int) : 0 ≤ x * x := by
  rcases Int.lt_trichotomy x 0 with h1 | h1 | h1
  · exact Int.le_of_lt (Int.mul_pos_of_neg_of_neg h1 h1)
  · subst h1; decide
  · exact Int.le_of_lt (Int.mul_pos h1 h1)
/-- A motion without length ends where it begins. -/
theorem Mot.flat {m : Mot} (hr : m.rng) (h : m.len = 0) : m.f3 = m.t3 := by
  obtain ⟨n0, n1, _⟩ := Mot.len_is hr
  rw [h] at n1
  unfold Mot.sq at n1
  have a := sq_nonneg' (m.tx - m.fx)
  have b := sq_nonneg' (m.ty - m.fy)
  have c := sq_nonneg' (m.tz - m.fz)
  have x := sq_zero (show (m.tx - m.fx) * (m.tx - m.fx) ≤ 0 by omega)
  have y := sq_zero (show (m.ty - m.fy) * (m.ty - m.fy) ≤ 0 by omega)
  have z := sq_zero (show (m.tz - m.fz) * (m.tz - m.fz) ≤ 0 by omega)
  unfold Mot.f3 Mot.t3
  rw [show m.fx = m.tx by omega, show m.fy = m.ty by omega, show m.fz = m.tz by omega]

/-- A piece of a motion. -/
def pieceOf (m p : Mot) (a : Int × Int × Int) : Bool := decide (p.f3 = a) && decide (p.rate = m.rate) && decide (p.tool = m.tool) && decide (p.block = m.block)
/-- The pieces of a motion are taken off a list. -/
def chain (m : Mot) : Int × Int × Int → List Mot → Option (List Mot)
  | a, [] => if a = m.t3 then some [] else none
  | a, p :: d => if a = m.t3 then some (p :: d) else if pieceOf m p a = true then chain m p.t3 d else none
def thru : List Mot → List Mot → Option (List Mot)
  | [], d => some d
  | m :: ms, d => (chain m m.f3 d).bind (thru ms)

/-- The pieces lead on from a place to another one, and the motion's end comes last. -/
inductive Part (m : Mot) : Int × Int × Int → List Mot → Int × Int × Int → Prop
  | nil (a) : Part m a [] a
  | cons {a b p d} : a ≠ m.t3 → pieceOf m p a = true → Part m p.t3 d b → Part m a (p :: d) b

theorem Part.snoc {m : Mot} {a b : Int × Int × Int} {d : List Mot} (h : Part m a d b) {p : Mot} (hb : b ≠ m.t3) (hp : pieceOf m p b = true) : Part m a (d ++ [p]) p.t3 := by
  induction h with
  | nil a => exact .cons hb hp (.nil _)
  | cons h1 h2 _ ih => exact .cons h1 h2 (ih hb hp)
theorem Part.chain {m : Mot} {a : Int × Int × Int} {d : List Mot} {b : Int × Int × Int} (h : Part m a d b) (hb : b = m.t3) (r : List Mot) : Go.Proofs.Ytfmjmabaabmgcaa.chain m a (d ++ r) = some r := by
  induction h with
  | nil a =>
    rw [List.nil_append]
    cases r with
    | nil => unfold Go.Proofs.Ytfmjmabaabmgcaa.chain; rw [if_pos hb]
    | cons p d => unfold Go.Proofs.Ytfmjmabaabmgcaa.chain; rw [if_pos hb]
  | cons h1 h2 _ ih =>
    rw [List.cons_append]
    unfold Go.Proofs.Ytfmjmabaabmgcaa.chain
    rw [if_neg h1, if_pos h2]
    exact ih hb

/-- The pieces lead through the motions. -/
def Thru (ms d : List Mot) : Prop := ∀ r, thru ms (d ++ r) = some r
theorem Thru.nil : Thru [] [] := fun _ => rfl
theorem thru_append : ∀ (a b d : List Mot), thru (a ++ b) d = (thru a d).bind (thru b)
  | [], b, d => rfl
  | m :: a, b, d => by
    show (chain m m.f3 d).bind (thru (a ++ b)) = ((chain m m.f3 d).bind (thru a)).bind (thru b)
    cases chain m m.f3 d with
    | none => rfl
    | some d' => exact thru_append a b d'
theorem Thru.snoc {ms d e : List Mot} {m : Mot} (h : Thru ms d) (hc : Part m m.f3 e m.t3) : Thru (ms ++ [m]) (d ++ e) := fun r => by
  rw [thru_append, List.append_assoc, h]
  show (chain m m.f3 (e ++ r)).bind (thru []) = some r
  rw [hc.chain rfl]
  rfl
theorem Thru.flat {ms d : List Mot} {m : Mot} (h : Thru ms d) (hc : m.f3 = m.t3) : Thru (ms ++ [m]) d := by
  have := h.snoc (m := m) (e := []) (by rw [← hc]; exact .nil _)
  rwa [List.append_nil] at this

theorem take_succ_getD {l : List Mot} {i : Nat} (h : i < l.length) : l.take (i + 1) = l.take i ++ [l.getD i Mot.zero] := by
  rw [List.take_succ_eq_append_getElem h]
  simp [h]

/-- Motions without length are passed over. -/
theorem Thru.skip {l d : List Mot} (hr : ∀ i, i < l.length → (l.getD i Mot.zero).rng) : ∀ (j i : Nat), i ≤ j → j ≤ l.length → (∀ k, i ≤ k → k < j → (l.getD k Mot.zero).len = 0) → Thru (l.take i) d → Thru (l.take j) d
  | 0, i, h, _, _, ht => by have : i = 0 := by omega
                            subst this; exact ht
  | j + 1, i, h, hj, hz, ht => by
    rcases Nat.lt_or_ge i (j + 1) with h1 | h1
    · have h2 := Thru.skip hr j i (by omega) (by omega) (fun k a b => hz k a (by omega)) ht
      rw [take_succ_getD (by omega)]
      exact h2.flat (Mot.flat (hr j (by omega)) (hz j (by omega) (by omega)))
    · have : i = j + 1 := by omega
      subst this; exact ht

/-- The motions are connected. -/
def Conn (l : List Mot) : Prop := ∀ i, i + 1 < l.length → (l.getD i Mot.zero).t3 = (l.getD (i + 1) Mot.zero).f3
theorem conn_of {l : List Mot} (h : conn l = 0) : Conn l := fun i hi => by
  have := goodTo_at (conn_zero h).1 (i + 1) hi
  unfold goodAt at this
  simp only [Bool.and_eq_true, Bool.or_eq_true, Bool.not_eq_true', decide_eq_false_iff_not, Nat.add_sub_cancel] at this
  rcases this.2 with h1 | h1
  · omega
  · unfold eqP at h1
    simp only [decide_eq_true_eq] at h1
    unfold Mot.t3 Mot.f3
    rw [h1.1, h1.2.1, h1.2.2]
/-- Behind motions without length one stands where they began. -/
theorem conn_skip {l : List Mot} (hc : Conn l) (hr : ∀ i, i < l.length → (l.getD i Mot.zero).rng) {p : Int × Int × Int} : ∀ (j i : Nat), i ≤ j → j < l.length → (∀ k, i ≤ k → k < j → (l.getD k Mot.zero).len = 0) → p = (l.getD i Mot.zero).f3 → p = (l.getD j Mot.zero).f3
  | 0, i, h, _, _, ht => by have : i = 0 := by omega
                            subst this; exact ht
  | j + 1, i, h, hj, hz, ht => by
    rcases Nat.lt_or_ge i (j + 1) with h1 | h1
    · have h2 := conn_skip hc hr j i (by omega) (by omega) (fun k a b => hz k a (by omega)) ht
      rw [h2, Mot.flat (hr j (by omega)) (hz j (by omega) (by omega))]
      exact hc j hj
    · have : i = j + 1 := by omega
      subst this; exact ht

/-- Where the pieces stand. -/
structure Ctl.Led (C : Ctl) : Prop where
  cn : Conn C.ms
  led : ∃ pre cp, C.ps = pre ++ cp ∧ Thru (C.ms.take C.idx) pre ∧ (C.idx < C.ms.length → Part C.cur C.cur.f3 cp C.last3 ∧ ∃ q, 0 ≤ q ∧ q ≤ C.part ∧ C.last3 = C.cur.pos q) ∧ (¬ C.idx < C.ms.length → cp = [])

theorem at3_cur {C : Ctl} (h : C.idx < C.ms.length) : C.at3 = C.cur.pos C.part := by
  unfold Ctl.at3
  rw [if_neg (by omega), if_neg (by omega)]
  rfl

theorem stopd_led {C : Ctl} (hb : C.Base) (h : C.Led) (hi : C.idx < C.ms.length) (p0 : 0 ≤ C.part) (p1 : C.part ≤ C.cur.len) (p2 : 1 ≤ C.cur.len) : C.stopd.Led := by
  obtain ⟨cn, pre, cp, e, ht, hcur, _⟩ := h
  obtain ⟨hpart, q, q0, q1, hq⟩ := hcur hi
  have hat := at3_cur hi
  -- the pieces of the motion
  obtain ⟨cp', hps, hp'⟩ : ∃ cp', C.psAdd = pre ++ cp' ∧ Part C.cur C.cur.f3 cp' C.at3 := by
    unfold Ctl.psAdd
    by_cases he : eq3 C.last3 C.at3 = true
    · rw [if_pos he]
      exact ⟨cp, e, by rw [← eq3_iff.1 he]; exact hpart⟩
    · rw [if_neg he, e]
      refine ⟨cp ++ [C.cur.way C.last3 C.at3], List.append_assoc _ _ _, ?_⟩
      have hne : C.last3 ≠ C.cur.t3 := fun hx => he (eq3_iff.2 (by rw [hx, hat, Mot.pos_reached p2 q1 p1 (by rw [← hq]; exact hx)]))
      exact hpart.snoc hne (by simp [pieceOf, Mot.way, Mot.f3])
  have hst : C.stopd.last3 = C.at3 := rfl
  have hms : C.stopd.ms = C.ms := rfl
  have hpp : C.stopd.ps = C.psAdd := rfl
  by_cases h0 : C.cur.len - C.part = 0
  · have e1 : C.stopd.idx = skp C.ms (C.idx + 1) := by unfold Ctl.stopd; simp only; rw [if_pos h0]
    have e2 : C.stopd.part = 0 := by unfold Ctl.stopd; simp only; rw [if_pos h0]
    have hs := skp_le (ms := C.ms) (i := C.idx + 1) (by omega)
    have hfull : C.at3 = C.cur.t3 := by rw [hat, show C.part = C.cur.len by omega]; exact Mot.pos_full p2
    have hT1 : Thru (C.ms.take (C.idx + 1)) (pre ++ cp') := by
      rw [take_succ_getD hi]
      exact ht.snoc (by have := hp'; rw [hfull] at this; exact this)
    have hT2 := Thru.skip hb.rng _ _ hs.1 hs.2 (fun k a b => skp_between a b) hT1
    refine ⟨cn, pre ++ cp', [], ?_, ?_, ?_, fun _ => rfl⟩
    · rw [hpp, hps, List.append_nil]
    · rw [hms, e1]; exact hT2
    · intro hlt
      rw [hms, e1] at hlt
      have hl1 : 1 ≤ (C.ms.getD (skp C.ms (C.idx + 1)) Mot.zero).len := by
        have h1 := skp_pos hlt; have h2 := hb.len0 hlt; omega
      have hcu : C.stopd.cur = C.ms.getD (skp C.ms (C.idx + 1)) Mot.zero := by unfold Ctl.cur; rw [hms, e1]
      have hfrom : C.at3 = (C.ms.getD (skp C.ms (C.idx + 1)) Mot.zero).f3 := by
        refine conn_skip cn hb.rng _ (C.idx + 1) hs.1 hlt (fun k a b => skp_between a b) ?_
        rw [hfull]
        exact cn C.idx (by omega)
      rw [hst, hcu, e2]
      exact ⟨by rw [hfrom]; exact .nil _, 0, Int.le_refl _, Int.le_refl _, by rw [hfrom, Mot.pos_zero hl1]⟩
  · have e1 : C.stopd.idx = C.idx := by unfold Ctl.stopd; simp only; rw [if_neg h0]
    have e2 : C.stopd.part = C.part := by unfold Ctl.stopd; simp only; rw [if_neg h0]
    have hcu : C.stopd.cur = C.cur := by unfold Ctl.cur; rw [hms, e1]
    refine ⟨cn, pre, cp', ?_, ?_, ?_, ?_⟩
    · rw [hpp]; exact hps
    · rw [hms, e1]; exact ht
    · intro _
      rw [hst, hcu, e2]
      exact ⟨hp', C.part, p0, Int.le_refl _, hat⟩
    · intro hx; rw [hms, e1] at hx; exact absurd hi hx

theorem advd_led {C : Ctl} (hp : C.Pre) (h : C.Led) : C.advd.Led := by
  have hs := sum_drop hp.run
  have hg := getD_pos hp.pos hp.run
  have hd0 := sum_nonneg' (drop_pos hp.pos (C.pos + 1))
  have h1 := hp.sum
  have h2 := hp.p0
  have hl : Ctl.Led { C with part := C.part + C.plan.getD C.pos 0, pos := C.pos + 1 } := by
    obtain ⟨cn, pre, cp, e, ht, hcur, hx⟩ := h
    refine ⟨cn, pre, cp, e, ht, fun hi => ?_, hx⟩
    obtain ⟨hpart, q, q0, q1, hq⟩ := hcur hi
    exact ⟨hpart, q, q0, by show q ≤ C.part + C.plan.getD C.pos 0; omega, hq⟩
  unfold Ctl.advd
  split
  · refine stopd_led ⟨hp.vl, hp.n, hp.rng, hp.rate, hp.stp⟩ hl hp.lt ?_ ?_ ?_
    · show 0 ≤ C.part + C.plan.getD C.pos 0; omega
    · show C.part + C.plan.getD C.pos 0 ≤ C.cur.len; omega
    · show 1 ≤ C.cur.len; omega
  · exact hl

theorem tick_led {C : Ctl} (ho : C.Ok) (h : C.Led) : C.tickC.Led := by
  unfold Ctl.tickC
  split
  · rename_i ht
    have hi : C.idx < C.ms.length := by
      unfold Ctl.tickB at ht
      simp only [Bool.and_eq_true, decide_eq_true_eq] at ht
      exact ht.1.2
    split
    · exact advd_led (ho.pre_start hi) ⟨h.cn, h.led⟩
    · rename_i hp; exact advd_led (ho.pre_run hp) h
  · exact h

theorem hold_led {C : Ctl} (ho : C.Ok) (h : C.Led) : C.holdC.Led := by
  unfold Ctl.holdC
  split
  · exact h
  · split
    · exact ⟨h.cn, h.led⟩
    · rename_i hc
      have hp : C.pos ≠ C.plan.length := fun e => hc (.inl e)
      have hn : C.plan ≠ [] := fun e => hp (by rw [ho.rest e, e]; rfl)
      obtain ⟨r1, r2⟩ := ho.run hn
      have q0 := ho.p0 r1
      have q1 := ho.p1 r1
      split
      · split
        · refine stopd_led ⟨ho.vl, ho.n, ho.rng, ho.rate, ho.stp⟩ ⟨h.cn, h.led⟩ r1 q0 (Int.le_of_lt q1) ?_
          show 1 ≤ C.cur.len; omega
        · exact ⟨h.cn, h.led⟩
      · exact ⟨h.cn, h.led⟩

theorem new_led {l : List Mot} {s a j : Int} (hc : Conn l) (hr : ∀ i, i < l.length → (l.getD i Mot.zero).rng) : (Ctl.new l s a j).Led := by
  have hs := skp_le (ms := l) (i := 0) (by omega)
  refine ⟨hc, [], [], rfl, ?_, fun hlt => ?_, fun _ => rfl⟩
  · exact Thru.skip (l := l) hr (skp l 0) 0 hs.1 hs.2 (fun k a b => skp_between a b) (by rw [List.take_zero]; exact Thru.nil)
  · have hlt : skp l 0 < l.length := hlt
    have hl1 : 1 ≤ (l.getD (skp l 0) Mot.zero).len := by
      have h1 := skp_pos (ms := l) (i := 0) hlt; have h2 := Mot.len_bounds (hr _ hlt); omega
    have hfrom : (l.getD 0 Mot.zero).f3 = (l.getD (skp l 0) Mot.zero).f3 := conn_skip hc hr _ 0 hs.1 hlt (fun k a b => skp_between a b) rfl
    show Part (l.getD (skp l 0) Mot.zero) (l.getD (skp l 0) Mot.zero).f3 [] (l.getD 0 Mot.zero).f3 ∧ ∃ q, 0 ≤ q ∧ q ≤ (0 : Int) ∧ (l.getD 0 Mot.zero).f3 = (l.getD (skp l 0) Mot.zero).pos q
    rw [hfrom]
    exact ⟨.nil _, 0, Int.le_refl _, Int.le_refl _, (Mot.pos_zero hl1).symm⟩

theorem led_done {C : Ctl} (h : C.Led) (hi : C.idx = C.ms.length) : thru C.ms C.doneL = some [] := by
  obtain ⟨cn, pre, cp, e, ht, _, hx⟩ := h
  have hcp := hx (by omega)
  have hd : C.doneL = C.ps := by
    unfold Ctl.doneL Ctl.pieceB
    rw [if_neg]
    rw [decide_eq_false (by omega), Bool.false_and]
    exact fun h => by cases h.1
  rw [hd, e, hcp, List.append_nil]
  have := ht []
  rw [List.append_nil, hi, List.take_length] at this
  exact this

end Go.Proofs.Ytfmjmabaabmgcaa

namespace Go.Proofs.Ytfmjmabaabmgcaa
open Go.RowKit
set_option maxRecDepth 8000

/-- The law's model. -/
structure Mdl where
  ms : List Mot
  s : Int
  a : Int
  j : Int
  idx : Nat
  part : Int
  plan : List Int
  bef : Int
  lst : Int
  hd : Bool
  br : Bool
  bk : Bool
  ok : Bool
  bx : Int
  byy : Int
  bz : Int
  dn : List Mot

/-- The model's cells at the block N. -/
structure GBox (w : World) (N : Nat) (vl vp vd : Value) (C : Mdl) : Prop where
  lt : N < w.heap.size
  c0 : w.cell? ⟨N, 0, none⟩ = some vl
  c1 : w.cell? ⟨N, 1, none⟩ = some (.int .i64 C.s)
  c2 : w.cell? ⟨N, 2, none⟩ = some (.int .i64 C.a)
  c3 : w.cell? ⟨N, 3, none⟩ = some (.int .i64 C.j)
  c4 : w.cell? ⟨N, 4, none⟩ = some (.int .i64 ((C.idx : Nat) : Int))
  c5 : w.cell? ⟨N, 5, none⟩ = some (.int .i64 C.part)
  c6 : w.cell? ⟨N, 6, none⟩ = some vp
  c7 : w.cell? ⟨N, 7, none⟩ = some (.int .i64 C.bef)
  c8 : w.cell? ⟨N, 8, none⟩ = some (.int .i64 C.lst)
  c9 : w.cell? ⟨N, 9, none⟩ = some (.bool C.hd)
  c10 : w.cell? ⟨N, 10, none⟩ = some (.bool C.br)
  c11 : w.cell? ⟨N, 11, none⟩ = some (.bool C.bk)
  c12 : w.cell? ⟨N, 12, none⟩ = some (.bool C.ok)
  c13 : w.cell? ⟨N, 13, none⟩ = some (.int .i64 C.bx)
  c14 : w.cell? ⟨N, 14, none⟩ = some (.int .i64 C.byy)
  c15 : w.cell? ⟨N, 15, none⟩ = some (.int .i64 C.bz)
  c16 : w.cell? ⟨N, 16, none⟩ = some vd
  fr : ∀ k, w.frozen? ⟨N, k, none⟩ = false

theorem GBox.only {D : Nat → Prop} {w w' : World} {N : Nat} {vl vp vd : Value} {C : Mdl} (h : GBox w N vl vp vd C) (k : Only D w w') (hd : ¬ D N) : GBox w' N vl vp vd C where
  lt := Nat.lt_of_lt_of_le h.lt k.size
  c0 := by rw [k.cell h.lt hd]; exact h.c0
  c1 := by rw [k.cell h.lt hd]; exact h.c1
  c2 := by rw [k.cell h.lt hd]; exact h.c2
  c3 := by rw [k.cell h.lt hd]; exact h.c3
  c4 := by rw [k.cell h.lt hd]; exact h.c4
  c5 := by rw [k.cell h.lt hd]; exact h.c5
  c6 := by rw [k.cell h.lt hd]; exact h.c6
  c7 := by rw [k.cell h.lt hd]; exact h.c7
  c8 := by rw [k.cell h.lt hd]; exact h.c8
  c9 := by rw [k.cell h.lt hd]; exact h.c9
  c10 := by rw [k.cell h.lt hd]; exact h.c10
  c11 := by rw [k.cell h.lt hd]; exact h.c11
  c12 := by rw [k.cell h.lt hd]; exact h.c12
  c13 := by rw [k.cell h.lt hd]; exact h.c13
  c14 := by rw [k.cell h.lt hd]; exact h.c14
  c15 := by rw [k.cell h.lt hd]; exact h.c15
  c16 := by rw [k.cell h.lt hd]; exact h.c16
  fr := fun r => by rw [k.frozen h.lt hd]; exact h.fr r
theorem GBox.later {w w' : World} {N : Nat} {vl vp vd : Value} {C : Mdl} (h : GBox w N vl vp vd C) (k : Ext w w') : GBox w' N vl vp vd C := h.only (D := fun _ => False) (Only.of_ext k) (fun h => h)

theorem GBox.set_idx {w : World} {N : Nat} {vl vp vd : Value} {C : Mdl} (h : GBox w N vl vp vd C) (x : Nat) : GBox (w.setCell ⟨N, 4, none⟩ (.int .i64 ((x : Nat) : Int))) N vl vp vd { C with idx := x } where
  lt := by simpa using h.lt
  c0 := cell_set_off _ _ (by decide) h.c0
  c1 := cell_set_off _ _ (by decide) h.c1
  c2 := cell_set_off _ _ (by decide) h.c2
  c3 := cell_set_off _ _ (by decide) h.c3
  c4 := by simp [go_sem, h.c4]
  c5 := cell_set_off _ _ (by decide) h.c5
  c6 := cell_set_off _ _ (by decide) h.c6
  c7 := cell_set_off _ _ (by decide) h.c7
  c8 := cell_set_off _ _ (by decide) h.c8
  c9 := cell_set_off _ _ (by decide) h.c9
  c10 := cell_set_off _ _ (by decide) h.c10
  c11 := cell_set_off _ _ (by decide) h.c11
  c12 := cell_set_off _ _ (by decide) h.c12
  c13 := cell_set_off _ _ (by decide) h.c13
  c14 := cell_set_off _ _ (by decide) h.c14
  c15 := cell_set_off _ _ (by decide) h.c15
  c16 := cell_set_off _ _ (by decide) h.c16
  fr := fun r => by simpa using h.fr r
theorem GBox.set_part {w : World} {N : Nat} {vl vp vd : Value} {C : Mdl} (h : GBox w N vl vp vd C) (x : Int) : GBox (w.setCell ⟨N, 5, none⟩ (.int .i64 x)) N vl vp vd { C with part := x } where
  lt := by simpa using h.lt
  c0 := cell_set_off _ _ (by decide) h.c0
  c1 := cell_set_off _ _ (by decide) h.c1
  c2 := cell_set_off _ _ (by decide) h.c2
  c3 := cell_set_off _ _ (by decide) h.c3
  c4 := cell_set_off _ _ (by decide) h.c4
  c5 := by simp [go_sem, h.c5]
  c6 := cell_set_off _ _ (by decide) h.c6
  c7 := cell_set_off _ _ (by decide) h.c7
  c8 := cell_set_off _ _ (by decide) h.c8
  c9 := cell_set_off _ _ (by decide) h.c9
  c10 := cell_set_off _ _ (by decide) h.c10
  c11 := cell_set_off _ _ (by decide) h.c11
  c12 := cell_set_off _ _ (by decide) h.c12
  c13 := cell_set_off _ _ (by decide) h.c13
  c14 := cell_set_off _ _ (by decide) h.c14
  c15 := cell_set_off _ _ (by decide) h.c15
  c16 := cell_set_off _ _ (by decide) h.c16
  fr := fun r => by simpa using h.fr r
theorem GBox.set_vp {w : World} {N : Nat} {vl vp vd : Value} {C : Mdl} (h : GBox w N vl vp vd C) (v : Value) (x : List Int) : GBox (w.setCell ⟨N, 6, none⟩ (v)) N vl v vd { C with plan := x } where
  lt := by simpa using h.lt
  c0 := cell_set_off _ _ (by decide) h.c0
  c1 := cell_set_off _ _ (by decide) h.c1
  c2 := cell_set_off _ _ (by decide) h.c2
  c3 := cell_set_off _ _ (by decide) h.c3
  c4 := cell_set_off _ _ (by decide) h.c4
  c5 := cell_set_off _ _ (by decide) h.c5
  c6 := by simp [go_sem, h.c6]
  c7 := cell_set_off _ _ (by decide) h.c7
  c8 := cell_set_off _ _ (by decide) h.c8
  c9 := cell_set_off _ _ (by decide) h.c9
  c10 := cell_set_off _ _ (by decide) h.c10
  c11 := cell_set_off _ _ (by decide) h.c11
  c12 := cell_set_off _ _ (by decide) h.c12
  c13 := cell_set_off _ _ (by decide) h.c13
  c14 := cell_set_off _ _ (by decide) h.c14
  c15 := cell_set_off _ _ (by decide) h.c15
  c16 := cell_set_off _ _ (by decide) h.c16
  fr := fun r => by simpa using h.fr r
theorem GBox.set_bef {w : World} {N : Nat} {vl vp vd : Value} {C : Mdl} (h : GBox w N vl vp vd C) (x : Int) : GBox (w.setCell ⟨N, 7, none⟩ (.int .i64 x)) N vl vp vd { C with bef := x } where
  lt := by simpa using h.lt
  c0 := cell_set_off _ _ (by decide) h.c0
  c1 := cell_set_off _ _ (by decide) h.c1
  c2 := cell_set_off _ _ (by decide) h.c2
  c3 := cell_set_off _ _ (by decide) h.c3
  c4 := cell_set_off _ _ (by decide) h.c4
  c5 := cell_set_off _ _ (by decide) h.c5
  c6 := cell_set_off _ _ (by decide) h.c6
  c7 := by simp [go_sem, h.c7]
  c8 := cell_set_off _ _ (by decide) h.c8
  c9 := cell_set_off _ _ (by decide) h.c9
  c10 := cell_set_off _ _ (by decide) h.c10
  c11 := cell_set_off _ _ (by decide) h.c11
  c12 := cell_set_off _ _ (by decide) h.c12
  c13 := cell_set_off _ _ (by decide) h.c13
  c14 := cell_set_off _ _ (by decide) h.c14
  c15 := cell_set_off _ _ (by decide) h.c15
  c16 := cell_set_off _ _ (by decide) h.c16
  fr := fun r => by simpa using h.fr r
theorem GBox.set_lst {w : World} {N : Nat} {vl vp vd : Value} {C : Mdl} (h : GBox w N vl vp vd C) (x : Int) : GBox (w.setCell ⟨N, 8, none⟩ (.int .i64 x)) N vl vp vd { C with lst := x } where
  lt := by simpa using h.lt
  c0 := cell_set_off _ _ (by decide) h.c0
  c1 := cell_set_off _ _ (by decide) h.c1
  c2 := cell_set_off _ _ (by decide) h.c2
  c3 := cell_set_off _ _ (by decide) h.c3
  c4 := cell_set_off _ _ (by decide) h.c4
  c5 := cell_set_off _ _ (by decide) h.c5
  c6 := cell_set_off _ _ (by decide) h.c6
  c7 := cell_set_off _ _ (by decide) h.c7
  c8 := by simp [go_sem, h.c8]
  c9 := cell_set_off _ _ (by decide) h.c9
  c10 := cell_set_off _ _ (by decide) h.c10
  c11 := cell_set_off _ _ (by decide) h.c11
  c12 := cell_set_off _ _ (by decide) h.c12
  c13 := cell_set_off _ _ (by decide) h.c13
  c14 := cell_set_off _ _ (by decide) h.c14
  c15 := cell_set_off _ _ (by decide) h.c15
  c16 := cell_set_off _ _ (by decide) h.c16
  fr := fun r => by simpa using h.fr r
theorem GBox.set_hd {w : World} {N : Nat} {vl vp vd : Value} {C : Mdl} (h : GBox w N vl vp vd C) (x : Bool) : GBox (w.setCell ⟨N, 9, none⟩ (.bool x)) N vl vp vd { C with hd := x } where
  lt := by simpa using h.lt
  c0 := cell_set_off _ _ (by decide) h.c0
  c1 := cell_set_off _ _ (by decide) h.c1
  c2 := cell_set_off _ _ (by decide) h.c2
  c3 := cell_set_off _ _ (by decide) h.c3
  c4 := cell_set_off _ _ (by decide) h.c4
  c5 := cell_set_off _ _ (by decide) h.c5
  c6 := cell_set_off _ _ (by decide) h.c6
  c7 := cell_set_off _ _ (by decide) h.c7
  c8 := cell_set_off _ _ (by decide) h.c8
  c9 := by simp [go_sem, h.c9]
  c10 := cell_set_off _ _ (by decide) h.c10
  c11 := cell_set_off _ _ (by decide) h.c11
  c12 := cell_set_off _ _ (by decide) h.c12
  c13 := cell_set_off _ _ (by decide) h.c13
  c14 := cell_set_off _ _ (by decide) h.c14
  c15 := cell_set_off _ _ (by decide) h.c15
  c16 := cell_set_off _ _ (by decide) h.c16
  fr := fun r => by simpa using h.fr r
theorem GBox.set_br {w : World} {N : Nat} {vl vp vd : Value} {C : Mdl} (h : GBox w N vl vp vd C) (x : Bool) : GBox (w.setCell ⟨N, 10, none⟩ (.bool x)) N vl vp vd { C with br := x } where
  lt := by simpa using h.lt
  c0 := cell_set_off _ _ (by decide) h.c0
  c1 := cell_set_off _ _ (by decide) h.c1
  c2 := cell_set_off _ _ (by decide) h.c2
  c3 := cell_set_off _ _ (by decide) h.c3
  c4 := cell_set_off _ _ (by decide) h.c4
  c5 := cell_set_off _ _ (by decide) h.c5
  c6 := cell_set_off _ _ (by decide) h.c6
  c7 := cell_set_off _ _ (by decide) h.c7
  c8 := cell_set_off _ _ (by decide) h.c8
  c9 := cell_set_off _ _ (by decide) h.c9
  c10 := by simp [go_sem, h.c10]
  c11 := cell_set_off _ _ (by decide) h.c11
  c12 := cell_set_off _ _ (by decide) h.c12
  c13 := cell_set_off _ _ (by decide) h.c13
  c14 := cell_set_off _ _ (by decide) h.c14
  c15 := cell_set_off _ _ (by decide) h.c15
  c16 := cell_set_off _ _ (by decide) h.c16
  fr := fun r => by simpa using h.fr r
theorem GBox.set_bk {w : World} {N : Nat} {vl vp vd : Value} {C : Mdl} (h : GBox w N vl vp vd C) (x : Bool) : GBox (w.setCell ⟨N, 11, none⟩ (.bool x)) N vl vp vd { C with bk := x } where
  lt := by simpa using h.lt
  c0 := cell_set_off _ _ (by decide) h.c0
  c1 := cell_set_off _ _ (by decide) h.c1
  c2 := cell_set_off _ _ (by decide) h.c2
  c3 := cell_set_off _ _ (by decide) h.c3
  c4 := cell_set_off _ _ (by decide) h.c4
  c5 := cell_set_off _ _ (by decide) h.c5
  c6 := cell_set_off _ _ (by decide) h.c6
  c7 := cell_set_off _ _ (by decide) h.c7
  c8 := cell_set_off _ _ (by decide) h.c8
  c9 := cell_set_off _ _ (by decide) h.c9
  c10 := cell_set_off _ _ (by decide) h.c10
  c11 := by simp [go_sem, h.c11]
  c12 := cell_set_off _ _ (by decide) h.c12
  c13 := cell_set_off _ _ (by decide) h.c13
  c14 := cell_set_off _ _ (by decide) h.c14
  c15 := cell_set_off _ _ (by decide) h.c15
  c16 := cell_set_off _ _ (by decide) h.c16
  fr := fun r => by simpa using h.fr r
theorem GBox.set_ok {w : World} {N : Nat} {vl vp vd : Value} {C : Mdl} (h : GBox w N vl vp vd C) (x : Bool) : GBox (w.setCell ⟨N, 12, none⟩ (.bool x)) N vl vp vd { C with ok := x } where
  lt := by simpa using h.lt
  c0 := cell_set_off _ _ (by decide) h.c0
  c1 := cell_set_off _ _ (by decide) h.c1
  c2 := cell_set_off _ _ (by decide) h.c2
  c3 := cell_set_off _ _ (by decide) h.c3
  c4 := cell_set_off _ _ (by decide) h.c4
  c5 := cell_set_off _ _ (by decide) h.c5
  c6 := cell_set_off _ _ (by decide) h.c6
  c7 := cell_set_off _ _ (by decide) h.c7
  c8 := cell_set_off _ _ (by decide) h.c8
  c9 := cell_set_off _ _ (by decide) h.c9
  c10 := cell_set_off _ _ (by decide) h.c10
  c11 := cell_set_off _ _ (by decide) h.c11
  c12 := by simp [go_sem, h.c12]
  c13 := cell_set_off _ _ (by decide) h.c13
  c14 := cell_set_off _ _ (by decide) h.c14
  c15 := cell_set_off _ _ (by decide) h.c15
  c16 := cell_set_off _ _ (by decide) h.c16
  fr := fun r => by simpa using h.fr r
theorem GBox.set_bx {w : World} {N : Nat} {vl vp vd : Value} {C : Mdl} (h : GBox w N vl vp vd C) (x : Int) : GBox (w.setCell ⟨N, 13, none⟩ (.int .i64 x)) N vl vp vd { C with bx := x } where
  lt := by simpa using h.lt
  c0 := cell_set_off _ _ (by decide) h.c0
  c1 := cell_set_off _ _ (by decide) h.c1
  c2 := cell_set_off _ _ (by decide) h.c2
  c3 := cell_set_off _ _ (by decide) h.c3
  c4 := cell_set_off _ _ (by decide) h.c4
  c5 := cell_set_off _ _ (by decide) h.c5
  c6 := cell_set_off _ _ (by decide) h.c6
  c7 := cell_set_off _ _ (by decide) h.c7
  c8 := cell_set_off _ _ (by decide) h.c8
  c9 := cell_set_off _ _ (by decide) h.c9
  c10 := cell_set_off _ _ (by decide) h.c10
  c11 := cell_set_off _ _ (by decide) h.c11
  c12 := cell_set_off _ _ (by decide) h.c12
  c13 := by simp [go_sem, h.c13]
  c14 := cell_set_off _ _ (by decide) h.c14
  c15 := cell_set_off _ _ (by decide) h.c15
  c16 := cell_set_off _ _ (by decide) h.c16
  fr := fun r => by simpa using h.fr r
theorem GBox.set_byy {w : World} {N : Nat} {vl vp vd : Value} {C : Mdl} (h : GBox w N vl vp vd C) (x : Int) : GBox (w.setCell ⟨N, 14, none⟩ (.int .i64 x)) N vl vp vd { C with byy := x } where
  lt := by simpa using h.lt
  c0 := cell_set_off _ _ (by decide) h.c0
  c1 := cell_set_off _ _ (by decide) h.c1
  c2 := cell_set_off _ _ (by decide) h.c2
  c3 := cell_set_off _ _ (by decide) h.c3
  c4 := cell_set_off _ _ (by decide) h.c4
  c5 := cell_set_off _ _ (by decide) h.c5
  c6 := cell_set_off _ _ (by decide) h.c6
  c7 := cell_set_off _ _ (by decide) h.c7
  c8 := cell_set_off _ _ (by decide) h.c8
  c9 := cell_set_off _ _ (by decide) h.c9
  c10 := cell_set_off _ _ (by decide) h.c10
  c11 := cell_set_off _ _ (by decide) h.c11
  c12 := cell_set_off _ _ (by decide) h.c12
  c13 := cell_set_off _ _ (by decide) h.c13
  c14 := by simp [go_sem, h.c14]
  c15 := cell_set_off _ _ (by decide) h.c15
  c16 := cell_set_off _ _ (by decide) h.c16
  fr := fun r => by simpa using h.fr r
theorem GBox.set_bz {w : World} {N : Nat} {vl vp vd : Value} {C : Mdl} (h : GBox w N vl vp vd C) (x : Int) : GBox (w.setCell ⟨N, 15, none⟩ (.int .i64 x)) N vl vp vd { C with bz := x } where
  lt := by simpa using h.lt
  c0 := cell_set_off _ _ (by decide) h.c0
  c1 := cell_set_off _ _ (by decide) h.c1
  c2 := cell_set_off _ _ (by decide) h.c2
  c3 := cell_set_off _ _ (by decide) h.c3
  c4 := cell_set_off _ _ (by decide) h.c4
  c5 := cell_set_off _ _ (by decide) h.c5
  c6 := cell_set_off _ _ (by decide) h.c6
  c7 := cell_set_off _ _ (by decide) h.c7
  c8 := cell_set_off _ _ (by decide) h.c8
  c9 := cell_set_off _ _ (by decide) h.c9
  c10 := cell_set_off _ _ (by decide) h.c10
  c11 := cell_set_off _ _ (by decide) h.c11
  c12 := cell_set_off _ _ (by decide) h.c12
  c13 := cell_set_off _ _ (by decide) h.c13
  c14 := cell_set_off _ _ (by decide) h.c14
  c15 := by simp [go_sem, h.c15]
  c16 := cell_set_off _ _ (by decide) h.c16
  fr := fun r => by simpa using h.fr r
theorem GBox.set_vd {w : World} {N : Nat} {vl vp vd : Value} {C : Mdl} (h : GBox w N vl vp vd C) (v : Value) (x : List Mot) : GBox (w.setCell ⟨N, 16, none⟩ (v)) N vl vp v { C with dn := x } where
  lt := by simpa using h.lt
  c0 := cell_set_off _ _ (by decide) h.c0
  c1 := cell_set_off _ _ (by decide) h.c1
  c2 := cell_set_off _ _ (by decide) h.c2
  c3 := cell_set_off _ _ (by decide) h.c3
  c4 := cell_set_off _ _ (by decide) h.c4
  c5 := cell_set_off _ _ (by decide) h.c5
  c6 := cell_set_off _ _ (by decide) h.c6
  c7 := cell_set_off _ _ (by decide) h.c7
  c8 := cell_set_off _ _ (by decide) h.c8
  c9 := cell_set_off _ _ (by decide) h.c9
  c10 := cell_set_off _ _ (by decide) h.c10
  c11 := cell_set_off _ _ (by decide) h.c11
  c12 := cell_set_off _ _ (by decide) h.c12
  c13 := cell_set_off _ _ (by decide) h.c13
  c14 := cell_set_off _ _ (by decide) h.c14
  c15 := cell_set_off _ _ (by decide) h.c15
  c16 := by simp [go_sem, h.c16]
  fr := fun r => by simpa using h.fr r

theorem SlM.only0 {D : Nat → Prop} {w w' : World} {v : Value} {l : List Mot} (h : SlM w v l) (k : Only D w w') (hd : 0 < l.length → Off D v) : SlM w' v l := by
  by_cases hl : 0 < l.length
  · exact h.only k (hd hl)
  · obtain ⟨ad, n, cap, b, off, rfl, h2, h3, h5, h4⟩ := h
    exact ⟨ad, n, cap, b, off, rfl, h2, h3, h5, fun i hi => by omega⟩

/-- The model in memory: its cells, its slices, and that the slices lie elsewhere. -/
structure GInv (w : World) (N : Nat) (vl vp vd : Value) (C : Mdl) : Prop where
  box : GBox w N vl vp vd C
  sl : SlM w vl C.ms
  sp : SlI w vp C.plan
  sd : SlM w vd C.dn
  nl : 0 < C.ms.length → vl.ownBlock ≠ some N
  np : vp.ownBlock ≠ some N
  nd : vd.ownBlock ≠ some N

theorem GInv.only {D : Nat → Prop} {w w' : World} {N : Nat} {vl vp vd : Value} {C : Mdl} (h : GInv w N vl vp vd C) (k : Only D w w') (hd : ¬ D N) (h1 : 0 < C.ms.length → Off D vl) (h2 : Off D vp) (h3 : Off D vd) : GInv w' N vl vp vd C :=
  ⟨h.box.only k hd, h.sl.only0 k h1, h.sp.only k h2, h.sd.only k h3, h.nl, h.np, h.nd⟩
theorem GInv.later {w w' : World} {N : Nat} {vl vp vd : Value} {C : Mdl} (h : GInv w N vl vp vd C) (k : Ext w w') : GInv w' N vl vp vd C :=
  ⟨h.box.later k, h.sl.later k, h.sp.later k, h.sd.later k, h.nl, h.np, h.nd⟩

end Go.Proofs.Ytfmjmabaabmgcaa

namespace Go.Proofs.Ytfmjmabaabmgcaa
open Go.RowKit
set_option maxRecDepth 8000

/-- What skip does. -/
def MSkipPost (w : World) (N : Nat) (vm vp vq : Value) (C : Mdl) (e : Ending) (w' : World) : Prop := e = .returned (.tuple #[]) ∧ GBox w' N vm vp vq { C with idx := skp C.ms C.idx } ∧ Only (fun k => k = N) w w'

theorem GBox.idxAt {w : World} {N : Nat} {vm vp vq : Value} {C : Mdl} (h : GBox w N vm vp vq C) : idxAt w N = C.idx := by
  unfold Go.Proofs.Ytfmjmabaabmgcaa.idxAt
  rw [h.c4]
  simp

set_option maxHeartbeats 2000000 in
theorem mskip_any {w : World} {N : Nat} {vm vp vq : Value} {C : Mdl} (h : GBox w N vm vp vq C) (hm : SlM w vm C.ms) (hv : 0 < C.ms.length → vm.ownBlock ≠ some N) (hr : ∀ i, i < C.ms.length → (C.ms.getD i Mot.zero).rng) (hl : C.ms.length ≤ 1000000000000) (hi : C.idx ≤ C.ms.length) :
    Calls Try.prog 44 #[.pointer (some ⟨N, 0, none⟩)] w (MSkipPost w N vm vp vq C) := by
  have HM := Lib.hid hm; clear hm
  have HR := Lib.hid hr; clear hr
  have HH := Lib.hid h; clear h
  have HV := Lib.hid hv; clear hv
  go_enter Try.func44, Try.ntmps44
  go_wp2_with fail
  go_loopw [2] (fun _ wr => ∃ i : Nat, i ≤ C.ms.length ∧ Hid (skp C.ms i = skp C.ms C.idx) ∧ GBox wr N vm vp vq { C with idx := i } ∧ Only (fun k => k = N) w wr) (fun _ wr => C.ms.length - idxAt wr N)
  case atStart => exact ⟨C.idx, hi, Lib.hid rfl, HH.out, Only.refl _ w⟩
  case round =>
    obtain ⟨i, hi2, HS, hB, hO⟩ := hrel
    have hm2 := HM.out.only0 hO (fun hl b hb e => HV.out hl (by rw [hb, e]))
    have HI := Lib.hid hB.idxAt
    have c0 := Later.cell hB.c0; have c4 := Later.cell hB.c4
    have hf := hB.fr 4
    obtain ⟨ad, n, cap, b, off, hvm, hn, h3, -, h4⟩ := hm2
    have HV2 := Lib.hid hvm
    rw [hvm] at c0
    clear hvm
    have HN := Lib.hid hn; clear hn
    by_cases hlt : i < C.ms.length
    · obtain ⟨hb1, hb2⟩ := h4 i (by rw [HN.out]; exact hlt)
      obtain rfl : ad = some ⟨b, off, none⟩ := h3.resolve_left (by have := HN.out; omega)
      have hr := HR.out i hlt
      have HR2 := Lib.hid hr; clear hr
      have hl1 : i < n := by rw [HN.out]; exact hlt
      clear h3 h4
      obtain ⟨p, hp⟩ : ∃ p, p = C.ms.getD i Mot.zero := ⟨_, rfl⟩
      rw [← hp] at hb2 HR2
      have HP := Lib.hid hp; clear hp
      have d0 := Later.cell hb2.c0; have d1 := Later.cell hb2.c1; have d2 := Later.cell hb2.c2; have d3 := Later.cell hb2.c3; have d4 := Later.cell hb2.c4; have d5 := Later.cell hb2.c5; have d6 := Later.cell hb2.c6; have d7 := Later.cell hb2.c7; have d8 := Later.cell hb2.c8
      have hd : decide ((i : Int) < (n : Int)) = true := by simpa using hl1
      have hK := fun w => rlength_any p w HR2.out
      have HK := Lib.hid hK; clear hK
      by_cases h0 : p.len = 0
      · rw [h0] at HK
        have H0 := Lib.hid h0; clear h0
        go_wp2_with fail
        refine wp_region_later (by kernel_rfl) (by kernel_rfl) ?_
        repeat (go_big_quiet_step ((go_at_call 16; exact Calls.later (HK.out _))))
        refine wpQuiet_nil ?_
        rintro _ ⟨x, rfl⟩
        have hx := x.ext
        have c4' := c4 x
        have hf' : x.w.frozen? ⟨N, 4, none⟩ = false := by rw [hx.frozen hB.lt]; exact hf
        clear c0 c4 d0 d1 d2 d3 d4 d5 d6 d7 d8
        have hB2 := hB.later hx
        have hO2 := hO.trans (Only.of_ext hx)
        clear hB hO hf hb2 hb1
        generalize x.w = W3 at *
        clear x hx
        go_wp2
        go_roundw
        case rel => exact ⟨i + 1, by omega, Lib.hid (by rw [← HS.out]; exact (skp_step hlt (by rw [← HP.out]; exact H0.out)).symm), by simpa using hB2.set_idx (i + 1), hO2.set (.inl rfl) _⟩
        case measure =>
          have e1 := (hB2.set_idx (i + 1)).idxAt
          have e2 := HI.out
          simp only at e1 e2
          rw [show ((i : Int) + 1) = ((i + 1 : Nat) : Int) by omega, e1, e2]; omega
      · have H0 := Lib.hid h0
        go_wp2_with fail
        refine wp_region_later (by kernel_rfl) (by kernel_rfl) ?_
        repeat (go_big_quiet_step ((go_at_call 16; exact Calls.later (HK.out _))))
        refine wpQuiet_nil ?_
        rintro _ ⟨x, rfl⟩
        have hx := x.ext
        clear c0 c4 d0 d1 d2 d3 d4 d5 d6 d7 d8
        have hB2 := hB.later hx
        have hO2 := hO.trans (Only.of_ext hx)
        clear hB hO hf hb2 hb1
        generalize x.w = W3 at *
        clear x hx
        have hS : skp C.ms C.idx = i := by rw [← HS.out]; exact skp_stop (by rw [← HP.out]; exact fun h => H0.out h.2)
        have HF := Lib.hid hS
        clear hS
        go_wp2
        go_end0
        exact ⟨rfl, by rw [HF.out]; exact hB2, hO2⟩
    · have hl1 : ¬ i < n := by rw [HN.out]; exact hlt
      have hd : decide ((i : Int) < (n : Int)) = false := by simp; omega
      clear h3 h4
      go_wp2_with fail
      refine wp_region_later (by kernel_rfl) (by kernel_rfl) ?_
      repeat (go_big_quiet_step (fail))
      refine wpQuiet_nil ?_
      rintro _ ⟨x, rfl⟩
      have hx := x.ext
      clear c0 c4
      have hB2 := hB.later hx
      have hO2 := hO.trans (Only.of_ext hx)
      clear hB hO hf
      generalize x.w = W3 at *
      clear x hx
      have hS : skp C.ms C.idx = i := by rw [← HS.out]; exact skp_stop (fun h => hlt h.1)
      have HF := Lib.hid hS
      clear hS
      go_wp2
      go_end0
      exact ⟨rfl, by rw [HF.out]; exact hB2, hO2⟩

set_option maxHeartbeats 400000 in
theorem mrest_any {w : World} {N : Nat} {vl vp vd : Value} {C : Mdl} (h : GBox w N vl vp vd C) (hp : SlI w vp C.plan) (b : Bool) (hb : b = decide (C.plan = [])) :
    Calls Try.prog 43 #[.pointer (some ⟨N, 0, none⟩)] w fun e w' => e = .returned (.bool b) ∧ Ext w w' := by
  have c6 := h.c6
  obtain ⟨ad, n, cap, bb, off, rfl, hn, -, -⟩ := hp
  have e : ((n : Int) == 0) = b := by
    rw [hb, hn]
    cases C.plan with
    | nil => rfl
    | cons x r => simp; omega
  have HE := Lib.hid e
  clear hn hb h e
  go_enter Try.func43, Try.ntmps43
  go_wp2
  go_ret
  exact ⟨ret_bool HE.out, Ext.refl _⟩

/-- The present motion of the model. -/
def Mdl.cur (C : Mdl) : Mot := C.ms.getD C.idx Mot.zero

set_option maxHeartbeats 2000000 in
theorem own_any {w : World} {N : Nat} {vl vp vd : Value} {C : Mdl} (h : GBox w N vl vp vd C) (hm : SlM w vl C.ms) (hi : C.idx < C.ms.length) (h0 : -9000000000000000 ≤ C.s) (h1 : C.s ≤ 9000000000000000) :
    Calls Try.prog 51 #[.pointer (some ⟨N, 0, none⟩)] w fun e w' => e = .returned (Lm (C.cur.spd C.s) C.a C.j) ∧ Ext w w' := by
  have hN := h.lt
  obtain ⟨ad, n, cap, b, off, hv, hn, h3, -, h4⟩ := hm
  obtain ⟨hb1, hb2⟩ := h4 C.idx (by omega)
  obtain rfl : ad = some ⟨b, off, none⟩ := h3.resolve_left (by omega)
  have hi2 : C.idx < n := by omega
  clear h3 h4 hn
  unfold Mdl.cur
  generalize C.ms.getD C.idx Mot.zero = p at *
  have ks := fun w => speed_any p C.s w h0 h1
  have KS := Lib.hid ks; clear ks
  have c1 := h.c1; have c2 := h.c2; have c3 := h.c3
  go_enter Try.func51, Try.ntmps51
  go_wp2_with fail
  obtain ⟨W1, hW1, Z1, hE1⟩ := B3.mk' w (.int .i64 0) (.int .i64 0) (.int .i64 0) 25
  have hz1 : W1.heap.size = w.heap.size + 1 := by rw [← hW1]; simp
  rw [hW1]; clear hW1
  obtain ⟨W2, hW2, L2, hE2⟩ := B3.mk' W1 (.int .i64 C.s) (.int .i64 C.a) (.int .i64 C.j) 25
  rw [hW2]; clear hW2
  have Z2 := Z1.later hE2
  rw [hz1] at L2
  have hE3 := hE1.trans hE2
  have h2 := h.later hE3
  have hb3 := hb2.later hb1 hE3
  clear Z1 hE1 hE2 hz1 c1 c2 c3 hb2
  clear W1
  have d0 := Later.cell h2.c0; have d4 := Later.cell h2.c4; have d1 := Later.cell h2.c1
  rw [hv] at d0
  have g0 := Later.cell hb3.c0; have g1 := Later.cell hb3.c1; have g2 := Later.cell hb3.c2; have g3 := Later.cell hb3.c3; have g4 := Later.cell hb3.c4; have g5 := Later.cell hb3.c5; have g6 := Later.cell hb3.c6; have g7 := Later.cell hb3.c7; have g8 := Later.cell hb3.c8
  refine wp_region_tail 16 (by kernel_rfl) (by kernel_rfl) (by kernel_rfl) ?_
  simp only [List.take_succ_cons, List.take_zero, List.drop_succ_cons, List.drop_zero]
  repeat (go_big_quiet_step ((go_at_call 14; exact Calls.later (KS.out _))))
  refine wpQuiet_nil ?_
  rintro _ ⟨x, rfl⟩
  have L3 := L2.later x.ext; have Z3 := Z2.later x.ext
  have hE4 := hE3.trans x.ext
  clear d0 d1 d4 g0 g1 g2 g3 g4 g5 g6 g7 g8 L2 Z2 h2 hb3 hE3
  generalize x.w = W3 at *
  clear x
  have l0 := L3.c0; have l1 := L3.c1; have l2 := L3.c2; have y0 := L3.f0; have z0 := Z3.c0; have z1 := Z3.c1; have z2 := Z3.c2; have q0 := Z3.f0; have q1 := Z3.f1; have q2 := Z3.f2
  go_wp2
  refine bodyPost_ret (v := Lm (p.spd C.s) C.a C.j) (by simp [results, Try.results51, go_sem, z0, z1, z2]) rfl ⟨rfl, ?_⟩
  exact Ext.of_only (((Only.of_ext hE4).set (.inr (Nat.le_succ _)) _).set3 (.inr (Nat.le_refl _)) _ _ _)

end Go.Proofs.Ytfmjmabaabmgcaa
