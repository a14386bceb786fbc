/-
  Plain model of a disturbed job: the rule of the chapter over the model of the controller.
  Plain laws of a disturbed job: its pieces are connected and lead from the beginning of the motions to their end.
  Plain laws of a job with feed holds alone: its pieces, joined, are the motions that have a length.
  Plain laws of a trip: its motions are connected, short, and have blocks of their own.
  A disturbed job in memory: events, the machine, what a controller's call leaves below it.
-/
import Derived.Test.YtjibcnnbclcboaaGreatDoorQB14
namespace Go.Proofs.YtjibcnnbclcboaaGreatDoor
open Go.RowKit

/-- What stands while a job is performed. -/
structure JobS where
  l : List Mot
  C : Ctl
  ps : List Mot
  held : Bool
  till : Int

/-- A breakage: the code of the error, and what stands behind it. -/
def JobS.broken (J : JobS) (s a j safe : Int) : Int × JobS :=
  if rstE J.l J.C.idx J.C.at3 safe = 0 then
    (if chk (rstL J.l J.C.idx J.C.at3 safe) s a j = 0 then (0, { l := rstL J.l J.C.idx J.C.at3 safe, C := Ctl.new (rstL J.l J.C.idx J.C.at3 safe) s a j, ps := J.ps ++ J.C.brkC.doneL, held := false, till := J.till })
     else (chk (rstL J.l J.C.idx J.C.at3 safe) s a j, J))
  else (rstE J.l J.C.idx J.C.at3 safe, J)

/-- A feed hold. -/
def JobS.hold (J : JobS) (n t : Int) : JobS :=
  { J with C := J.C.holdC, held := true, till := if J.held = true ∧ ¬ J.till < t + n then J.till else t + n }

/-- The events up to a tick. -/
def JobS.evs (s a j safe t : Int) : List (Int × Int) → JobS → Int × JobS × List (Int × Int)
  | [], J => (0, J, [])
  | e :: r, J =>
    if e.1 ≤ t then
      (if e.2 = 0 then (if (J.broken s a j safe).1 = 0 then JobS.evs s a j safe t r (J.broken s a j safe).2 else ((J.broken s a j safe).1, J, r))
       else JobS.evs s a j safe t r (J.hold e.2 t))
    else (0, J, e :: r)

def JobS.doneB (J : JobS) : Bool := decide (J.C.idx = J.l.length)
def JobS.out (J : JobS) : List Mot := J.ps ++ J.C.doneL
/-- A hold that ends. -/
def JobS.wake (J : JobS) (t : Int) : JobS := if J.held = true ∧ J.till ≤ t then { J with C := { J.C with hd := false }, held := false } else J
def JobS.tick (J : JobS) : JobS := { J with C := J.C.tickC }

/-- The ticks, as many as are left. -/
def JobS.run (s a j safe : Int) : Nat → Int → JobS → List (Int × Int) → Int × List Mot
  | 0, _, J, _ => if J.doneB = true then (0, J.out) else (3, [])
  | f + 1, t, J, es =>
    if J.doneB = true then (0, J.out)
    else if (JobS.evs s a j safe t es (J.wake t)).1 = 0 then
      (if (JobS.evs s a j safe t es (J.wake t)).2.1.doneB = true then (0, (JobS.evs s a j safe t es (J.wake t)).2.1.out)
       else JobS.run s a j safe f (t + 1) (JobS.evs s a j safe t es (J.wake t)).2.1.tick (JobS.evs s a j safe t es (J.wake t)).2.2)
    else ((JobS.evs s a j safe t es (J.wake t)).1, [])

def JobS.new (l : List Mot) (s a j : Int) : JobS := { l := l, C := Ctl.new l s a j, ps := [], held := false, till := 0 }

/-- What a job with disturbances answers. -/
def dist (l : List Mot) (s a j safe : Int) (es : List (Int × Int)) : Int × List Mot :=
  if chk l s a j = 0 then JobS.run s a j safe 100000 0 (JobS.new l s a j) es else (chk l s a j, [])

/-- All motions are made of numbers of 64 bits. -/
def WfL (l : List Mot) : Prop := ∀ i, i < l.length → (l.getD i Mot.zero).wf
theorem WfL.mem {l : List Mot} (h : WfL l) : ∀ m ∈ l, m.wf := fun m hm => by
  obtain ⟨i, hi, e⟩ := List.getElem_of_mem hm
  have := h i hi
  rw [show l.getD i Mot.zero = m by simp [hi, e]] at this
  exact this
theorem WfL.of {l : List Mot} (h : ∀ m ∈ l, m.wf) : WfL l := fun i hi => by
  rw [show l.getD i Mot.zero = l[i] by simp [hi]]
  exact h _ (List.getElem_mem hi)
theorem Mot.zero_wf : Mot.zero.wf := by constructor <;> decide
theorem WfL.any {l : List Mot} (h : WfL l) (i : Nat) : (l.getD i Mot.zero).wf := by
  rcases Nat.lt_or_ge i l.length with h' | h'
  · exact h i h'
  · rw [show l.getD i Mot.zero = Mot.zero by simp [h']]; exact Mot.zero_wf

/-- A number of 64 bits. -/
def in64 (x : Int) : Prop := -9223372036854775808 ≤ x ∧ x ≤ 9223372036854775807
def in64p (p : Int × Int × Int) : Prop := in64 p.1 ∧ in64 p.2.1 ∧ in64 p.2.2

theorem rBeg_in {l : List Mot} (h : WfL l) {i : Nat} {p : Int × Int × Int} (hp : in64p p) : in64p (rBeg l i p) := by
  unfold rBeg
  split
  · have := h.any i; exact ⟨this.a0, this.a1, this.a2⟩
  · split
    · have := h.any (l.length - 1); exact ⟨this.a3, this.a4, this.a5⟩
    · exact hp
theorem rRate_in {l : List Mot} (h : WfL l) : ∀ k, in64 (rRate l k)
  | 0 => ⟨by show (-9223372036854775808 : Int) ≤ 0; decide, by show (0 : Int) ≤ 9223372036854775807; decide⟩
  | k + 1 => by
    unfold rRate
    split
    · exact rRate_in h k
    · exact (h.any k).a6
theorem rPt_in {p b : Int × Int × Int} {safe : Int} (hp : in64p p) (hb : in64p b) (hs : in64 safe) (k : Nat) : in64p (rPt p b safe k) := by
  match k with
  | 0 => exact ⟨hp.1, hp.2.1, hs⟩
  | 1 => exact ⟨hb.1, hb.2.1, hs⟩
  | 2 =>
    refine ⟨hb.1, hb.2.1, ?_⟩
    show in64 (if b.2.2 < 1000 then 1000 else b.2.2)
    split
    · exact ⟨by decide, by decide⟩
    · exact hb.2.2
  | _ + 3 => exact hb
theorem rFrom_in {p b : Int × Int × Int} {safe : Int} (hp : in64p p) (hb : in64p b) (hs : in64 safe) (k : Nat) : in64p (rFrom p b safe k) := by
  match k with
  | 0 => exact hp
  | k + 1 => exact rPt_in hp hb hs k
theorem rMot_wf {p b : Int × Int × Int} {safe rate : Int} {m : Mot} (hp : in64p p) (hb : in64p b) (hs : in64 safe) (hr : in64 rate) (k : Nat) : (rMot p b safe rate m k).wf := by
  have h1 := rFrom_in hp hb hs k
  have h2 := rPt_in hp hb hs k
  refine ⟨h1.1, h1.2.1, h1.2.2, h2.1, h2.2.1, h2.2.2, ?_⟩
  show in64 (if k = 3 then rate else 0)
  split
  · exact hr
  · exact ⟨by decide, by decide⟩
theorem rLegs_wf {p b : Int × Int × Int} {safe rate : Int} {m : Mot} (hp : in64p p) (hb : in64p b) (hs : in64 safe) (hr : in64 rate) : ∀ k, ∀ x ∈ rLegs p b safe rate m k, x.wf
  | 0, x, hx => by simp [rLegs] at hx
  | k + 1, x, hx => by
    unfold rLegs at hx
    rcases List.mem_append.1 hx with h | h
    · exact rLegs_wf hp hb hs hr k x h
    · split at h
      · simp at h
      · simp at h; rw [h]; exact rMot_wf hp hb hs hr k
theorem rstL_wf {l : List Mot} (h : WfL l) {i : Nat} {p : Int × Int × Int} {safe : Int} (hp : in64p p) (hs : in64 safe) : WfL (rstL l i p safe) := by
  have hd : ∀ m ∈ l.drop i, m.wf := fun m hm => h.mem m (List.mem_of_mem_drop hm)
  refine WfL.of fun m hm => ?_
  unfold rstL at hm
  split at hm
  · simp at hm
  · split at hm
    · exact hd m hm
    · split at hm
      · simp at hm
      · rcases List.mem_append.1 hm with h1 | h1
        · exact rLegs_wf hp (rBeg_in h hp) hs (rRate_in h _) 4 m h1
        · exact hd m h1

theorem rstL_length (l : List Mot) (i : Nat) (p : Int × Int × Int) (safe : Int) : (rstL l i p safe).length ≤ l.length + 4 := by
  have h1 : (l.drop i).length ≤ l.length := by rw [List.length_drop]; omega
  have h2 := rLegs_len p (rBeg l i p) safe (rRate l (rCount l i)) (rLike l i) 4
  unfold rstL
  split
  · simp
  · split
    · omega
    · split
      · simp
      · rw [List.length_append]; omega

/-- A place between the ends is in range. -/
theorem btw_in {a b p n : Int} (h : 1 ≤ n) (h0 : 0 ≤ p) (h1 : p ≤ n) (ha : inG a) (hb : inG b) : inG (btw a b p n) := by
  unfold inG at *
  by_cases hab : 0 ≤ b - a
  · have e1 := btw_up a b 0 p n h hab h0
    have e2 := btw_up a b p n n h hab h1
    rw [btw_zero a b n h] at e1
    rw [btw_full a b n h] at e2
    omega
  · have e1 := btw_down a b 0 p n h (by omega) h0
    have e2 := btw_down a b p n n h (by omega) h1
    rw [btw_zero a b n h] at e1
    rw [btw_full a b n h] at e2
    omega
theorem inG_64 {x : Int} (h : inG x) : in64 x := by unfold inG at h; unfold in64; omega
theorem Ctl.Ok.at3_in {C : Ctl} (h : C.Ok) : in64p C.at3 := by
  have k := h.posOk
  unfold Ctl.at3
  split
  · exact ⟨⟨by decide, by decide⟩, ⟨by decide, by decide⟩, ⟨by decide, by decide⟩⟩
  · rename_i h0
    split
    · have := h.rng (C.idx - 1) (by omega)
      exact ⟨inG_64 this.2.1, inG_64 this.2.2.1, inG_64 this.2.2.2⟩
    · have hi : C.idx < C.ms.length := by have := k.le; omega
      have hr := k.rng hi
      have h1 := k.p0 hi; have h2 := k.p1 hi; have h3 := k.p2 hi
      exact ⟨inG_64 (btw_in h3 h1 h2 hr.1.1 hr.2.1), inG_64 (btw_in h3 h1 h2 hr.1.2.1 hr.2.2.1), inG_64 (btw_in h3 h1 h2 hr.1.2.2 hr.2.2.2)⟩

/-- What holds while a job is performed. k: how many pieces there may be; q: how many motions. -/
structure JobS.Ok (J : JobS) (k q : Nat) : Prop where
  ok : J.C.Ok
  ms : J.C.ms = J.l
  wf : WfL J.l
  ln : J.l.length ≤ q
  ps : J.ps.length + J.C.ps.length ≤ k

theorem JobS.Ok.mono {J : JobS} {k q k' q' : Nat} (h : J.Ok k q) (hk : k ≤ k') (hq : q ≤ q') : J.Ok k' q' := ⟨h.ok, h.ms, h.wf, Nat.le_trans h.ln hq, Nat.le_trans h.ps hk⟩
theorem JobS.Ok.hold {J : JobS} {k q : Nat} (h : J.Ok k q) (n t : Int) : (J.hold n t).Ok (k + 2) q := by
  refine ⟨h.ok.hold, (holdC_ms J.C).1.trans h.ms, h.wf, h.ln, ?_⟩
  have := holdC_ps J.C
  have := h.ps
  show J.ps.length + J.C.holdC.ps.length ≤ k + 2
  omega
theorem JobS.Ok.tick {J : JobS} {k q : Nat} (h : J.Ok k q) : J.tick.Ok (k + 2) q := by
  refine ⟨h.ok.tick, (tickC_ms J.C).1.trans h.ms, h.wf, h.ln, ?_⟩
  have := tickC_ps J.C
  have := h.ps
  show J.ps.length + J.C.tickC.ps.length ≤ k + 2
  omega
theorem JobS.Ok.wake {J : JobS} {k q : Nat} (h : J.Ok k q) (t : Int) : (J.wake t).Ok k q := by
  unfold JobS.wake
  split
  · exact ⟨h.ok.resume, h.ms, h.wf, h.ln, h.ps⟩
  · exact h
theorem new_ok_of {l : List Mot} {s a j : Int} (hc : chk l s a j = 0) (hw : WfL l) : (Ctl.new l s a j).Ok := new_Ok hc hw
theorem JobS.Ok.broken {J : JobS} {k q : Nat} {s a j safe : Int} (h : J.Ok k q) (hs : in64 safe) (h0 : (J.broken s a j safe).1 = 0) : (J.broken s a j safe).2.Ok (k + 2) (q + 4) := by
  unfold JobS.broken at h0 ⊢
  split
  · rename_i h1
    rw [if_pos h1] at h0
    split
    · rename_i h2
      have hw := rstL_wf h.wf (i := J.C.idx) (safe := safe) h.ok.at3_in hs
      refine ⟨new_ok_of h2 hw, rfl, hw, ?_, ?_⟩
      · have := rstL_length J.l J.C.idx J.C.at3 safe
        have := h.ln
        show (rstL J.l J.C.idx J.C.at3 safe).length ≤ q + 4
        omega
      · have e1 := doneL_len J.C.brkC
        have e2 := brkC_ps J.C
        have := h.ps
        show (J.ps ++ J.C.brkC.doneL).length + 0 ≤ k + 2
        rw [List.length_append]
        omega
    · rename_i h2
      rw [if_neg h2] at h0
      exact absurd h0 h2
  · rename_i h1
    rw [if_neg h1] at h0
    exact absurd h0 h1
theorem JobS.Ok.new {l : List Mot} {s a j : Int} (hc : chk l s a j = 0) (hw : WfL l) : (JobS.new l s a j).Ok 0 l.length := ⟨new_ok_of hc hw, rfl, hw, Nat.le_refl _, Nat.le_refl _⟩

end Go.Proofs.YtjibcnnbclcboaaGreatDoor

namespace Go.Proofs.YtjibcnnbclcboaaGreatDoor
open Go.RowKit

/-- Pieces that lead from a place to another one, none without length. -/
def Chain (p : Int × Int × Int) : List Mot → Int × Int × Int → Prop
  | [], q => p = q
  | m :: r, q => m.f3 = p ∧ m.f3 ≠ m.t3 ∧ Chain m.t3 r q

theorem Chain.append : ∀ {a : List Mot} {p q r : Int × Int × Int} {b : List Mot}, Chain p a q → Chain q b r → Chain p (a ++ b) r
  | [], p, q, r, b, h, k => by have : p = q := h; rw [this]; exact k
  | m :: a, p, q, r, b, h, k => ⟨h.1, h.2.1, Chain.append (a := a) h.2.2 k⟩
theorem Chain.one {m : Mot} (h : m.f3 ≠ m.t3) : Chain m.f3 [m] m.t3 := ⟨rfl, h, rfl⟩
theorem Chain.snoc {a : List Mot} {p q : Int × Int × Int} {m : Mot} (h : Chain p a q) (hm : m.f3 = q) (hn : m.f3 ≠ m.t3) : Chain p (a ++ [m]) m.t3 := h.append (by rw [← hm]; exact Chain.one hn)
theorem way_f3 (m : Mot) (a b : Int × Int × Int) : (m.way a b).f3 = a := rfl
theorem way_t3 (m : Mot) (a b : Int × Int × Int) : (m.way a b).t3 = b := rfl

theorem eq3_ne {a b : Int × Int × Int} (h : ¬ eq3 a b = true) : a ≠ b := fun e => h (eq3_iff.2 e)

theorem stopd_chain {C : Ctl} {p : Int × Int × Int} (h : Chain p C.ps C.last3) : Chain p C.stopd.ps C.stopd.last3 := by
  show Chain p C.psAdd C.at3
  unfold Ctl.psAdd
  split
  · rename_i e; rw [← eq3_iff.1 e]; exact h
  · rename_i e
    exact h.snoc (m := C.cur.way C.last3 C.at3) rfl (by rw [way_f3, way_t3]; exact eq3_ne e)
theorem advd_chain {C : Ctl} {p : Int × Int × Int} (h : Chain p C.ps C.last3) : Chain p C.advd.ps C.advd.last3 := by
  unfold Ctl.advd
  split
  · exact stopd_chain (C := { C with part := C.part + C.plan.getD C.pos 0, pos := C.pos + 1 }) h
  · exact h
theorem tick_chain {C : Ctl} {p : Int × Int × Int} (h : Chain p C.ps C.last3) : Chain p C.tickC.ps C.tickC.last3 := by
  unfold Ctl.tickC
  split
  · split
    · exact advd_chain (C := { C with plan := C.steps, pos := 0, br := false }) h
    · exact advd_chain h
  · exact h
theorem hold_chain {C : Ctl} {p : Int × Int × Int} (h : Chain p C.ps C.last3) : Chain p C.holdC.ps C.holdC.last3 := by
  unfold Ctl.holdC
  split
  · exact h
  · split
    · exact h
    · split
      · split
        · exact stopd_chain (C := { C with hd := true, plan := [], pos := 0, br := true }) h
        · exact h
      · exact h
theorem brk_chain {C : Ctl} {p : Int × Int × Int} (h : Chain p C.ps C.last3) (hb : C.bk = false) (hi : C.idx < C.ms.length) : Chain p C.brkC.doneL C.at3 := by
  have e : C.brkC.doneL = C.psAll := by
    have e2 : C.brkC = { C with ps := C.psAll, lx := C.at3.1, ly := C.at3.2.1, lz := C.at3.2.2, plan := [], pos := 0, br := false, hd := false, bk := true } := by unfold Ctl.brkC; rw [if_neg (show ¬ C.bk = true by rw [hb]; decide)]
    rw [e2]
    unfold Ctl.doneL
    rw [if_neg (fun h => h.2 rfl)]
  rw [e]
  unfold Ctl.psAll Ctl.pieceB Ctl.pieceM
  rw [decide_eq_true hi, if_pos hi]
  by_cases he : eq3 C.last3 C.at3 = true
  · rw [he]; rw [← eq3_iff.1 he]; simpa using h
  · have e2 : eq3 C.last3 C.at3 = false := by simpa using he
    rw [e2]
    simp only [Bool.not_false, Bool.and_true, if_true]
    exact h.snoc (m := C.cur.way C.last3 C.at3) rfl (by rw [way_f3, way_t3]; exact eq3_ne he)

/-- The end of the motions. -/
def endOf (l : List Mot) : Int × Int × Int := (l.getD (l.length - 1) Mot.zero).t3

/-- Behind motions without length one stands at the end. -/
theorem conn_end {l : List Mot} (hc : Conn l) (hr : ∀ i, i < l.length → (l.getD i Mot.zero).rng) {i : Nat} (hi : i < l.length) : (∀ k, i < k → k < l.length → (l.getD k Mot.zero).len = 0) → (l.getD i Mot.zero).t3 = endOf l := fun hz => by
  unfold endOf
  have key : ∀ j, i ≤ j → j < l.length → (l.getD i Mot.zero).t3 = (l.getD j Mot.zero).t3 := by
    intro j
    induction j with
    | zero => intro h _; have : i = 0 := by omega
              subst this; rfl
    | succ j ih =>
      intro h hj
      rcases Nat.lt_or_ge i (j + 1) with h1 | h1
      · rw [ih (by omega) (by omega), hc j hj]
        exact Mot.flat (hr _ hj) (hz _ h1 hj)
      · have : i = j + 1 := by omega
        subst this; rfl
  exact key _ (by omega) (by omega)

/-- At the end of all motions the last piece ends where they end. -/
structure Ctl.Fin (C : Ctl) : Prop where
  cn : Conn C.ms
  fin : C.idx = C.ms.length → 0 < C.ms.length → C.last3 = endOf C.ms

theorem stopd_fin {C : Ctl} (hb : C.Base) (cn : Conn C.ms) (hi : C.idx < C.ms.length) (p2 : 1 ≤ C.cur.len) : C.stopd.Fin := by
  refine ⟨cn, fun he _ => ?_⟩
  have hms : C.stopd.ms = C.ms := rfl
  have hst : C.stopd.last3 = C.at3 := rfl
  by_cases h0 : C.cur.len - C.part = 0
  · have e1 : C.stopd.idx = skp C.ms (C.idx + 1) := by unfold Ctl.stopd; simp only; rw [if_pos h0]
    have hfull : C.at3 = C.cur.t3 := by rw [at3_cur hi, show C.part = C.cur.len by omega]; exact Mot.pos_full p2
    rw [e1, hms] at he
    rw [hst, hfull, hms]
    exact conn_end cn hb.rng hi (fun k hk hl => skp_between (i := C.idx + 1) (by omega) (by rw [he]; exact hl))
  · have e1 : C.stopd.idx = C.idx := by unfold Ctl.stopd; simp only; rw [if_neg h0]
    rw [e1, hms] at he
    omega
theorem advd_fin {C : Ctl} (hp : C.Pre) (cn : Conn C.ms) : C.advd.Fin := by
  have hs := sum_drop hp.run
  have hg := getD_pos hp.pos hp.run
  have hd0 := sum_nonneg' (drop_pos hp.pos (C.pos + 1))
  have h1 := hp.sum
  have h2 := hp.p0
  unfold Ctl.advd
  split
  · refine stopd_fin ⟨hp.vl, hp.n, hp.rng, hp.rate, hp.stp⟩ cn hp.lt ?_
    show 1 ≤ C.cur.len; omega
  · refine ⟨cn, fun he _ => ?_⟩
    have := hp.lt
    have he : C.idx = C.ms.length := he
    omega
theorem tick_fin {C : Ctl} (ho : C.Ok) (h : C.Fin) : C.tickC.Fin := by
  unfold Ctl.tickC
  split
  · rename_i ht
    have hi : C.idx < C.ms.length := by
      unfold Ctl.tickB at ht
      simp only [Bool.and_eq_true, decide_eq_true_eq] at ht
      exact ht.1.2
    split
    · exact advd_fin (ho.pre_start hi) h.cn
    · rename_i hp; exact advd_fin (ho.pre_run hp) h.cn
  · exact h
theorem hold_keep {C : Ctl} (ho : C.Ok) (hi : C.idx < C.ms.length) : C.holdC.idx = C.idx := by
  unfold Ctl.holdC
  split
  · rfl
  · split
    · rfl
    · split
      · split
        · have q1 := ho.p1 hi
          show (if C.cur.len - C.part = 0 then skp C.ms (C.idx + 1) else C.idx) = C.idx
          rw [if_neg (by omega)]
        · rfl
      · rfl
theorem new_fin {l : List Mot} {s a j : Int} (hc : Conn l) (hr : ∀ i, i < l.length → (l.getD i Mot.zero).rng) : (Ctl.new l s a j).Fin := by
  refine ⟨hc, fun he hp => ?_⟩
  have he : skp l 0 = l.length := he
  have hp : 0 < l.length := hp
  have h0 : (l.getD 0 Mot.zero).len = 0 := skp_between (i := 0) (Nat.le_refl _) (by rw [he]; exact hp)
  show (l.getD 0 Mot.zero).f3 = endOf l
  rw [Mot.flat (hr 0 hp) h0]
  exact conn_end hc hr hp (fun k hk hl => skp_between (i := 0) (by omega) (by rw [he]; exact hl))

/-- The way back leads from the place to the beginning. -/
theorem rLegs_chain (p b : Int × Int × Int) (safe rate : Int) (m : Mot) : ∀ k, Chain p (rLegs p b safe rate m k) (rFrom p b safe k)
  | 0 => rfl
  | k + 1 => by
    have ih := rLegs_chain p b safe rate m k
    have e : rFrom p b safe (k + 1) = rPt p b safe k := rfl
    rw [e]
    unfold rLegs
    split
    · rename_i h
      rw [List.append_nil, ← eq3_iff.1 h]
      exact ih
    · rename_i h
      exact ih.snoc (m := rMot p b safe rate m k) rfl (eq3_ne h)
theorem getD_right (a b : List Mot) (i : Nat) (h : a.length ≤ i) : (a ++ b).getD i Mot.zero = b.getD (i - a.length) Mot.zero := by
  simp [List.getD, List.getElem?_append_right h]
theorem getD_append_last {a b : List Mot} (h : 0 < b.length) : endOf (a ++ b) = endOf b := by
  unfold endOf
  congr 1
  rw [List.length_append, getD_right _ _ _ (by omega)]
  congr 1
  omega
theorem endOf_drop {l : List Mot} {i : Nat} (h : i < l.length) : endOf (l.drop i) = endOf l := by
  unfold endOf
  rw [drop_getD, List.length_drop]
  congr 2
  omega

/-- Where the motions begin and end behind a breakage. -/
theorem rst_ends {l : List Mot} {i : Nat} {p : Int × Int × Int} {safe : Int} (hi : i < l.length) (h0 : rstE l i p safe = 0) :
    0 < (rstL l i p safe).length ∧ ((rstL l i p safe).getD 0 Mot.zero).f3 = p ∧ endOf (rstL l i p safe) = endOf l ∧ (∀ k, k < (l.drop i).length → ∃ k', k' < (rstL l i p safe).length ∧ (rstL l i p safe).getD k' Mot.zero = (l.drop i).getD k Mot.zero) := by
  have hl : 0 < (l.drop i).length := by rw [List.length_drop]; omega
  have hb : rBeg l i p = (l.getD i Mot.zero).f3 := by unfold rBeg; rw [if_pos hi]
  unfold rstE at h0
  unfold rstL
  split
  · rename_i h; rw [if_pos h] at h0; cases h0
  · rename_i h
    rw [if_neg h] at h0
    split
    · rename_i h1
      refine ⟨hl, ?_, endOf_drop hi, fun k hk => ⟨k, hk, rfl⟩⟩
      rw [drop_getD, Nat.add_zero, ← hb]
      exact (eq3_iff.1 h1).symm
    · rename_i h1
      rw [if_neg h1] at h0
      split
      · rename_i h2; rw [if_pos h2] at h0; cases h0
      · have hch := rLegs_chain p (rBeg l i p) safe (rRate l (rCount l i)) (rLike l i) 4
        have e4 : rFrom p (rBeg l i p) safe 4 = rBeg l i p := rfl
        rw [e4] at hch
        generalize rLegs p (rBeg l i p) safe (rRate l (rCount l i)) (rLike l i) 4 = L at *
        cases L with
        | nil => exact absurd (eq3_iff.2 hch) h1
        | cons x r =>
          refine ⟨by simp, hch.1, ?_, fun k hk => ⟨(x :: r).length + k, by rw [List.length_append]; omega, ?_⟩⟩
          · rw [getD_append_last hl, endOf_drop hi]
          · rw [getD_right _ _ _ (by omega)]
            congr 1
            omega

/-- What holds while a job is performed, and is not done. -/
structure JobS.Led (J : JobS) (p0 pe : Int × Int × Int) : Prop where
  bk : J.C.bk = false
  ms : J.C.ms = J.l
  ne : 0 < J.l.length
  en : endOf J.l = pe
  fin : J.C.Fin
  ch : ∃ q, Chain p0 J.ps q ∧ Chain q J.C.ps J.C.last3

theorem JobS.Led.wake {J : JobS} {p0 pe : Int × Int × Int} (h : J.Led p0 pe) (t : Int) : (J.wake t).Led p0 pe := by
  unfold JobS.wake
  split
  · exact ⟨h.bk, h.ms, h.ne, h.en, ⟨h.fin.cn, h.fin.fin⟩, h.ch⟩
  · exact h
theorem JobS.Led.tick {J : JobS} {p0 pe : Int × Int × Int} (h : J.Led p0 pe) (ho : J.C.Ok) : J.tick.Led p0 pe := by
  obtain ⟨q, h1, h2⟩ := h.ch
  exact ⟨(tickC_ms J.C).2.1.trans h.bk, (tickC_ms J.C).1.trans h.ms, h.ne, h.en, tick_fin ho h.fin, q, h1, tick_chain h2⟩
theorem JobS.Led.hold {J : JobS} {p0 pe : Int × Int × Int} (h : J.Led p0 pe) (ho : J.C.Ok) (hi : J.C.idx < J.C.ms.length) (n t : Int) : (J.hold n t).Led p0 pe := by
  obtain ⟨q, h1, h2⟩ := h.ch
  refine ⟨(holdC_ms J.C).2.trans h.bk, (holdC_ms J.C).1.trans h.ms, h.ne, h.en, ⟨?_, fun he => ?_⟩, q, h1, hold_chain h2⟩
  · show Conn J.C.holdC.ms
    rw [(holdC_ms J.C).1]; exact h.fin.cn
  · have he : J.C.holdC.idx = J.C.holdC.ms.length := he
    rw [hold_keep ho hi, (holdC_ms J.C).1] at he
    omega
theorem skp_lt {l : List Mot} {k : Nat} (hk : k < l.length) (h : (l.getD k Mot.zero).len ≠ 0) : skp l 0 < l.length := by
  have hs := skp_le (ms := l) (i := 0) (by omega)
  rcases Nat.lt_or_ge (skp l 0) l.length with h1 | h1
  · exact h1
  · exact absurd (skp_between (i := 0) (Nat.zero_le k) (by omega)) h

theorem JobS.Led.broken {J : JobS} {p0 pe : Int × Int × Int} {s a j safe : Int} (h : J.Led p0 pe) (ho : J.C.Ok) (hi : J.C.idx < J.C.ms.length) (h0 : (J.broken s a j safe).1 = 0) :
    (J.broken s a j safe).2.Led p0 pe ∧ (J.broken s a j safe).2.C.idx < (J.broken s a j safe).2.C.ms.length := by
  have hil : J.C.idx < J.l.length := by rw [← h.ms]; exact hi
  have hcl : 1 ≤ J.C.cur.len := by have := ho.p0 hi; have := ho.p1 hi; omega
  unfold JobS.broken at h0 ⊢
  by_cases h1 : rstE J.l J.C.idx J.C.at3 safe = 0
  · rw [if_pos h1] at h0 ⊢
    by_cases h2 : chk (rstL J.l J.C.idx J.C.at3 safe) s a j = 0
    · rw [if_pos h2]
      obtain ⟨r1, r2, r3, r4⟩ := rst_ends hil h1
      obtain ⟨c1, c2, c3⟩ := chk_zero h2
      have hcn := conn_of c2
      have hrg : ∀ i, i < (rstL J.l J.C.idx J.C.at3 safe).length → ((rstL J.l J.C.idx J.C.at3 safe).getD i Mot.zero).rng := fun i hi => rngTo_at (conn_zero c2).2.1 i hi
      obtain ⟨q, e1, e2⟩ := h.ch
      refine ⟨⟨rfl, rfl, r1, r3.trans h.en, new_fin hcn hrg, J.C.at3, e1.append (brk_chain e2 h.bk hi), ?_⟩, ?_⟩
      · show J.C.at3 = (_, _, _)
        exact r2.symm
      · obtain ⟨k', hk', e⟩ := r4 0 (by rw [List.length_drop]; omega)
        rw [drop_getD, Nat.add_zero] at e
        refine skp_lt hk' ?_
        rw [e]
        have hcu : J.C.cur = J.l.getD J.C.idx Mot.zero := by unfold Ctl.cur; rw [h.ms]
        rw [hcu] at hcl
        omega
    · rw [if_neg h2] at h0; exact absurd h0 h2
  · rw [if_neg h1] at h0; exact absurd h0 h1

theorem evs_led {s a j safe t : Int} (hs : in64 safe) {p0 pe : Int × Int × Int} : ∀ (es : List (Int × Int)) (J : JobS) (k q : Nat), J.Ok k q → J.Led p0 pe → J.C.idx < J.C.ms.length → (JobS.evs s a j safe t es J).1 = 0 →
    (JobS.evs s a j safe t es J).2.1.Led p0 pe ∧ (JobS.evs s a j safe t es J).2.1.C.Ok ∧ ∃ k' q', (JobS.evs s a j safe t es J).2.1.Ok k' q'
  | [], J, k, q, ho, h, hi, h0 => ⟨h, ho.ok, k, q, ho⟩
  | e :: r, J, k, q, ho, h, hi, h0 => by
    unfold JobS.evs at h0 ⊢
    by_cases h1 : e.1 ≤ t
    · rw [if_pos h1] at h0 ⊢
      by_cases h2 : e.2 = 0
      · rw [if_pos h2] at h0 ⊢
        by_cases h3 : (J.broken s a j safe).1 = 0
        · rw [if_pos h3] at h0 ⊢
          obtain ⟨b1, b2⟩ := h.broken ho.ok hi h3
          exact evs_led hs r _ _ _ (ho.broken hs h3) b1 b2 h0
        · rw [if_neg h3] at h0; exact absurd h0 h3
      · rw [if_neg h2] at h0 ⊢
        refine evs_led hs r _ _ _ (ho.hold e.2 t) (h.hold ho.ok hi e.2 t) ?_ h0
        show J.C.holdC.idx < J.C.holdC.ms.length
        rw [hold_keep ho.ok hi, (holdC_ms J.C).1]; exact hi
    · rw [if_neg h1]
      exact ⟨h, ho.ok, k, q, ho⟩

theorem done_out {J : JobS} {p0 pe : Int × Int × Int} (h : J.Led p0 pe) (hd : J.doneB = true) : Chain p0 J.out pe := by
  have he : J.C.idx = J.C.ms.length := by rw [h.ms]; exact of_decide_eq_true hd
  obtain ⟨q, h1, h2⟩ := h.ch
  have hdl : J.C.doneL = J.C.ps := by
    unfold Ctl.doneL Ctl.pieceB
    rw [decide_eq_false (by omega)]
    simp
  unfold JobS.out
  rw [hdl]
  have hf := h.fin.fin he (by rw [h.ms]; exact h.ne)
  rw [h.ms, h.en] at hf
  rw [← hf]
  exact h1.append h2

theorem run_led {s a j safe : Int} (hs : in64 safe) {p0 pe : Int × Int × Int} : ∀ (f : Nat) (t : Int) (J : JobS) (es : List (Int × Int)) (k q : Nat), J.Ok k q → J.Led p0 pe → (JobS.run s a j safe f t J es).1 = 0 → Chain p0 (JobS.run s a j safe f t J es).2 pe
  | 0, t, J, es, k, q, ho, h, h0 => by
    unfold JobS.run at h0 ⊢
    by_cases hd : J.doneB = true
    · rw [if_pos hd]; exact done_out h hd
    · rw [if_neg hd] at h0; cases h0
  | f + 1, t, J, es, k, q, ho, h, h0 => by
    unfold JobS.run at h0 ⊢
    by_cases hd : J.doneB = true
    · rw [if_pos hd]; exact done_out h hd
    · rw [if_neg hd] at h0 ⊢
      by_cases h1 : (JobS.evs s a j safe t es (J.wake t)).1 = 0
      · rw [if_pos h1] at h0 ⊢
        have hi : (J.wake t).C.idx < (J.wake t).C.ms.length := by
          have hw := h.wake t
          have hnd : J.C.idx ≠ J.l.length := fun e => hd (decide_eq_true e)
          have hle := ho.ok.le
          have e1 : (J.wake t).C.idx = J.C.idx := by unfold JobS.wake; split <;> rfl
          have e2 : (J.wake t).C.ms = J.C.ms := by unfold JobS.wake; split <;> rfl
          rw [e1, e2, h.ms]
          rw [h.ms] at hle
          omega
        obtain ⟨l1, l2, k', q', l3⟩ := evs_led hs es (J.wake t) k q (ho.wake t) (h.wake t) hi h1
        by_cases h2 : (JobS.evs s a j safe t es (J.wake t)).2.1.doneB = true
        · rw [if_pos h2]; exact done_out l1 h2
        · rw [if_neg h2] at h0 ⊢
          exact run_led hs f (t + 1) _ _ _ _ l3.tick (l1.tick l2) h0
      · rw [if_neg h1] at h0; exact absurd h0 h1

/-- The pieces of a job that goes well lead from the beginning of its motions to their end. -/
theorem dist_chain {l : List Mot} {s a j safe : Int} {es : List (Int × Int)} (hw : WfL l) (hs : in64 safe) (hn : 0 < l.length) (h0 : (dist l s a j safe es).1 = 0) : Chain (l.getD 0 Mot.zero).f3 (dist l s a j safe es).2 (endOf l) := by
  unfold dist at h0 ⊢
  by_cases hc : chk l s a j = 0
  · rw [if_pos hc] at h0 ⊢
    obtain ⟨c1, c2, c3⟩ := chk_zero hc
    exact run_led hs _ _ _ _ _ _ (JobS.Ok.new hc hw) ⟨rfl, rfl, hn, rfl, new_fin (conn_of c2) (fun i hi => rngTo_at (conn_zero c2).2.1 i hi), _, rfl, rfl⟩ h0
  · rw [if_neg hc] at h0; exact absurd h0 hc

end Go.Proofs.YtjibcnnbclcboaaGreatDoor

namespace Go.Proofs.YtjibcnnbclcboaaGreatDoor
open Go.RowKit

/-- The motions that lead somewhere. -/
def wayB (m : Mot) : Bool := !eq3 m.f3 m.t3
def ways (l : List Mot) : List Mot := l.filter wayB

/-- One piece more, joined to the last one where they belong together. -/
def joinTo (acc : List Mot) (p : Mot) : List Mot :=
  match acc.getLast? with
  | some k => if k.block = p.block ∧ k.t3 = p.f3 ∧ k.rate = p.rate ∧ k.tool = p.tool then acc.dropLast ++ [{ k with tx := p.tx, ty := p.ty, tz := p.tz }] else acc ++ [p]
  | none => acc ++ [p]
def joinL (l : List Mot) : List Mot := l.foldl joinTo []
theorem joinL_snoc (l : List Mot) (p : Mot) : joinL (l ++ [p]) = joinTo (joinL l) p := by simp [joinL]

theorem joinTo_new {acc : List Mot} {p : Mot} (h : ∀ k ∈ acc, k.block ≠ p.block) : joinTo acc p = acc ++ [p] := by
  unfold joinTo
  cases hl : acc.getLast? with
  | none => rfl
  | some k =>
    have hm : k ∈ acc := List.mem_of_getLast? hl
    simp only
    rw [if_neg (fun e => h k hm e.1)]
theorem joinTo_last {acc : List Mot} {k p : Mot} (h : k.block = p.block ∧ k.t3 = p.f3 ∧ k.rate = p.rate ∧ k.tool = p.tool) : joinTo (acc ++ [k]) p = acc ++ [{ k with tx := p.tx, ty := p.ty, tz := p.tz }] := by
  unfold joinTo
  rw [List.getLast?_append]
  simp only [List.getLast?_singleton, Option.some_or]
  rw [if_pos h]
  simp

theorem ways_succ {l : List Mot} {i : Nat} (h : i < l.length) : ways (l.take (i + 1)) = ways (l.take i) ++ (if wayB (l.getD i Mot.zero) = true then [l.getD i Mot.zero] else []) := by
  unfold ways
  rw [take_succ_getD h, List.filter_append]
  congr 1
  simp only [List.filter_cons, List.filter_nil]
theorem ways_skip {l : List Mot} (hr : ∀ i, i < l.length → (l.getD i Mot.zero).rng) : ∀ (j i : Nat), i ≤ j → j ≤ l.length → (∀ k, i ≤ k → k < j → (l.getD k Mot.zero).len = 0) → ways (l.take j) = ways (l.take i)
  | 0, i, h, _, _ => by have : i = 0 := by omega
                        subst this; rfl
  | j + 1, i, h, hj, hz => by
    rcases Nat.lt_or_ge i (j + 1) with h1 | h1
    · rw [ways_succ (by omega), ways_skip hr j i (by omega) (by omega) (fun k a b => hz k a (by omega))]
      have : wayB (l.getD j Mot.zero) = false := by
        unfold wayB
        rw [eq3_iff.2 (Mot.flat (hr j (by omega)) (hz j (by omega) (by omega)))]
        rfl
      rw [this]
      simp
    · have : i = j + 1 := by omega
      subst this; rfl

theorem Mot.ways_of_len {m : Mot} (h : 1 ≤ m.len) (hr : m.rng) : wayB m = true := by
  unfold wayB
  cases e : eq3 m.f3 m.t3
  · rfl
  · exfalso
    have := eq3_iff.1 e
    have h0 : m.pos 0 = m.t3 := by rw [Mot.pos_zero h]; exact this
    unfold Mot.f3 Mot.t3 at this
    simp only [Prod.mk.injEq] at this
    obtain ⟨n0, n1, n2⟩ := Mot.len_is hr
    have hsq : m.sq = 0 := by
      unfold Mot.sq
      rw [this.1, this.2.1, this.2.2]
      simp
    rw [hsq] at n2
    have h1 := n2 (by omega)
    have h2 : 0 ≤ (m.len - 1) * (m.len - 1) := sq_nonneg' _
    omega

/-! ### Without events -/
/-- Each motion is one piece. -/
structure Ctl.Full (C : Ctl) : Prop where
  cn : Conn C.ms
  ps : C.ps = ways (C.ms.take C.idx)
  at_ : C.idx < C.ms.length → C.last3 = C.cur.f3
  br : C.br = false
  hd : C.hd = false
  bk : C.bk = false

theorem way_self (m : Mot) : m.way m.f3 m.t3 = m := rfl

theorem stopd_full {C : Ctl} (hb : C.Base) (h : C.Full) (hi : C.idx < C.ms.length) (p1 : C.part = C.cur.len) (p2 : 1 ≤ C.cur.len) : C.stopd.Full := by
  have h0 : C.cur.len - C.part = 0 := by omega
  have e1 : C.stopd.idx = skp C.ms (C.idx + 1) := by unfold Ctl.stopd; simp only; rw [if_pos h0]
  have hat : C.at3 = C.cur.t3 := by rw [at3_cur hi, p1]; exact Mot.pos_full p2
  have hw : wayB C.cur = true := Mot.ways_of_len p2 (hb.rng C.idx hi)
  have hw2 : wayB (C.ms.getD C.idx Mot.zero) = true := hw
  have hne : eq3 C.cur.f3 C.cur.t3 = false := by
    unfold wayB at hw
    cases e : eq3 C.cur.f3 C.cur.t3
    · rfl
    · rw [e] at hw; cases hw
  have hs := skp_le (ms := C.ms) (i := C.idx + 1) (by omega)
  refine ⟨h.cn, ?_, fun hlt => ?_, rfl, h.hd, h.bk⟩
  · show C.psAdd = ways (C.ms.take C.stopd.idx)
    rw [e1, ways_skip hb.rng _ _ hs.1 hs.2 (fun k a b => skp_between a b), ways_succ hi, if_pos hw2]
    unfold Ctl.psAdd
    rw [h.at_ hi, hat, hne, if_neg (by decide), h.ps, way_self]
    rfl
  · show C.at3 = C.stopd.cur.f3
    have hcu : C.stopd.cur = C.ms.getD (skp C.ms (C.idx + 1)) Mot.zero := by unfold Ctl.cur; rw [e1]; rfl
    rw [hcu, hat]
    have hlt : skp C.ms (C.idx + 1) < C.ms.length := by rw [← e1]; exact hlt
    exact conn_skip h.cn hb.rng _ (C.idx + 1) hs.1 hlt (fun k a b => skp_between a b) (h.cn C.idx (by omega))

theorem advd_full {C : Ctl} (hp : C.Pre) (h : C.Full) : C.advd.Full := by
  have hs := sum_drop hp.run
  have hg := getD_pos hp.pos hp.run
  have h2 := hp.p0
  obtain ⟨f1, f2⟩ := hp.full h.br
  unfold Ctl.advd
  split
  · rename_i hl
    have hn : C.plan.drop (C.pos + 1) = [] := List.drop_eq_nil_iff.2 (by omega)
    rw [hn] at hs
    simp only [List.sum_nil, Int.add_zero] at hs
    refine stopd_full ⟨hp.vl, hp.n, hp.rng, hp.rate, hp.stp⟩ ⟨h.cn, h.ps, h.at_, h.br, h.hd, h.bk⟩ hp.lt ?_ ?_
    · show C.part + C.plan.getD C.pos 0 = C.cur.len; omega
    · show 1 ≤ C.cur.len
      have hd0 := sum_nonneg' (drop_pos hp.pos C.pos)
      omega
  · exact ⟨h.cn, h.ps, h.at_, h.br, h.hd, h.bk⟩
theorem tick_full {C : Ctl} (ho : C.Ok) (h : C.Full) : C.tickC.Full := by
  unfold Ctl.tickC
  split
  · rename_i ht
    have hi : C.idx < C.ms.length := by
      unfold Ctl.tickB at ht
      simp only [Bool.and_eq_true, decide_eq_true_eq] at ht
      exact ht.1.2
    split
    · exact advd_full (ho.pre_start hi) ⟨h.cn, h.ps, h.at_, rfl, h.hd, h.bk⟩
    · rename_i hp; exact advd_full (ho.pre_run hp) h
  · exact h
theorem new_full {l : List Mot} {s a j : Int} (hc : Conn l) (hr : ∀ i, i < l.length → (l.getD i Mot.zero).rng) : (Ctl.new l s a j).Full := by
  have hs := skp_le (ms := l) (i := 0) (by omega)
  refine ⟨hc, ?_, fun hlt => ?_, rfl, rfl, rfl⟩
  · show [] = ways (l.take (skp l 0))
    rw [ways_skip hr _ _ hs.1 hs.2 (fun k a b => skp_between a b)]
    rfl
  · exact conn_skip hc hr (skp l 0) 0 hs.1 hlt (fun k a b => skp_between a b) rfl

theorem rem_pos {C : Ctl} (ho : C.Ok) (hi : C.idx < C.ms.length) : 1 ≤ C.rem := by
  have h1 := ho.p1 hi
  have h2 := lsum_mono ho.rng (C.idx + 1) (j := C.ms.length) (by omega) (Nat.le_refl _)
  have h3 : lsum C.ms (C.idx + 1) = lsum C.ms C.idx + C.cur.len := rfl
  unfold Ctl.rem
  rw [if_pos hi]
  omega

theorem run_nil {s a j safe : Int} : ∀ (f : Nat) (t : Int) (J : JobS), J.C.Ok → J.C.Full → J.C.ms = J.l → J.held = false → J.C.rem ≤ f → JobS.run s a j safe f t J [] = (0, J.ps ++ ways J.l)
  | f, t, J, ho, hf, hm, hh, hr => by
    by_cases hd : J.doneB = true
    · have he : J.C.idx = J.C.ms.length := by rw [hm]; exact of_decide_eq_true hd
      have ho2 : J.out = J.ps ++ ways J.l := by
        unfold JobS.out Ctl.doneL Ctl.pieceB
        rw [decide_eq_false (show ¬ J.C.idx < J.C.ms.length by omega), if_neg (fun h => by cases h.1), hf.ps, he, List.take_length, hm]
      cases f with
      | zero => unfold JobS.run; rw [if_pos hd, ho2]
      | succ f => unfold JobS.run; rw [if_pos hd, ho2]
    · have hi : J.C.idx < J.C.ms.length := by
        have := ho.le
        have hnd : J.C.idx ≠ J.l.length := fun e => hd (decide_eq_true e)
        rw [← hm] at hnd
        omega
      have hrp := rem_pos ho hi
      cases f with
      | zero => exfalso; simp only [Int.natCast_zero] at hr; omega
      | succ f =>
        have hwk : J.wake t = J := by unfold JobS.wake; rw [if_neg (fun h => by rw [hh] at h; cases h.1)]
        have htb : J.C.tickB = true := by unfold Ctl.tickB; rw [hf.bk, hf.hd, decide_eq_true hi]; simp
        have hrt := ho.tick_rem htb
        unfold JobS.run
        rw [if_neg hd, hwk]
        have e0 : JobS.evs s a j safe t [] J = (0, J, []) := rfl
        rw [e0]
        show (if (0 : Int) = 0 then (if J.doneB = true then (0, J.out) else JobS.run s a j safe f (t + 1) J.tick []) else (0, [])) = _
        rw [if_pos rfl, if_neg hd]
        exact run_nil f (t + 1) J.tick ho.tick (tick_full ho hf) ((tickC_ms J.C).1.trans hm) hh (by show J.C.tickC.rem ≤ f; push_cast at hr; omega)

/-! ### With holds -/
theorem btw_back {a b p q n : Int} (h : 1 ≤ n) (h0 : 0 ≤ q) (hp : q ≤ p) (he : btw a b p n = a) : btw a b q n = a := by
  by_cases hb : 0 ≤ b - a
  · have h1 := btw_up a b q p n h hb hp
    have h2 := btw_up a b 0 q n h hb h0
    rw [btw_zero a b n h] at h2
    omega
  · have h1 := btw_down a b q p n h (by omega) hp
    have h2 := btw_down a b 0 q n h (by omega) h0
    rw [btw_zero a b n h] at h2
    omega
theorem Mot.pos_back {m : Mot} {p q : Int} (h : 1 ≤ m.len) (h0 : 0 ≤ q) (hp : q ≤ p) (he : m.pos p = m.f3) : m.pos q = m.f3 := by
  unfold Mot.pos Mot.f3 at *
  simp only [Prod.mk.injEq] at *
  exact ⟨btw_back h h0 hp he.1, btw_back h h0 hp he.2.1, btw_back h h0 hp he.2.2⟩

/-- No two motions have the same block. -/
def Blocks (l : List Mot) : Prop := ∀ i k, i < k → k < l.length → (l.getD i Mot.zero).block ≠ (l.getD k Mot.zero).block
theorem ways_block {l : List Mot} (hb : Blocks l) {i : Nat} (hi : i < l.length) : ∀ k ∈ ways (l.take i), k.block ≠ (l.getD i Mot.zero).block := fun k hk => by
  have h1 : k ∈ l.take i := (List.mem_filter.1 hk).1
  obtain ⟨n, hn, e⟩ := List.getElem_of_mem h1
  have hn2 : n < i := by rw [List.length_take] at hn; omega
  have := hb n i hn2 hi
  rw [show l.getD n Mot.zero = k by simp [show n < l.length by omega, ← e]] at this
  exact this

/-- The piece of the present motion that is done. -/
def Ctl.tailL (C : Ctl) (p : Int × Int × Int) : List Mot := if C.idx < C.ms.length ∧ ¬ eq3 C.cur.f3 p = true then [C.cur.way C.cur.f3 p] else []
structure Ctl.Jn (C : Ctl) : Prop where
  cn : Conn C.ms
  bl : Blocks C.ms
  jn : joinL C.ps = ways (C.ms.take C.idx) ++ C.tailL C.last3
  at_ : C.idx < C.ms.length → ∃ q, 0 ≤ q ∧ q ≤ C.part ∧ C.last3 = C.cur.pos q

theorem stopd_jn {C : Ctl} (hb : C.Base) (h : C.Jn) (hi : C.idx < C.ms.length) (p0 : 0 ≤ C.part) (p2 : 1 ≤ C.cur.len) : C.stopd.Jn := by
  obtain ⟨q, q0, q1, hq⟩ := h.at_ hi
  have hat := at3_cur hi
  have hj : joinL C.psAdd = ways (C.ms.take C.idx) ++ C.tailL C.at3 := by
    unfold Ctl.psAdd
    by_cases he : eq3 C.last3 C.at3 = true
    · rw [if_pos he, h.jn, eq3_iff.1 he]
    · rw [if_neg he, joinL_snoc, h.jn]
      by_cases hf : eq3 C.cur.f3 C.last3 = true
      · have e1 : C.tailL C.last3 = [] := by unfold Ctl.tailL; rw [if_neg (fun x => x.2 hf)]
        have hne : ¬ eq3 C.cur.f3 C.at3 = true := by rw [eq3_iff.1 hf]; exact he
        have e2 : C.tailL C.at3 = [C.cur.way C.cur.f3 C.at3] := by unfold Ctl.tailL; rw [if_pos ⟨hi, hne⟩]
        rw [e1, e2, List.append_nil, joinTo_new (p := C.cur.way C.last3 C.at3) (ways_block h.bl hi), eq3_iff.1 hf]
      · have hne : ¬ eq3 C.cur.f3 C.at3 = true := fun e => by
          have e' := (eq3_iff.1 e).symm
          rw [hat] at e'
          have := Mot.pos_back p2 q0 q1 e'
          rw [← hq] at this
          exact hf (eq3_iff.2 this.symm)
        have e1 : C.tailL C.last3 = [C.cur.way C.cur.f3 C.last3] := by unfold Ctl.tailL; rw [if_pos ⟨hi, hf⟩]
        have e2 : C.tailL C.at3 = [C.cur.way C.cur.f3 C.at3] := by unfold Ctl.tailL; rw [if_pos ⟨hi, hne⟩]
        rw [e1, e2, joinTo_last (k := C.cur.way C.cur.f3 C.last3) (p := C.cur.way C.last3 C.at3) ⟨rfl, rfl, rfl, rfl⟩]
        rfl
  have hms : C.stopd.ms = C.ms := rfl
  have hst : C.stopd.last3 = C.at3 := rfl
  by_cases h0 : C.cur.len - C.part = 0
  · have e1 : C.stopd.idx = skp C.ms (C.idx + 1) := by unfold Ctl.stopd; simp only; rw [if_pos h0]
    have e2 : C.stopd.part = 0 := by unfold Ctl.stopd; simp only; rw [if_pos h0]
    have hs := skp_le (ms := C.ms) (i := C.idx + 1) (by omega)
    have hfull : C.at3 = C.cur.t3 := by rw [hat, show C.part = C.cur.len by omega]; exact Mot.pos_full p2
    have hw : wayB C.cur = true := Mot.ways_of_len p2 (hb.rng C.idx hi)
    have hw2 : wayB (C.ms.getD C.idx Mot.zero) = true := hw
    have hne : ¬ eq3 C.cur.f3 C.at3 = true := by
      rw [hfull]
      intro e
      unfold wayB at hw
      rw [e] at hw
      cases hw
    have e3 : C.tailL C.at3 = [C.cur] := by unfold Ctl.tailL; rw [if_pos ⟨hi, hne⟩, hfull, way_self]
    have hfrom : C.stopd.idx < C.stopd.ms.length → C.at3 = C.stopd.cur.f3 := fun hlt => by
      have hcu : C.stopd.cur = C.ms.getD (skp C.ms (C.idx + 1)) Mot.zero := by unfold Ctl.cur; rw [hms, e1]
      rw [hcu, hfull]
      have hlt : skp C.ms (C.idx + 1) < C.ms.length := by rw [← e1]; exact hlt
      exact conn_skip h.cn hb.rng _ (C.idx + 1) hs.1 hlt (fun k a b => skp_between a b) (h.cn C.idx (by omega))
    refine ⟨h.cn, h.bl, ?_, fun hlt => ?_⟩
    · show joinL C.psAdd = ways (C.ms.take C.stopd.idx) ++ C.stopd.tailL C.at3
      have e4 : C.stopd.tailL C.at3 = [] := by
        unfold Ctl.tailL
        rw [if_neg (fun x => x.2 (eq3_iff.2 (hfrom x.1).symm))]
      rw [hj, e3, e4, e1, List.append_nil, ways_skip hb.rng _ _ hs.1 hs.2 (fun k a b => skp_between a b), ways_succ hi, if_pos hw2]
      rfl
    · have hl1 : 1 ≤ C.stopd.cur.len := by
        have hlt' : skp C.ms (C.idx + 1) < C.ms.length := by rw [← e1]; exact hlt
        have hcu : C.stopd.cur = C.ms.getD (skp C.ms (C.idx + 1)) Mot.zero := by unfold Ctl.cur; rw [hms, e1]
        have h1 := skp_pos hlt'; have h2 := hb.len0 hlt'
        rw [hcu]; omega
      refine ⟨0, Int.le_refl _, by rw [e2]; exact Int.le_refl _, ?_⟩
      rw [hst, hfrom hlt, Mot.pos_zero hl1]
  · have e1 : C.stopd.idx = C.idx := by unfold Ctl.stopd; simp only; rw [if_neg h0]
    have e2 : C.stopd.part = C.part := by unfold Ctl.stopd; simp only; rw [if_neg h0]
    have hcu : C.stopd.cur = C.cur := by unfold Ctl.cur; rw [hms, e1]
    refine ⟨h.cn, h.bl, ?_, fun _ => ⟨C.part, p0, by rw [e2]; exact Int.le_refl _, by rw [hst, hcu, hat]⟩⟩
    show joinL C.psAdd = ways (C.ms.take C.stopd.idx) ++ C.stopd.tailL C.at3
    rw [hj, e1]
    unfold Ctl.tailL
    rw [hcu, hms, e1]

theorem advd_jn {C : Ctl} (hp : C.Pre) (h : C.Jn) : C.advd.Jn := by
  have hs := sum_drop hp.run
  have hg := getD_pos hp.pos hp.run
  have hd0 := sum_nonneg' (drop_pos hp.pos (C.pos + 1))
  have h1 := hp.sum
  have h2 := hp.p0
  have hl : Ctl.Jn { C with part := C.part + C.plan.getD C.pos 0, pos := C.pos + 1 } := by
    refine ⟨h.cn, h.bl, h.jn, fun hi => ?_⟩
    obtain ⟨q, q0, q1, hq⟩ := h.at_ hi
    exact ⟨q, q0, by show q ≤ C.part + C.plan.getD C.pos 0; omega, hq⟩
  unfold Ctl.advd
  split
  · refine stopd_jn ⟨hp.vl, hp.n, hp.rng, hp.rate, hp.stp⟩ hl hp.lt ?_ ?_
    · show 0 ≤ C.part + C.plan.getD C.pos 0; omega
    · show 1 ≤ C.cur.len; omega
  · exact hl
theorem tick_jn {C : Ctl} (ho : C.Ok) (h : C.Jn) : C.tickC.Jn := by
  unfold Ctl.tickC
  split
  · rename_i ht
    have hi : C.idx < C.ms.length := by
      unfold Ctl.tickB at ht
      simp only [Bool.and_eq_true, decide_eq_true_eq] at ht
      exact ht.1.2
    split
    · exact advd_jn (ho.pre_start hi) ⟨h.cn, h.bl, h.jn, h.at_⟩
    · rename_i hp; exact advd_jn (ho.pre_run hp) h
  · exact h
theorem hold_jn {C : Ctl} (ho : C.Ok) (h : C.Jn) : C.holdC.Jn := by
  unfold Ctl.holdC
  split
  · exact h
  · split
    · exact ⟨h.cn, h.bl, h.jn, h.at_⟩
    · rename_i hc
      have hp : C.pos ≠ C.plan.length := fun e => hc (.inl e)
      have hn : C.plan ≠ [] := fun e => hp (by rw [ho.rest e, e]; rfl)
      obtain ⟨r1, r2⟩ := ho.run hn
      have q0 := ho.p0 r1
      have q1 := ho.p1 r1
      split
      · split
        · refine stopd_jn ⟨ho.vl, ho.n, ho.rng, ho.rate, ho.stp⟩ ⟨h.cn, h.bl, h.jn, h.at_⟩ r1 q0 ?_
          show 1 ≤ C.cur.len; omega
        · exact ⟨h.cn, h.bl, h.jn, h.at_⟩
      · exact ⟨h.cn, h.bl, h.jn, h.at_⟩
theorem new_jn {l : List Mot} {s a j : Int} (hc : Conn l) (hb : Blocks l) (hr : ∀ i, i < l.length → (l.getD i Mot.zero).rng) : (Ctl.new l s a j).Jn := by
  have hf := new_full (s := s) (a := a) (j := j) hc hr
  refine ⟨hc, hb, ?_, fun hlt => ⟨0, Int.le_refl _, Int.le_refl _, ?_⟩⟩
  · show [] = ways (l.take (skp l 0)) ++ (Ctl.new l s a j).tailL (Ctl.new l s a j).last3
    have e1 : ways (l.take (skp l 0)) = [] := hf.ps.symm
    have e2 : (Ctl.new l s a j).tailL (Ctl.new l s a j).last3 = [] := by
      unfold Ctl.tailL
      rw [if_neg (fun x => x.2 (eq3_iff.2 (hf.at_ x.1).symm))]
    rw [e1, e2]; rfl
  · have hlt' : skp l 0 < l.length := hlt
    have hl1 : 1 ≤ (l.getD (skp l 0) Mot.zero).len := by
      have h1 := skp_pos (ms := l) (i := 0) hlt'; have h2 := Mot.len_bounds (hr _ hlt'); omega
    rw [hf.at_ hlt]
    exact (Mot.pos_zero hl1).symm

/-- Holds alone never fail. -/
theorem evs_hold {s a j safe t : Int} : ∀ (es : List (Int × Int)) (J : JobS), (∀ e ∈ es, e.2 ≠ 0) → J.C.Ok → J.C.Jn → J.C.ms = J.l →
    (JobS.evs s a j safe t es J).1 = 0 ∧ (JobS.evs s a j safe t es J).2.1.C.Ok ∧ (JobS.evs s a j safe t es J).2.1.C.Jn ∧ (JobS.evs s a j safe t es J).2.1.C.ms = J.l ∧ (JobS.evs s a j safe t es J).2.1.l = J.l ∧ (JobS.evs s a j safe t es J).2.1.ps = J.ps ∧ ∀ e ∈ (JobS.evs s a j safe t es J).2.2, e.2 ≠ 0
  | [], J, hn, ho, hj, hm => ⟨rfl, ho, hj, hm, rfl, rfl, fun e he => by cases he⟩
  | e :: r, J, hn, ho, hj, hm => by
    unfold JobS.evs
    by_cases h1 : e.1 ≤ t
    · rw [if_pos h1, if_neg (hn e (by simp))]
      exact evs_hold r (J.hold e.2 t) (fun x hx => hn x (by simp [hx])) ho.hold (hold_jn ho hj) ((holdC_ms J.C).1.trans hm)
    · rw [if_neg h1]
      exact ⟨rfl, ho, hj, hm, rfl, rfl, hn⟩

theorem run_hold {s a j safe : Int} : ∀ (f : Nat) (t : Int) (J : JobS) (es : List (Int × Int)), (∀ e ∈ es, e.2 ≠ 0) → J.C.Ok → J.C.Jn → J.C.ms = J.l → J.ps = [] →
    (JobS.run s a j safe f t J es).1 = 3 ∨ ((JobS.run s a j safe f t J es).1 = 0 ∧ joinL (JobS.run s a j safe f t J es).2 = ways J.l)
  | f, t, J, es, hn, ho, hj, hm, hp => by
    have hdone : ∀ J' : JobS, J'.C.Jn → J'.C.ms = J.l → J'.l = J.l → J'.ps = [] → J'.doneB = true → joinL J'.out = ways J.l := fun J' hj' hm' hl' hp' hd => by
      have he : J'.C.idx = J'.C.ms.length := by rw [hm', ← hl']; exact of_decide_eq_true hd
      have e1 : J'.out = J'.C.ps := by
        unfold JobS.out Ctl.doneL Ctl.pieceB
        rw [decide_eq_false (show ¬ J'.C.idx < J'.C.ms.length by omega), if_neg (fun h => by cases h.1), hp']
        rfl
      have e2 : J'.C.tailL J'.C.last3 = [] := by unfold Ctl.tailL; rw [if_neg (fun x => by omega)]
      rw [e1, hj'.jn, e2, List.append_nil, he, List.take_length, hm']
    by_cases hd : J.doneB = true
    · right
      cases f with
      | zero => unfold JobS.run; rw [if_pos hd]; exact ⟨rfl, hdone J hj hm rfl hp hd⟩
      | succ f => unfold JobS.run; rw [if_pos hd]; exact ⟨rfl, hdone J hj hm rfl hp hd⟩
    · cases f with
      | zero => left; unfold JobS.run; rw [if_neg hd]
      | succ f =>
        have w1 : (J.wake t).C.Ok := by unfold JobS.wake; split; exact ho.resume; exact ho
        have w2 : (J.wake t).C.Jn := by unfold JobS.wake; split; exact ⟨hj.cn, hj.bl, hj.jn, hj.at_⟩; exact hj
        have w3 : (J.wake t).C.ms = (J.wake t).l := by unfold JobS.wake; split <;> exact hm
        have w4 : (J.wake t).l = J.l := by unfold JobS.wake; split <;> rfl
        have w5 : (J.wake t).ps = [] := by unfold JobS.wake; split <;> exact hp
        obtain ⟨v1, v2, v3, v4, v5, v6, v7⟩ := evs_hold (s := s) (a := a) (j := j) (safe := safe) (t := t) es (J.wake t) hn w1 w2 w3
        rw [w4] at v4 v5
        rw [w5] at v6
        unfold JobS.run
        rw [if_neg hd, if_pos v1]
        generalize JobS.evs s a j safe t es (J.wake t) = E at *
        by_cases h2 : E.2.1.doneB = true
        · rw [if_pos h2]
          exact .inr ⟨rfl, hdone E.2.1 v3 v4 v5 v6 h2⟩
        · rw [if_neg h2]
          have hr := run_hold (s := s) (a := a) (j := j) (safe := safe) f (t + 1) E.2.1.tick E.2.2 v7 v2.tick (tick_jn v2 v3) ((tickC_ms E.2.1.C).1.trans (v4.trans v5.symm)) v6
          rw [show E.2.1.tick.l = J.l from v5] at hr
          exact hr

/-- Without events the pieces are the motions that lead somewhere. -/
theorem dist_nil {l : List Mot} {s a j safe : Int} (hw : WfL l) (hc : chk l s a j = 0) (hr : lsum l l.length ≤ 100000) : dist l s a j safe [] = (0, ways l) := by
  obtain ⟨c1, c2, c3⟩ := chk_zero hc
  unfold dist
  rw [if_pos hc]
  have := run_nil (s := s) (a := a) (j := j) (safe := safe) 100000 0 (JobS.new l s a j) (new_ok_of hc hw) (new_full (conn_of c2) (fun i hi => rngTo_at (conn_zero c2).2.1 i hi)) rfl rfl (by show (Ctl.new l s a j).rem ≤ _; rw [new_rem]; exact hr)
  rw [this]
  rfl

/-- With holds alone the pieces, joined, are the motions that lead somewhere. -/
theorem dist_hold {l : List Mot} {s a j safe : Int} {es : List (Int × Int)} (hw : WfL l) (hb : Blocks l) (hn : ∀ e ∈ es, e.2 ≠ 0) (hc : chk l s a j = 0) :
    (dist l s a j safe es).1 = 3 ∨ ((dist l s a j safe es).1 = 0 ∧ joinL (dist l s a j safe es).2 = ways l) := by
  obtain ⟨c1, c2, c3⟩ := chk_zero hc
  unfold dist
  rw [if_pos hc]
  exact run_hold (s := s) (a := a) (j := j) (safe := safe) 100000 0 (JobS.new l s a j) es hn (new_ok_of hc hw) (new_jn (conn_of c2) hb (fun i hi => rngTo_at (conn_zero c2).2.1 i hi)) rfl rfl

end Go.Proofs.YtjibcnnbclcboaaGreatDoor

namespace Go.Proofs.YtjibcnnbclcboaaGreatDoor
open Go.RowKit

/-- A way: the differences of the coordinates, and the rate. -/
structure Way where
  x : Int
  y : Int
  z : Int
  r : Int

/-- The motion of a way from a place, with its number. -/
def Way.mot (w : Way) (p : Int × Int × Int) (i : Nat) : Mot := ⟨p.1, p.2.1, p.2.2, p.1 + w.x, p.2.1 + w.y, p.2.2 + w.z, 1000 * w.r, 1 + ((i / 3 : Nat) : Int), (i : Nat)⟩
/-- The motions of ways. -/
def routeGo : List Way → Int × Int × Int → Nat → List Mot
  | [], _, _ => []
  | w :: r, p, i => w.mot p i :: routeGo r (p.1 + w.x, p.2.1 + w.y, p.2.2 + w.z) (i + 1)
def route (p : Int × Int × Int) (l : List Way) : List Mot := routeGo l p 0

/-- The place behind so many ways. -/
def placeGo : List Way → Int × Int × Int → Nat → Int × Int × Int
  | [], p, _ => p
  | _ :: _, p, 0 => p
  | w :: r, p, k + 1 => placeGo r (p.1 + w.x, p.2.1 + w.y, p.2.2 + w.z) k

/-- Ways of small numbers. -/
structure Way.small (w : Way) : Prop where
  x : -32768 ≤ w.x ∧ w.x ≤ 32767
  y : -32768 ≤ w.y ∧ w.y ≤ 32767
  z : -32768 ≤ w.z ∧ w.z ≤ 32767
  r : 0 ≤ w.r ∧ w.r ≤ 255

theorem routeGo_length : ∀ (l : List Way) (p : Int × Int × Int) (i : Nat), (routeGo l p i).length = l.length
  | [], _, _ => rfl
  | w :: r, p, i => by simp [routeGo, routeGo_length r]
theorem routeGo_block : ∀ (l : List Way) (p : Int × Int × Int) (i k : Nat), k < l.length → ((routeGo l p i).getD k Mot.zero).block = ((i + k : Nat) : Int)
  | [], _, _, k, h => by simp at h
  | w :: r, p, i, 0, _ => by simp [routeGo, Way.mot]
  | w :: r, p, i, k + 1, h => by
    have := routeGo_block r (p.1 + w.x, p.2.1 + w.y, p.2.2 + w.z) (i + 1) k (by simpa using h)
    show ((routeGo r _ (i + 1)).getD k Mot.zero).block = _
    rw [this]
    congr 1
    omega
theorem route_blocks (p : Int × Int × Int) (l : List Way) : Blocks (route p l) := fun i k hik hk => by
  unfold route at *
  rw [routeGo_length] at hk
  rw [routeGo_block l p 0 i (by omega), routeGo_block l p 0 k hk]
  omega

def l1 (w : Way) : Int := (if w.x < -w.x then -w.x else w.x) + (if w.y < -w.y then -w.y else w.y) + (if w.z < -w.z then -w.z else w.z)
def l1sum : List Way → Int
  | [] => 0
  | w :: r => l1 w + l1sum r
theorem l1_nonneg (w : Way) : 0 ≤ l1 w := by
  unfold l1
  split <;> split <;> split <;> omega
theorem l1sum_nonneg : ∀ l : List Way, 0 ≤ l1sum l
  | [] => Int.le_refl _
  | w :: r => by have := l1_nonneg w; have := l1sum_nonneg r; show 0 ≤ l1 w + l1sum r; omega

theorem abs_sq (x : Int) : (if x < -x then -x else x) * (if x < -x then -x else x) = x * x := by
  split
  · rw [Int.neg_mul_neg]
  · rfl
theorem sum_sq {a b c : Int} (ha : 0 ≤ a) (hb : 0 ≤ b) (hc : 0 ≤ c) : a * a + b * b + c * c ≤ (a + b + c) * (a + b + c) := by
  have h1 : 0 ≤ a * b := Int.mul_nonneg ha hb
  have h2 : 0 ≤ a * c := Int.mul_nonneg ha hc
  have h3 : 0 ≤ b * c := Int.mul_nonneg hb hc
  have e : (a + b + c) * (a + b + c) = a * a + b * b + c * c + 2 * (a * b) + 2 * (a * c) + 2 * (b * c) := by
    simp only [Int.add_mul, Int.mul_add, Int.mul_comm b a, Int.mul_comm c a, Int.mul_comm c b]
    omega
  rw [e]
  omega
theorem len_l1 {m : Mot} {w : Way} {p : Int × Int × Int} {i : Nat} (hm : m = w.mot p i) (hr : m.rng) : m.len ≤ l1 w := by
  obtain ⟨n0, n1, n2⟩ := Mot.len_is hr
  by_cases h0 : 0 < m.len
  · have h1 := n2 h0
    have hs : m.sq ≤ l1 w * l1 w := by
      have e : m.sq = w.x * w.x + w.y * w.y + w.z * w.z := by
        subst hm
        unfold Mot.sq Way.mot
        simp only
        rw [show p.1 + w.x - p.1 = w.x by omega, show p.2.1 + w.y - p.2.1 = w.y by omega, show p.2.2 + w.z - p.2.2 = w.z by omega]
      rw [e, ← abs_sq w.x, ← abs_sq w.y, ← abs_sq w.z]
      unfold l1
      exact sum_sq (by split <;> omega) (by split <;> omega) (by split <;> omega)
    have hl := l1_nonneg w
    rcases (by omega : l1 w < m.len ∨ m.len ≤ l1 w) with h | h
    · exfalso
      have : l1 w * l1 w ≤ (m.len - 1) * (m.len - 1) := sq_mono hl (by omega)
      omega
    · exact h
  · have := l1_nonneg w; omega

/-- A place that is not far. -/
def nearP (p : Int × Int × Int) (b : Int) : Prop := -b ≤ p.1 ∧ p.1 ≤ b ∧ -b ≤ p.2.1 ∧ p.2.1 ≤ b ∧ -b ≤ p.2.2 ∧ p.2.2 ≤ b

theorem routeGo_all {Q : Mot → Prop} : ∀ (l : List Way) (p : Int × Int × Int) (i : Nat) (b : Int), (∀ w ∈ l, w.small) → nearP p b → b + 32768 * l.length ≤ 1000000 → (∀ (w : Way) (p : Int × Int × Int) (i : Nat), w.small → nearP p 1000000 → nearP (p.1 + w.x, p.2.1 + w.y, p.2.2 + w.z) 1000000 → Q (w.mot p i)) → ∀ m ∈ routeGo l p i, Q m
  | [], _, _, _, _, _, _, _, m, hm => by simp [routeGo] at hm
  | w :: r, p, i, b, hw, hp, hb, hQ, m, hm => by
    have hs := hw w (by simp)
    simp only [List.length_cons] at hb
    push_cast at hb
    have hx := hs.x; have hy := hs.y; have hz := hs.z
    obtain ⟨p1, p2, p3, p4, p5, p6⟩ := hp
    have hp2 : nearP (p.1 + w.x, p.2.1 + w.y, p.2.2 + w.z) (b + 32768) := by
      refine ⟨?_, ?_, ?_, ?_, ?_, ?_⟩ <;> simp only <;> omega
    rcases List.mem_cons.1 (show m ∈ w.mot p i :: routeGo r _ (i + 1) from hm) with h | h
    · rw [h]
      refine hQ w p i hs ?_ ?_
      · refine ⟨?_, ?_, ?_, ?_, ?_, ?_⟩ <;> omega
      · refine ⟨?_, ?_, ?_, ?_, ?_, ?_⟩ <;> simp only <;> omega
    · exact routeGo_all r _ (i + 1) (b + 32768) (fun x hx => hw x (by simp [hx])) hp2 (by omega) hQ m h

theorem route_wf {p : Int × Int × Int} {l : List Way} (hw : ∀ w ∈ l, w.small) (hp : nearP p 32768) (hl : l.length ≤ 6) : WfL (route p l) := by
  refine WfL.of (routeGo_all (Q := Mot.wf) l p 0 32768 hw hp (by omega) fun w p i hs h1 h2 => ?_)
  obtain ⟨a1, a2, a3, a4, a5, a6⟩ := h1
  obtain ⟨b1, b2, b3, b4, b5, b6⟩ := h2
  have hr := hs.r
  simp only at b1 b2 b3 b4 b5 b6
  refine ⟨?_, ?_, ?_, ?_, ?_, ?_, ?_⟩ <;> show _ ∧ _ <;> simp only [Way.mot] <;> omega
theorem route_rng {p : Int × Int × Int} {l : List Way} (hw : ∀ w ∈ l, w.small) (hp : nearP p 32768) (hl : l.length ≤ 6) : ∀ m ∈ route p l, m.rng := by
  refine routeGo_all (Q := Mot.rng) l p 0 32768 hw hp (by omega) fun w p i hs h1 h2 => ?_
  obtain ⟨a1, a2, a3, a4, a5, a6⟩ := h1
  obtain ⟨b1, b2, b3, b4, b5, b6⟩ := h2
  simp only at b1 b2 b3 b4 b5 b6
  refine ⟨⟨?_, ?_, ?_⟩, ?_, ?_, ?_⟩ <;> unfold inG <;> simp only [Way.mot] <;> omega

theorem lsum_cons (m : Mot) (l : List Mot) : ∀ k, lsum (m :: l) (k + 1) = m.len + lsum l k
  | 0 => by show lsum (m :: l) 0 + m.len = m.len + lsum l 0; show (0 : Int) + m.len = m.len + 0; omega
  | k + 1 => by
    show lsum (m :: l) (k + 1) + ((m :: l).getD (k + 1) Mot.zero).len = m.len + (lsum l k + (l.getD k Mot.zero).len)
    rw [lsum_cons m l k]
    have : (m :: l).getD (k + 1) Mot.zero = l.getD k Mot.zero := rfl
    rw [this]
    omega
theorem routeGo_lsum : ∀ (l : List Way) (p : Int × Int × Int) (i : Nat), (∀ m ∈ routeGo l p i, m.rng) → lsum (routeGo l p i) (routeGo l p i).length ≤ l1sum l
  | [], _, _, _ => Int.le_refl _
  | w :: r, p, i, h => by
    have h1 := routeGo_lsum r (p.1 + w.x, p.2.1 + w.y, p.2.2 + w.z) (i + 1) (fun m hm => h m (by show m ∈ w.mot p i :: _; simp [hm]))
    have h2 : (w.mot p i).len ≤ l1 w := len_l1 rfl (h _ (by show w.mot p i ∈ w.mot p i :: _; simp))
    show lsum (w.mot p i :: routeGo r _ (i + 1)) ((routeGo r _ (i + 1)).length + 1) ≤ l1 w + l1sum r
    rw [lsum_cons]
    omega
theorem route_lsum {p : Int × Int × Int} {l : List Way} (hw : ∀ w ∈ l, w.small) (hp : nearP p 32768) (hl : l.length ≤ 6) (hs : l1sum l ≤ 4000) : lsum (route p l) (route p l).length ≤ 100000 := by
  have := routeGo_lsum l p 0 (route_rng hw hp hl)
  unfold route
  omega

end Go.Proofs.YtjibcnnbclcboaaGreatDoor

namespace Go.Proofs.YtjibcnnbclcboaaGreatDoor
open Go.RowKit
set_option maxRecDepth 8000

/-- A slice that reads as events: two numbers each. -/
def SlE (w : World) (v : Value) (l : List (Int × Int)) : Prop :=
  ∃ (a : Option Addr) (n cap b off : Nat), v = .slice a n cap ∧ n = l.length ∧ (n = 0 ∨ a = some ⟨b, off, none⟩) ∧ n ≤ cap ∧ ∀ i, i < n → b < w.heap.size ∧ w.cell? ⟨b, off + i * 2, none⟩ = some (.int .i64 (l.getD i (0, 0)).1) ∧ w.cell? ⟨b, off + i * 2 + 1, none⟩ = some (.int .i64 (l.getD i (0, 0)).2)

theorem SlE.only {D : Nat → Prop} {w w' : World} {v : Value} {l : List (Int × Int)} (h : SlE w v l) (k : Only D w w') (hd : Off D v) : SlE w' v l := by
  obtain ⟨ad, n, cap, b, off, rfl, h2, h3, h5, h4⟩ := h
  refine ⟨ad, n, cap, b, off, rfl, h2, h3, h5, fun i hi => ?_⟩
  obtain ⟨p, q, r⟩ := h4 i hi
  have hb : ad = some ⟨b, off, none⟩ := h3.resolve_left (by omega)
  have hne : ¬ D b := hd b (by subst hb; rfl)
  exact ⟨Nat.lt_of_lt_of_le p k.size, by rw [k.cell (p := ⟨b, _, none⟩) p hne]; exact q, by rw [k.cell (p := ⟨b, _, none⟩) p hne]; exact r⟩
theorem SlE.later {w w' : World} {v : Value} {l : List (Int × Int)} (h : SlE w v l) (he : Ext w w') : SlE w' v l := h.only (D := fun _ => False) (Only.of_ext he) (fun _ _ h => h)
theorem SlE.tail {w : World} {b o n c : Nat} {x : Int × Int} {r : List (Int × Int)} (h : SlE w (.slice (some ⟨b, o, none⟩) (n + 1) c) (x :: r)) : SlE w (.slice (some ⟨b, o + 2, none⟩) n (c - 1)) r := by
  obtain ⟨a, n1, c1, b1, o1, hv, hn, h3, h5, h4⟩ := h
  cases hv
  have e := h3.resolve_left (by omega)
  injection e with e
  injection e with e1 e2
  subst e1 e2
  simp only [List.length_cons] at hn
  refine ⟨_, n, c - 1, b, o + 2, rfl, by omega, .inr rfl, by omega, fun i hi => ?_⟩
  obtain ⟨q1, q2, q3⟩ := h4 (i + 1) (by omega)
  have e1 : o + (i + 1) * 2 = o + 2 + i * 2 := by omega
  rw [e1] at q2 q3
  exact ⟨q1, by simpa using q2, by simpa using q3⟩
theorem SlE.none {w : World} {a : Option Addr} {c : Nat} : SlE w (.slice a 0 c) [] := ⟨a, 0, c, 0, 0, rfl, rfl, .inl rfl, by omega, fun i hi => by omega⟩

/-- What a controller's call may have changed lies from its base on. -/
theorem Foot.base {B : Nat} {w w' : World} {N : Nat} {vm vp vq : Value} {C : Ctl} (h : CAt B w N vm vp vq C) (hO : Only (Foot N vq) w w') : Only (fun k => B ≤ k) w w' :=
  hO.mono (fun k _ hk => by
    rcases hk with rfl | hk
    · exact h.inv.base
    · exact h.inv.sq.base hk)

/-- A controller in memory, from the base on. -/
def CIn (B : Nat) (w : World) (N : Nat) (C : Ctl) : Prop := ∃ vm vp vq, CAt B w N vm vp vq C ∧ (∀ b, vm.ownBlock = some b → B ≤ b) ∧ (∀ b, vp.ownBlock = some b → B ≤ b) ∧ B ≤ w.heap.size
theorem CIn.later {B : Nat} {w w' : World} {N : Nat} {C : Ctl} (h : CIn B w N C) (he : Ext w w') : CIn B w' N C := by
  obtain ⟨vm, vp, vq, h, h1, h2, h3⟩ := h
  exact ⟨vm, vp, vq, h.later he, h1, h2, Nat.le_trans h3 he.size⟩
/-- Changes below the base do not touch it. -/
theorem CIn.low {B : Nat} {D : Nat → Prop} {w w' : World} {N : Nat} {C : Ctl} (h : CIn B w N C) (k : Only D w w') (hd : ∀ b, D b → b < B) : CIn B w' N C := by
  obtain ⟨vm, vp, vq, h, h1, h2, h3⟩ := h
  have hb := h.inv.base
  refine ⟨vm, vp, vq, h.only k (fun e => by have := hd _ e; omega) (fun b hb' e => ?_) (fun b hb' e => ?_) (fun b hb' e => ?_), h1, h2, Nat.le_trans h3 k.size⟩
  · have := hd _ e; have := h1 b hb'; omega
  · have := hd _ e; have := h2 b hb'; omega
  · have := hd _ e; have := h.inv.sq.base hb'; omega
theorem CIn.ok {B : Nat} {w : World} {N : Nat} {C : Ctl} (h : CIn B w N C) : C.Ok := by
  obtain ⟨vm, vp, vq, h, _⟩ := h
  exact h.ok
theorem CIn.lt {B : Nat} {w : World} {N : Nat} {C : Ctl} (h : CIn B w N C) : B ≤ N ∧ N < w.heap.size := by
  obtain ⟨vm, vp, vq, h, _⟩ := h
  exact ⟨h.inv.base, h.inv.box.lt⟩
theorem CIn.ret {B : Nat} {w : World} {N : Nat} {vm vp vq : Value} {C C' : Ctl} {v : Value} (h : CAt B w N vm vp vq C) (h1 : ∀ b, vm.ownBlock = some b → B ≤ b) (h2 : ∀ b, vp.ownBlock = some b → B ≤ b) (h3 : B ≤ w.heap.size) {e : Ending} {w' : World} (k : CRet B w N vm vp vq C' v e w') :
    e = .returned v ∧ CIn B w' N C' ∧ Only (fun k => B ≤ k) w w' := by
  obtain ⟨he, vp', vq', hA, hO, _, hp⟩ := k
  refine ⟨he, ⟨vm, vp', vq', hA, h1, fun b hb => ?_, Nat.le_trans h3 hO.size⟩, Foot.base h hO⟩
  rcases hp b hb with e | e
  · exact h2 b e
  · omega

section
variable {B : Nat} {w : World} {N : Nat} {C : Ctl}
theorem tick_in (h : CIn B w N C) (hps : C.ps.length ≤ 999999999) :
    Calls Tryz.prog 30 #[.pointer (some ⟨N, 0, none⟩)] w fun e w' => e = .returned (.bool C.tickB) ∧ CIn B w' N C.tickC ∧ Only (fun k => B ≤ k) w w' := by
  obtain ⟨vm, vp, vq, h, h1, h2, h3⟩ := h
  exact (tick_any h hps).mono fun _ _ k => CIn.ret h h1 h2 h3 k
theorem hold_in (h : CIn B w N C) (hps : C.ps.length ≤ 999999999) :
    Calls Tryz.prog 35 #[.pointer (some ⟨N, 0, none⟩)] w fun e w' => e = .returned (.tuple #[]) ∧ CIn B w' N C.holdC ∧ Only (fun k => B ≤ k) w w' := by
  obtain ⟨vm, vp, vq, h, h1, h2, h3⟩ := h
  exact (hold_any h hps).mono fun _ _ k => CIn.ret h h1 h2 h3 k
theorem break_in (h : CIn B w N C) (hps : C.ps.length ≤ 999999999) :
    Calls Tryz.prog 37 #[.pointer (some ⟨N, 0, none⟩)] w fun e w' => e = .returned (.tuple #[]) ∧ CIn B w' N C.brkC ∧ Only (fun k => B ≤ k) w w' := by
  obtain ⟨vm, vp, vq, h, h1, h2, h3⟩ := h
  exact (break_any h hps).mono fun _ _ k => CIn.ret h h1 h2 h3 k
theorem resume_in (h : CIn B w N C) :
    Calls Tryz.prog 28 #[.pointer (some ⟨N, 0, none⟩)] w fun e w' => e = .returned (.tuple #[]) ∧ CIn B w' N { C with hd := false } ∧ Only (fun k => B ≤ k) w w' := by
  obtain ⟨vm, vp, vq, h, h1, h2, h3⟩ := h
  exact (resume_at h).mono fun _ _ k => CIn.ret h h1 h2 h3 k
theorem index_in (h : CIn B w N C) :
    Calls Tryz.prog 34 #[.pointer (some ⟨N, 0, none⟩)] w fun e w' => e = .returned (.int .i64 C.idx) ∧ w = w' := by
  obtain ⟨vm, vp, vq, h, _⟩ := h
  exact index_any h.inv.box
theorem pos_in (h : CIn B w N C) :
    Calls Tryz.prog 36 #[.pointer (some ⟨N, 0, none⟩)] w fun e w' => e = .returned (P3 C.at3) ∧ Ext w w' := by
  obtain ⟨vm, vp, vq, h, _⟩ := h
  exact cpos_any h.inv.box h.inv.sm h.ok.posOk
theorem done_in (h : CIn B w N C) (hps : C.ps.length ≤ 999999999) :
    Calls Tryz.prog 31 #[.pointer (some ⟨N, 0, none⟩)] w (RetMots w C.doneL) := by
  obtain ⟨vm, vp, vq, h, _⟩ := h
  exact done_any h.inv h.ok.posOk hps
theorem new_in (v : Value) (l : List Mot) (s a j : Int) (w : World) (h : SlM w v l) (hn : l.length ≤ 1000000000) (hw : WfL l) (hc : chk l s a j = 0) :
    Calls Tryz.prog 33 #[v, Lm s a j] w fun e w' => ∃ N, e = .returned (.tuple #[.pointer (some ⟨N, 0, none⟩), .int .i64 0]) ∧ CIn w.heap.size w' N (Ctl.new l s a j) ∧ Ext w w' := by
  obtain ⟨c1, c2, c3⟩ := chk_zero hc
  refine (new_ok v l s a j w h hn hw (fun i hi => rngTo_at (conn_zero c2).2.1 i hi) hc).mono ?_
  rintro e w' ⟨N, vm, rfl, hI, hE, hlm⟩
  exact ⟨N, rfl, ⟨vm, _, _, ⟨hI, (fun b hb => by cases hb), fun b hb => (hlm b hb).2, new_Ok hc hw⟩, fun b hb => (hlm b hb).1, (fun b hb => by cases hb), hE.size⟩, hE⟩
end

end Go.Proofs.YtjibcnnbclcboaaGreatDoor
