/-
  Restart: the plain answer; begin and Rate of the reference, walked.
  Restart: what it answers; a slice from an index on.
  Restart of the reference, walked.
-/
import Derived.Test.YtfmjmabaabmgcaaQB16
import Derived.Test.YtfmjmabaabmgcaaQB17
namespace Go.Proofs.Ytfmjmabaabmgcaa
open Go.RowKit
set_option maxRecDepth 8000

def rBeg (l : List Mot) (i : Nat) (p : Int × Int × Int) : Int × Int × Int := if i < l.length then (l.getD i Mot.zero).f3 else if 0 < l.length then (l.getD (l.length - 1) Mot.zero).t3 else p
def rRate (l : List Mot) : Nat → Int
  | 0 => 0
  | k + 1 => if (l.getD k Mot.zero).rate = 0 then rRate l k else (l.getD k Mot.zero).rate

set_option maxHeartbeats 1000000 in
theorem begin_any (v : Value) (l : List Mot) (i : Nat) (x y z : Int) (w : World) (h : SlM w v l) (hn : l.length ≤ 1000000) :
    Calls Try.prog 54 #[v, .int .i64 i, Ps x y z] w fun e w' => e = .returned (P3 (rBeg l i (x, y, z))) ∧ Ext w w' := by
  obtain ⟨ad, n, cap, b, off, rfl, rfl, h3, -, h4⟩ := h
  by_cases h0 : i < l.length
  · have hB : rBeg l i (x, y, z) = (l.getD i Mot.zero).f3 := by unfold rBeg; rw [if_pos h0]
    rw [hB]; clear hB
    obtain ⟨hb1, hb2⟩ := h4 i h0
    obtain rfl : ad = some ⟨b, off, none⟩ := h3.resolve_left (by omega)
    clear h3 h4
    generalize l.getD i Mot.zero = p at *
    generalize l.length = n at *
    have c0 := hb2.c0; have c1 := hb2.c1; have c2 := hb2.c2
    have hd : decide ((i : Int) < (n : Int)) = true := by simp; omega
    go_enter Try.func54, Try.ntmps54
    go_wp2
    refine bodyPost_ret (v := Ps p.fx p.fy p.fz) (by simp [results, Try.results54, go_sem]) rfl ⟨rfl, ?_⟩
    exact ((Ext.refl w).alloc _).alloc _
  · by_cases h1 : 0 < l.length
    · have hB : rBeg l i (x, y, z) = (l.getD (l.length - 1) Mot.zero).t3 := by unfold rBeg; rw [if_neg h0, if_pos h1]
      rw [hB]; clear hB
      obtain ⟨hb1, hb2⟩ := h4 (l.length - 1) (by omega)
      obtain rfl : ad = some ⟨b, off, none⟩ := h3.resolve_left (by omega)
      clear h3 h4
      generalize l.getD (l.length - 1) Mot.zero = p at *
      generalize l.length = n at *
      obtain ⟨m, rfl⟩ : ∃ m, n = m + 1 := ⟨n - 1, by omega⟩
      rw [Nat.add_sub_cancel] at hb2
      have c3 := hb2.c3; have c4 := hb2.c4; have c5 := hb2.c5
      have hd : decide ((i : Int) < ((m + 1 : Nat) : Int)) = false := by simp; omega
      have hd' : decide ((i : Int) < (m : Int) + 1) = false := by simp; omega
      go_enter Try.func54, Try.ntmps54
      go_wp2
      refine bodyPost_ret (v := Ps p.tx p.ty p.tz) (by simp [results, Try.results54, go_sem]) rfl ⟨rfl, ?_⟩
      exact ((Ext.refl w).alloc _).alloc _
    · have hB : rBeg l i (x, y, z) = (x, y, z) := by unfold rBeg; rw [if_neg h0, if_neg h1]
      rw [hB]; clear hB
      have hz : l.length = 0 := by omega
      rw [hz]
      clear h3 h4 h0 h1 hz hn
      have hd : decide ((i : Int) < 0) = false := by simp
      go_enter Try.func54, Try.ntmps54
      go_wp2
      refine bodyPost_ret (v := Ps x y z) (by simp [results, Try.results54, go_sem]) rfl ⟨rfl, ?_⟩
      exact ((Ext.refl w).alloc _).alloc _

/-- How many motions Rate looks at. -/
def rCount (l : List Mot) (i : Nat) : Nat := if i < l.length then i + 1 else l.length

set_option maxHeartbeats 1000000 in
theorem rate_any (v : Value) (l : List Mot) (i : Nat) (w : World) (h : SlM w v l) (hn : l.length ≤ 1000000) :
    Calls Try.prog 55 #[v, .int .i64 i] w fun e w' => e = .returned (.int .i64 (rRate l (rCount l i))) ∧ w = w' := by
  obtain ⟨ad, n, cap, b, off, rfl, hnl, h3, -, h4⟩ := h
  have H3 := Lib.hid h3; have H4 := Lib.hid h4; have HNL := Lib.hid hnl
  have hc0 : rCount l i ≤ n := by unfold rCount; split <;> omega
  have hn2 : n ≤ 1000000 := by omega
  have hmin : (if (n : Int) - 1 < (i : Int) then (n : Int) - 1 else (i : Int)) = (rCount l i : Int) - 1 := by
    unfold rCount
    rw [← hnl]
    by_cases h : i < n
    · rw [if_pos h, if_neg (by omega)]; omega
    · rw [if_neg h]
      by_cases h' : (n : Int) - 1 < (i : Int)
      · rw [if_pos h']
      · omega
  clear h3 h4 hnl hn
  generalize rCount l i = K at *
  go_enter Try.func55, Try.ntmps55
  go_wp2_with fail
  go_loopw [5] (fun t wr => ∃ k : Nat, k ≤ n ∧ t = .int .i64 ((k : Int) - 1) ∧ Hid (rRate l k = rRate l K) ∧ wr = w) (fun t _ => (intOf t + 1).toNat)
  case atStart => exact ⟨K, hc0, rfl, Lib.hid rfl, rfl⟩
  case round =>
    obtain ⟨k, hk, rfl, HR, rfl⟩ := hrel
    cases k with
    | zero =>
      have hF : (0 : Int) = rRate l K := HR.out
      have HF := Lib.hid hF
      clear hF HR
      go_wp2
      go_ret
      exact ⟨ret_int HF.out, rfl⟩
    | succ k =>
      obtain ⟨hb1, hb2⟩ := H4.out k (by omega)
      obtain rfl : ad = some ⟨b, off, none⟩ := H3.out.resolve_left (by omega)
      have c6 := hb2.c6
      have hkk : ((k + 1 : Nat) : Int) - 1 = (k : Int) := by omega
      rw [hkk]
      clear hkk
      by_cases h0 : (l.getD k Mot.zero).rate = 0
      · have hF : rRate l k = rRate l K := by rw [← HR.out]; unfold rRate; rw [if_pos h0]; cases k <;> rfl
        have HF := Lib.hid hF
        rw [h0] at c6
        clear hF HR h0 hb2
        go_wp2
        go_roundw
        case rel => exact ⟨k, by omega, rfl, HF, trivial⟩
        case measure => simp [intOf]
      · have hF : (l.getD k Mot.zero).rate = rRate l K := by rw [← HR.out]; show _ = (if _ then _ else _); rw [if_neg h0]
        have HF := Lib.hid hF
        clear hF HR hb2
        generalize (l.getD k Mot.zero).rate = r at *
        go_wp2
        go_ret
        exact ⟨ret_int HF.out, rfl⟩

end Go.Proofs.Ytfmjmabaabmgcaa

namespace Go.Proofs.Ytfmjmabaabmgcaa
open Go.RowKit
set_option maxRecDepth 8000

/-- The places of the way back. -/
def rPt (p b : Int × Int × Int) (safe : Int) : Nat → Int × Int × Int
  | 0 => (p.1, p.2.1, safe)
  | 1 => (b.1, b.2.1, safe)
  | 2 => (b.1, b.2.1, if b.2.2 < 1000 then 1000 else b.2.2)
  | _ => b
def rFrom (p b : Int × Int × Int) (safe : Int) : Nat → Int × Int × Int
  | 0 => p
  | k + 1 => rPt p b safe k
def rMot (p b : Int × Int × Int) (safe rate : Int) (m : Mot) (k : Nat) : Mot :=
  ⟨(rFrom p b safe k).1, (rFrom p b safe k).2.1, (rFrom p b safe k).2.2, (rPt p b safe k).1, (rPt p b safe k).2.1, (rPt p b safe k).2.2, if k = 3 then rate else 0, m.tool, m.block⟩
def rLegs (p b : Int × Int × Int) (safe rate : Int) (m : Mot) : Nat → List Mot
  | 0 => []
  | k + 1 => rLegs p b safe rate m k ++ (if eq3 (rFrom p b safe k) (rPt p b safe k) = true then [] else [rMot p b safe rate m k])

theorem rLegs_len (p b : Int × Int × Int) (safe rate : Int) (m : Mot) : ∀ k, (rLegs p b safe rate m k).length ≤ k
  | 0 => by simp [rLegs]
  | k + 1 => by
    have := rLegs_len p b safe rate m k
    unfold rLegs
    rw [List.length_append]
    split <;> simp <;> omega

def rLike (l : List Mot) (i : Nat) : Mot := l.getD (rCount l i - 1) Mot.zero

def rstE (l : List Mot) (i : Nat) (p : Int × Int × Int) (safe : Int) : Int :=
  if safe < p.2.2 ∨ safe < (rBeg l i p).2.2 ∨ safe < 1000 then 1
  else if eq3 p (rBeg l i p) = true then 0
  else if (rBeg l i p).2.2 < 1000 ∧ rRate l (rCount l i) = 0 then 13 else 0
def rstL (l : List Mot) (i : Nat) (p : Int × Int × Int) (safe : Int) : List Mot :=
  if safe < p.2.2 ∨ safe < (rBeg l i p).2.2 ∨ safe < 1000 then []
  else if eq3 p (rBeg l i p) = true then l.drop i
  else if (rBeg l i p).2.2 < 1000 ∧ rRate l (rCount l i) = 0 then [] else rLegs p (rBeg l i p) safe (rRate l (rCount l i)) (rLike l i) 4 ++ l.drop i

/-- What Restart hands back. -/
def RstPost (w : World) (L : List Mot) (c : Int) (e : Ending) (w' : World) : Prop := ∃ v, e = .returned (.tuple #[v, .int .i64 c]) ∧ SlM w' v L ∧ Ext w w'

theorem drop_getD (l : List Mot) (i k : Nat) : (l.drop i).getD k Mot.zero = l.getD (i + k) Mot.zero := by
  simp [List.getD, List.getElem?_drop]

/-- The slice from an index on. -/
theorem slice_from {w : World} {ad : Option Addr} {n cap : Nat} {l : List Mot} (h : SlM w (.slice ad n cap) l) (hc : n ≤ cap) (i : Nat) (hi : i ≤ n) :
    SlM w (Go.sliced ad i n cap 9) (l.drop i) := by
  obtain ⟨ad', n', cap', b, off, hv, hn, h3, h5, h4⟩ := h
  cases hv
  unfold Go.sliced
  by_cases hin : i < n
  · have e := h3.resolve_left (by omega)
    subst e
    rw [if_neg (by omega)]
    refine ⟨_, n - i, cap - i, b, off + i * 9, rfl, by rw [List.length_drop]; omega, .inr ?_, (fun h => by cases h), fun k hk => ?_⟩
    · show some ((⟨b, off, none⟩ : Addr).add (i * 9)) = _
      rw [Addr.add_none]
    · obtain ⟨p, q⟩ := h4 (i + k) (by omega)
      refine ⟨p, ?_⟩
      rw [drop_getD, show off + i * 9 + k * 9 = off + (i + k) * 9 by omega]
      exact q
  · have e : i = n := by omega
    subst e
    refine ⟨_, i - i, cap - i, 0, 0, rfl, by rw [List.length_drop]; omega, .inl (by omega), fun h => ?_, fun k hk => by omega⟩
    by_cases hci : cap = i
    · omega
    · rw [if_neg hci] at h
      cases ad with
      | none => have := h5 rfl; omega
      | some a => cases h

theorem Try.elem_mots : Try.prog.elem 22 = 38 := by kernel_rfl
theorem slice_run {ad : Option Addr} {n cap : Nat} (i : Nat) (hi : i ≤ n) (wx : World) :
    (Instr.slice 22 (.slice ad n cap) (some (.int .i64 (i : Int))) none none).run Try.prog wx = .ok (Go.sliced ad i n cap 9) wx := by
  obtain ⟨i0, hi0, hz0, hz1, hz2⟩ := info_parts Try.info_mot
  have := run_slice_l (P := Try.prog) (w := wx) 22 ad n cap (by rw [Try.elem_mots]; exact Try.underlying22) .i64 (i : Int) (by omega) (by omega)
  rw [this, Try.elem_mots]
  simp [sizeOf, typeInfo, hi0, hz1]

theorem slice_at {w : World} {ad : Option Addr} {n cap : Nat} {l : List Mot} (h : SlM w (.slice ad n cap) l) (hc : n ≤ cap) (i : Nat) (hi : i ≤ n) :
    ∃ a3 n3 c3, (∀ wx, (Instr.slice 22 (.slice ad n cap) (some (.int .i64 (i : Int))) none none).run Try.prog wx = .ok (.slice a3 n3 c3) wx) ∧ SlM w (.slice a3 n3 c3) (l.drop i) :=
  ⟨_, _, _, fun wx => slice_run i hi wx, slice_from h hc i hi⟩

end Go.Proofs.Ytfmjmabaabmgcaa

namespace Go.Proofs.Ytfmjmabaabmgcaa
open Go.RowKit
set_option maxRecDepth 8000

theorem M9Box.set_rate {W : World} {N : Nat} {m : Mot} (h : M9Box W N m) (r : Int) : M9Box (W.setCell ⟨N, 6, none⟩ (.int .i64 r)) N { m with rate := r } where
  c0 := by simp [go_sem, h.c0]
  c1 := by simp [go_sem, h.c1]
  c2 := by simp [go_sem, h.c2]
  c3 := by simp [go_sem, h.c3]
  c4 := by simp [go_sem, h.c4]
  c5 := by simp [go_sem, h.c5]
  c6 := by simp [go_sem, h.c6]
  c7 := by simp [go_sem, h.c7]
  c8 := by simp [go_sem, h.c8]
  f0 := by simpa using h.f0
  f1 := by simpa using h.f1
  f2 := by simpa using h.f2
  f3 := by simpa using h.f3
  f4 := by simpa using h.f4
  f5 := by simpa using h.f5
  f6 := by simpa using h.f6
  f7 := by simpa using h.f7
  f8 := by simpa using h.f8
  lt := by simpa using h.lt

/-- The places of the way back, in memory. -/
def TBox (W : World) (T : Nat) (p b : Int × Int × Int) (safe : Int) : Prop := T < W.heap.size ∧ ∀ k, k < 4 → W.cell? ⟨T, k * 3, none⟩ = some (.int .i64 (rPt p b safe k).1) ∧ W.cell? ⟨T, k * 3 + 1, none⟩ = some (.int .i64 (rPt p b safe k).2.1) ∧ W.cell? ⟨T, k * 3 + 2, none⟩ = some (.int .i64 (rPt p b safe k).2.2)
theorem TBox.mk' (w : World) (x y z bx bY bz safe mz : Int) (hm : (if bz < 1000 then 1000 else bz) = mz) : ∃ W : World, w.alloc (.cells #[.int .i64 x, .int .i64 y, .int .i64 safe, .int .i64 bx, .int .i64 bY, .int .i64 safe, .int .i64 bx, .int .i64 bY, .int .i64 mz, .int .i64 bx, .int .i64 bY, .int .i64 bz] 36) = W ∧ TBox W w.heap.size (x, y, z) (bx, bY, bz) safe ∧ Ext w W := by
  subst hm
  refine ⟨_, rfl, ⟨by simp, fun k hk => ?_⟩, (Ext.refl w).alloc _⟩
  match k, hk with
  | 0, _ => refine ⟨?_, ?_, ?_⟩ <;> simp [go_sem, rPt]
  | 1, _ => refine ⟨?_, ?_, ?_⟩ <;> simp [go_sem, rPt]
  | 2, _ => refine ⟨?_, ?_, ?_⟩ <;> simp [go_sem, rPt]
  | 3, _ => refine ⟨?_, ?_, ?_⟩ <;> simp [go_sem, rPt]
theorem TBox.only {D : Nat → Prop} {W W' : World} {T : Nat} {p b : Int × Int × Int} {safe : Int} (h : TBox W T p b safe) (k : Only D W W') (hd : ¬ D T) : TBox W' T p b safe :=
  ⟨Nat.lt_of_lt_of_le h.1 k.size, fun i hi => by
    obtain ⟨a, b, c⟩ := h.2 i hi
    exact ⟨by rw [k.cell (p := ⟨T, _, none⟩) h.1 hd]; exact a, by rw [k.cell (p := ⟨T, _, none⟩) h.1 hd]; exact b, by rw [k.cell (p := ⟨T, _, none⟩) h.1 hd]; exact c⟩⟩
theorem TBox.later {W W' : World} {T : Nat} {p b : Int × Int × Int} {safe : Int} (h : TBox W T p b safe) (k : Ext W W') : TBox W' T p b safe := h.only (D := fun _ => False) (Only.of_ext k) (fun h => h)

set_option maxHeartbeats 1000000 in
theorem rrestart_bad (v : Value) (l : List Mot) (i x y z safe : Int) (w : World) (h : SlM w v l) (hi : i < 0 ∨ (l.length : Int) < i) :
    Calls Try.prog 26 #[v, .int .i64 i, Ps x y z, .int .i64 safe] w (RstPost w [] 1) := by
  obtain ⟨ad, n, cap, b, off, rfl, rfl, -⟩ := h
  generalize l.length = n at *
  by_cases h0 : i < 0
  · have hd : decide (i < 0) = true := by simpa using h0
    go_enter Try.func26, Try.ntmps26
    go_wp2
    go_ret2
    exact ⟨_, rfl, nilM _, (Ext.refl w).alloc _⟩
  · have hd : decide (i < 0) = false := by simpa using h0
    have hd2 : decide (i > (n : Int)) = true := by simp; omega
    go_enter Try.func26, Try.ntmps26
    go_wp2
    go_ret2
    exact ⟨_, rfl, nilM _, (Ext.refl w).alloc _⟩

set_option maxHeartbeats 8000000 in
theorem rrestart_any (v : Value) (l : List Mot) (i : Nat) (x y z safe : Int) (w : World) (h : SlM w v l) (hc : CapV v) (hi : i ≤ l.length) (hn : l.length ≤ 1000000) :
    Calls Try.prog 26 #[v, .int .i64 i, Ps x y z, .int .i64 safe] w (RstPost w (rstL l i (x, y, z) safe) (rstE l i (x, y, z) safe)) := by
  have HS := Lib.hid h
  obtain ⟨ad, n, cap, b, off, hv, hnl, -⟩ := h
  have hcap : n ≤ cap := hc _ _ _ hv
  have hlen : ∀ wx, (Builtin.len_ #[22] 3 #[v]).run Try.prog wx = .ok (.int .i64 (n : Int)) wx := fun wx => by
    rw [hv, run_len_slice (P := Try.prog) (w := wx) 22 3 ad n cap (by rw [Try.elem_mots]; exact Try.underlying22)]
    rfl
  have hin : i ≤ n := by omega
  have hn2 : n ≤ 1000000 := by omega
  have kb : ∀ w', Ext w w' → Calls Try.prog 54 #[v, .int .i64 i, Ps x y z] w' fun e w'' => e = .returned (P3 (rBeg l i (x, y, z))) ∧ Ext w' w'' := fun w' he => begin_any _ l i x y z w' (HS.out.later he) hn
  have kr : ∀ w', Ext w w' → Calls Try.prog 55 #[v, .int .i64 i] w' fun e w'' => e = .returned (.int .i64 (rRate l (rCount l i))) ∧ w' = w'' := fun w' he => rate_any _ l i w' (HS.out.later he) hn
  have hd0 : decide ((i : Int) < 0) = false := by simp
  have hd1 : decide ((i : Int) > (n : Int)) = false := by simp; omega
  obtain ⟨cE, hE⟩ : ∃ c, c = rstE l i (x, y, z) safe := ⟨_, rfl⟩
  obtain ⟨cL, hL⟩ : ∃ c, c = rstL l i (x, y, z) safe := ⟨_, rfl⟩
  rw [← hE, ← hL]
  unfold rstE at hE
  unfold rstL at hL
  have hemp : 0 < n ∨ rBeg l i (x, y, z) = (x, y, z) := by
    rcases Nat.eq_zero_or_pos n with h | h
    · right; unfold rBeg; rw [if_neg (by omega), if_neg (by omega)]
    · exact .inl h
  have HEMP := Lib.hid hemp; clear hemp
  have hlk : 0 < n → ∃ k0, rCount l i = k0 + 1 ∧ k0 < n ∧ (if (n : Int) - 1 < (i : Int) then (n : Int) - 1 else (i : Int)) = (k0 : Int) := fun h0 => by
    unfold rCount
    rw [← hnl]
    by_cases h : i < n
    · exact ⟨i, by rw [if_pos h], h, by rw [if_neg (by omega)]⟩
    · refine ⟨n - 1, by rw [if_neg h]; omega, by omega, ?_⟩
      by_cases h' : (n : Int) - 1 < (i : Int)
      · rw [if_pos h']; omega
      · rw [if_neg h']; omega
  have HLK := Lib.hid hlk; clear hlk
  generalize hgb : rBeg l i (x, y, z) = bb at *
  clear hgb
  obtain ⟨bx, bY, bz⟩ := bb
  simp only [P3] at kb
  simp only at hE hL
  generalize hgr : rRate l (rCount l i) = rate at *
  clear hgr
  have KB := Lib.hid kb; have KR := Lib.hid kr
  have HNL := Lib.hid hnl
  clear kb kr hnl hc
  obtain ⟨a3, n3, c3, hsl, hs3⟩ := slice_at (by have := HS.out; rw [hv] at this; exact this) hcap i hin
  rw [← hv] at hsl
  have HV := Lib.hid hv; clear hv
  have HS3 := Lib.hid hs3; clear hs3
  have hdl : (l.drop i).length ≤ 1000000 := by rw [List.length_drop]; omega
  by_cases h1 : safe < z
  · have s1 : decide (safe < z) = true := by simpa using h1
    have hEE : cE = 1 := by rw [hE, if_pos (.inl h1)]
    have hLL : cL = [] := by rw [hL, if_pos (.inl h1)]
    subst hEE hLL
    clear hE hL
    go_enter Try.func26, Try.ntmps26
    go_wp2_with fail
    obtain ⟨W1, hW1, P1, hE1⟩ := P3Box.mk' w x y z
    rw [hW1]; clear hW1
    refine (KB.out _ hE1).mono ?_
    rintro e w2 ⟨rfl, hx2⟩
    have P2 := P1.later hx2
    have hE2 := hE1.trans hx2
    have hA2 : w.heap.size < w2.heap.size := P2.lt
    clear P1 hE1 hx2
    clear W1
    have p2 : ∀ o, (w2.alloc o).cell? ⟨w.heap.size, 2, none⟩ = some (.int .i64 z) := fun o => by rw [World.cell?_alloc_lt _ _ _ hA2]; exact P2.at.2.2.1
    go_wp2
    go_ret2
    exact ⟨_, rfl, nilM _, hE2.alloc _⟩
  have s1 : decide (safe < z) = false := by simpa using h1
  by_cases h2 : safe < bz
  · have s2 : decide (safe < bz) = true := by simpa using h2
    have hEE : cE = 1 := by rw [hE, if_pos (.inr (.inl h2))]
    have hLL : cL = [] := by rw [hL, if_pos (.inr (.inl h2))]
    subst hEE hLL
    clear hE hL
    go_enter Try.func26, Try.ntmps26
    go_wp2_with fail
    obtain ⟨W1, hW1, P1, hE1⟩ := P3Box.mk' w x y z
    rw [hW1]; clear hW1
    refine (KB.out _ hE1).mono ?_
    rintro e w2 ⟨rfl, hx2⟩
    have P2 := P1.later hx2
    have hE2 := hE1.trans hx2
    have hA2 : w.heap.size < w2.heap.size := P2.lt
    clear P1 hE1 hx2
    clear W1
    have p2 : ∀ o, (w2.alloc o).cell? ⟨w.heap.size, 2, none⟩ = some (.int .i64 z) := fun o => by rw [World.cell?_alloc_lt _ _ _ hA2]; exact P2.at.2.2.1
    go_wp2
    go_ret2
    exact ⟨_, rfl, nilM _, hE2.alloc _⟩
  have s2 : decide (safe < bz) = false := by simpa using h2
  by_cases h3 : safe < 1000
  · have s3 : decide (safe < 1000) = true := by simpa using h3
    have hEE : cE = 1 := by rw [hE, if_pos (.inr (.inr h3))]
    have hLL : cL = [] := by rw [hL, if_pos (.inr (.inr h3))]
    subst hEE hLL
    clear hE hL
    go_enter Try.func26, Try.ntmps26
    go_wp2_with fail
    obtain ⟨W1, hW1, P1, hE1⟩ := P3Box.mk' w x y z
    rw [hW1]; clear hW1
    refine (KB.out _ hE1).mono ?_
    rintro e w2 ⟨rfl, hx2⟩
    have P2 := P1.later hx2
    have hE2 := hE1.trans hx2
    have hA2 : w.heap.size < w2.heap.size := P2.lt
    clear P1 hE1 hx2
    clear W1
    have p2 : ∀ o, (w2.alloc o).cell? ⟨w.heap.size, 2, none⟩ = some (.int .i64 z) := fun o => by rw [World.cell?_alloc_lt _ _ _ hA2]; exact P2.at.2.2.1
    go_wp2
    go_ret2
    exact ⟨_, rfl, nilM _, hE2.alloc _⟩
  have s3 : decide (safe < 1000) = false := by simpa using h3
  have hnb : ¬ (safe < z ∨ safe < bz ∨ safe < 1000) := by omega
  rw [if_neg hnb] at hE hL
  clear hnb
  have heq := fun w => Try.eql_pos x y z bx bY bz w
  have heq3 : eq3 (x, y, z) (bx, bY, bz) = eqP x y z bx bY bz := rfl
  rw [heq3] at hE hL
  clear heq3
  cases hev : eqP x y z bx bY bz
  case true =>
    rw [hev] at heq hE hL
    rw [if_pos rfl] at hE hL
    subst hE hL
    go_enter Try.func26, Try.ntmps26
    go_wp2_with fail
    obtain ⟨W1, hW1, P1, hE1⟩ := P3Box.mk' w x y z
    rw [hW1]; clear hW1
    refine (KB.out _ hE1).mono ?_
    rintro e w2 ⟨rfl, hx2⟩
    have P2 := P1.later hx2
    have hE2 := hE1.trans hx2
    have hA2 : w.heap.size < w2.heap.size := P2.lt
    clear P1 hE1 hx2
    clear W1
    have p2 : ∀ o, (w2.alloc o).cell? ⟨w.heap.size, 2, none⟩ = some (.int .i64 z) := fun o => by rw [World.cell?_alloc_lt _ _ _ hA2]; exact P2.at.2.2.1
    have hE3' := hE2.alloc (.cells #[.int .i64 bx, .int .i64 bY, .int .i64 bz] 36)
    have own4 : OwnM (w2.heap.size + 1) ((w2.alloc (.cells #[.int .i64 bx, .int .i64 bY, .int .i64 bz] 36)).alloc (.cells #[] 38)) (.slice (some ⟨w2.heap.size + 1, 0, none⟩) 0 0) [] := by
      have := OwnM.empty (w2.alloc (.cells #[.int .i64 bx, .int .i64 bY, .int .i64 bz] 36)).heap.size _ (Nat.le_refl _)
      simpa using this
    have OW := Lib.hid own4
    have SD := Lib.hid (HS3.out.later (hE3'.alloc (.cells #[] 38)))
    have LE : Hid (([] : List Mot).length + (l.drop i).length ≤ 1000000000) := Lib.hid (by simp only [List.length_nil]; omega)
    have BA : Hid (w2.heap.size + 1 ≤ ((w2.alloc (.cells #[.int .i64 bx, .int .i64 bY, .int .i64 bz] 36)).alloc (.cells #[] 38)).heap.size) := Lib.hid (by simp)
    have HF : Hid (∀ v11 W5, OwnM (w2.heap.size + 1) W5 v11 ([] ++ l.drop i) → ((w2.alloc (.cells #[.int .i64 bx, .int .i64 bY, .int .i64 bz] 36)).alloc (.cells #[] 38)).grownBy W5 (Value.slice (some ⟨w2.heap.size + 1, 0, none⟩) 0 0).ownBlock → Hid (OwnM (w2.heap.size + 1) W5 v11 (l.drop i)) ∧ Hid (Ext w W5) ∧ Hid (P3Box W5 w.heap.size x y z) ∧ Hid (P3Box W5 w2.heap.size bx bY bz) ∧ W5.cell? ⟨w.heap.size, 0, none⟩ = some (.int .i64 x) ∧ W5.cell? ⟨w.heap.size, 1, none⟩ = some (.int .i64 y) ∧ W5.cell? ⟨w.heap.size, 2, none⟩ = some (.int .i64 z) ∧ W5.cell? ⟨w2.heap.size, 0, none⟩ = some (.int .i64 bx) ∧ W5.cell? ⟨w2.heap.size, 1, none⟩ = some (.int .i64 bY) ∧ W5.cell? ⟨w2.heap.size, 2, none⟩ = some (.int .i64 bz)) := Lib.hid (fun v11 W5 own5 gr5 => by
      obtain ⟨W3, hW3, P3', hE3⟩ := P3Box.mk' w2 bx bY bz
      have hz3 : W3.heap.size = w2.heap.size + 1 := by rw [← hW3]; simp
      rw [hW3] at gr5
      have hE5 : Ext W3 W5 := ext_grown ((Ext.refl W3).alloc _) gr5 (fun k hk => by have : w2.heap.size + 1 = k := Option.some.inj hk; omega)
      have P6 := (P2.later hE3).later hE5
      have Q6 := P3'.later hE5
      obtain ⟨p0, p1, p2, -, -, -⟩ := P6.at
      obtain ⟨q0, q1, q2, -, -, -⟩ := Q6.at
      exact ⟨Lib.hid own5, Lib.hid ((hE2.trans hE3).trans hE5), Lib.hid P6, Lib.hid Q6, p0, p1, p2, q0, q1, q2⟩)
    have hB2 : w.heap.size < w2.heap.size := hA2
    clear own4 hE3' P2
    go_wp2_with ((at_builtin; refine appM_at rfl _ _ rfl (w2.heap.size + 1) _ _ [] (l.drop i) rfl rfl OW.out SD.out LE.out BA.out ?_; intro v11 W5 own5 gr5 lo5; obtain ⟨OW5, HE5, HP6, HQ6, p0, p1, p2', q0, q1, q2⟩ := HF.out _ _ own5 gr5; clear own5 gr5 lo5 HF OW SD LE BA p2))
    obtain ⟨a11, n11, c11, hv11⟩ := OW5.out.form
    subst hv11
    go_wp2
    go_ret2
    exact ⟨_, rfl, OW5.out.sl, HE5.out⟩
  case false =>
    rw [hev] at heq hE hL
    rw [if_neg (by decide)] at hE hL
    have hpos : 0 < n := HEMP.out.resolve_right (fun e => by
      injection e with e1 e2
      injection e2 with e2 e3
      rw [e1, e2, e3] at hev
      simp [eqP] at hev)
    obtain ⟨k0, hk0, hk1, hmin⟩ := HLK.out hpos
    clear hev
    by_cases h13 : bz < 1000 ∧ rate = 0
    · rw [if_pos h13] at hE hL
      subst hE hL
      have t1 : decide (bz < 1000) = true := by simpa using h13.1
      have t2 : (rate == 0) = true := by simpa using h13.2
      go_enter Try.func26, Try.ntmps26
      go_wp2_with fail
      obtain ⟨W1, hW1, P1, hE1⟩ := P3Box.mk' w x y z
      rw [hW1]; clear hW1
      refine (KB.out _ hE1).mono ?_
      rintro e w2 ⟨rfl, hx2⟩
      have P2 := P1.later hx2
      have hE2 := hE1.trans hx2
      have hA2 : w.heap.size < w2.heap.size := P2.lt
      clear P1 hE1 hx2
      clear W1
      have p2 : ∀ o, (w2.alloc o).cell? ⟨w.heap.size, 2, none⟩ = some (.int .i64 z) := fun o => by rw [World.cell?_alloc_lt _ _ _ hA2]; exact P2.at.2.2.1
      have hE3' := hE2.alloc (.cells #[.int .i64 bx, .int .i64 bY, .int .i64 bz] 36)
      have own4 : OwnM (w2.heap.size + 1) ((w2.alloc (.cells #[.int .i64 bx, .int .i64 bY, .int .i64 bz] 36)).alloc (.cells #[] 38)) (.slice (some ⟨w2.heap.size + 1, 0, none⟩) 0 0) [] := by
        have := OwnM.empty (w2.alloc (.cells #[.int .i64 bx, .int .i64 bY, .int .i64 bz] 36)).heap.size _ (Nat.le_refl _)
        simpa using this
      have OW := Lib.hid own4
      have SD := Lib.hid (HS3.out.later (hE3'.alloc (.cells #[] 38)))
      have LE : Hid (([] : List Mot).length + (l.drop i).length ≤ 1000000000) := Lib.hid (by simp only [List.length_nil]; omega)
      have BA : Hid (w2.heap.size + 1 ≤ ((w2.alloc (.cells #[.int .i64 bx, .int .i64 bY, .int .i64 bz] 36)).alloc (.cells #[] 38)).heap.size) := Lib.hid (by simp)
      have HF : Hid (∀ v11 W5, OwnM (w2.heap.size + 1) W5 v11 ([] ++ l.drop i) → ((w2.alloc (.cells #[.int .i64 bx, .int .i64 bY, .int .i64 bz] 36)).alloc (.cells #[] 38)).grownBy W5 (Value.slice (some ⟨w2.heap.size + 1, 0, none⟩) 0 0).ownBlock → Hid (OwnM (w2.heap.size + 1) W5 v11 (l.drop i)) ∧ Hid (Ext w W5) ∧ Hid (P3Box W5 w.heap.size x y z) ∧ Hid (P3Box W5 w2.heap.size bx bY bz) ∧ W5.cell? ⟨w.heap.size, 0, none⟩ = some (.int .i64 x) ∧ W5.cell? ⟨w.heap.size, 1, none⟩ = some (.int .i64 y) ∧ W5.cell? ⟨w.heap.size, 2, none⟩ = some (.int .i64 z) ∧ W5.cell? ⟨w2.heap.size, 0, none⟩ = some (.int .i64 bx) ∧ W5.cell? ⟨w2.heap.size, 1, none⟩ = some (.int .i64 bY) ∧ W5.cell? ⟨w2.heap.size, 2, none⟩ = some (.int .i64 bz)) := Lib.hid (fun v11 W5 own5 gr5 => by
        obtain ⟨W3, hW3, P3', hE3⟩ := P3Box.mk' w2 bx bY bz
        have hz3 : W3.heap.size = w2.heap.size + 1 := by rw [← hW3]; simp
        rw [hW3] at gr5
        have hE5 : Ext W3 W5 := ext_grown ((Ext.refl W3).alloc _) gr5 (fun k hk => by have : w2.heap.size + 1 = k := Option.some.inj hk; omega)
        have P6 := (P2.later hE3).later hE5
        have Q6 := P3'.later hE5
        obtain ⟨p0, p1, p2, -, -, -⟩ := P6.at
        obtain ⟨q0, q1, q2, -, -, -⟩ := Q6.at
        exact ⟨Lib.hid own5, Lib.hid ((hE2.trans hE3).trans hE5), Lib.hid P6, Lib.hid Q6, p0, p1, p2, q0, q1, q2⟩)
      have hB2 : w.heap.size < w2.heap.size := hA2
      clear own4 hE3' P2
      go_wp2_with ((at_builtin; refine appM_at rfl _ _ rfl (w2.heap.size + 1) _ _ [] (l.drop i) rfl rfl OW.out SD.out LE.out BA.out ?_; intro v11 W5 own5 gr5 lo5; obtain ⟨OW5, HE5, HP6, HQ6, p0, p1, p2', q0, q1, q2⟩ := HF.out _ _ own5 gr5; clear own5 gr5 lo5 HF OW SD LE BA p2))
      refine (KR.out _ HE5.out).mono ?_
      rintro e w6 ⟨rfl, hx6⟩
      subst hx6
      go_wp2
      go_ret2
      exact ⟨_, rfl, nilM _, HE5.out⟩
    · rw [if_neg h13] at hE hL
      subst hE hL
      have hlk : rLike l i = l.getD k0 Mot.zero := by unfold rLike; rw [hk0, Nat.add_sub_cancel]
      rw [hlk]
      clear hlk hk0
      by_cases hb0 : bz < 1000
      · have t1 : decide (bz < 1000) = true := by simpa using hb0
        have t2 : (rate == 0) = false := by simp; exact fun e => h13 ⟨hb0, e⟩
        clear h13
        have hmz : (if bz < 1000 then (1000 : Int) else bz) = 1000 := by rw [if_pos hb0]
        go_enter Try.func26, Try.ntmps26
        go_wp2_with fail
        obtain ⟨W1, hW1, P1, hE1⟩ := P3Box.mk' w x y z
        rw [hW1]; clear hW1
        refine (KB.out _ hE1).mono ?_
        rintro e w2 ⟨rfl, hx2⟩
        have P2 := P1.later hx2
        have hE2 := hE1.trans hx2
        have hA2 : w.heap.size < w2.heap.size := P2.lt
        clear P1 hE1 hx2
        clear W1
        have p2 : ∀ o, (w2.alloc o).cell? ⟨w.heap.size, 2, none⟩ = some (.int .i64 z) := fun o => by rw [World.cell?_alloc_lt _ _ _ hA2]; exact P2.at.2.2.1
        have hE3' := hE2.alloc (.cells #[.int .i64 bx, .int .i64 bY, .int .i64 bz] 36)
        have own4 : OwnM (w2.heap.size + 1) ((w2.alloc (.cells #[.int .i64 bx, .int .i64 bY, .int .i64 bz] 36)).alloc (.cells #[] 38)) (.slice (some ⟨w2.heap.size + 1, 0, none⟩) 0 0) [] := by
          have := OwnM.empty (w2.alloc (.cells #[.int .i64 bx, .int .i64 bY, .int .i64 bz] 36)).heap.size _ (Nat.le_refl _)
          simpa using this
        have OW := Lib.hid own4
        have SD := Lib.hid (HS3.out.later (hE3'.alloc (.cells #[] 38)))
        have LE : Hid (([] : List Mot).length + (l.drop i).length ≤ 1000000000) := Lib.hid (by simp only [List.length_nil]; omega)
        have BA : Hid (w2.heap.size + 1 ≤ ((w2.alloc (.cells #[.int .i64 bx, .int .i64 bY, .int .i64 bz] 36)).alloc (.cells #[] 38)).heap.size) := Lib.hid (by simp)
        have HF : Hid (∀ v11 W5, OwnM (w2.heap.size + 1) W5 v11 ([] ++ l.drop i) → ((w2.alloc (.cells #[.int .i64 bx, .int .i64 bY, .int .i64 bz] 36)).alloc (.cells #[] 38)).grownBy W5 (Value.slice (some ⟨w2.heap.size + 1, 0, none⟩) 0 0).ownBlock → Hid (OwnM (w2.heap.size + 1) W5 v11 (l.drop i)) ∧ Hid (Ext w W5) ∧ Hid (P3Box W5 w.heap.size x y z) ∧ Hid (P3Box W5 w2.heap.size bx bY bz) ∧ W5.cell? ⟨w.heap.size, 0, none⟩ = some (.int .i64 x) ∧ W5.cell? ⟨w.heap.size, 1, none⟩ = some (.int .i64 y) ∧ W5.cell? ⟨w.heap.size, 2, none⟩ = some (.int .i64 z) ∧ W5.cell? ⟨w2.heap.size, 0, none⟩ = some (.int .i64 bx) ∧ W5.cell? ⟨w2.heap.size, 1, none⟩ = some (.int .i64 bY) ∧ W5.cell? ⟨w2.heap.size, 2, none⟩ = some (.int .i64 bz)) := Lib.hid (fun v11 W5 own5 gr5 => by
          obtain ⟨W3, hW3, P3', hE3⟩ := P3Box.mk' w2 bx bY bz
          have hz3 : W3.heap.size = w2.heap.size + 1 := by rw [← hW3]; simp
          rw [hW3] at gr5
          have hE5 : Ext W3 W5 := ext_grown ((Ext.refl W3).alloc _) gr5 (fun k hk => by have : w2.heap.size + 1 = k := Option.some.inj hk; omega)
          have P6 := (P2.later hE3).later hE5
          have Q6 := P3'.later hE5
          obtain ⟨p0, p1, p2, -, -, -⟩ := P6.at
          obtain ⟨q0, q1, q2, -, -, -⟩ := Q6.at
          exact ⟨Lib.hid own5, Lib.hid ((hE2.trans hE3).trans hE5), Lib.hid P6, Lib.hid Q6, p0, p1, p2, q0, q1, q2⟩)
        have hB2 : w.heap.size < w2.heap.size := hA2
        clear own4 hE3' P2
        go_wp2_with ((at_builtin; refine appM_at rfl _ _ rfl (w2.heap.size + 1) _ _ [] (l.drop i) rfl rfl OW.out SD.out LE.out BA.out ?_; intro v11 W5 own5 gr5 lo5; obtain ⟨OW5, HE5, HP6, HQ6, p0, p1, p2', q0, q1, q2⟩ := HF.out _ _ own5 gr5; clear own5 gr5 lo5 HF OW SD LE BA p2))
        refine (KR.out _ HE5.out).mono ?_
        rintro e w6 ⟨rfl, hx6⟩
        subst hx6
        have hv := HV.out
        subst hv
        obtain ⟨a1, n1, c1, b1, o1, hv1, hn1, h31, -, h41⟩ := HS.out.later HE5.out
        cases hv1
        obtain ⟨hb1, hb2⟩ := h41 k0 hk1
        obtain rfl : ad = some ⟨b1, o1, none⟩ := h31.resolve_left (by omega)
        clear h31 h41 hn1 hsl hlen HV
        generalize l.getD k0 Mot.zero = m at *
        have g0 := hb2.c0; have g1 := hb2.c1; have g2 := hb2.c2; have g3 := hb2.c3; have g4 := hb2.c4; have g5 := hb2.c5; have g6 := hb2.c6; have g7 := hb2.c7; have g8 := hb2.c8
        have lt0 : w.heap.size < W5.heap.size := HP6.out.lt
        have lt1 : w2.heap.size < W5.heap.size := HQ6.out.lt
        have e0 : ∀ o, (W5.alloc o).cell? ⟨w.heap.size, 0, none⟩ = some (.int .i64 x) := fun o => by rw [World.cell?_alloc_lt _ _ _ lt0]; exact p0
        have e00 : ∀ o o2, ((W5.alloc o).alloc o2).cell? ⟨w.heap.size, 0, none⟩ = some (.int .i64 x) := fun o o2 => by rw [World.cell?_alloc_lt _ _ _ (by simp; omega)]; exact e0 o
        have e1 : ∀ o, (W5.alloc o).cell? ⟨w.heap.size, 1, none⟩ = some (.int .i64 y) := fun o => by rw [World.cell?_alloc_lt _ _ _ lt0]; exact p1
        have e11 : ∀ o o2, ((W5.alloc o).alloc o2).cell? ⟨w.heap.size, 1, none⟩ = some (.int .i64 y) := fun o o2 => by rw [World.cell?_alloc_lt _ _ _ (by simp; omega)]; exact e1 o
        have e2 : ∀ o, (W5.alloc o).cell? ⟨w.heap.size, 2, none⟩ = some (.int .i64 z) := fun o => by rw [World.cell?_alloc_lt _ _ _ lt0]; exact p2'
        have e22 : ∀ o o2, ((W5.alloc o).alloc o2).cell? ⟨w.heap.size, 2, none⟩ = some (.int .i64 z) := fun o o2 => by rw [World.cell?_alloc_lt _ _ _ (by simp; omega)]; exact e2 o
        have f0 : ∀ o, (W5.alloc o).cell? ⟨w2.heap.size, 0, none⟩ = some (.int .i64 bx) := fun o => by rw [World.cell?_alloc_lt _ _ _ lt1]; exact q0
        have f00 : ∀ o o2, ((W5.alloc o).alloc o2).cell? ⟨w2.heap.size, 0, none⟩ = some (.int .i64 bx) := fun o o2 => by rw [World.cell?_alloc_lt _ _ _ (by simp; omega)]; exact f0 o
        have f1 : ∀ o, (W5.alloc o).cell? ⟨w2.heap.size, 1, none⟩ = some (.int .i64 bY) := fun o => by rw [World.cell?_alloc_lt _ _ _ lt1]; exact q1
        have f11 : ∀ o o2, ((W5.alloc o).alloc o2).cell? ⟨w2.heap.size, 1, none⟩ = some (.int .i64 bY) := fun o o2 => by rw [World.cell?_alloc_lt _ _ _ (by simp; omega)]; exact f1 o
        have f2 : ∀ o, (W5.alloc o).cell? ⟨w2.heap.size, 2, none⟩ = some (.int .i64 bz) := fun o => by rw [World.cell?_alloc_lt _ _ _ lt1]; exact q2
        have f22 : ∀ o o2, ((W5.alloc o).alloc o2).cell? ⟨w2.heap.size, 2, none⟩ = some (.int .i64 bz) := fun o o2 => by rw [World.cell?_alloc_lt _ _ _ (by simp; omega)]; exact f2 o
        go_wp2_with fail
        obtain ⟨W7, hW7, M7, hE7⟩ := M9Box.mk' W5 m
        have hz7 : W7.heap.size = W5.heap.size + 1 := by rw [← hW7]; simp
        rw [hW7]; clear hW7
        obtain ⟨W8, hW8, T8, hE8⟩ := TBox.mk' W7 x y z bx bY bz safe 1000 hmz
        have hz8 : W8.heap.size = W7.heap.size + 1 := by rw [← hW8]; simp
        rw [hW8]; clear hW8
        obtain ⟨W9, hW9, F9, hE9⟩ := P3Box.mk' W8 x y z
        rw [hW9]; clear hW9
        rw [hz8, hz7] at F9
        rw [hz7] at T8
        have M9 := (M7.later hE8).later hE9
        have T9 := T8.later hE9
        have hE79 := (hE7.trans hE8).trans hE9
        have HE9 := Lib.hid (HE5.out.trans hE79)
        have HR9 := Lib.hid (OW5.out.sl.later hE79)
        have hvF : v11.ownBlock ≠ some (W5.heap.size + 1 + 1) := fun e => by have := OW5.out.lt e; omega
        have HVF := Lib.hid hvF
        have hA9 : W5.heap.size + 1 + 1 < W9.heap.size := F9.lt
        have hA0 : w.heap.size ≤ W5.heap.size := HE5.out.size
        clear e0 e1 e2 e00 e11 e22 f0 f1 f2 f00 f11 f22 p0 p1 p2' q0 q1 q2 g0 g1 g2 g3 g4 g5 g6 g7 g8 hb2 M7 T8 hE7 hE8 hE9 hz7 hz8 hE79 hvF lt0 lt1 HP6 HQ6 hb1
        generalize W5.heap.size = A at *
        clear W7 W8
        have hLL : (rLegs (x, y, z) (bx, bY, bz) safe rate m 4).length ≤ 4 := rLegs_len _ _ _ _ _ 4
        go_loopw [15, 17] (fun u t wr => ∃ k : Nat, k ≤ 4 ∧ t = .int .i64 k ∧ OwnM W9.heap.size wr u (rLegs (x, y, z) (bx, bY, bz) safe rate m k) ∧ P3Box wr (A + 1 + 1) (rFrom (x, y, z) (bx, bY, bz) safe k).1 (rFrom (x, y, z) (bx, bY, bz) safe k).2.1 (rFrom (x, y, z) (bx, bY, bz) safe k).2.2 ∧ Only (fun b => b = A + 1 + 1) W9 wr) (fun _ t _ => 4 - (intOf t).toNat)
        case atStart => exact ⟨0, by omega, rfl, OwnM.nil _ _, F9, Only.refl _ _⟩
        case round =>
          clear F9
          obtain ⟨k, hk, rfl, hown, hF, hO⟩ := hrel
          have hsz := hO.size
          by_cases hlt : k < 4
          · have hlt' : decide ((k : Int) < 4) = true := by simp; omega
            have hTk := T9.only hO (by omega)
            obtain ⟨t0, t1', t2'⟩ := hTk.2 k hlt
            have hleg : rLegs (x, y, z) (bx, bY, bz) safe rate m (k + 1) = rLegs (x, y, z) (bx, bY, bz) safe rate m k ++ (if eq3 (rFrom (x, y, z) (bx, bY, bz) safe k) (rPt (x, y, z) (bx, bY, bz) safe k) = true then [] else [rMot (x, y, z) (bx, bY, bz) safe rate m k]) := rfl
            have hlk2 := rLegs_len (x, y, z) (bx, bY, bz) safe rate m k
            unfold rMot at hleg
            obtain ⟨tp, htp⟩ : ∃ tp, rPt (x, y, z) (bx, bY, bz) safe k = tp := ⟨_, rfl⟩
            obtain ⟨fp, hfp⟩ : ∃ fp, rFrom (x, y, z) (bx, bY, bz) safe k = fp := ⟨_, rfl⟩
            rw [htp] at t0 t1' t2' hleg
            rw [hfp] at hF hleg
            have HTP := Lib.hid htp
            clear htp hfp
            obtain ⟨tx, ty, tz⟩ := tp
            obtain ⟨fx, fy, fz⟩ := fp
            simp only at t0 t1' t2' hF hleg
            have heq3 : eq3 (fx, fy, fz) (tx, ty, tz) = eqP fx fy fz tx ty tz := rfl
            rw [heq3] at hleg
            clear heq3
            have hne := fun w => Try.neq_pos fx fy fz tx ty tz w
            have Mk := M9.only hO (by omega)
            have d0 := hF.c0; have d1 := hF.c1; have d2 := hF.c2
            have u0 := Later.cell t0; have u1 := Later.cell t1'; have u2 := Later.cell t2'
            have l7 := Later.cell Mk.c7; have l8 := Later.cell Mk.c8
            have HOWN := Lib.hid hown; have HFF := Lib.hid hF; have HTK := Lib.hid hTk; have HLEG := Lib.hid hleg
            clear hown hF hTk hleg t0 t1' t2' Mk
            go_wp2_with fail
            refine wp_region_tree (fun w' => ∃ z : Later wr, w' = z.w) 11 (.one [0, 1, 2, 3, 4, 5, 6, 7, 8, 9] 10 (.leaf [])) (by kernel_rfl) (by kernel_rfl) (by kernel_rfl) ⟨⟨_, (Ext.refl wr).drew⟩, rfl⟩ ?_
            simp only [List.take_succ_cons, List.take_zero]
            refine tree_one fun K hK => ?_
            simp only [List.map_cons, List.map_nil, pickOp, List.getElem?_cons_zero, List.getElem?_cons_succ, Option.getD_some]
            repeat (go_big_quiet_step (fail))
            refine wpQuiet_nil ?_
            go_wp2_with fail
            refine onlyK_normal (hK _ _ ⟨⟨_, ((Ext.refl wr).drew).alloc _⟩, rfl⟩ ?_); clear hK K
            refine tree_leaf0 ?_
            simp only [List.drop_succ_cons, List.drop_zero]
            clear d0 d1 d2 u0 u1 u2 l7 l8
            by_cases hk3 : k = 3
            · have hk3' : ((k : Int) == 3) = true := by simp; omega
              have HK3 := Lib.hid hk3; clear hk3
              go_wp2_with fail
              obtain ⟨V1, hV1, BM, hEV⟩ := M9Box.mk' wr ⟨fx, fy, fz, tx, ty, tz, rate, m.tool, m.block⟩
              rw [hV1]; clear hV1
              have hx2 : Ext wr V1.drew := hEV.drew
              have BM2 := BM.later (Ext.refl V1).drew
              clear BM hEV
              generalize V1.drew = V2 at *
              clear V1
              have F2 := HFF.out.later hx2
              have T2 := HTK.out.later hx2
              obtain ⟨t0, t1', t2'⟩ := T2.2 k hlt
              rw [HTP.out] at t0 t1' t2'
              simp only at t0 t1' t2'
              have d0 := F2.c0; have d1 := F2.c1; have d2 := F2.c2
              have u0 := Later.cell t0; have u1 := Later.cell t1'; have u2 := Later.cell t2'
              have hws : W9.heap.size ≤ wr.heap.size := hsz
              generalize wr.heap.size = bM at *
              refine wp_region_later (by kernel_rfl) (by kernel_rfl) ?_
              repeat (go_big_quiet_step (fail))
              refine wpQuiet_nil ?_
              rintro _ ⟨yy, rfl⟩
              have hx3 : Ext wr yy.w := hx2.trans yy.ext
              have F3 := F2.later yy.ext
              have T3 := T2.later yy.ext
              have BM3 := BM2.later yy.ext
              clear d0 d1 d2 u0 u1 u2 t0 t1' t2' F2 T2 BM2 hx2
              generalize yy.w = V3 at *
              clear yy
              obtain ⟨t0, t1', t2'⟩ := T3.2 k hlt
              rw [HTP.out] at t0 t1' t2'
              simp only at t0 t1' t2'
              obtain ⟨p0, p1, p2, y0, y1, y2⟩ := F3.at
              have hO3 : Only (fun b => b = A + 1 + 1) W9 V3 := hO.trans (Only.of_ext hx3)
              have own3 := HOWN.out.later hx3
              have hub : ∀ b, u15.ownBlock = some b → W9.heap.size ≤ b := fun b hb => own3.base hb
              cases hev : eqP fx fy fz tx ty tz
              case true =>
                rw [hev] at HLEG
                rw [if_pos rfl, List.append_nil] at HLEG
                have F4 := F3.put tx ty tz
                have hO4 : Only (fun b => b = A + 1 + 1) V3 (((V3.setCell ⟨A + 1 + 1, 0, none⟩ (.int .i64 tx)).setCell ⟨A + 1 + 1, 1, none⟩ (.int .i64 ty)).setCell ⟨A + 1 + 1, 2, none⟩ (.int .i64 tz)) := (Only.refl (fun b => b = A + 1 + 1) V3).set3 (.inl rfl) _ _ _
                have own4 := own3.only hO4 (fun b hb e => by have := hub b hb; omega)
                have HO4 := Lib.hid (hO3.trans hO4); have HF4 := Lib.hid F4; have OW4 := Lib.hid own4
                clear F4 hO4 own4 hO3 own3 hub
                rw [hev] at hne
                go_wp2
                go_roundw
                case rel => exact ⟨k + 1, by omega, by go_num, by rw [HLEG.out]; exact OW4.out, (by show P3Box _ _ (rPt (x, y, z) (bx, bY, bz) safe k).1 (rPt (x, y, z) (bx, bY, bz) safe k).2.1 (rPt (x, y, z) (bx, bY, bz) safe k).2.2; rw [HTP.out]; exact HF4.out), HO4.out⟩
                case measure => simp [intOf]; omega
              case false =>
                rw [hev] at HLEG
                rw [if_neg (by decide)] at HLEG
                rw [hev] at hne
                have r0 := BM3.c0; have r1 := BM3.c1; have r2 := BM3.c2; have r3 := BM3.c3; have r4 := BM3.c4; have r5 := BM3.c5; have r6 := BM3.c6; have r7 := BM3.c7; have r8 := BM3.c8
                simp only at r0 r1 r2 r3 r4 r5 r6 r7 r8
                obtain ⟨V4, hV4, B4, hE4⟩ := M9Box.mk' V3 ⟨fx, fy, fz, tx, ty, tz, rate, m.tool, m.block⟩
                have lit := B4.sl1
                have own4 := own3.later hE4
                rw [← hV4] at lit own4
                have OW := Lib.hid own4; have LI := Lib.hid lit
                have LE : Hid ((rLegs (x, y, z) (bx, bY, bz) safe rate m k).length + [(⟨fx, fy, fz, tx, ty, tz, rate, m.tool, m.block⟩ : Mot)].length ≤ 1000000000) := Lib.hid (by simp; omega)
                have BA := Lib.hid (show W9.heap.size ≤ (V3.alloc (.cells #[.int .i64 fx, .int .i64 fy, .int .i64 fz, .int .i64 tx, .int .i64 ty, .int .i64 tz, .int .i64 rate, .int .i64 m.tool, .int .i64 m.block] 38)).heap.size from Nat.le_trans hO3.size (by simp))
                have HF2 : Hid (∀ v' W', OwnM W9.heap.size W' v' (rLegs (x, y, z) (bx, bY, bz) safe rate m k ++ [(⟨fx, fy, fz, tx, ty, tz, rate, m.tool, m.block⟩ : Mot)]) → (V3.alloc (.cells #[.int .i64 fx, .int .i64 fy, .int .i64 fz, .int .i64 tx, .int .i64 ty, .int .i64 tz, .int .i64 rate, .int .i64 m.tool, .int .i64 m.block] 38)).grownBy W' u15.ownBlock →
                    Hid (∀ tx ty tz, OwnM W9.heap.size (((W'.setCell ⟨A + 1 + 1, 0, none⟩ (.int .i64 tx)).setCell ⟨A + 1 + 1, 1, none⟩ (.int .i64 ty)).setCell ⟨A + 1 + 1, 2, none⟩ (.int .i64 tz)) v' (rLegs (x, y, z) (bx, bY, bz) safe rate m k ++ [_])) ∧ Hid (∀ tx ty tz, P3Box (((W'.setCell ⟨A + 1 + 1, 0, none⟩ (.int .i64 tx)).setCell ⟨A + 1 + 1, 1, none⟩ (.int .i64 ty)).setCell ⟨A + 1 + 1, 2, none⟩ (.int .i64 tz)) (A + 1 + 1) tx ty tz) ∧ Hid (∀ tx ty tz, Only (fun b => b = A + 1 + 1) W9 (((W'.setCell ⟨A + 1 + 1, 0, none⟩ (.int .i64 tx)).setCell ⟨A + 1 + 1, 1, none⟩ (.int .i64 ty)).setCell ⟨A + 1 + 1, 2, none⟩ (.int .i64 tz))) ∧ W'.cell? ⟨A + 1, k * 3, none⟩ = some (.int .i64 tx) ∧ W'.cell? ⟨A + 1, k * 3 + 1, none⟩ = some (.int .i64 ty) ∧ W'.cell? ⟨A + 1, k * 3 + 2, none⟩ = some (.int .i64 tz) ∧ W'.cell? ⟨A + 1 + 1, 0, none⟩ = some (.int .i64 fx) ∧ W'.cell? ⟨A + 1 + 1, 1, none⟩ = some (.int .i64 fy) ∧ W'.cell? ⟨A + 1 + 1, 2, none⟩ = some (.int .i64 fz) ∧ W'.frozen? ⟨A + 1 + 1, 0, none⟩ = false ∧ W'.frozen? ⟨A + 1 + 1, 1, none⟩ = false ∧ W'.frozen? ⟨A + 1 + 1, 2, none⟩ = false) := Lib.hid (fun v' W' own' gr' => by
                  rw [hV4] at gr'
                  have hO4 := Only.of_grown gr'
                  have hO4' : Only (fun b => u15.ownBlock = some b) V3 W' := (Only.of_ext hE4).trans hO4
                  have F5 := F3.only hO4' (fun e => by have := hub _ e; omega)
                  have T5 := T3.only hO4' (fun e => by have := hub _ e; omega)
                  obtain ⟨t0, t1', t2'⟩ := T5.2 k hlt
                  rw [HTP.out] at t0 t1' t2'
                  obtain ⟨p0, p1, p2, y0, y1, y2⟩ := F5.at
                  have hO5 : Only (fun b => b = A + 1 + 1) W9 W' := hO3.trans' hO4' (fun i hi e => by have := hub _ e; omega)
                  exact ⟨Lib.hid (fun tx ty tz => own'.only ((Only.refl (fun b => b = A + 1 + 1) W').set3 (.inl rfl) _ _ _) (fun b hb e => by have := own'.base hb; omega)), Lib.hid (fun tx ty tz => F5.put tx ty tz), Lib.hid (fun tx ty tz => hO5.set3 (.inl rfl) _ _ _), t0, t1', t2', p0, p1, p2, y0, y1, y2⟩)
                clear own4 lit t0 t1' t2' p0 p1 p2 y0 y1 y2 B4 hV4
                go_wp2_with ((at_builtin; refine appM_at rfl _ _ rfl W9.heap.size _ _ (rLegs (x, y, z) (bx, bY, bz) safe rate m k) [(⟨fx, fy, fz, tx, ty, tz, rate, m.tool, m.block⟩ : Mot)] rfl rfl OW.out LI.out LE.out BA.out ?_; intro v5 W10 own5 gr5 lo5; obtain ⟨OW5', HF5, HO5, t0, t1', t2', p0, p1, p2, y0, y1, y2⟩ := HF2.out _ _ own5 gr5; clear own5 gr5 lo5 HF2 OW LI LE BA r0 r1 r2 r3 r4 r5 r6 r7 r8))
                go_roundw
                case rel => exact ⟨k + 1, by omega, by go_num, by rw [HLEG.out]; rw [if_pos HK3.out]; exact OW5'.out tx ty tz, (by show P3Box _ _ (rPt (x, y, z) (bx, bY, bz) safe k).1 (rPt (x, y, z) (bx, bY, bz) safe k).2.1 (rPt (x, y, z) (bx, bY, bz) safe k).2.2; rw [HTP.out]; exact HF5.out tx ty tz), HO5.out tx ty tz⟩
                case measure => simp [intOf]; omega
            · have hk3' : ((k : Int) == 3) = false := by simp; omega
              go_wp2_with fail
              obtain ⟨V1, hV1, BM, hEV⟩ := M9Box.mk' wr ⟨fx, fy, fz, tx, ty, tz, 0, m.tool, m.block⟩
              rw [hV1]; clear hV1
              have hx2 : Ext wr V1.drew := hEV.drew
              have BM2 := BM.later (Ext.refl V1).drew
              clear BM hEV
              generalize V1.drew = V2 at *
              clear V1
              have F2 := HFF.out.later hx2
              have T2 := HTK.out.later hx2
              obtain ⟨t0, t1', t2'⟩ := T2.2 k hlt
              rw [HTP.out] at t0 t1' t2'
              simp only at t0 t1' t2'
              have d0 := F2.c0; have d1 := F2.c1; have d2 := F2.c2
              have u0 := Later.cell t0; have u1 := Later.cell t1'; have u2 := Later.cell t2'
              have hws : W9.heap.size ≤ wr.heap.size := hsz
              generalize wr.heap.size = bM at *
              refine wp_region_later (by kernel_rfl) (by kernel_rfl) ?_
              repeat (go_big_quiet_step (fail))
              refine wpQuiet_nil ?_
              rintro _ ⟨yy, rfl⟩
              have hx3 : Ext wr yy.w := hx2.trans yy.ext
              have F3 := F2.later yy.ext
              have T3 := T2.later yy.ext
              have BM3 := BM2.later yy.ext
              clear d0 d1 d2 u0 u1 u2 t0 t1' t2' F2 T2 BM2 hx2
              generalize yy.w = V3 at *
              clear yy
              obtain ⟨t0, t1', t2'⟩ := T3.2 k hlt
              rw [HTP.out] at t0 t1' t2'
              simp only at t0 t1' t2'
              obtain ⟨p0, p1, p2, y0, y1, y2⟩ := F3.at
              have hO3 : Only (fun b => b = A + 1 + 1) W9 V3 := hO.trans (Only.of_ext hx3)
              have own3 := HOWN.out.later hx3
              have hub : ∀ b, u15.ownBlock = some b → W9.heap.size ≤ b := fun b hb => own3.base hb
              cases hev : eqP fx fy fz tx ty tz
              case true =>
                rw [hev] at HLEG
                rw [if_pos rfl, List.append_nil] at HLEG
                have F4 := F3.put tx ty tz
                have hO4 : Only (fun b => b = A + 1 + 1) V3 (((V3.setCell ⟨A + 1 + 1, 0, none⟩ (.int .i64 tx)).setCell ⟨A + 1 + 1, 1, none⟩ (.int .i64 ty)).setCell ⟨A + 1 + 1, 2, none⟩ (.int .i64 tz)) := (Only.refl (fun b => b = A + 1 + 1) V3).set3 (.inl rfl) _ _ _
                have own4 := own3.only hO4 (fun b hb e => by have := hub b hb; omega)
                have HO4 := Lib.hid (hO3.trans hO4); have HF4 := Lib.hid F4; have OW4 := Lib.hid own4
                clear F4 hO4 own4 hO3 own3 hub
                rw [hev] at hne
                go_wp2
                go_roundw
                case rel => exact ⟨k + 1, by omega, by go_num, by rw [HLEG.out]; exact OW4.out, (by show P3Box _ _ (rPt (x, y, z) (bx, bY, bz) safe k).1 (rPt (x, y, z) (bx, bY, bz) safe k).2.1 (rPt (x, y, z) (bx, bY, bz) safe k).2.2; rw [HTP.out]; exact HF4.out), HO4.out⟩
                case measure => simp [intOf]; omega
              case false =>
                rw [hev] at HLEG
                rw [if_neg (by decide)] at HLEG
                rw [hev] at hne
                have r0 := BM3.c0; have r1 := BM3.c1; have r2 := BM3.c2; have r3 := BM3.c3; have r4 := BM3.c4; have r5 := BM3.c5; have r6 := BM3.c6; have r7 := BM3.c7; have r8 := BM3.c8
                simp only at r0 r1 r2 r3 r4 r5 r6 r7 r8
                obtain ⟨V4, hV4, B4, hE4⟩ := M9Box.mk' V3 ⟨fx, fy, fz, tx, ty, tz, 0, m.tool, m.block⟩
                have lit := B4.sl1
                have own4 := own3.later hE4
                rw [← hV4] at lit own4
                have OW := Lib.hid own4; have LI := Lib.hid lit
                have LE : Hid ((rLegs (x, y, z) (bx, bY, bz) safe rate m k).length + [(⟨fx, fy, fz, tx, ty, tz, 0, m.tool, m.block⟩ : Mot)].length ≤ 1000000000) := Lib.hid (by simp; omega)
                have BA := Lib.hid (show W9.heap.size ≤ (V3.alloc (.cells #[.int .i64 fx, .int .i64 fy, .int .i64 fz, .int .i64 tx, .int .i64 ty, .int .i64 tz, .int .i64 0, .int .i64 m.tool, .int .i64 m.block] 38)).heap.size from Nat.le_trans hO3.size (by simp))
                have HF2 : Hid (∀ v' W', OwnM W9.heap.size W' v' (rLegs (x, y, z) (bx, bY, bz) safe rate m k ++ [(⟨fx, fy, fz, tx, ty, tz, 0, m.tool, m.block⟩ : Mot)]) → (V3.alloc (.cells #[.int .i64 fx, .int .i64 fy, .int .i64 fz, .int .i64 tx, .int .i64 ty, .int .i64 tz, .int .i64 0, .int .i64 m.tool, .int .i64 m.block] 38)).grownBy W' u15.ownBlock →
                    Hid (∀ tx ty tz, OwnM W9.heap.size (((W'.setCell ⟨A + 1 + 1, 0, none⟩ (.int .i64 tx)).setCell ⟨A + 1 + 1, 1, none⟩ (.int .i64 ty)).setCell ⟨A + 1 + 1, 2, none⟩ (.int .i64 tz)) v' (rLegs (x, y, z) (bx, bY, bz) safe rate m k ++ [_])) ∧ Hid (∀ tx ty tz, P3Box (((W'.setCell ⟨A + 1 + 1, 0, none⟩ (.int .i64 tx)).setCell ⟨A + 1 + 1, 1, none⟩ (.int .i64 ty)).setCell ⟨A + 1 + 1, 2, none⟩ (.int .i64 tz)) (A + 1 + 1) tx ty tz) ∧ Hid (∀ tx ty tz, Only (fun b => b = A + 1 + 1) W9 (((W'.setCell ⟨A + 1 + 1, 0, none⟩ (.int .i64 tx)).setCell ⟨A + 1 + 1, 1, none⟩ (.int .i64 ty)).setCell ⟨A + 1 + 1, 2, none⟩ (.int .i64 tz))) ∧ W'.cell? ⟨A + 1, k * 3, none⟩ = some (.int .i64 tx) ∧ W'.cell? ⟨A + 1, k * 3 + 1, none⟩ = some (.int .i64 ty) ∧ W'.cell? ⟨A + 1, k * 3 + 2, none⟩ = some (.int .i64 tz) ∧ W'.cell? ⟨A + 1 + 1, 0, none⟩ = some (.int .i64 fx) ∧ W'.cell? ⟨A + 1 + 1, 1, none⟩ = some (.int .i64 fy) ∧ W'.cell? ⟨A + 1 + 1, 2, none⟩ = some (.int .i64 fz) ∧ W'.frozen? ⟨A + 1 + 1, 0, none⟩ = false ∧ W'.frozen? ⟨A + 1 + 1, 1, none⟩ = false ∧ W'.frozen? ⟨A + 1 + 1, 2, none⟩ = false) := Lib.hid (fun v' W' own' gr' => by
                  rw [hV4] at gr'
                  have hO4 := Only.of_grown gr'
                  have hO4' : Only (fun b => u15.ownBlock = some b) V3 W' := (Only.of_ext hE4).trans hO4
                  have F5 := F3.only hO4' (fun e => by have := hub _ e; omega)
                  have T5 := T3.only hO4' (fun e => by have := hub _ e; omega)
                  obtain ⟨t0, t1', t2'⟩ := T5.2 k hlt
                  rw [HTP.out] at t0 t1' t2'
                  obtain ⟨p0, p1, p2, y0, y1, y2⟩ := F5.at
                  have hO5 : Only (fun b => b = A + 1 + 1) W9 W' := hO3.trans' hO4' (fun i hi e => by have := hub _ e; omega)
                  exact ⟨Lib.hid (fun tx ty tz => own'.only ((Only.refl (fun b => b = A + 1 + 1) W').set3 (.inl rfl) _ _ _) (fun b hb e => by have := own'.base hb; omega)), Lib.hid (fun tx ty tz => F5.put tx ty tz), Lib.hid (fun tx ty tz => hO5.set3 (.inl rfl) _ _ _), t0, t1', t2', p0, p1, p2, y0, y1, y2⟩)
                clear own4 lit t0 t1' t2' p0 p1 p2 y0 y1 y2 B4 hV4
                go_wp2_with ((at_builtin; refine appM_at rfl _ _ rfl W9.heap.size _ _ (rLegs (x, y, z) (bx, bY, bz) safe rate m k) [(⟨fx, fy, fz, tx, ty, tz, 0, m.tool, m.block⟩ : Mot)] rfl rfl OW.out LI.out LE.out BA.out ?_; intro v5 W10 own5 gr5 lo5; obtain ⟨OW5', HF5, HO5, t0, t1', t2', p0, p1, p2, y0, y1, y2⟩ := HF2.out _ _ own5 gr5; clear own5 gr5 lo5 HF2 OW LI LE BA r0 r1 r2 r3 r4 r5 r6 r7 r8))
                go_roundw
                case rel => exact ⟨k + 1, by omega, by go_num, by rw [HLEG.out]; rw [if_neg hk3]; exact OW5'.out tx ty tz, (by show P3Box _ _ (rPt (x, y, z) (bx, bY, bz) safe k).1 (rPt (x, y, z) (bx, bY, bz) safe k).2.1 (rPt (x, y, z) (bx, bY, bz) safe k).2.2; rw [HTP.out]; exact HF5.out tx ty tz), HO5.out tx ty tz⟩
                case measure => simp [intOf]; omega
          · have hlt' : decide ((k : Int) < 4) = false := by simp; omega
            obtain rfl : k = 4 := by omega
            have hR := HR9.out.only hO (fun b hb e => HVF.out (by rw [hb, e]))
            obtain ⟨a11, n11, c11, b11, o11, hv11, -⟩ := id hR
            have OW := Lib.hid hown; have LI := Lib.hid hR
            have LE : Hid ((rLegs (x, y, z) (bx, bY, bz) safe rate m 4).length + (l.drop i).length ≤ 1000000000) := Lib.hid (by omega)
            have BA := Lib.hid hsz
            have hE9' : Ext w wr := HE9.out.only hO (fun i hi e => by omega)
            have hub : ∀ b, u15.ownBlock = some b → W9.heap.size ≤ b := fun b hb => hown.base hb
            have hw9 := HE9.out.size
            have HF3 : Hid (∀ v' W', OwnM W9.heap.size W' v' (rLegs (x, y, z) (bx, bY, bz) safe rate m 4 ++ l.drop i) → wr.grownBy W' u15.ownBlock → Hid (OwnM W9.heap.size W' v' (rLegs (x, y, z) (bx, bY, bz) safe rate m 4 ++ l.drop i)) ∧ Hid (Ext w W')) := Lib.hid (fun v' W' own' gr' => ⟨Lib.hid own', Lib.hid (ext_grown hE9' gr' (fun k hk => by have := hub k hk; omega))⟩)
            clear hown hR hF hub hE9'
            go_wp2_with ((at_builtin; refine appM_at rfl _ _ rfl W9.heap.size _ _ (rLegs (x, y, z) (bx, bY, bz) safe rate m 4) (l.drop i) rfl rfl OW.out LI.out LE.out BA.out ?_; intro v5 W10 own5 gr5 lo5; obtain ⟨OW5', HEE⟩ := HF3.out _ _ own5 gr5; clear own5 gr5 lo5 HF3 OW LI LE BA))
            obtain ⟨a12, n12, c12, hv12⟩ := OW5'.out.form
            subst hv12
            go_ret2
            exact ⟨_, rfl, OW5'.out.sl, HEE.out⟩
      · have t1 : decide (bz < 1000) = false := by simpa using hb0
        clear h13
        have hmz : (if bz < 1000 then (1000 : Int) else bz) = bz := by rw [if_neg hb0]
        go_enter Try.func26, Try.ntmps26
        go_wp2_with fail
        obtain ⟨W1, hW1, P1, hE1⟩ := P3Box.mk' w x y z
        rw [hW1]; clear hW1
        refine (KB.out _ hE1).mono ?_
        rintro e w2 ⟨rfl, hx2⟩
        have P2 := P1.later hx2
        have hE2 := hE1.trans hx2
        have hA2 : w.heap.size < w2.heap.size := P2.lt
        clear P1 hE1 hx2
        clear W1
        have p2 : ∀ o, (w2.alloc o).cell? ⟨w.heap.size, 2, none⟩ = some (.int .i64 z) := fun o => by rw [World.cell?_alloc_lt _ _ _ hA2]; exact P2.at.2.2.1
        have hE3' := hE2.alloc (.cells #[.int .i64 bx, .int .i64 bY, .int .i64 bz] 36)
        have own4 : OwnM (w2.heap.size + 1) ((w2.alloc (.cells #[.int .i64 bx, .int .i64 bY, .int .i64 bz] 36)).alloc (.cells #[] 38)) (.slice (some ⟨w2.heap.size + 1, 0, none⟩) 0 0) [] := by
          have := OwnM.empty (w2.alloc (.cells #[.int .i64 bx, .int .i64 bY, .int .i64 bz] 36)).heap.size _ (Nat.le_refl _)
          simpa using this
        have OW := Lib.hid own4
        have SD := Lib.hid (HS3.out.later (hE3'.alloc (.cells #[] 38)))
        have LE : Hid (([] : List Mot).length + (l.drop i).length ≤ 1000000000) := Lib.hid (by simp only [List.length_nil]; omega)
        have BA : Hid (w2.heap.size + 1 ≤ ((w2.alloc (.cells #[.int .i64 bx, .int .i64 bY, .int .i64 bz] 36)).alloc (.cells #[] 38)).heap.size) := Lib.hid (by simp)
        have HF : Hid (∀ v11 W5, OwnM (w2.heap.size + 1) W5 v11 ([] ++ l.drop i) → ((w2.alloc (.cells #[.int .i64 bx, .int .i64 bY, .int .i64 bz] 36)).alloc (.cells #[] 38)).grownBy W5 (Value.slice (some ⟨w2.heap.size + 1, 0, none⟩) 0 0).ownBlock → Hid (OwnM (w2.heap.size + 1) W5 v11 (l.drop i)) ∧ Hid (Ext w W5) ∧ Hid (P3Box W5 w.heap.size x y z) ∧ Hid (P3Box W5 w2.heap.size bx bY bz) ∧ W5.cell? ⟨w.heap.size, 0, none⟩ = some (.int .i64 x) ∧ W5.cell? ⟨w.heap.size, 1, none⟩ = some (.int .i64 y) ∧ W5.cell? ⟨w.heap.size, 2, none⟩ = some (.int .i64 z) ∧ W5.cell? ⟨w2.heap.size, 0, none⟩ = some (.int .i64 bx) ∧ W5.cell? ⟨w2.heap.size, 1, none⟩ = some (.int .i64 bY) ∧ W5.cell? ⟨w2.heap.size, 2, none⟩ = some (.int .i64 bz)) := Lib.hid (fun v11 W5 own5 gr5 => by
          obtain ⟨W3, hW3, P3', hE3⟩ := P3Box.mk' w2 bx bY bz
          have hz3 : W3.heap.size = w2.heap.size + 1 := by rw [← hW3]; simp
          rw [hW3] at gr5
          have hE5 : Ext W3 W5 := ext_grown ((Ext.refl W3).alloc _) gr5 (fun k hk => by have : w2.heap.size + 1 = k := Option.some.inj hk; omega)
          have P6 := (P2.later hE3).later hE5
          have Q6 := P3'.later hE5
          obtain ⟨p0, p1, p2, -, -, -⟩ := P6.at
          obtain ⟨q0, q1, q2, -, -, -⟩ := Q6.at
          exact ⟨Lib.hid own5, Lib.hid ((hE2.trans hE3).trans hE5), Lib.hid P6, Lib.hid Q6, p0, p1, p2, q0, q1, q2⟩)
        have hB2 : w.heap.size < w2.heap.size := hA2
        clear own4 hE3' P2
        go_wp2_with ((at_builtin; refine appM_at rfl _ _ rfl (w2.heap.size + 1) _ _ [] (l.drop i) rfl rfl OW.out SD.out LE.out BA.out ?_; intro v11 W5 own5 gr5 lo5; obtain ⟨OW5, HE5, HP6, HQ6, p0, p1, p2', q0, q1, q2⟩ := HF.out _ _ own5 gr5; clear own5 gr5 lo5 HF OW SD LE BA p2))
        refine (KR.out _ HE5.out).mono ?_
        rintro e w6 ⟨rfl, hx6⟩
        subst hx6
        have hv := HV.out
        subst hv
        obtain ⟨a1, n1, c1, b1, o1, hv1, hn1, h31, -, h41⟩ := HS.out.later HE5.out
        cases hv1
        obtain ⟨hb1, hb2⟩ := h41 k0 hk1
        obtain rfl : ad = some ⟨b1, o1, none⟩ := h31.resolve_left (by omega)
        clear h31 h41 hn1 hsl hlen HV
        generalize l.getD k0 Mot.zero = m at *
        have g0 := hb2.c0; have g1 := hb2.c1; have g2 := hb2.c2; have g3 := hb2.c3; have g4 := hb2.c4; have g5 := hb2.c5; have g6 := hb2.c6; have g7 := hb2.c7; have g8 := hb2.c8
        have lt0 : w.heap.size < W5.heap.size := HP6.out.lt
        have lt1 : w2.heap.size < W5.heap.size := HQ6.out.lt
        have e0 : ∀ o, (W5.alloc o).cell? ⟨w.heap.size, 0, none⟩ = some (.int .i64 x) := fun o => by rw [World.cell?_alloc_lt _ _ _ lt0]; exact p0
        have e00 : ∀ o o2, ((W5.alloc o).alloc o2).cell? ⟨w.heap.size, 0, none⟩ = some (.int .i64 x) := fun o o2 => by rw [World.cell?_alloc_lt _ _ _ (by simp; omega)]; exact e0 o
        have e1 : ∀ o, (W5.alloc o).cell? ⟨w.heap.size, 1, none⟩ = some (.int .i64 y) := fun o => by rw [World.cell?_alloc_lt _ _ _ lt0]; exact p1
        have e11 : ∀ o o2, ((W5.alloc o).alloc o2).cell? ⟨w.heap.size, 1, none⟩ = some (.int .i64 y) := fun o o2 => by rw [World.cell?_alloc_lt _ _ _ (by simp; omega)]; exact e1 o
        have e2 : ∀ o, (W5.alloc o).cell? ⟨w.heap.size, 2, none⟩ = some (.int .i64 z) := fun o => by rw [World.cell?_alloc_lt _ _ _ lt0]; exact p2'
        have e22 : ∀ o o2, ((W5.alloc o).alloc o2).cell? ⟨w.heap.size, 2, none⟩ = some (.int .i64 z) := fun o o2 => by rw [World.cell?_alloc_lt _ _ _ (by simp; omega)]; exact e2 o
        have f0 : ∀ o, (W5.alloc o).cell? ⟨w2.heap.size, 0, none⟩ = some (.int .i64 bx) := fun o => by rw [World.cell?_alloc_lt _ _ _ lt1]; exact q0
        have f00 : ∀ o o2, ((W5.alloc o).alloc o2).cell? ⟨w2.heap.size, 0, none⟩ = some (.int .i64 bx) := fun o o2 => by rw [World.cell?_alloc_lt _ _ _ (by simp; omega)]; exact f0 o
        have f1 : ∀ o, (W5.alloc o).cell? ⟨w2.heap.size, 1, none⟩ = some (.int .i64 bY) := fun o => by rw [World.cell?_alloc_lt _ _ _ lt1]; exact q1
        have f11 : ∀ o o2, ((W5.alloc o).alloc o2).cell? ⟨w2.heap.size, 1, none⟩ = some (.int .i64 bY) := fun o o2 => by rw [World.cell?_alloc_lt _ _ _ (by simp; omega)]; exact f1 o
        have f2 : ∀ o, (W5.alloc o).cell? ⟨w2.heap.size, 2, none⟩ = some (.int .i64 bz) := fun o => by rw [World.cell?_alloc_lt _ _ _ lt1]; exact q2
        have f22 : ∀ o o2, ((W5.alloc o).alloc o2).cell? ⟨w2.heap.size, 2, none⟩ = some (.int .i64 bz) := fun o o2 => by rw [World.cell?_alloc_lt _ _ _ (by simp; omega)]; exact f2 o
        go_wp2_with fail
        obtain ⟨W7, hW7, M7, hE7⟩ := M9Box.mk' W5 m
        have hz7 : W7.heap.size = W5.heap.size + 1 := by rw [← hW7]; simp
        rw [hW7]; clear hW7
        obtain ⟨W8, hW8, T8, hE8⟩ := TBox.mk' W7 x y z bx bY bz safe bz hmz
        have hz8 : W8.heap.size = W7.heap.size + 1 := by rw [← hW8]; simp
        rw [hW8]; clear hW8
        obtain ⟨W9, hW9, F9, hE9⟩ := P3Box.mk' W8 x y z
        rw [hW9]; clear hW9
        rw [hz8, hz7] at F9
        rw [hz7] at T8
        have M9 := (M7.later hE8).later hE9
        have T9 := T8.later hE9
        have hE79 := (hE7.trans hE8).trans hE9
        have HE9 := Lib.hid (HE5.out.trans hE79)
        have HR9 := Lib.hid (OW5.out.sl.later hE79)
        have hvF : v11.ownBlock ≠ some (W5.heap.size + 1 + 1) := fun e => by have := OW5.out.lt e; omega
        have HVF := Lib.hid hvF
        have hA9 : W5.heap.size + 1 + 1 < W9.heap.size := F9.lt
        have hA0 : w.heap.size ≤ W5.heap.size := HE5.out.size
        clear e0 e1 e2 e00 e11 e22 f0 f1 f2 f00 f11 f22 p0 p1 p2' q0 q1 q2 g0 g1 g2 g3 g4 g5 g6 g7 g8 hb2 M7 T8 hE7 hE8 hE9 hz7 hz8 hE79 hvF lt0 lt1 HP6 HQ6 hb1
        generalize W5.heap.size = A at *
        clear W7 W8
        have hLL : (rLegs (x, y, z) (bx, bY, bz) safe rate m 4).length ≤ 4 := rLegs_len _ _ _ _ _ 4
        go_loopw [15, 17] (fun u t wr => ∃ k : Nat, k ≤ 4 ∧ t = .int .i64 k ∧ OwnM W9.heap.size wr u (rLegs (x, y, z) (bx, bY, bz) safe rate m k) ∧ P3Box wr (A + 1 + 1) (rFrom (x, y, z) (bx, bY, bz) safe k).1 (rFrom (x, y, z) (bx, bY, bz) safe k).2.1 (rFrom (x, y, z) (bx, bY, bz) safe k).2.2 ∧ Only (fun b => b = A + 1 + 1) W9 wr) (fun _ t _ => 4 - (intOf t).toNat)
        case atStart => exact ⟨0, by omega, rfl, OwnM.nil _ _, F9, Only.refl _ _⟩
        case round =>
          clear F9
          obtain ⟨k, hk, rfl, hown, hF, hO⟩ := hrel
          have hsz := hO.size
          by_cases hlt : k < 4
          · have hlt' : decide ((k : Int) < 4) = true := by simp; omega
            have hTk := T9.only hO (by omega)
            obtain ⟨t0, t1', t2'⟩ := hTk.2 k hlt
            have hleg : rLegs (x, y, z) (bx, bY, bz) safe rate m (k + 1) = rLegs (x, y, z) (bx, bY, bz) safe rate m k ++ (if eq3 (rFrom (x, y, z) (bx, bY, bz) safe k) (rPt (x, y, z) (bx, bY, bz) safe k) = true then [] else [rMot (x, y, z) (bx, bY, bz) safe rate m k]) := rfl
            have hlk2 := rLegs_len (x, y, z) (bx, bY, bz) safe rate m k
            unfold rMot at hleg
            obtain ⟨tp, htp⟩ : ∃ tp, rPt (x, y, z) (bx, bY, bz) safe k = tp := ⟨_, rfl⟩
            obtain ⟨fp, hfp⟩ : ∃ fp, rFrom (x, y, z) (bx, bY, bz) safe k = fp := ⟨_, rfl⟩
            rw [htp] at t0 t1' t2' hleg
            rw [hfp] at hF hleg
            have HTP := Lib.hid htp
            clear htp hfp
            obtain ⟨tx, ty, tz⟩ := tp
            obtain ⟨fx, fy, fz⟩ := fp
            simp only at t0 t1' t2' hF hleg
            have heq3 : eq3 (fx, fy, fz) (tx, ty, tz) = eqP fx fy fz tx ty tz := rfl
            rw [heq3] at hleg
            clear heq3
            have hne := fun w => Try.neq_pos fx fy fz tx ty tz w
            have Mk := M9.only hO (by omega)
            have d0 := hF.c0; have d1 := hF.c1; have d2 := hF.c2
            have u0 := Later.cell t0; have u1 := Later.cell t1'; have u2 := Later.cell t2'
            have l7 := Later.cell Mk.c7; have l8 := Later.cell Mk.c8
            have HOWN := Lib.hid hown; have HFF := Lib.hid hF; have HTK := Lib.hid hTk; have HLEG := Lib.hid hleg
            clear hown hF hTk hleg t0 t1' t2' Mk
            go_wp2_with fail
            refine wp_region_tree (fun w' => ∃ z : Later wr, w' = z.w) 11 (.one [0, 1, 2, 3, 4, 5, 6, 7, 8, 9] 10 (.leaf [])) (by kernel_rfl) (by kernel_rfl) (by kernel_rfl) ⟨⟨_, (Ext.refl wr).drew⟩, rfl⟩ ?_
            simp only [List.take_succ_cons, List.take_zero]
            refine tree_one fun K hK => ?_
            simp only [List.map_cons, List.map_nil, pickOp, List.getElem?_cons_zero, List.getElem?_cons_succ, Option.getD_some]
            repeat (go_big_quiet_step (fail))
            refine wpQuiet_nil ?_
            go_wp2_with fail
            refine onlyK_normal (hK _ _ ⟨⟨_, ((Ext.refl wr).drew).alloc _⟩, rfl⟩ ?_); clear hK K
            refine tree_leaf0 ?_
            simp only [List.drop_succ_cons, List.drop_zero]
            clear d0 d1 d2 u0 u1 u2 l7 l8
            by_cases hk3 : k = 3
            · have hk3' : ((k : Int) == 3) = true := by simp; omega
              have HK3 := Lib.hid hk3; clear hk3
              go_wp2_with fail
              obtain ⟨V1, hV1, BM, hEV⟩ := M9Box.mk' wr ⟨fx, fy, fz, tx, ty, tz, rate, m.tool, m.block⟩
              rw [hV1]; clear hV1
              have hx2 : Ext wr V1.drew := hEV.drew
              have BM2 := BM.later (Ext.refl V1).drew
              clear BM hEV
              generalize V1.drew = V2 at *
              clear V1
              have F2 := HFF.out.later hx2
              have T2 := HTK.out.later hx2
              obtain ⟨t0, t1', t2'⟩ := T2.2 k hlt
              rw [HTP.out] at t0 t1' t2'
              simp only at t0 t1' t2'
              have d0 := F2.c0; have d1 := F2.c1; have d2 := F2.c2
              have u0 := Later.cell t0; have u1 := Later.cell t1'; have u2 := Later.cell t2'
              have hws : W9.heap.size ≤ wr.heap.size := hsz
              generalize wr.heap.size = bM at *
              refine wp_region_later (by kernel_rfl) (by kernel_rfl) ?_
              repeat (go_big_quiet_step (fail))
              refine wpQuiet_nil ?_
              rintro _ ⟨yy, rfl⟩
              have hx3 : Ext wr yy.w := hx2.trans yy.ext
              have F3 := F2.later yy.ext
              have T3 := T2.later yy.ext
              have BM3 := BM2.later yy.ext
              clear d0 d1 d2 u0 u1 u2 t0 t1' t2' F2 T2 BM2 hx2
              generalize yy.w = V3 at *
              clear yy
              obtain ⟨t0, t1', t2'⟩ := T3.2 k hlt
              rw [HTP.out] at t0 t1' t2'
              simp only at t0 t1' t2'
              obtain ⟨p0, p1, p2, y0, y1, y2⟩ := F3.at
              have hO3 : Only (fun b => b = A + 1 + 1) W9 V3 := hO.trans (Only.of_ext hx3)
              have own3 := HOWN.out.later hx3
              have hub : ∀ b, u15.ownBlock = some b → W9.heap.size ≤ b := fun b hb => own3.base hb
              cases hev : eqP fx fy fz tx ty tz
              case true =>
                rw [hev] at HLEG
                rw [if_pos rfl, List.append_nil] at HLEG
                have F4 := F3.put tx ty tz
                have hO4 : Only (fun b => b = A + 1 + 1) V3 (((V3.setCell ⟨A + 1 + 1, 0, none⟩ (.int .i64 tx)).setCell ⟨A + 1 + 1, 1, none⟩ (.int .i64 ty)).setCell ⟨A + 1 + 1, 2, none⟩ (.int .i64 tz)) := (Only.refl (fun b => b = A + 1 + 1) V3).set3 (.inl rfl) _ _ _
                have own4 := own3.only hO4 (fun b hb e => by have := hub b hb; omega)
                have HO4 := Lib.hid (hO3.trans hO4); have HF4 := Lib.hid F4; have OW4 := Lib.hid own4
                clear F4 hO4 own4 hO3 own3 hub
                rw [hev] at hne
                go_wp2
                go_roundw
                case rel => exact ⟨k + 1, by omega, by go_num, by rw [HLEG.out]; exact OW4.out, (by show P3Box _ _ (rPt (x, y, z) (bx, bY, bz) safe k).1 (rPt (x, y, z) (bx, bY, bz) safe k).2.1 (rPt (x, y, z) (bx, bY, bz) safe k).2.2; rw [HTP.out]; exact HF4.out), HO4.out⟩
                case measure => simp [intOf]; omega
              case false =>
                rw [hev] at HLEG
                rw [if_neg (by decide)] at HLEG
                rw [hev] at hne
                have r0 := BM3.c0; have r1 := BM3.c1; have r2 := BM3.c2; have r3 := BM3.c3; have r4 := BM3.c4; have r5 := BM3.c5; have r6 := BM3.c6; have r7 := BM3.c7; have r8 := BM3.c8
                simp only at r0 r1 r2 r3 r4 r5 r6 r7 r8
                obtain ⟨V4, hV4, B4, hE4⟩ := M9Box.mk' V3 ⟨fx, fy, fz, tx, ty, tz, rate, m.tool, m.block⟩
                have lit := B4.sl1
                have own4 := own3.later hE4
                rw [← hV4] at lit own4
                have OW := Lib.hid own4; have LI := Lib.hid lit
                have LE : Hid ((rLegs (x, y, z) (bx, bY, bz) safe rate m k).length + [(⟨fx, fy, fz, tx, ty, tz, rate, m.tool, m.block⟩ : Mot)].length ≤ 1000000000) := Lib.hid (by simp; omega)
                have BA := Lib.hid (show W9.heap.size ≤ (V3.alloc (.cells #[.int .i64 fx, .int .i64 fy, .int .i64 fz, .int .i64 tx, .int .i64 ty, .int .i64 tz, .int .i64 rate, .int .i64 m.tool, .int .i64 m.block] 38)).heap.size from Nat.le_trans hO3.size (by simp))
                have HF2 : Hid (∀ v' W', OwnM W9.heap.size W' v' (rLegs (x, y, z) (bx, bY, bz) safe rate m k ++ [(⟨fx, fy, fz, tx, ty, tz, rate, m.tool, m.block⟩ : Mot)]) → (V3.alloc (.cells #[.int .i64 fx, .int .i64 fy, .int .i64 fz, .int .i64 tx, .int .i64 ty, .int .i64 tz, .int .i64 rate, .int .i64 m.tool, .int .i64 m.block] 38)).grownBy W' u15.ownBlock →
                    Hid (∀ tx ty tz, OwnM W9.heap.size (((W'.setCell ⟨A + 1 + 1, 0, none⟩ (.int .i64 tx)).setCell ⟨A + 1 + 1, 1, none⟩ (.int .i64 ty)).setCell ⟨A + 1 + 1, 2, none⟩ (.int .i64 tz)) v' (rLegs (x, y, z) (bx, bY, bz) safe rate m k ++ [_])) ∧ Hid (∀ tx ty tz, P3Box (((W'.setCell ⟨A + 1 + 1, 0, none⟩ (.int .i64 tx)).setCell ⟨A + 1 + 1, 1, none⟩ (.int .i64 ty)).setCell ⟨A + 1 + 1, 2, none⟩ (.int .i64 tz)) (A + 1 + 1) tx ty tz) ∧ Hid (∀ tx ty tz, Only (fun b => b = A + 1 + 1) W9 (((W'.setCell ⟨A + 1 + 1, 0, none⟩ (.int .i64 tx)).setCell ⟨A + 1 + 1, 1, none⟩ (.int .i64 ty)).setCell ⟨A + 1 + 1, 2, none⟩ (.int .i64 tz))) ∧ W'.cell? ⟨A + 1, k * 3, none⟩ = some (.int .i64 tx) ∧ W'.cell? ⟨A + 1, k * 3 + 1, none⟩ = some (.int .i64 ty) ∧ W'.cell? ⟨A + 1, k * 3 + 2, none⟩ = some (.int .i64 tz) ∧ W'.cell? ⟨A + 1 + 1, 0, none⟩ = some (.int .i64 fx) ∧ W'.cell? ⟨A + 1 + 1, 1, none⟩ = some (.int .i64 fy) ∧ W'.cell? ⟨A + 1 + 1, 2, none⟩ = some (.int .i64 fz) ∧ W'.frozen? ⟨A + 1 + 1, 0, none⟩ = false ∧ W'.frozen? ⟨A + 1 + 1, 1, none⟩ = false ∧ W'.frozen? ⟨A + 1 + 1, 2, none⟩ = false) := Lib.hid (fun v' W' own' gr' => by
                  rw [hV4] at gr'
                  have hO4 := Only.of_grown gr'
                  have hO4' : Only (fun b => u15.ownBlock = some b) V3 W' := (Only.of_ext hE4).trans hO4
                  have F5 := F3.only hO4' (fun e => by have := hub _ e; omega)
                  have T5 := T3.only hO4' (fun e => by have := hub _ e; omega)
                  obtain ⟨t0, t1', t2'⟩ := T5.2 k hlt
                  rw [HTP.out] at t0 t1' t2'
                  obtain ⟨p0, p1, p2, y0, y1, y2⟩ := F5.at
                  have hO5 : Only (fun b => b = A + 1 + 1) W9 W' := hO3.trans' hO4' (fun i hi e => by have := hub _ e; omega)
                  exact ⟨Lib.hid (fun tx ty tz => own'.only ((Only.refl (fun b => b = A + 1 + 1) W').set3 (.inl rfl) _ _ _) (fun b hb e => by have := own'.base hb; omega)), Lib.hid (fun tx ty tz => F5.put tx ty tz), Lib.hid (fun tx ty tz => hO5.set3 (.inl rfl) _ _ _), t0, t1', t2', p0, p1, p2, y0, y1, y2⟩)
                clear own4 lit t0 t1' t2' p0 p1 p2 y0 y1 y2 B4 hV4
                go_wp2_with ((at_builtin; refine appM_at rfl _ _ rfl W9.heap.size _ _ (rLegs (x, y, z) (bx, bY, bz) safe rate m k) [(⟨fx, fy, fz, tx, ty, tz, rate, m.tool, m.block⟩ : Mot)] rfl rfl OW.out LI.out LE.out BA.out ?_; intro v5 W10 own5 gr5 lo5; obtain ⟨OW5', HF5, HO5, t0, t1', t2', p0, p1, p2, y0, y1, y2⟩ := HF2.out _ _ own5 gr5; clear own5 gr5 lo5 HF2 OW LI LE BA r0 r1 r2 r3 r4 r5 r6 r7 r8))
                go_roundw
                case rel => exact ⟨k + 1, by omega, by go_num, by rw [HLEG.out]; rw [if_pos HK3.out]; exact OW5'.out tx ty tz, (by show P3Box _ _ (rPt (x, y, z) (bx, bY, bz) safe k).1 (rPt (x, y, z) (bx, bY, bz) safe k).2.1 (rPt (x, y, z) (bx, bY, bz) safe k).2.2; rw [HTP.out]; exact HF5.out tx ty tz), HO5.out tx ty tz⟩
                case measure => simp [intOf]; omega
            · have hk3' : ((k : Int) == 3) = false := by simp; omega
              go_wp2_with fail
              obtain ⟨V1, hV1, BM, hEV⟩ := M9Box.mk' wr ⟨fx, fy, fz, tx, ty, tz, 0, m.tool, m.block⟩
              rw [hV1]; clear hV1
              have hx2 : Ext wr V1.drew := hEV.drew
              have BM2 := BM.later (Ext.refl V1).drew
              clear BM hEV
              generalize V1.drew = V2 at *
              clear V1
              have F2 := HFF.out.later hx2
              have T2 := HTK.out.later hx2
              obtain ⟨t0, t1', t2'⟩ := T2.2 k hlt
              rw [HTP.out] at t0 t1' t2'
              simp only at t0 t1' t2'
              have d0 := F2.c0; have d1 := F2.c1; have d2 := F2.c2
              have u0 := Later.cell t0; have u1 := Later.cell t1'; have u2 := Later.cell t2'
              have hws : W9.heap.size ≤ wr.heap.size := hsz
              generalize wr.heap.size = bM at *
              refine wp_region_later (by kernel_rfl) (by kernel_rfl) ?_
              repeat (go_big_quiet_step (fail))
              refine wpQuiet_nil ?_
              rintro _ ⟨yy, rfl⟩
              have hx3 : Ext wr yy.w := hx2.trans yy.ext
              have F3 := F2.later yy.ext
              have T3 := T2.later yy.ext
              have BM3 := BM2.later yy.ext
              clear d0 d1 d2 u0 u1 u2 t0 t1' t2' F2 T2 BM2 hx2
              generalize yy.w = V3 at *
              clear yy
              obtain ⟨t0, t1', t2'⟩ := T3.2 k hlt
              rw [HTP.out] at t0 t1' t2'
              simp only at t0 t1' t2'
              obtain ⟨p0, p1, p2, y0, y1, y2⟩ := F3.at
              have hO3 : Only (fun b => b = A + 1 + 1) W9 V3 := hO.trans (Only.of_ext hx3)
              have own3 := HOWN.out.later hx3
              have hub : ∀ b, u15.ownBlock = some b → W9.heap.size ≤ b := fun b hb => own3.base hb
              cases hev : eqP fx fy fz tx ty tz
              case true =>
                rw [hev] at HLEG
                rw [if_pos rfl, List.append_nil] at HLEG
                have F4 := F3.put tx ty tz
                have hO4 : Only (fun b => b = A + 1 + 1) V3 (((V3.setCell ⟨A + 1 + 1, 0, none⟩ (.int .i64 tx)).setCell ⟨A + 1 + 1, 1, none⟩ (.int .i64 ty)).setCell ⟨A + 1 + 1, 2, none⟩ (.int .i64 tz)) := (Only.refl (fun b => b = A + 1 + 1) V3).set3 (.inl rfl) _ _ _
                have own4 := own3.only hO4 (fun b hb e => by have := hub b hb; omega)
                have HO4 := Lib.hid (hO3.trans hO4); have HF4 := Lib.hid F4; have OW4 := Lib.hid own4
                clear F4 hO4 own4 hO3 own3 hub
                rw [hev] at hne
                go_wp2
                go_roundw
                case rel => exact ⟨k + 1, by omega, by go_num, by rw [HLEG.out]; exact OW4.out, (by show P3Box _ _ (rPt (x, y, z) (bx, bY, bz) safe k).1 (rPt (x, y, z) (bx, bY, bz) safe k).2.1 (rPt (x, y, z) (bx, bY, bz) safe k).2.2; rw [HTP.out]; exact HF4.out), HO4.out⟩
                case measure => simp [intOf]; omega
              case false =>
                rw [hev] at HLEG
                rw [if_neg (by decide)] at HLEG
                rw [hev] at hne
                have r0 := BM3.c0; have r1 := BM3.c1; have r2 := BM3.c2; have r3 := BM3.c3; have r4 := BM3.c4; have r5 := BM3.c5; have r6 := BM3.c6; have r7 := BM3.c7; have r8 := BM3.c8
                simp only at r0 r1 r2 r3 r4 r5 r6 r7 r8
                obtain ⟨V4, hV4, B4, hE4⟩ := M9Box.mk' V3 ⟨fx, fy, fz, tx, ty, tz, 0, m.tool, m.block⟩
                have lit := B4.sl1
                have own4 := own3.later hE4
                rw [← hV4] at lit own4
                have OW := Lib.hid own4; have LI := Lib.hid lit
                have LE : Hid ((rLegs (x, y, z) (bx, bY, bz) safe rate m k).length + [(⟨fx, fy, fz, tx, ty, tz, 0, m.tool, m.block⟩ : Mot)].length ≤ 1000000000) := Lib.hid (by simp; omega)
                have BA := Lib.hid (show W9.heap.size ≤ (V3.alloc (.cells #[.int .i64 fx, .int .i64 fy, .int .i64 fz, .int .i64 tx, .int .i64 ty, .int .i64 tz, .int .i64 0, .int .i64 m.tool, .int .i64 m.block] 38)).heap.size from Nat.le_trans hO3.size (by simp))
                have HF2 : Hid (∀ v' W', OwnM W9.heap.size W' v' (rLegs (x, y, z) (bx, bY, bz) safe rate m k ++ [(⟨fx, fy, fz, tx, ty, tz, 0, m.tool, m.block⟩ : Mot)]) → (V3.alloc (.cells #[.int .i64 fx, .int .i64 fy, .int .i64 fz, .int .i64 tx, .int .i64 ty, .int .i64 tz, .int .i64 0, .int .i64 m.tool, .int .i64 m.block] 38)).grownBy W' u15.ownBlock →
                    Hid (∀ tx ty tz, OwnM W9.heap.size (((W'.setCell ⟨A + 1 + 1, 0, none⟩ (.int .i64 tx)).setCell ⟨A + 1 + 1, 1, none⟩ (.int .i64 ty)).setCell ⟨A + 1 + 1, 2, none⟩ (.int .i64 tz)) v' (rLegs (x, y, z) (bx, bY, bz) safe rate m k ++ [_])) ∧ Hid (∀ tx ty tz, P3Box (((W'.setCell ⟨A + 1 + 1, 0, none⟩ (.int .i64 tx)).setCell ⟨A + 1 + 1, 1, none⟩ (.int .i64 ty)).setCell ⟨A + 1 + 1, 2, none⟩ (.int .i64 tz)) (A + 1 + 1) tx ty tz) ∧ Hid (∀ tx ty tz, Only (fun b => b = A + 1 + 1) W9 (((W'.setCell ⟨A + 1 + 1, 0, none⟩ (.int .i64 tx)).setCell ⟨A + 1 + 1, 1, none⟩ (.int .i64 ty)).setCell ⟨A + 1 + 1, 2, none⟩ (.int .i64 tz))) ∧ W'.cell? ⟨A + 1, k * 3, none⟩ = some (.int .i64 tx) ∧ W'.cell? ⟨A + 1, k * 3 + 1, none⟩ = some (.int .i64 ty) ∧ W'.cell? ⟨A + 1, k * 3 + 2, none⟩ = some (.int .i64 tz) ∧ W'.cell? ⟨A + 1 + 1, 0, none⟩ = some (.int .i64 fx) ∧ W'.cell? ⟨A + 1 + 1, 1, none⟩ = some (.int .i64 fy) ∧ W'.cell? ⟨A + 1 + 1, 2, none⟩ = some (.int .i64 fz) ∧ W'.frozen? ⟨A + 1 + 1, 0, none⟩ = false ∧ W'.frozen? ⟨A + 1 + 1, 1, none⟩ = false ∧ W'.frozen? ⟨A + 1 + 1, 2, none⟩ = false) := Lib.hid (fun v' W' own' gr' => by
                  rw [hV4] at gr'
                  have hO4 := Only.of_grown gr'
                  have hO4' : Only (fun b => u15.ownBlock = some b) V3 W' := (Only.of_ext hE4).trans hO4
                  have F5 := F3.only hO4' (fun e => by have := hub _ e; omega)
                  have T5 := T3.only hO4' (fun e => by have := hub _ e; omega)
                  obtain ⟨t0, t1', t2'⟩ := T5.2 k hlt
                  rw [HTP.out] at t0 t1' t2'
                  obtain ⟨p0, p1, p2, y0, y1, y2⟩ := F5.at
                  have hO5 : Only (fun b => b = A + 1 + 1) W9 W' := hO3.trans' hO4' (fun i hi e => by have := hub _ e; omega)
                  exact ⟨Lib.hid (fun tx ty tz => own'.only ((Only.refl (fun b => b = A + 1 + 1) W').set3 (.inl rfl) _ _ _) (fun b hb e => by have := own'.base hb; omega)), Lib.hid (fun tx ty tz => F5.put tx ty tz), Lib.hid (fun tx ty tz => hO5.set3 (.inl rfl) _ _ _), t0, t1', t2', p0, p1, p2, y0, y1, y2⟩)
                clear own4 lit t0 t1' t2' p0 p1 p2 y0 y1 y2 B4 hV4
                go_wp2_with ((at_builtin; refine appM_at rfl _ _ rfl W9.heap.size _ _ (rLegs (x, y, z) (bx, bY, bz) safe rate m k) [(⟨fx, fy, fz, tx, ty, tz, 0, m.tool, m.block⟩ : Mot)] rfl rfl OW.out LI.out LE.out BA.out ?_; intro v5 W10 own5 gr5 lo5; obtain ⟨OW5', HF5, HO5, t0, t1', t2', p0, p1, p2, y0, y1, y2⟩ := HF2.out _ _ own5 gr5; clear own5 gr5 lo5 HF2 OW LI LE BA r0 r1 r2 r3 r4 r5 r6 r7 r8))
                go_roundw
                case rel => exact ⟨k + 1, by omega, by go_num, by rw [HLEG.out]; rw [if_neg hk3]; exact OW5'.out tx ty tz, (by show P3Box _ _ (rPt (x, y, z) (bx, bY, bz) safe k).1 (rPt (x, y, z) (bx, bY, bz) safe k).2.1 (rPt (x, y, z) (bx, bY, bz) safe k).2.2; rw [HTP.out]; exact HF5.out tx ty tz), HO5.out tx ty tz⟩
                case measure => simp [intOf]; omega
          · have hlt' : decide ((k : Int) < 4) = false := by simp; omega
            obtain rfl : k = 4 := by omega
            have hR := HR9.out.only hO (fun b hb e => HVF.out (by rw [hb, e]))
            obtain ⟨a11, n11, c11, b11, o11, hv11, -⟩ := id hR
            have OW := Lib.hid hown; have LI := Lib.hid hR
            have LE : Hid ((rLegs (x, y, z) (bx, bY, bz) safe rate m 4).length + (l.drop i).length ≤ 1000000000) := Lib.hid (by omega)
            have BA := Lib.hid hsz
            have hE9' : Ext w wr := HE9.out.only hO (fun i hi e => by omega)
            have hub : ∀ b, u15.ownBlock = some b → W9.heap.size ≤ b := fun b hb => hown.base hb
            have hw9 := HE9.out.size
            have HF3 : Hid (∀ v' W', OwnM W9.heap.size W' v' (rLegs (x, y, z) (bx, bY, bz) safe rate m 4 ++ l.drop i) → wr.grownBy W' u15.ownBlock → Hid (OwnM W9.heap.size W' v' (rLegs (x, y, z) (bx, bY, bz) safe rate m 4 ++ l.drop i)) ∧ Hid (Ext w W')) := Lib.hid (fun v' W' own' gr' => ⟨Lib.hid own', Lib.hid (ext_grown hE9' gr' (fun k hk => by have := hub k hk; omega))⟩)
            clear hown hR hF hub hE9'
            go_wp2_with ((at_builtin; refine appM_at rfl _ _ rfl W9.heap.size _ _ (rLegs (x, y, z) (bx, bY, bz) safe rate m 4) (l.drop i) rfl rfl OW.out LI.out LE.out BA.out ?_; intro v5 W10 own5 gr5 lo5; obtain ⟨OW5', HEE⟩ := HF3.out _ _ own5 gr5; clear own5 gr5 lo5 HF3 OW LI LE BA))
            obtain ⟨a12, n12, c12, hv12⟩ := OW5'.out.form
            subst hv12
            go_ret2
            exact ⟨_, rfl, OW5'.out.sl, HEE.out⟩

end Go.Proofs.Ytfmjmabaabmgcaa
