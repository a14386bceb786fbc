/-
  slices.Reverse at positions: the library's contract, laid at this program.
  contour.Turned: the area by the reckoner, the rest by hand.
  The flow of data in a region with guards: what a guard asks is known ahead.
  ContourTurned: the law's walk.
-/
import Derived.Test.YtlkhkldgmlfhkaaQA19
import Derived.Shelf.SlicesQ.Reverse
import Derived.Test.YtlkhkldgmlfhkaaQA08
namespace Go.Proofs.Ytlkhkldgmlfhkaa
open Go.RowKit
set_option maxRecDepth 8000

def revRen : Go.Shelf.Ren := ⟨fun | 35 => 26 | n => n, fun | 22 => 22 | 23 => 29 | n => n, fun n => n⟩
theorem Try.reverseT : SlLaysE0.n35 Try.prog revRen where
  mixed := by kernel_rfl
  f35 := ⟨Try.f26.name, by kernel_rfl, Try.func26.trans (congrArg some (by kernel_rfl))⟩
  t0 := by kernel_rfl
  a0 := fun w => by kernel_rfl
  z0 := fun w => by kernel_rfl
  v0 := fun w => by kernel_rfl
  t3 := by kernel_rfl
  a3 := fun w => by kernel_rfl
  z3 := fun w => by kernel_rfl
  v3 := fun w => by kernel_rfl
  t4 := by kernel_rfl
  a4 := fun w => by kernel_rfl
  z4 := fun w => by kernel_rfl
  v4 := fun w => by kernel_rfl
  t22 := by kernel_rfl
  a22 := fun w => by kernel_rfl
  z22 := fun w => by kernel_rfl
  v22 := fun w => by kernel_rfl

theorem gC_get (p : Int × Int) {r : Nat} (hr : r < 2) : (gC p)[r]? = some (gC p)[r]! := by
  rw [List.getElem!_eq_getElem?_getD, List.getElem?_eq_getElem (by rw [gC_len]; exact hr)]
  rfl
theorem own_parts {B g n cap : Nat} {x : Int × Int} {l : List (Int × Int)} {w : World} (h : OwnT B w (.slice (some ⟨g, 0, none⟩) n cap) (x :: l)) :
    ∃ cur : Array Value, B ≤ g ∧ w.heap[g]? = some (.cells cur 29 (0, 0)) ∧ n = l.length + 1 ∧ n ≤ cap ∧ cap ≤ maxLen ∧ cur.size = cap * 2 ∧ ∀ i p, (x :: l)[i]? = some p → ∀ r, r < 2 → cur[i * 2 + r]? = some (gC p)[r]! := by
  obtain ⟨h1, h2⟩ := h
  rcases h2 with ⟨h', h3⟩ | ⟨g', cap', cur, h', hb, hg, hnc, hcm, hcs, htake⟩
  · cases h'
  · cases h'
    refine ⟨cur, hb, hg, rfl, hnc, hcm, hcs, fun i p hp r hr => ?_⟩
    have hi : i < (x :: l).length := by
      rcases Nat.lt_or_ge i (x :: l).length with h' | h'
      · exact h'
      · rw [List.getElem?_eq_none h'] at hp; cases hp
    have h9 : (cur.toList.take ((x :: l).length * 2))[i * 2 + r]? = (cat gC (x :: l))[i * 2 + r]? := by rw [htake]
    rw [List.getElem?_take_of_lt (by omega), cat_get gC_len (x :: l) i r p hp hr, gC_get p hr] at h9
    simpa using h9
theorem holds_of {B g n cap : Nat} {x : Int × Int} {l : List (Int × Int)} {w : World} (h : OwnT B w (.slice (some ⟨g, 0, none⟩) n cap) (x :: l)) : Sort.HoldsK gC 2 w g 2 l.toArray := by
  obtain ⟨cur, _, hg, _, _, _, _, hc⟩ := own_parts h
  intro j hj
  rw [Sort.size_flatK] at hj
  rw [Sort.get_flatK _ _ _ _ hj]
  have hj2 : j / 2 < l.length := by simp at hj; omega
  have e : l.toArray[j / 2]! = l[j / 2] := by simp [hj2]
  have := hc (j / 2 + 1) l[j / 2] (by simp [hj2]) (j % 2) (Nat.mod_lt _ (by decide))
  have e2 : (j / 2 + 1) * 2 + j % 2 = 2 + j := by omega
  rw [e2] at this
  refine ⟨?_, by simp [World.frozen?, hg]⟩
  rw [e, Lib.cell_of_heap hg]
  exact this
theorem own_rev {B g n cap : Nat} {x : Int × Int} {l : List (Int × Int)} {w : World} (h : OwnT B w (.slice (some ⟨g, 0, none⟩) n cap) (x :: l)) (m : Nat) :
    OwnT B (Sort.putRowK gC 2 (Sort.ahead w m) g 2 l.toArray.reverse) (.slice (some ⟨g, 0, none⟩) n cap) (x :: l.reverse) ∧ w.grownBy (Sort.putRowK gC 2 (Sort.ahead w m) g 2 l.toArray.reverse) (some g) := by
  obtain ⟨cur, hb, hg, rfl, hnc, hcm, hcs, hc⟩ := own_parts h
  have hgl : g < w.heap.size := by
    rcases Nat.lt_or_ge g w.heap.size with h' | h'
    · exact h'
    · rw [Array.getElem?_eq_none h'] at hg; cases hg
  have hg' : w.heap[g] = .cells cur 29 (0, 0) := by
    rw [Array.getElem?_eq_getElem hgl] at hg
    simpa using hg
  have hN : (Sort.putRowK gC 2 (Sort.ahead w m) g 2 l.toArray.reverse).heap[g]? = some (.cells (Sort.putCells id 2 (Sort.flatK gC 2 l.toArray.reverse) cur) 29 (0, 0)) := by
    show (w.heap.modify g _)[g]? = _
    rw [Array.getElem?_modify, if_pos rfl, hg]
    rfl
  have hO : ∀ k, k ≠ g → (Sort.putRowK gC 2 (Sort.ahead w m) g 2 l.toArray.reverse).heap[k]? = w.heap[k]? := fun k hk => by
    show (w.heap.modify g _)[k]? = _
    rw [Array.getElem?_modify, if_neg (Ne.symm hk)]
  refine ⟨⟨by rw [cat_length gC_len], .inr ⟨g, cap, _, by simp, hb, hN, by simpa using hnc, hcm, by simpa [Sort.putCells] using hcs, ?_⟩⟩, ⟨rfl, rfl, rfl, by simp [Sort.putRowK], fun k _ hk => hO k (fun e => hk (by simp [e]))⟩⟩
  apply List.ext_getElem?
  intro t
  rcases Nat.lt_or_ge t ((x :: l.reverse).length * 2) with ht | ht
  · have ht2 : t / 2 < (x :: l.reverse).length := by omega
    have et : t = t / 2 * 2 + t % 2 := by omega
    have hr : t % 2 < 2 := Nat.mod_lt _ (by decide)
    rw [List.getElem?_take_of_lt ht]
    have hR : (cat gC (x :: l.reverse))[t]? = some (gC (x :: l.reverse)[t / 2])[t % 2]! := by
      have := cat_get gC_len (x :: l.reverse) (t / 2) (t % 2) _ (List.getElem?_eq_getElem ht2) hr
      rw [← et] at this
      rw [this, gC_get _ hr]
    rw [hR]
    have htc : t < cur.size := by simp at ht hnc; omega
    have hL : (Sort.putCells id 2 (Sort.flatK gC 2 l.toArray.reverse) cur).toList[t]? = some (if 2 ≤ t ∧ t < 2 + l.length * 2 then (Sort.flatK gC 2 l.toArray.reverse)[t - 2]! else cur[t]) := by
      simp [Sort.putCells, htc]
    rw [hL]
    congr 1
    by_cases h2 : t < 2
    · have e0 : t / 2 = 0 := by omega
      rw [if_neg (by omega)]
      have := hc 0 x rfl t (by omega)
      rw [Nat.zero_mul, Nat.zero_add, Array.getElem?_eq_getElem htc] at this
      simp only [Option.some.injEq] at this
      rw [this]
      have e1 : t % 2 = t := by omega
      simp only [e0, e1, List.getElem_cons_zero]
    · obtain ⟨q, hq⟩ : ∃ q, t / 2 = q + 1 := ⟨t / 2 - 1, by omega⟩
      have hql : q < l.length := by simp at ht2; omega
      rw [if_pos ⟨by omega, by simp at ht; omega⟩, Sort.get_flatK _ _ _ _ (by simp; omega)]
      have e1 : (t - 2) / 2 = q := by omega
      have e2 : (t - 2) % 2 = t % 2 := by omega
      rw [e1, e2]
      simp only [hq, List.getElem_cons_succ]
      congr 2
      simp [hql]
  · rw [List.getElem?_eq_none (by simp at ht ⊢; omega), List.getElem?_eq_none (by rw [cat_length gC_len]; exact ht)]

/-- The tail of a path of the call's own is turned around in place. -/
theorem reverse_any {B g n cap c : Nat} {x : Int × Int} {l : List (Int × Int)} {w : World} (h : OwnT B w (.slice (some ⟨g, 0, none⟩) n cap) (x :: l)) (hn : l.length ≤ 1000000) :
    Calls Try.prog 26 #[.slice (some ⟨g, 2, none⟩) l.length c] w fun e w' => e = .returned (.tuple #[]) ∧ OwnT B w' (.slice (some ⟨g, 0, none⟩) n cap) (x :: l.reverse) ∧ w.grownBy w' (some g) := by
  refine (AnyQ.slices_Reverse Try.reverseT 2 (fun w => by kernel_rfl) (fun w => by kernel_rfl) gC gC_len (fun x v hv => gC_one x v hv) g 2 c l.toArray w (holds_of h) (by simp; omega)).mono ?_
  rintro e w' ⟨rfl, m, rfl⟩
  exact ⟨rfl, own_rev h m⟩
end Go.Proofs.Ytlkhkldgmlfhkaa

namespace Go.Proofs.Ytlkhkldgmlfhkaa
open Go.RowKit Rt
set_option maxRecDepth 8000

theorem revP_cons (x : Int × Int) (t : List (Int × Int)) : revP (x :: t) = x :: t.reverse := by
  apply List.ext_getElem
  · rw [revP_len]; simp
  · intro i h1 h2
    have e1 : (revP (x :: t)).getD i (0, 0) = (revP (x :: t))[i] := by simp [List.getD_eq_getElem?_getD, h1]
    have h0 := h1
    rw [revP_len] at h1
    rw [← e1, revP_getD _ h1]
    cases i with
    | zero => simp
    | succ i =>
      have hi : i < t.length := by simpa using h1
      have e2 : ((x :: t).length - (i + 1)) % (x :: t).length = (t.length - 1 - i) + 1 := by
        rw [Nat.mod_eq_of_lt (by simp; omega)]
        simp; omega
      rw [e2]
      have h3 : t.length - 1 - i < t.length := by omega
      simp [List.getD_eq_getElem?_getD, h3]
theorem area_two {l : List (Int × Int)} (h : area l ≠ 0) : ∃ x y t, l = x :: y :: t := by
  match l, h with
  | [], h => exact absurd rfl h
  | [x], h => exact absurd (by simp [area, areaK, sumN, nxt, Int.mul_comm]) h
  | x :: y :: t, _ => exact ⟨x, y, t, rfl⟩
theorem slT_of {lo : Nat} {w : World} {v : Value} {l : List (Int × Int)} (h : Vc.SlP lo w v l) : SlT w v l := by
  obtain ⟨a, cap, b, off, rfl, h3, h4, h5, h6⟩ := h
  refine ⟨a, _, cap, b, off, rfl, rfl, h3, h4, h5, fun i x hx => ?_⟩
  obtain ⟨_, p, q1, q2⟩ := h6 i x hx
  refine ⟨p, fun r u hu => ?_⟩
  match r, hu with
  | 0, hu => cases hu; exact q1
  | 1, hu => cases hu; exact q2
theorem list_range {α : Type} (l : List α) (d : α) (n : Nat) (h : l.length = n) : l = (List.range n).map fun i => l.getD i d := by
  apply List.ext_getElem
  · simp [h]
  · intro i h1 h2
    simp [List.getD_eq_getElem?_getD, h1]

theorem own_form {B : Nat} {a : Option Addr} {n c : Nat} {x : Int × Int} {l : List (Int × Int)} {w : World} (h : OwnT B w (.slice a n c) (x :: l)) : ∃ g, a = some ⟨g, 0, none⟩ ∧ n = l.length + 1 ∧ n ≤ c := by
  obtain ⟨h1, h2⟩ := h
  rcases h2 with ⟨h', h3⟩ | ⟨g', cap', cur, h', hb, hg, hnc, hcm, hcs, htake⟩
  · cases h'
    cases h3
  · cases h'
    exact ⟨g', rfl, rfl, hnc⟩
set_option maxHeartbeats 4000000 in
theorem cturned_any (v : Value) (l : List (Int × Int)) (ccw : Bool) (w : World) (h : SlT w v l) (hg : ∀ i, Vc.inG (l.getD i (0, 0)) = true) (hn : l.length ≤ 1000) :
    Calls Try.prog 12 #[v, .bool ccw] w (RetT w (turn l ccw)) := by
  have H := Lib.hid h; have HN := Lib.hid hn
  refine calls_of_wp Try.func12 (c := .seq (Vc.cdA (Try.f12.body.getD .skip)) (.seq (Vc.cdA (Vc.cdB (Try.f12.body.getD .skip))) (.seq (Vc.cdA (Vc.cdB (Vc.cdB (Try.f12.body.getD .skip)))) (Vc.cdB (Vc.cdB (Vc.cdB (Try.f12.body.getD .skip))))))) (by kernel_rfl) ?_
  refine Vc.wp_pre3 Vc.mixed Vc.LT_ok Vc.CT0_ok (fun Qa hQ => Vc.turned_pre l ccw ⟨hg, hn⟩ Qa hQ) (Vc.rl_start (n := 62) (xs := [.c (.pt l), .c (.v (.bool ccw))]) (vs := [v, .bool ccw]) (bs := ⟨w.heap.size, [], [], []⟩) ⟨slP_of h, ⟨rfl, rfl⟩, trivial⟩ rfl) fun bs' a' w1 hR => ?_
  obtain ⟨tm, df⟩ := a'
  have hd : df = [] := hR.dfr
  have hl : tm.size = 62 := hR.tl.symm
  obtain ⟨f, hf⟩ : ∃ f : Nat → Value, ∀ t, f t = tm.getD t undef := ⟨_, fun _ => rfl⟩
  have S1 : Hid (SlT w1 (f 0) l) := Lib.hid (slT_of (lo := bs'.lo) (by rw [hf]; exact hR.tmp 0 _ rfl))
  have e1 : f 1 = .bool ccw := by rw [hf]; exact (hR.tmp 1 _ rfl).1
  obtain ⟨b, hb, e5⟩ : ∃ b, bs'.l[0]? = some b ∧ f 5 = .pointer (some ⟨b, 0, none⟩) := by rw [hf]; exact hR.tmp 5 _ rfl
  obtain ⟨hlo, us, hcell, hrel, -⟩ := hR.box 0 b _ hb rfl
  have hT : tm = ((List.range 62).map f).toArray := by
    apply Array.ext
    · simp [hl]
    · intro i h1 h2
      simp [hf, h1]
  have X1 := Lib.hid hR.ext
  match us, hrel, hcell with
  | [u1, u2], hrel, hcell =>
    obtain ⟨⟨rfl, _⟩, ⟨hs2, _⟩, _⟩ := hrel
    have HI : Hid (IsI w1 (decide (areaK l l.length < 0)) u2 (areaK l l.length)) := Lib.hid ⟨rfl, hs2⟩
    obtain ⟨a0, n0, c0, e0⟩ : ∃ a n c, f 0 = .slice a n c := by
      obtain ⟨a, n, c, _, _, e, _⟩ := S1.out
      exact ⟨a, n, c, e⟩
    have HB := Lib.hid hcell
    subst hT hd
    rw [e0] at S1
    obtain ⟨a2, c2, rfl⟩ := hs2.form
    obtain ⟨A, hA⟩ : ∃ A, areaK l l.length = A := ⟨_, rfl⟩
    obtain ⟨sg, hsg⟩ : ∃ sg, decide (A < 0) = sg := ⟨_, rfl⟩
    rw [hA, hsg] at HI HB
    have HA : Hid (area l = A) := Lib.hid hA
    clear hA hsg
    clear hf hl hR hb hlo hcell hs2 h
    obtain ⟨C, hC⟩ : ∃ C, C = Vc.cdB (Vc.cdB (Vc.cdB (Try.f12.body.getD .skip))) := ⟨_, rfl⟩
    rw [← hC]
    simp only [Vc.cdB, Try.f12, Option.getD_some] at hC
    subst hC
    simp only [List.range, List.range.loop, List.map_cons, List.map_nil, e0, e1, e5]
    clear e0 e1 e5 hn hg
    go_wp2_with fail
    refine (cloneT_any _ _ _ S1.out (by have := HN.out; omega)).mono ?_
    rintro e w2 ⟨a3, n3, c3, rfl, o3, x3⟩
    have X2 := Lib.hid (X1.out.trans x3)
    have hb2 := heap_keep HB.out x3
    have d0 := Lib.cell_of_heap hb2 0; have d1 := Lib.cell_of_heap hb2 1
    simp only [List.getElem?_toArray, List.getElem?_cons_succ, List.getElem?_cons_zero] at d0 d1
    have HI2 := Lib.hid (HI.out.later x3)
    have O3 := Lib.hid (o3.weak X1.out.size)
    clear hb2 x3 o3
    go_wp2_with fail
    refine (isign_any _ _ _ _ HI2.out).mono ?_
    rintro e w4 ⟨rfl, x4⟩
    have X4 := Lib.hid (X2.out.trans x4); have O4 := Lib.hid (O3.out.later x4)
    clear x4 d0 d1 O3
    have hA := HA.out
    subst hA
    by_cases ht : (0 < area l ∧ ccw = false) ∨ (area l < 0 ∧ ccw = true)
    · have HT : Hid (turn l ccw = revP l) := Lib.hid (if_pos ht)
      obtain ⟨x, y, t, rfl⟩ := area_two (l := l) (by omega)
      have hs : (0 < (area (x :: y :: t)).sign ∧ ccw = false) ∨ ((area (x :: y :: t)).sign < 0 ∧ ccw = true) := by rw [Int.sign_pos_iff, Int.sign_neg_iff]; exact ht
      clear ht
      generalize (area (x :: y :: t)).sign = s at *
      obtain ⟨g, rfl, rfl, hnc⟩ := own_form O4.out
      have hl2 : (y :: t).length = t.length + 1 := rfl
      have hc1 : ¬ c3 = 1 := by omega
      have hc2 : ¬ c3 - 1 = 0 := by omega
      have hc3 : ¬ c3 ≤ 1 := by omega
      have hc4 : ¬ (1 : Nat) = c3 := by omega
      clear hl2
      have hs0 : ¬ s = 0 := by omega
      have hsb : (s == 0) = false := by simpa using hs0
      have hs2 : (0 < s ∧ decide (s > 0) = true ∧ ccw = false) ∨ (s < 0 ∧ decide (s > 0) = false ∧ ccw = true) := by
        rcases hs with ⟨h1, h2⟩ | ⟨h1, h2⟩
        · exact .inl ⟨h1, by simp; omega, h2⟩
        · exact .inr ⟨h1, by simp; omega, h2⟩
      clear hs
      rcases hs2 with ⟨hs, hsd, rfl⟩ | ⟨hs, hsd, rfl⟩
      all_goals
        go_wp2_with fail
        refine (reverse_any (l := y :: t) O4.out (by have := HN.out; simp at this ⊢; omega)).mono ?_
        rintro e w5 ⟨rfl, O5, g5⟩
        have X5 := Lib.hid (X4.out.grown g5 (fun i hi => by cases hi; exact (O4.out.base rfl).1))
        rw [← revP_cons] at O5
        have HO5 := Lib.hid O5
        clear g5 O5
        go_wp2_with fail
        go_ret
        rw [HT.out]
        exact ⟨_, _, _, rfl, HO5.out, X5.out⟩
    · have HT : Hid (turn l ccw = l) := Lib.hid (if_neg ht)
      have hs : ((area l).sign < 0 ∧ ccw = false) ∨ ((area l).sign = 0 ∧ ccw = false) ∨ (0 < (area l).sign ∧ ccw = true) ∨ ((area l).sign = 0 ∧ ccw = true) := by
        rw [Int.sign_pos_iff, Int.sign_neg_iff, Int.sign_eq_zero_iff_zero]
        cases ccw
        · simp at ht ⊢; omega
        · simp at ht ⊢; omega
      clear ht
      generalize (area l).sign = s at *
      rcases hs with ⟨hs, rfl⟩ | ⟨rfl, rfl⟩ | ⟨hs, rfl⟩ | ⟨rfl, rfl⟩
      all_goals
        go_wp2_with fail
        go_ret
        rw [HT.out]
        exact ⟨_, _, _, rfl, O4.out, X4.out⟩
end Go.Proofs.Ytlkhkldgmlfhkaa

namespace Go.Proofs.Ytlkhkldgmlfhkaa
open Go.RowKit

section
variable {P : Program} {Q : Exit → Act → World → Prop} {l : List Oper} {w0 : World} {a0 : Act} {R : Nat → Value → World → Prop}

theorem yielded_of {tmps : Array Value} {g d : Nat} {og : Oper} {b : Bool} (h1 : l[g]? = some og) (h2 : og.dst = some d) (h3 : tmps.getD d undef = .bool b) : yielded l.toArray tmps g = some b := by
  have h4 : tmps[d]? = some (.bool b) := by
    rw [Array.getD_eq_getD_getElem?] at h3
    cases h : tmps[d]? with
    | none => rw [h] at h3; simp [undef] at h3
    | some x => rw [h] at h3; simpa using h3
  unfold yielded
  simp [h1, h2, h4]
def edgeB (o : Oper) (g : Nat) : Bool := o.after.any fun e => Region.binds .any e && e.on == g
/-- What is to be shown of an operation that comes up. -/
def FlowDo (P : Program) (l : List Oper) (w0 : World) (a0 : Act) (R : Nat → Value → World → Prop) (i : Nat) (o : Oper) : Prop :=
  ∀ (ρ : Operand → Value) (vals : Nat → Value) (w : World), (∀ j o' d, l[j]? = some o' → o'.dst = some d → ρ (.tmp d) = vals j) → (∀ x, (∀ o' ∈ l, ∀ d, o'.dst = some d → x ≠ .tmp d) → ρ x = a0.eval x) → Ext w0 w →
    (∀ e ∈ o.after, Region.binds .any e = true → R e.on (vals e.on) w) →
    (∃ v w', (execOp ρ o).run P w = .ok (.value v) w' ∧ Ext w w' ∧ R i v w') ∨
    (∃ f args, (execOp ρ o).run P w = .ok (.enter f args) w ∧ Calls P f args w fun e w' => ∃ v, e = .returned v ∧ Ext w w' ∧ R i v w')
/-- With a guard: it is known what the guard's operation yields. -/
def FlowG (P : Program) (l : List Oper) (w0 : World) (a0 : Act) (R : Nat → Value → World → Prop) (i : Nat) (o : Oper) : Prop :=
  (o.guard = none ∧ FlowDo P l w0 a0 R i o) ∨
  (∃ g b pol og d, o.guard = some (g, pol) ∧ l[g]? = some og ∧ og.dst = some d ∧ edgeB o g = true ∧ (∀ v w, R g v w → v = .bool b) ∧ ((b = pol ∧ FlowDo P l w0 a0 R i o) ∨ (b ≠ pol ∧ ∀ v w, R i v w)))
theorem flowStep_g {i : Nat} {o : Oper} (hA : apartB l = true) (hI : insideB l a0.tmps.size = true) (ho : l[i]? = some o) (h : FlowG P l w0 a0 R i o) : FlowStep P Q l w0 a0 R i o := by
  intro vals w he hd
  have hol : l.toArray[i]? = some o := by simpa using ho
  have hrun : FlowDo P l w0 a0 R i o → Region.wanted o (yielded l.toArray (putAll l vals 0 a0).tmps) = true → wpOp P l.toArray Q i (fun a' w' => ∃ v, a' = (putAll l vals 0 a0).put o.dst v ∧ Ext w w' ∧ R i v w') (putAll l vals 0 a0) w := fun h hw => by
    unfold wpOp
    simp only [hol]
    rw [if_pos hw]
    refine .inl ?_
    have key := h (putAll l vals 0 a0).eval vals w (fun j o' d hj hd' => by rw [putAll_eval_in l vals 0 j a0 o' d hA hI hj hd', Nat.zero_add]) (fun x hx => putAll_eval_out l vals 0 a0 x hx) he hd
    unfold Oper.wp
    rcases key with ⟨v, w', h1, h2, h3⟩ | ⟨f, args, h1, h2⟩
    · rw [h1]
      exact ⟨v, rfl, h2, h3⟩
    · rw [h1]
      refine h2.mono ?_
      rintro e w' ⟨v, rfl, h3, h4⟩
      exact ⟨v, rfl, h3, h4⟩
  rcases h with ⟨hg, h⟩ | ⟨g, b, pol, og, d, hg, hog, hdd, hed, hb, h⟩
  · exact hrun h (by unfold Region.wanted; rw [hg])
  · have hRg : R g (vals g) w := by
      unfold edgeB at hed
      rw [Array.any_eq_true'] at hed
      obtain ⟨e, hem, hee⟩ := hed
      simp only [Bool.and_eq_true, beq_iff_eq] at hee
      have := hd e hem hee.1
      rw [hee.2] at this
      exact this
    have hv := hb _ _ hRg
    have hy : yielded l.toArray (putAll l vals 0 a0).tmps g = some b := yielded_of hog hdd (by
      have := putAll_eval_in l vals 0 g a0 og d hA hI hog hdd
      rw [Nat.zero_add, hv] at this
      exact this)
    have hw : Region.wanted o (yielded l.toArray (putAll l vals 0 a0).tmps) = (b == pol) := by
      unfold Region.wanted
      rw [hg]
      simp only
      rw [hy]
      cases b <;> cases pol <;> rfl
    rcases h with ⟨rfl, h⟩ | ⟨hne, h⟩
    · exact hrun h (by rw [hw]; cases b <;> rfl)
    · unfold wpOp
      simp only [hol]
      rw [if_neg (by rw [hw]; cases b <;> cases pol <;> simp at hne ⊢)]
      exact ⟨undef, rfl, Ext.refl w, h _ _⟩

/-- The rule. -/
theorem wp_region_flow_g {id : Nat} (n : Nat) (R : Nat → Value → World → Prop) (hm : P.follows .mixedOrders = true) (hA : apartB (l.take n) = true) (hL : lowB (l.take n) = true) (hT : tailB l.toArray n = true) (hI : insideB (l.take n) a0.tmps.size = true) (hR : ∀ i v w w', Ext w w' → R i v w → R i v w')
    (hS : FlowAll (FlowG P (l.take n) w0 a0 R) (l.take n) 0)
    (hQ : ∀ vals w, Ext w0 w → (∀ i, i < n → R i (vals i) w) → wpList P l.toArray Q (l.drop n) (putAll (l.take n) vals 0 a0) w) : (Code.region id l.toArray true).wp P Q a0 w0 := by
  have ok := tailOk_of hT
  have le := ok.le
  have htl : (l.take n).length = n := by simp; omega
  refine wp_region_any hm ?_
  obtain ⟨f, hf⟩ := putAll_start (l.take n) 0 a0
  have hq := flow_sound (P := P) (Q := tailPost P l n Q) (w0 := w0) (a0 := a0) hA hL hR (fun i o ho => by
      have := flowAll_get (l.take n) 0 hS i o ho
      rw [Nat.zero_add] at this
      exact flowStep_g hA hI ho this) (fun vals w h1 h2 => hQ vals w h1 (fun i hi => h2 i (by omega))) (l.take n).length (Array.replicate n false) f { w0 with drawn := w0.drawn + 1 } (by simp; omega)
    ⟨List.range n, by simp; omega, List.nodup_range, fun i hi => by
      have : i < n := by omega
      simp [this]⟩ (Ext.refl w0).drew (fun i hi h => by
      have : i < n := by omega
      simp [this] at h)
  rw [hf, htl] at hq
  have := wpAny_of_first (P := P) (Q := Q) ok n (List.range n) (Array.replicate l.toArray.size false) (Array.replicate n false) a0 w0.drew (by simp) List.nodup_range (by simp) (by simp) (fun i hi => ?_) (fun i hi => ?_) (fun i hi hi' => ?_) (fun i hi => by simpa using hi) hq
  · have hsz : n + (l.length - n) = l.toArray.size := by simp; omega
    rw [hsz] at this
    exact this
  · have h1 : i < l.length := by omega
    simp only [Array.getD, Array.size_replicate, List.size_toArray, h1, hi, dif_pos]
    simp
  · have h1 : i < l.length := by omega
    simp [h1, hi]
  · simp [hi']
end
end Go.Proofs.Ytlkhkldgmlfhkaa

namespace Go.Proofs.Ytlkhkldgmlfhkaa
open Go.RowKit Rt
set_option maxRecDepth 8000

theorem few_spec {l : List (Int × Int)} {n : Int} (h : Vc.fewB l n = true) : (l.length : Int) ≤ n ∧ ∀ i, Vc.inG (l.getD i (0, 0)) = true := by
  unfold Vc.fewB at h
  simp only [Bool.and_eq_true, decide_eq_true_eq, List.all_eq_true] at h
  refine ⟨h.1, fun i => ?_⟩
  rcases Nat.lt_or_ge i l.length with hi | hi
  · have e : l.getD i (0, 0) = l[i] := by simp [List.getD_eq_getElem?_getD, hi]
    rw [e]
    exact h.2 _ (List.getElem_mem hi)
  · have e : l.getD i (0, 0) = (0, 0) := by simp [List.getD_eq_getElem?_getD, hi]
    rw [e]
    rfl
theorem inG_rev {l : List (Int × Int)} (h : ∀ i, Vc.inG (l.getD i (0, 0)) = true) : ∀ i, Vc.inG ((revP l).getD i (0, 0)) = true := fun i => by
  rcases Nat.lt_or_ge i l.length with hi | hi
  · rw [revP_getD l hi]; exact h _
  · have e : (revP l).getD i (0, 0) = (0, 0) := by simp [List.getD_eq_getElem?_getD, revP_len, hi]
    rw [e]
    rfl
theorem inG_turn {l : List (Int × Int)} (h : ∀ i, Vc.inG (l.getD i (0, 0)) = true) (ccw : Bool) : ∀ i, Vc.inG ((turn l ccw).getD i (0, 0)) = true := by
  unfold turn
  split
  · exact inG_rev h
  · exact h
theorem okp_of {l : List (Int × Int)} (h : ∀ i, Vc.inG (l.getD i (0, 0)) = true) (hn : l.length ≤ 1000) : okp l :=
  ⟨fun k => by have := Vc.inG_spec (h k); omega, by omega⟩
theorem windE_turn (l : List (Int × Int)) (ccw : Bool) (v : V2) : windE (turn l ccw) v = windE l v := by
  unfold turn
  split
  · exact windE_rev l v
  · rfl
theorem windN_turn (l : List (Int × Int)) (ccw : Bool) (v : V2) : windN (turn l ccw) v = windN l v ∨ windN (turn l ccw) v = - windN l v := by
  unfold turn
  split
  · exact .inr (windN_rev l v)
  · exact .inl rfl
theorem covB_turn (l : List (Int × Int)) (ccw : Bool) (r : Int) (v : V2) : covB [turn l ccw] r v = covB [l] r v := by
  unfold turn
  split
  · exact covB_rev l r v
  · rfl
theorem windN_bound (l : List (Int × Int)) (v : V2) : -(l.length : Int) ≤ windN l v ∧ windN l v ≤ l.length := by
  unfold windN
  split
  · omega
  · cases h : wgo l v l.length with
    | none => simp <;> omega
    | some u => simpa using wgo_bound h
theorem slQ_one {w : World} {u : Value} {g : Nat} {l : List (Int × Int)} (hg : g < w.heap.size) (hc : w.cell? ⟨g, 0, none⟩ = some u) (h : SlT w u l) : Vc.SlQ w.heap.size w (.slice (some ⟨g, 0, none⟩) 1 1) [l] := by
  refine ⟨_, 1, g, 0, rfl, .inr rfl, fun h => (by cases h), Nat.le_refl _, fun i x hx => ?_⟩
  match i, hx with
  | 0, hx =>
    simp only [List.getElem?_cons_zero, Option.some.injEq] at hx
    subst hx
    exact ⟨hg, hg, _, hc, slP_of h⟩
theorem okp_one {l : List (Int × Int)} (h : okp l) (j : Nat) : okp ([l].getD j []) := by
  match j with
  | 0 => exact h
  | j + 1 => exact okp_small [] (by simp) (by simp)

theorem raw_form {w : World} {r : Raw} {v : Value} (h : IsRaw w r v) : ∃ p1 k1 q1 p2 k2 q2 p3 k3 q3 p4 k4 q4, v = .agg #[.bool r.b, .slice p1 k1 q1, .bool r.c, .slice p2 k2 q2, .bool r.b1, .slice p3 k3 q3, .bool r.c1, .slice p4 k4 q4] := by
  obtain ⟨us, rfl, k⟩ := h
  match us, k with
  | [u1, u2, u3, u4, u5, u6, u7, u8], k =>
    obtain ⟨⟨rfl, _⟩, ⟨k2, _⟩, ⟨rfl, _⟩, ⟨k4, _⟩, ⟨rfl, _⟩, ⟨k6, _⟩, ⟨rfl, _⟩, ⟨k8, _⟩, _⟩ := k
    obtain ⟨_, _, rfl⟩ := k2.form
    obtain ⟨_, _, rfl⟩ := k4.form
    obtain ⟨_, _, rfl⟩ := k6.form
    obtain ⟨_, _, rfl⟩ := k8.form
    exact ⟨_, _, _, _, _, _, _, _, _, _, _, _, rfl⟩
theorem cells8 {w : World} {b : Nat} {T : TypeId} {c0 c1 c2 c3 c4 c5 c6 c7 : Value} (h : w.heap[b]? = some (.cells #[c0, c1, c2, c3, c4, c5, c6, c7] T (0, 0))) :
    w.cell? ⟨b, 0, none⟩ = some c0 ∧ w.cell? ⟨b, 1, none⟩ = some c1 ∧ w.cell? ⟨b, 2, none⟩ = some c2 ∧ w.cell? ⟨b, 3, none⟩ = some c3 ∧ w.cell? ⟨b, 4, none⟩ = some c4 ∧ w.cell? ⟨b, 5, none⟩ = some c5 ∧ w.cell? ⟨b, 6, none⟩ = some c6 ∧ w.cell? ⟨b, 7, none⟩ = some c7 :=
  ⟨Lib.cell_of_heap h 0, Lib.cell_of_heap h 1, Lib.cell_of_heap h 2, Lib.cell_of_heap h 3, Lib.cell_of_heap h 4, Lib.cell_of_heap h 5, Lib.cell_of_heap h 6, Lib.cell_of_heap h 7⟩

set_option maxHeartbeats 4000000 in
theorem turned_no (v vc : Value) (l : List (Int × Int)) (ccw : Bool) (r : Raw) (w : World) (h : SlT w v l) (hr : IsRaw w r vc) (hc : Vc.fewB l 8 = false ∨ r.small = false) :
    Calls Try.prog 4 #[v, .bool ccw, vc] w fun e w' => e = .returned (.bool true) ∧ Ext w w' := by
  obtain ⟨ad, nn, cap, b, off, rfl, rfl, h3, h4, h5, h6⟩ := id h
  have H := Lib.hid h
  obtain ⟨p1, k1, q1, p2, k2, q2, p3, k3, q3, p4, k4, q4, rfl⟩ := raw_form hr
  obtain ⟨W0, hW0, hb0, hE0, -⟩ := row_alloc w #[.bool r.b, .slice p1 k1 q1, .bool r.c, .slice p2 k2 q2, .bool r.b1, .slice p3 k3 q3, .bool r.c1, .slice p4 k4 q4] 41
  have HBX := Lib.hid hb0; have HE0 := Lib.hid hE0
  clear hb0 hE0
  have HR := Lib.hid hr
  clear h h3 h4 h5 h6 hr
  cases hf : Vc.fewB l 8 with
  | false =>
    have HF : Hid (Vc.fewB l 8 = false) := Lib.hid hf
    clear hf hc
    go_enter Try.func4, Try.ntmps4
    go_wp2_with fail
    refine (awake31_any _).mono ?_
    rintro e w1 ⟨rfl, x1⟩
    go_wp2_with fail
    refine (wfew _ _ 8 _ (H.out.later (HE0.out.trans x1)) (by decide)).mono ?_
    rintro e w2 ⟨rfl, x2⟩
    rw [HF.out]
    go_wp2_with fail
    refine (awake31_any _).mono ?_
    rintro e w3 ⟨rfl, x3⟩
    go_wp2_with fail
    go_ret
    exact ⟨rfl, ((HE0.out.trans x1).trans x2).trans x3⟩
  | true =>
    have hs : r.small = false := hc.resolve_left (by rw [hf]; simp)
    have HF : Hid (Vc.fewB l 8 = true) := Lib.hid hf
    have HS : Hid (r.small = false) := Lib.hid hs
    clear hf hc hs
    go_enter Try.func4, Try.ntmps4
    go_wp2_with fail
    refine (awake31_any _).mono ?_
    rintro e w1 ⟨rfl, x1⟩
    go_wp2_with fail
    refine (wfew _ _ 8 _ (H.out.later (HE0.out.trans x1)) (by decide)).mono ?_
    rintro e w2 ⟨rfl, x2⟩
    rw [HF.out]
    obtain ⟨d00, d01, d02, d03, d04, d05, d06, d07⟩ := cells8 (heap_keep HBX.out (x1.trans x2))
    go_wp2_with fail
    refine (wsmall _ r _ (HR.out.later ((HE0.out.trans x1).trans x2))).mono ?_
    rintro e w3 ⟨rfl, x3⟩
    rw [HS.out]
    clear d00 d01 d02 d03 d04 d05 d06 d07
    go_wp2_with fail
    refine (awake31_any _).mono ?_
    rintro e w4 ⟨rfl, x4⟩
    go_wp2_with fail
    go_ret
    exact ⟨rfl, (((HE0.out.trans x1).trans x2).trans x3).trans x4⟩

theorem alloc_cell (w : World) (x : Value) (T : TypeId) : (w.alloc (.cells #[x] T)).cell? ⟨w.heap.size, 0, none⟩ = some x := by
  obtain ⟨W, rfl, hb, _⟩ := row_alloc w #[x] T
  exact Lib.cell_of_heap hb 0
theorem wrap_small (m : Int) (h : -8 ≤ m ∧ m ≤ 8) : IntKind.i64.wrap (-m) = -m := by
  have : m = -8 ∨ m = -7 ∨ m = -6 ∨ m = -5 ∨ m = -4 ∨ m = -3 ∨ m = -2 ∨ m = -1 ∨ m = 0 ∨ m = 1 ∨ m = 2 ∨ m = 3 ∨ m = 4 ∨ m = 5 ∨ m = 6 ∨ m = 7 ∨ m = 8 := by omega
  rcases this with rfl | rfl | rfl | rfl | rfl | rfl | rfl | rfl | rfl | rfl | rfl | rfl | rfl | rfl | rfl | rfl | rfl <;> rfl
theorem do_bs {ρ : Operand → Value} {o : Oper} {a : Option Addr} {n c t : Nat} (h : o.op = .buildSlice 50 1 #[(0, .tmp t)]) (hx : ρ (.tmp t) = .slice a n c) (w : World) : (execOp ρ o).run Try.prog w = .ok (.value (.slice (some ⟨w.heap.size, 0, none⟩) 1 1)) (w.alloc (.cells #[.slice a n c] 22)) := by
  simp only [execOp, h, List.map_toArray, List.map_cons, List.map_nil, hx]
  kernel_rfl
theorem do_ld {ρ : Operand → Value} {o : Oper} {b t : Nat} {c0 c1 c2 c3 c4 c5 c6 c7 : Value} {w : World} (h : o.op = .load 41 (.tmp t)) (hx : ρ (.tmp t) = .pointer (some ⟨b, 0, none⟩)) (hb : w.heap[b]? = some (.cells #[c0, c1, c2, c3, c4, c5, c6, c7] 41 (0, 0))) : (execOp ρ o).run Try.prog w = .ok (.value (.agg #[c0, c1, c2, c3, c4, c5, c6, c7])) w := by
  obtain ⟨d0, d1, d2, d3, d4, d5, d6, d7⟩ := cells8 hb
  simp only [execOp, h, hx]
  have key : (Instr.loadAt 41 (.pointer (some ⟨b, 0, none⟩))).run Try.prog w = .ok (.agg #[c0, c1, c2, c3, c4, c5, c6, c7]) w := by go_simp
  rw [Sem.run_bind, key]
  simp [Sem.run_pure]
def LRE (n _m ee : Int) (tv vv pv : Value) (cv : Bool) : Nat → Value → World → Prop
  | 0, v, _ => v = .int .i64 ee
  | 1, v, _ => v = .int .i64 ee
  | 2, v, _ => v = .bool true
  | 3, v, _ => v = .bool true
  | 4, v, _ => v = .int .i64 n
  | 5, v, _ => v = .int .i64 n
  | 6, v, _ => v = .bool true
  | 7, v, _ => v = .bool true
  | 8, _, _ => True
  | 9, _, _ => True
  | 10, _, _ => True
  | 11, _, _ => True
  | 12, v, _ => v = .bool true
  | 13, v, _ => v = .bool true
  | 14, v, _ => v = .bool true
  | 15, v, _ => v = tv
  | 16, v, w => ∃ g, v = .slice (some ⟨g, 0, none⟩) 1 1 ∧ g < w.heap.size ∧ w.cell? ⟨g, 0, none⟩ = some tv
  | 17, v, _ => v = vv
  | 18, v, _ => v = .bool cv
  | 19, v, _ => v = pv
  | 20, v, w => ∃ g, v = .slice (some ⟨g, 0, none⟩) 1 1 ∧ g < w.heap.size ∧ w.cell? ⟨g, 0, none⟩ = some pv
  | 21, v, _ => v = vv
  | 22, v, _ => v = .bool cv
  | 23, v, _ => v = .bool true
  | 24, v, _ => v = .bool true
  | _, _, _ => True
theorem LRE.later {n m ee : Int} {tv vv pv : Value} {cv : Bool} : ∀ i v w w', Ext w w' → LRE n m ee tv vv pv cv i v w → LRE n m ee tv vv pv cv i v w' := by
  intro i v w w' he h
  match i, h with
  | 0, h => exact h
  | 1, h => exact h
  | 2, h => exact h
  | 3, h => exact h
  | 4, h => exact h
  | 5, h => exact h
  | 6, h => exact h
  | 7, h => exact h
  | 8, _ => exact trivial
  | 9, _ => exact trivial
  | 10, _ => exact trivial
  | 11, _ => exact trivial
  | 12, h => exact h
  | 13, h => exact h
  | 14, h => exact h
  | 15, h => exact h
  | 16, h =>
    obtain ⟨g, h1, h2, h3⟩ := h
    exact ⟨g, h1, Nat.lt_of_lt_of_le h2 he.size, (he.cell (p := ⟨g, 0, none⟩) h2).trans h3⟩
  | 17, h => exact h
  | 18, h => exact h
  | 19, h => exact h
  | 20, h =>
    obtain ⟨g, h1, h2, h3⟩ := h
    exact ⟨g, h1, Nat.lt_of_lt_of_le h2 he.size, (he.cell (p := ⟨g, 0, none⟩) h2).trans h3⟩
  | 21, h => exact h
  | 22, h => exact h
  | 23, h => exact h
  | 24, h => exact h
  | _ + 25, _ => exact trivial
def LRN (n m ee : Int) (tv vv pv : Value) (cv : Bool) : Nat → Value → World → Prop
  | 0, v, _ => v = .int .i64 ee
  | 1, v, _ => v = .int .i64 ee
  | 2, v, _ => v = .bool true
  | 3, v, _ => v = .bool true
  | 4, v, _ => v = .int .i64 n
  | 5, v, _ => v = .int .i64 m
  | 6, v, _ => v = .bool false
  | 7, v, _ => v = .bool false
  | 8, v, _ => v = .int .i64 n
  | 9, v, _ => v = .int .i64 m
  | 10, v, _ => v = .int .i64 (-m)
  | 11, v, _ => v = .bool true
  | 12, v, _ => v = .bool true
  | 13, v, _ => v = .bool true
  | 14, v, _ => v = .bool true
  | 15, v, _ => v = tv
  | 16, v, w => ∃ g, v = .slice (some ⟨g, 0, none⟩) 1 1 ∧ g < w.heap.size ∧ w.cell? ⟨g, 0, none⟩ = some tv
  | 17, v, _ => v = vv
  | 18, v, _ => v = .bool cv
  | 19, v, _ => v = pv
  | 20, v, w => ∃ g, v = .slice (some ⟨g, 0, none⟩) 1 1 ∧ g < w.heap.size ∧ w.cell? ⟨g, 0, none⟩ = some pv
  | 21, v, _ => v = vv
  | 22, v, _ => v = .bool cv
  | 23, v, _ => v = .bool true
  | 24, v, _ => v = .bool true
  | _, _, _ => True
theorem LRN.later {n m ee : Int} {tv vv pv : Value} {cv : Bool} : ∀ i v w w', Ext w w' → LRN n m ee tv vv pv cv i v w → LRN n m ee tv vv pv cv i v w' := by
  intro i v w w' he h
  match i, h with
  | 0, h => exact h
  | 1, h => exact h
  | 2, h => exact h
  | 3, h => exact h
  | 4, h => exact h
  | 5, h => exact h
  | 6, h => exact h
  | 7, h => exact h
  | 8, h => exact h
  | 9, h => exact h
  | 10, h => exact h
  | 11, h => exact h
  | 12, h => exact h
  | 13, h => exact h
  | 14, h => exact h
  | 15, h => exact h
  | 16, h =>
    obtain ⟨g, h1, h2, h3⟩ := h
    exact ⟨g, h1, Nat.lt_of_lt_of_le h2 he.size, (he.cell (p := ⟨g, 0, none⟩) h2).trans h3⟩
  | 17, h => exact h
  | 18, h => exact h
  | 19, h => exact h
  | 20, h =>
    obtain ⟨g, h1, h2, h3⟩ := h
    exact ⟨g, h1, Nat.lt_of_lt_of_le h2 he.size, (he.cell (p := ⟨g, 0, none⟩) h2).trans h3⟩
  | 21, h => exact h
  | 22, h => exact h
  | 23, h => exact h
  | 24, h => exact h
  | _ + 25, _ => exact trivial
set_option maxHeartbeats 16000000 in
theorem turned_yes (v vc : Value) (l : List (Int × Int)) (ccw : Bool) (r : Raw) (w : World) (h : SlT w v l) (hr : IsRaw w r vc) (hf : Vc.fewB l 8 = true) (hs : r.small = true) :
    Calls Try.prog 4 #[v, .bool ccw, vc] w fun e w' => e = .returned (.bool true) ∧ Ext w w' := by
  obtain ⟨x, y, hv, sx, sy⟩ := hr.vec hs
  obtain ⟨hn8, hg⟩ := few_spec hf
  obtain ⟨ad, nn, cap, b, off, rfl, rfl, h3, h4, h5, h6⟩ := id h
  have H := Lib.hid h
  obtain ⟨p1, k1, q1, p2, k2, q2, p3, k3, q3, p4, k4, q4, rfl⟩ := raw_form hr
  obtain ⟨W0, hW0, hb0, hE0, -⟩ := row_alloc w #[.bool r.b, .slice p1 k1 q1, .bool r.c, .slice p2 k2 q2, .bool r.b1, .slice p3 k3 q3, .bool r.c1, .slice p4 k4 q4] 41
  have HBX := Lib.hid hb0; have HE0 := Lib.hid hE0
  clear hb0 hE0
  have HR := Lib.hid hr; have HF : Hid (Vc.fewB l 8 = true) := Lib.hid hf; have HS : Hid (r.small = true) := Lib.hid hs
  have HV := Lib.hid hv
  have hgt := inG_turn hg ccw
  have HG := Lib.hid hg; have HGT := Lib.hid hgt
  have HN : Hid (l.length ≤ 1000) := Lib.hid (by omega)
  have HNT : Hid ((turn l ccw).length ≤ 1000) := Lib.hid (by rw [turn_len]; omega)
  have HK : Hid (okp l) := Lib.hid (okp_of hg HN.out)
  have HKT : Hid (okp (turn l ccw)) := Lib.hid (okp_of hgt HNT.out)
  have HX : Hid (Vc.szR x ≤ 90) := Lib.hid (by omega)
  have HY : Hid (Vc.szR y ≤ 90) := Lib.hid (by omega)
  have HWE := Lib.hid (windE_turn l ccw ⟨x, y⟩)
  have HWC := Lib.hid (covB_turn l ccw 3 ⟨x, y⟩)
  have HTT := Lib.hid (turn_turn l ccw)
  obtain ⟨hb1, hb2⟩ := windN_bound l ⟨x, y⟩
  have hb3 : -8 ≤ windN l ⟨x, y⟩ ∧ windN l ⟨x, y⟩ ≤ 8 := by omega
  have hmn := windN_turn l ccw ⟨x, y⟩
  clear h h3 h4 h5 h6 hr hf hs hv sx sy hn8 hg hgt hb1 hb2
  obtain ⟨n, en⟩ : ∃ n, windN l ⟨x, y⟩ = n := ⟨_, rfl⟩
  obtain ⟨m, em⟩ : ∃ m, windN (turn l ccw) ⟨x, y⟩ = m := ⟨_, rfl⟩
  have EN := Lib.hid en; have EM := Lib.hid em
  rw [en] at hb3 hmn
  rw [em] at hmn
  clear en em
  go_enter Try.func4, Try.ntmps4
  go_wp2_with fail
  refine (awake31_any _).mono ?_
  rintro e w1 ⟨rfl, x1⟩
  have H1 := Lib.hid (H.out.later (HE0.out.trans x1)); have X1 := Lib.hid x1
  clear x1
  go_wp2_with fail
  refine (wfew _ _ 8 _ H1.out (by decide)).mono ?_
  rintro e w2 ⟨rfl, x2⟩
  rw [HF.out]
  have H2 := Lib.hid (H1.out.later x2); have X2 := Lib.hid (X1.out.trans x2)
  clear x2
  obtain ⟨d00, d01, d02, d03, d04, d05, d06, d07⟩ := cells8 (heap_keep HBX.out X2.out)
  go_wp2_with fail
  refine (wsmall _ r _ (HR.out.later (HE0.out.trans X2.out))).mono ?_
  rintro e w3 ⟨rfl, x3⟩
  rw [HS.out]
  clear d00 d01 d02 d03 d04 d05 d06 d07
  have H3 := Lib.hid (H2.out.later x3); have X3 := Lib.hid (X2.out.trans x3)
  clear x3
  go_wp2_with fail
  refine (cloneT_any _ _ _ H3.out (by have := HN.out; omega)).mono ?_
  rintro e w4 ⟨a4, n4, c4, rfl, o4, x4⟩
  have H4 := Lib.hid (H3.out.later x4); have X4 := Lib.hid (X3.out.trans x4); have S4 := Lib.hid (o4.sl gC_len)
  clear x4 o4
  go_wp2_with fail
  refine (cturned_any _ _ ccw _ S4.out HG.out HN.out).mono ?_
  rintro e w5 ⟨a5, n5, c5, rfl, o5, x5⟩
  have H5 := Lib.hid (H4.out.later x5); have X5 := Lib.hid (X4.out.trans x5); have S5 := Lib.hid (o5.sl gC_len)
  clear x5 o5
  go_wp2_with fail
  refine (rturned_any _ _ ccw _ H5.out HG.out HN.out).mono ?_
  rintro e w6 ⟨a6, n6, c6, rfl, o6, x6⟩
  have H6 := Lib.hid (H5.out.later x6); have X6 := Lib.hid (X5.out.trans x6); have S6 := Lib.hid (o6.sl gC_len); have T6 := Lib.hid (S5.out.later x6)
  clear x6 o6
  go_wp2_with fail
  refine (same_any31 _ _ _ _ T6.out S6.out (by have := HNT.out; omega)).mono ?_
  rintro e w7 ⟨rfl, x7⟩
  have H7 := Lib.hid (H6.out.later x7); have X7 := Lib.hid (X6.out.trans x7); have T7 := Lib.hid (T6.out.later x7)
  clear x7 S6
  go_wp2_with fail
  refine (cloneT_any _ _ _ T7.out (by have := HNT.out; omega)).mono ?_
  rintro e w8 ⟨a8, n8, c8, rfl, o8, x8⟩
  have H8 := Lib.hid (H7.out.later x8); have X8 := Lib.hid (X7.out.trans x8); have T8 := Lib.hid (T7.out.later x8); have S8 := Lib.hid (o8.sl gC_len)
  clear x8 o8
  go_wp2_with fail
  refine (cturned_any _ _ ccw _ S8.out HGT.out HNT.out).mono ?_
  rw [HTT.out]
  rintro e w9 ⟨a9, n9, c9, rfl, o9, x9⟩
  have H9 := Lib.hid (H8.out.later x9); have X9 := Lib.hid (X8.out.trans x9); have T9 := Lib.hid (T8.out.later x9); have S9 := Lib.hid (o9.sl gC_len)
  clear x9 o9
  go_wp2_with fail
  refine (same_any31 _ _ _ _ S9.out T9.out (by have := HNT.out; omega)).mono ?_
  rintro e w10 ⟨rfl, x10⟩
  have H10 := Lib.hid (H9.out.later x10); have X10 := Lib.hid (X9.out.trans x10); have T10 := Lib.hid (T9.out.later x10)
  clear x10 S9
  obtain ⟨d10, d11, d12, d13, d14, d15, d16, d17⟩ := cells8 (heap_keep HBX.out X10.out)
  go_wp2_with fail
  refine (wwind _ _ _ _ _ _ H10.out (HV.out.later (HE0.out.trans X10.out)) ⟨HK.out, HX.out, HY.out⟩).mono ?_
  rintro e w11 ⟨rfl, x11⟩
  rw [EN.out]
  clear d10 d11 d12 d13 d14 d15 d16 d17
  have H11 := Lib.hid (H10.out.later x11); have X11 := Lib.hid (X10.out.trans x11); have T11 := Lib.hid (T10.out.later x11)
  clear x11
  obtain ⟨ee, hee⟩ : ∃ ee, windE l ⟨x, y⟩ = ee := ⟨_, rfl⟩
  have HEE := Lib.hid hee
  rw [hee]
  clear hee
  obtain ⟨d20, d21, d22, d23, d24, d25, d26, d27⟩ := cells8 (heap_keep HBX.out X11.out)
  go_wp2_with fail
  refine (wwind _ _ _ _ _ _ T11.out (HV.out.later (HE0.out.trans X11.out)) ⟨HKT.out, HX.out, HY.out⟩).mono ?_
  rintro e w12 ⟨rfl, x12⟩
  rw [EM.out, HWE.out, HEE.out]
  clear d20 d21 d22 d23 d24 d25 d26 d27
  have H12 := Lib.hid (H11.out.later x12); have X12 := Lib.hid (X11.out.trans x12); have T12 := Lib.hid (T11.out.later x12)
  clear x12
  have hbx := heap_keep HBX.out X12.out
  have HV12 : Hid (IsV w12 x y (.agg #[.bool r.b, .slice p1 k1 q1, .bool r.c, .slice p2 k2 q2, .bool r.b1, .slice p3 k3 q3, .bool r.c1, .slice p4 k4 q4])) := Lib.hid (HV.out.later (HE0.out.trans X12.out))
  obtain ⟨cv, hcv⟩ : ∃ cv, covB [l] 3 ⟨x, y⟩ = cv := ⟨_, rfl⟩
  have HCV := Lib.hid hcv
  clear hcv
  by_cases hnm : n = m
  · subst hnm
    clear hmn
    go_wp2_with fail
    refine wp_region_flow_g 25 (LRE n n ee (.slice a5 n5 c5) (.agg #[.bool r.b, .slice p1 k1 q1, .bool r.c, .slice p2 k2 q2, .bool r.b1, .slice p3 k3 q3, .bool r.c1, .slice p4 k4 q4]) (.slice ad l.length cap) cv) (by kernel_rfl) (by kernel_rfl) (by kernel_rfl) (by kernel_rfl) (by kernel_rfl) LRE.later ?_ ?_
    · simp only [List.take_succ_cons, List.take_zero]
      refine ⟨.inl ⟨rfl, fun ρ vals w3 h1 h2 hE hd => .inl ?_⟩, .inl ⟨rfl, fun ρ vals w3 h1 h2 hE hd => .inl ?_⟩, .inl ⟨rfl, fun ρ vals w3 h1 h2 hE hd => .inl ?_⟩, .inl ⟨rfl, fun ρ vals w3 h1 h2 hE hd => .inl ?_⟩, .inr ⟨3, true, true, _, 59, rfl, rfl, rfl, by kernel_rfl, fun v w h => h, .inl ⟨rfl, fun ρ vals w3 h1 h2 hE hd => .inl ?_⟩⟩, .inr ⟨3, true, true, _, 59, rfl, rfl, rfl, by kernel_rfl, fun v w h => h, .inl ⟨rfl, fun ρ vals w3 h1 h2 hE hd => .inl ?_⟩⟩, .inr ⟨3, true, true, _, 59, rfl, rfl, rfl, by kernel_rfl, fun v w h => h, .inl ⟨rfl, fun ρ vals w3 h1 h2 hE hd => .inl ?_⟩⟩, .inr ⟨3, true, true, _, 59, rfl, rfl, rfl, by kernel_rfl, fun v w h => h, .inl ⟨rfl, fun ρ vals w3 h1 h2 hE hd => .inl ?_⟩⟩, .inr ⟨7, true, false, _, 63, rfl, rfl, rfl, by kernel_rfl, fun v w h => h, .inr ⟨by decide, fun _ _ => trivial⟩⟩, .inr ⟨7, true, false, _, 63, rfl, rfl, rfl, by kernel_rfl, fun v w h => h, .inr ⟨by decide, fun _ _ => trivial⟩⟩, .inr ⟨7, true, false, _, 63, rfl, rfl, rfl, by kernel_rfl, fun v w h => h, .inr ⟨by decide, fun _ _ => trivial⟩⟩, .inr ⟨7, true, false, _, 63, rfl, rfl, rfl, by kernel_rfl, fun v w h => h, .inr ⟨by decide, fun _ _ => trivial⟩⟩, .inr ⟨3, true, true, _, 59, rfl, rfl, rfl, by kernel_rfl, fun v w h => h, .inl ⟨rfl, fun ρ vals w3 h1 h2 hE hd => .inl ?_⟩⟩, .inl ⟨rfl, fun ρ vals w3 h1 h2 hE hd => .inl ?_⟩, .inl ⟨rfl, fun ρ vals w3 h1 h2 hE hd => .inl ?_⟩, .inr ⟨14, true, true, _, 70, rfl, rfl, rfl, by kernel_rfl, fun v w h => h, .inl ⟨rfl, fun ρ vals w3 h1 h2 hE hd => .inl ?_⟩⟩, .inr ⟨14, true, true, _, 70, rfl, rfl, rfl, by kernel_rfl, fun v w h => h, .inl ⟨rfl, fun ρ vals w3 h1 h2 hE hd => .inl ?_⟩⟩, .inr ⟨14, true, true, _, 70, rfl, rfl, rfl, by kernel_rfl, fun v w h => h, .inl ⟨rfl, fun ρ vals w3 h1 h2 hE hd => .inl ?_⟩⟩, .inr ⟨14, true, true, _, 70, rfl, rfl, rfl, by kernel_rfl, fun v w h => h, .inl ⟨rfl, fun ρ vals w3 h1 h2 hE hd => .inr ?_⟩⟩, .inr ⟨14, true, true, _, 70, rfl, rfl, rfl, by kernel_rfl, fun v w h => h, .inl ⟨rfl, fun ρ vals w3 h1 h2 hE hd => .inl ?_⟩⟩, .inr ⟨14, true, true, _, 70, rfl, rfl, rfl, by kernel_rfl, fun v w h => h, .inl ⟨rfl, fun ρ vals w3 h1 h2 hE hd => .inl ?_⟩⟩, .inr ⟨14, true, true, _, 70, rfl, rfl, rfl, by kernel_rfl, fun v w h => h, .inl ⟨rfl, fun ρ vals w3 h1 h2 hE hd => .inl ?_⟩⟩, .inr ⟨14, true, true, _, 70, rfl, rfl, rfl, by kernel_rfl, fun v w h => h, .inl ⟨rfl, fun ρ vals w3 h1 h2 hE hd => .inr ?_⟩⟩, .inr ⟨14, true, true, _, 70, rfl, rfl, rfl, by kernel_rfl, fun v w h => h, .inl ⟨rfl, fun ρ vals w3 h1 h2 hE hd => .inl ?_⟩⟩, .inl ⟨rfl, fun ρ vals w3 h1 h2 hE hd => .inl ?_⟩, trivial⟩
      · have f : ρ (.tmp 9) = .int .i64 ee := h2 (.tmp 9) (by simp)
        exact ⟨.int .i64 ee, w3, by simp [execOp, go_sem, f], Ext.refl _, rfl⟩
      · have f : ρ (.tmp 11) = .int .i64 ee := h2 (.tmp 11) (by simp)
        exact ⟨.int .i64 ee, w3, by simp [execOp, go_sem, f], Ext.refl _, rfl⟩
      · have f0 : ρ (.tmp 56) = .int .i64 ee := (h1 0 _ _ rfl rfl).trans (hd ⟨0, .data⟩ (by simp) rfl)
        have f1 : ρ (.tmp 57) = .int .i64 ee := (h1 1 _ _ rfl rfl).trans (hd ⟨1, .data⟩ (by simp) rfl)
        exact ⟨.bool true, w3, by simp [execOp, go_sem, f0, f1], Ext.refl _, rfl⟩
      · have f2 : ρ (.tmp 58) = .bool true := (h1 2 _ _ rfl rfl).trans (hd ⟨2, .data⟩ (by simp) rfl)
        exact ⟨.bool true, w3, by simp [execOp, go_sem, f2], Ext.refl _, rfl⟩
      · have f : ρ (.tmp 8) = .int .i64 n := h2 (.tmp 8) (by simp)
        exact ⟨.int .i64 n, w3, by simp [execOp, go_sem, f], Ext.refl _, rfl⟩
      · have f : ρ (.tmp 10) = .int .i64 n := h2 (.tmp 10) (by simp)
        exact ⟨.int .i64 n, w3, by simp [execOp, go_sem, f], Ext.refl _, rfl⟩
      · have f4 : ρ (.tmp 60) = .int .i64 n := (h1 4 _ _ rfl rfl).trans (hd ⟨4, .data⟩ (by simp) rfl)
        have f5 : ρ (.tmp 61) = .int .i64 n := (h1 5 _ _ rfl rfl).trans (hd ⟨5, .data⟩ (by simp) rfl)
        exact ⟨.bool true, w3, by simp [execOp, go_sem, f4, f5], Ext.refl _, rfl⟩
      · have f6 : ρ (.tmp 62) = .bool true := (h1 6 _ _ rfl rfl).trans (hd ⟨6, .data⟩ (by simp) rfl)
        exact ⟨.bool true, w3, by simp [execOp, go_sem, f6], Ext.refl _, rfl⟩
      · have f7 : ρ (.tmp 63) = .bool true := (h1 7 _ _ rfl rfl).trans (hd ⟨7, .data⟩ (by simp) rfl)
        have fc : ρ (.const (.bool true)) = .bool true := h2 (.const (.bool true)) (by simp)
        exact ⟨.bool true, w3, by simp [execOp, go_sem, f7, fc], Ext.refl _, rfl⟩
      · have f3 : ρ (.tmp 59) = .bool true := (h1 3 _ _ rfl rfl).trans (hd ⟨3, .data⟩ (by simp) rfl)
        have f12 : ρ (.tmp 68) = .bool true := (h1 12 _ _ rfl rfl).trans (hd ⟨12, .data⟩ (by simp) rfl)
        have fc : ρ (.const (.bool false)) = .bool false := h2 (.const (.bool false)) (by simp)
        exact ⟨.bool true, w3, by simp [execOp, go_sem, f3, f12, fc], Ext.refl _, rfl⟩
      · have f13 : ρ (.tmp 69) = .bool true := (h1 13 _ _ rfl rfl).trans (hd ⟨13, .data⟩ (by simp) rfl)
        exact ⟨.bool true, w3, by simp [execOp, go_sem, f13], Ext.refl _, rfl⟩
      · have f : ρ (.tmp 7) = (.slice a5 n5 c5) := h2 (.tmp 7) (by simp)
        exact ⟨(.slice a5 n5 c5), w3, by simp [execOp, go_sem, f], Ext.refl _, rfl⟩
      · have f15 : ρ (.tmp 71) = (.slice a5 n5 c5) := (h1 15 _ _ rfl rfl).trans (hd ⟨15, .data⟩ (by simp) rfl)
        exact ⟨_, _, do_bs rfl f15 w3, (Ext.refl w3).alloc _, w3.heap.size, rfl, by simp, alloc_cell _ _ _⟩
      · have f : ρ (.tmp 5) = .pointer (some ⟨w.heap.size, 0, none⟩) := h2 (.tmp 5) (by simp)
        have hb3 := heap_keep hbx hE
        exact ⟨_, w3, do_ld rfl f hb3, Ext.refl _, rfl⟩
      · have f16 := h1 16 _ _ rfl rfl
        obtain ⟨g16, k16, hg16, hc16⟩ := hd ⟨16, .data⟩ (by simp) rfl
        rw [k16] at f16
        have f17 : ρ (.tmp 73) = (.agg #[.bool r.b, .slice p1 k1 q1, .bool r.c, .slice p2 k2 q2, .bool r.b1, .slice p3 k3 q3, .bool r.c1, .slice p4 k4 q4]) := (h1 17 _ _ rfl rfl).trans (hd ⟨17, .data⟩ (by simp) rfl)
        have fc : ρ (.const (.int .i64 3)) = .int .i64 3 := h2 (.const (.int .i64 3)) (by simp)
        refine ⟨_, _, Vc.acall_run (fun f => h2 (.func f) (by simp)) rfl (by kernel_rfl) rfl w3, ?_⟩
        simp only [List.map_cons, List.map_nil, f16, f17, fc]
        refine (wcov _ _ [turn l ccw] 3 x y w3 (slQ_one hg16 hc16 (T12.out.later hE)) (HV12.out.later hE) ⟨okp_one HKT.out, by simp, by decide, HX.out, HY.out⟩).mono ?_
        rintro e w' ⟨rfl, hx⟩
        exact ⟨_, rfl, hx, by rw [HWC.out, HCV.out]; rfl⟩
      · have f : ρ (.tmp 0) = (.slice ad l.length cap) := h2 (.tmp 0) (by simp)
        exact ⟨(.slice ad l.length cap), w3, by simp [execOp, go_sem, f], Ext.refl _, rfl⟩
      · have f19 : ρ (.tmp 75) = (.slice ad l.length cap) := (h1 19 _ _ rfl rfl).trans (hd ⟨19, .data⟩ (by simp) rfl)
        exact ⟨_, _, do_bs rfl f19 w3, (Ext.refl w3).alloc _, w3.heap.size, rfl, by simp, alloc_cell _ _ _⟩
      · have f : ρ (.tmp 5) = .pointer (some ⟨w.heap.size, 0, none⟩) := h2 (.tmp 5) (by simp)
        have hb3 := heap_keep hbx hE
        exact ⟨_, w3, do_ld rfl f hb3, Ext.refl _, rfl⟩
      · have f20 := h1 20 _ _ rfl rfl
        obtain ⟨g20, k20, hg20, hc20⟩ := hd ⟨20, .data⟩ (by simp) rfl
        rw [k20] at f20
        have f21 : ρ (.tmp 77) = (.agg #[.bool r.b, .slice p1 k1 q1, .bool r.c, .slice p2 k2 q2, .bool r.b1, .slice p3 k3 q3, .bool r.c1, .slice p4 k4 q4]) := (h1 21 _ _ rfl rfl).trans (hd ⟨21, .data⟩ (by simp) rfl)
        have fc : ρ (.const (.int .i64 3)) = .int .i64 3 := h2 (.const (.int .i64 3)) (by simp)
        refine ⟨_, _, Vc.acall_run (fun f => h2 (.func f) (by simp)) rfl (by kernel_rfl) rfl w3, ?_⟩
        simp only [List.map_cons, List.map_nil, f20, f21, fc]
        refine (wcov _ _ [l] 3 x y w3 (slQ_one hg20 hc20 (H12.out.later hE)) (HV12.out.later hE) ⟨okp_one HK.out, by simp, by decide, HX.out, HY.out⟩).mono ?_
        rintro e w' ⟨rfl, hx⟩
        exact ⟨_, rfl, hx, by rw [HCV.out]; rfl⟩
      · have f18 : ρ (.tmp 74) = .bool cv := (h1 18 _ _ rfl rfl).trans (hd ⟨18, .data⟩ (by simp) rfl)
        have f22 : ρ (.tmp 78) = .bool cv := (h1 22 _ _ rfl rfl).trans (hd ⟨22, .data⟩ (by simp) rfl)
        exact ⟨.bool true, w3, by simp [execOp, go_sem, f18, f22], Ext.refl _, rfl⟩
      · have f14 : ρ (.tmp 70) = .bool true := (h1 14 _ _ rfl rfl).trans (hd ⟨14, .data⟩ (by simp) rfl)
        have f23 : ρ (.tmp 79) = .bool true := (h1 23 _ _ rfl rfl).trans (hd ⟨23, .data⟩ (by simp) rfl)
        have fc : ρ (.const (.bool false)) = .bool false := h2 (.const (.bool false)) (by simp)
        exact ⟨.bool true, w3, by simp [execOp, go_sem, f14, f23, fc], Ext.refl _, rfl⟩
    · intro vals w13 hE hv
      have k24 := hv 24 (by decide)
      simp only [LRE] at k24
      clear hv
      simp only [List.take_succ_cons, List.take_zero, List.drop_succ_cons, List.drop_zero, putAll, Act.put, List.setIfInBounds_toArray, List.set_cons_succ, List.set_cons_zero, Nat.reduceAdd]
      rw [k24]
      go_wp2_with fail
      go_ret
      exact ⟨rfl, (HE0.out.trans X12.out).trans hE⟩
  · have hm : n = -m := by
      rcases hmn with e | e
      · exact absurd e.symm hnm
      · omega
    have HW := Lib.hid (wrap_small m (by omega))
    have HM := Lib.hid hm
    clear hmn hm
    go_wp2_with fail
    refine wp_region_flow_g 25 (LRN n m ee (.slice a5 n5 c5) (.agg #[.bool r.b, .slice p1 k1 q1, .bool r.c, .slice p2 k2 q2, .bool r.b1, .slice p3 k3 q3, .bool r.c1, .slice p4 k4 q4]) (.slice ad l.length cap) cv) (by kernel_rfl) (by kernel_rfl) (by kernel_rfl) (by kernel_rfl) (by kernel_rfl) LRN.later ?_ ?_
    · simp only [List.take_succ_cons, List.take_zero]
      refine ⟨.inl ⟨rfl, fun ρ vals w3 h1 h2 hE hd => .inl ?_⟩, .inl ⟨rfl, fun ρ vals w3 h1 h2 hE hd => .inl ?_⟩, .inl ⟨rfl, fun ρ vals w3 h1 h2 hE hd => .inl ?_⟩, .inl ⟨rfl, fun ρ vals w3 h1 h2 hE hd => .inl ?_⟩, .inr ⟨3, true, true, _, 59, rfl, rfl, rfl, by kernel_rfl, fun v w h => h, .inl ⟨rfl, fun ρ vals w3 h1 h2 hE hd => .inl ?_⟩⟩, .inr ⟨3, true, true, _, 59, rfl, rfl, rfl, by kernel_rfl, fun v w h => h, .inl ⟨rfl, fun ρ vals w3 h1 h2 hE hd => .inl ?_⟩⟩, .inr ⟨3, true, true, _, 59, rfl, rfl, rfl, by kernel_rfl, fun v w h => h, .inl ⟨rfl, fun ρ vals w3 h1 h2 hE hd => .inl ?_⟩⟩, .inr ⟨3, true, true, _, 59, rfl, rfl, rfl, by kernel_rfl, fun v w h => h, .inl ⟨rfl, fun ρ vals w3 h1 h2 hE hd => .inl ?_⟩⟩, .inr ⟨7, false, false, _, 63, rfl, rfl, rfl, by kernel_rfl, fun v w h => h, .inl ⟨rfl, fun ρ vals w3 h1 h2 hE hd => .inl ?_⟩⟩, .inr ⟨7, false, false, _, 63, rfl, rfl, rfl, by kernel_rfl, fun v w h => h, .inl ⟨rfl, fun ρ vals w3 h1 h2 hE hd => .inl ?_⟩⟩, .inr ⟨7, false, false, _, 63, rfl, rfl, rfl, by kernel_rfl, fun v w h => h, .inl ⟨rfl, fun ρ vals w3 h1 h2 hE hd => .inl ?_⟩⟩, .inr ⟨7, false, false, _, 63, rfl, rfl, rfl, by kernel_rfl, fun v w h => h, .inl ⟨rfl, fun ρ vals w3 h1 h2 hE hd => .inl ?_⟩⟩, .inr ⟨3, true, true, _, 59, rfl, rfl, rfl, by kernel_rfl, fun v w h => h, .inl ⟨rfl, fun ρ vals w3 h1 h2 hE hd => .inl ?_⟩⟩, .inl ⟨rfl, fun ρ vals w3 h1 h2 hE hd => .inl ?_⟩, .inl ⟨rfl, fun ρ vals w3 h1 h2 hE hd => .inl ?_⟩, .inr ⟨14, true, true, _, 70, rfl, rfl, rfl, by kernel_rfl, fun v w h => h, .inl ⟨rfl, fun ρ vals w3 h1 h2 hE hd => .inl ?_⟩⟩, .inr ⟨14, true, true, _, 70, rfl, rfl, rfl, by kernel_rfl, fun v w h => h, .inl ⟨rfl, fun ρ vals w3 h1 h2 hE hd => .inl ?_⟩⟩, .inr ⟨14, true, true, _, 70, rfl, rfl, rfl, by kernel_rfl, fun v w h => h, .inl ⟨rfl, fun ρ vals w3 h1 h2 hE hd => .inl ?_⟩⟩, .inr ⟨14, true, true, _, 70, rfl, rfl, rfl, by kernel_rfl, fun v w h => h, .inl ⟨rfl, fun ρ vals w3 h1 h2 hE hd => .inr ?_⟩⟩, .inr ⟨14, true, true, _, 70, rfl, rfl, rfl, by kernel_rfl, fun v w h => h, .inl ⟨rfl, fun ρ vals w3 h1 h2 hE hd => .inl ?_⟩⟩, .inr ⟨14, true, true, _, 70, rfl, rfl, rfl, by kernel_rfl, fun v w h => h, .inl ⟨rfl, fun ρ vals w3 h1 h2 hE hd => .inl ?_⟩⟩, .inr ⟨14, true, true, _, 70, rfl, rfl, rfl, by kernel_rfl, fun v w h => h, .inl ⟨rfl, fun ρ vals w3 h1 h2 hE hd => .inl ?_⟩⟩, .inr ⟨14, true, true, _, 70, rfl, rfl, rfl, by kernel_rfl, fun v w h => h, .inl ⟨rfl, fun ρ vals w3 h1 h2 hE hd => .inr ?_⟩⟩, .inr ⟨14, true, true, _, 70, rfl, rfl, rfl, by kernel_rfl, fun v w h => h, .inl ⟨rfl, fun ρ vals w3 h1 h2 hE hd => .inl ?_⟩⟩, .inl ⟨rfl, fun ρ vals w3 h1 h2 hE hd => .inl ?_⟩, trivial⟩
      · have f : ρ (.tmp 9) = .int .i64 ee := h2 (.tmp 9) (by simp)
        exact ⟨.int .i64 ee, w3, by simp [execOp, go_sem, f], Ext.refl _, rfl⟩
      · have f : ρ (.tmp 11) = .int .i64 ee := h2 (.tmp 11) (by simp)
        exact ⟨.int .i64 ee, w3, by simp [execOp, go_sem, f], Ext.refl _, rfl⟩
      · have f0 : ρ (.tmp 56) = .int .i64 ee := (h1 0 _ _ rfl rfl).trans (hd ⟨0, .data⟩ (by simp) rfl)
        have f1 : ρ (.tmp 57) = .int .i64 ee := (h1 1 _ _ rfl rfl).trans (hd ⟨1, .data⟩ (by simp) rfl)
        exact ⟨.bool true, w3, by simp [execOp, go_sem, f0, f1], Ext.refl _, rfl⟩
      · have f2 : ρ (.tmp 58) = .bool true := (h1 2 _ _ rfl rfl).trans (hd ⟨2, .data⟩ (by simp) rfl)
        exact ⟨.bool true, w3, by simp [execOp, go_sem, f2], Ext.refl _, rfl⟩
      · have f : ρ (.tmp 8) = .int .i64 n := h2 (.tmp 8) (by simp)
        exact ⟨.int .i64 n, w3, by simp [execOp, go_sem, f], Ext.refl _, rfl⟩
      · have f : ρ (.tmp 10) = .int .i64 m := h2 (.tmp 10) (by simp)
        exact ⟨.int .i64 m, w3, by simp [execOp, go_sem, f], Ext.refl _, rfl⟩
      · have f4 : ρ (.tmp 60) = .int .i64 n := (h1 4 _ _ rfl rfl).trans (hd ⟨4, .data⟩ (by simp) rfl)
        have f5 : ρ (.tmp 61) = .int .i64 m := (h1 5 _ _ rfl rfl).trans (hd ⟨5, .data⟩ (by simp) rfl)
        exact ⟨.bool false, w3, by simp [execOp, go_sem, f4, f5, hnm], Ext.refl _, rfl⟩
      · have f6 : ρ (.tmp 62) = .bool false := (h1 6 _ _ rfl rfl).trans (hd ⟨6, .data⟩ (by simp) rfl)
        exact ⟨.bool false, w3, by simp [execOp, go_sem, f6], Ext.refl _, rfl⟩
      · have f : ρ (.tmp 8) = .int .i64 n := h2 (.tmp 8) (by simp)
        exact ⟨.int .i64 n, w3, by simp [execOp, go_sem, f], Ext.refl _, rfl⟩
      · have f : ρ (.tmp 10) = .int .i64 m := h2 (.tmp 10) (by simp)
        exact ⟨.int .i64 m, w3, by simp [execOp, go_sem, f], Ext.refl _, rfl⟩
      · have f9 : ρ (.tmp 65) = .int .i64 m := (h1 9 _ _ rfl rfl).trans (hd ⟨9, .data⟩ (by simp) rfl)
        exact ⟨.int .i64 (-m), w3, by simp [execOp, go_sem, f9, HW.out], Ext.refl _, rfl⟩
      · have f8 : ρ (.tmp 64) = .int .i64 n := (h1 8 _ _ rfl rfl).trans (hd ⟨8, .data⟩ (by simp) rfl)
        have f10 : ρ (.tmp 66) = .int .i64 (-m) := (h1 10 _ _ rfl rfl).trans (hd ⟨10, .data⟩ (by simp) rfl)
        exact ⟨.bool true, w3, by simp [execOp, go_sem, f8, f10, HM.out], Ext.refl _, rfl⟩
      · have f7 : ρ (.tmp 63) = .bool false := (h1 7 _ _ rfl rfl).trans (hd ⟨7, .data⟩ (by simp) rfl)
        have fc : ρ (.const (.bool true)) = .bool true := h2 (.const (.bool true)) (by simp)
        have f11 : ρ (.tmp 67) = .bool true := (h1 11 _ _ rfl rfl).trans (hd ⟨11, .data⟩ (by simp) rfl)
        exact ⟨.bool true, w3, by simp [execOp, go_sem, f7, fc, f11], Ext.refl _, rfl⟩
      · have f3 : ρ (.tmp 59) = .bool true := (h1 3 _ _ rfl rfl).trans (hd ⟨3, .data⟩ (by simp) rfl)
        have f12 : ρ (.tmp 68) = .bool true := (h1 12 _ _ rfl rfl).trans (hd ⟨12, .data⟩ (by simp) rfl)
        have fc : ρ (.const (.bool false)) = .bool false := h2 (.const (.bool false)) (by simp)
        exact ⟨.bool true, w3, by simp [execOp, go_sem, f3, f12, fc], Ext.refl _, rfl⟩
      · have f13 : ρ (.tmp 69) = .bool true := (h1 13 _ _ rfl rfl).trans (hd ⟨13, .data⟩ (by simp) rfl)
        exact ⟨.bool true, w3, by simp [execOp, go_sem, f13], Ext.refl _, rfl⟩
      · have f : ρ (.tmp 7) = (.slice a5 n5 c5) := h2 (.tmp 7) (by simp)
        exact ⟨(.slice a5 n5 c5), w3, by simp [execOp, go_sem, f], Ext.refl _, rfl⟩
      · have f15 : ρ (.tmp 71) = (.slice a5 n5 c5) := (h1 15 _ _ rfl rfl).trans (hd ⟨15, .data⟩ (by simp) rfl)
        exact ⟨_, _, do_bs rfl f15 w3, (Ext.refl w3).alloc _, w3.heap.size, rfl, by simp, alloc_cell _ _ _⟩
      · have f : ρ (.tmp 5) = .pointer (some ⟨w.heap.size, 0, none⟩) := h2 (.tmp 5) (by simp)
        have hb3 := heap_keep hbx hE
        exact ⟨_, w3, do_ld rfl f hb3, Ext.refl _, rfl⟩
      · have f16 := h1 16 _ _ rfl rfl
        obtain ⟨g16, k16, hg16, hc16⟩ := hd ⟨16, .data⟩ (by simp) rfl
        rw [k16] at f16
        have f17 : ρ (.tmp 73) = (.agg #[.bool r.b, .slice p1 k1 q1, .bool r.c, .slice p2 k2 q2, .bool r.b1, .slice p3 k3 q3, .bool r.c1, .slice p4 k4 q4]) := (h1 17 _ _ rfl rfl).trans (hd ⟨17, .data⟩ (by simp) rfl)
        have fc : ρ (.const (.int .i64 3)) = .int .i64 3 := h2 (.const (.int .i64 3)) (by simp)
        refine ⟨_, _, Vc.acall_run (fun f => h2 (.func f) (by simp)) rfl (by kernel_rfl) rfl w3, ?_⟩
        simp only [List.map_cons, List.map_nil, f16, f17, fc]
        refine (wcov _ _ [turn l ccw] 3 x y w3 (slQ_one hg16 hc16 (T12.out.later hE)) (HV12.out.later hE) ⟨okp_one HKT.out, by simp, by decide, HX.out, HY.out⟩).mono ?_
        rintro e w' ⟨rfl, hx⟩
        exact ⟨_, rfl, hx, by rw [HWC.out, HCV.out]; rfl⟩
      · have f : ρ (.tmp 0) = (.slice ad l.length cap) := h2 (.tmp 0) (by simp)
        exact ⟨(.slice ad l.length cap), w3, by simp [execOp, go_sem, f], Ext.refl _, rfl⟩
      · have f19 : ρ (.tmp 75) = (.slice ad l.length cap) := (h1 19 _ _ rfl rfl).trans (hd ⟨19, .data⟩ (by simp) rfl)
        exact ⟨_, _, do_bs rfl f19 w3, (Ext.refl w3).alloc _, w3.heap.size, rfl, by simp, alloc_cell _ _ _⟩
      · have f : ρ (.tmp 5) = .pointer (some ⟨w.heap.size, 0, none⟩) := h2 (.tmp 5) (by simp)
        have hb3 := heap_keep hbx hE
        exact ⟨_, w3, do_ld rfl f hb3, Ext.refl _, rfl⟩
      · have f20 := h1 20 _ _ rfl rfl
        obtain ⟨g20, k20, hg20, hc20⟩ := hd ⟨20, .data⟩ (by simp) rfl
        rw [k20] at f20
        have f21 : ρ (.tmp 77) = (.agg #[.bool r.b, .slice p1 k1 q1, .bool r.c, .slice p2 k2 q2, .bool r.b1, .slice p3 k3 q3, .bool r.c1, .slice p4 k4 q4]) := (h1 21 _ _ rfl rfl).trans (hd ⟨21, .data⟩ (by simp) rfl)
        have fc : ρ (.const (.int .i64 3)) = .int .i64 3 := h2 (.const (.int .i64 3)) (by simp)
        refine ⟨_, _, Vc.acall_run (fun f => h2 (.func f) (by simp)) rfl (by kernel_rfl) rfl w3, ?_⟩
        simp only [List.map_cons, List.map_nil, f20, f21, fc]
        refine (wcov _ _ [l] 3 x y w3 (slQ_one hg20 hc20 (H12.out.later hE)) (HV12.out.later hE) ⟨okp_one HK.out, by simp, by decide, HX.out, HY.out⟩).mono ?_
        rintro e w' ⟨rfl, hx⟩
        exact ⟨_, rfl, hx, by rw [HCV.out]; rfl⟩
      · have f18 : ρ (.tmp 74) = .bool cv := (h1 18 _ _ rfl rfl).trans (hd ⟨18, .data⟩ (by simp) rfl)
        have f22 : ρ (.tmp 78) = .bool cv := (h1 22 _ _ rfl rfl).trans (hd ⟨22, .data⟩ (by simp) rfl)
        exact ⟨.bool true, w3, by simp [execOp, go_sem, f18, f22], Ext.refl _, rfl⟩
      · have f14 : ρ (.tmp 70) = .bool true := (h1 14 _ _ rfl rfl).trans (hd ⟨14, .data⟩ (by simp) rfl)
        have f23 : ρ (.tmp 79) = .bool true := (h1 23 _ _ rfl rfl).trans (hd ⟨23, .data⟩ (by simp) rfl)
        have fc : ρ (.const (.bool false)) = .bool false := h2 (.const (.bool false)) (by simp)
        exact ⟨.bool true, w3, by simp [execOp, go_sem, f14, f23, fc], Ext.refl _, rfl⟩
    · intro vals w13 hE hv
      have k24 := hv 24 (by decide)
      simp only [LRN] at k24
      clear hv
      simp only [List.take_succ_cons, List.take_zero, List.drop_succ_cons, List.drop_zero, putAll, Act.put, List.setIfInBounds_toArray, List.set_cons_succ, List.set_cons_zero, Nat.reduceAdd]
      rw [k24]
      go_wp2_with fail
      go_ret
      exact ⟨rfl, (HE0.out.trans X12.out).trans hE⟩

theorem turned_walk (v vc : Value) (l : List (Int × Int)) (ccw : Bool) (r : Raw) (w : World) (h : SlT w v l) (hr : IsRaw w r vc) :
    Calls Try.prog 4 #[v, .bool ccw, vc] w fun e w' => e = .returned (.bool true) ∧ Ext w w' := by
  cases hf : Vc.fewB l 8 with
  | false => exact turned_no v vc l ccw r w h hr (.inl hf)
  | true =>
    cases hs : r.small with
    | false => exact turned_no v vc l ccw r w h hr (.inr hs)
    | true => exact turned_yes v vc l ccw r w h hr hf hs
end Go.Proofs.Ytlkhkldgmlfhkaa
