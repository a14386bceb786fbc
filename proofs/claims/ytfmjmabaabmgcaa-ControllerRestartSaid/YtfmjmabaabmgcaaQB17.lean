/-
  A region that draws its order, in two stages: the first n operations, then the others, in a class of worlds of their own.
  Walks: tick of the law's model where nothing moves.
  Walks: tick of the law's model while a plan runs.
-/
import Derived.Test.YtfmjmabaabmgcaaQB09
import Derived.Test.YtfmjmabaabmgcaaQB16
namespace Go.Proofs.Ytfmjmabaabmgcaa
open Go.RowKit

def stageB (ops : Array Oper) (n : Nat) : Bool :=
  decide (n ≤ ops.size) &&
  ((List.range ops.size).all fun t => decide (t < n) || ((List.range n).all fun i => Region.waitsFor .any ops t i) || ((List.range t).any fun k => decide (n ≤ k) && Region.waitsFor .any ops t k)) &&
  ((List.range ops.size).all fun i => ((ops[i]?).map fun o => (o.after.all fun e => !Region.binds .any e || decide (e.on < i)) && (decide (n ≤ i) || ((o.guard.map fun g => decide (g.1 < n)).getD true))).getD true)

section
variable {P : Program} {Q : Exit → Act → World → Prop} {l : List Oper} {n : Nat}

structure StageOk (l : List Oper) (n : Nat) : Prop where
  le : n ≤ l.length
  waits : ∀ t i, t < l.length → n ≤ t → i < n → ∃ k, Region.waitsFor .any l.toArray t k = true ∧ (k = i ∨ (n ≤ k ∧ k < t))
  low : ∀ i o, l.toArray[i]? = some o → ∀ e ∈ o.after, Region.binds .any e = true → e.on < i
  guard : ∀ i o g, l.toArray[i]? = some o → i < n → o.guard = some g → g.1 < n

theorem stageOk_of (h : stageB l.toArray n = true) : StageOk l n := by
  simp only [stageB, Bool.and_eq_true, decide_eq_true_eq, List.all_eq_true, List.any_eq_true, List.mem_range, Bool.or_eq_true] at h
  obtain ⟨⟨h1, h2⟩, h3⟩ := h
  have hsz : l.toArray.size = l.length := by simp
  refine ⟨by simpa using h1, fun t i ht hn hi => ?_, fun i o ho e he hb => ?_, fun i o g ho hi hg => ?_⟩
  · rcases h2 t (by omega) with (h | h) | ⟨k, hk, hk1, hk2⟩
    · omega
    · exact ⟨i, h i hi, .inl rfl⟩
    · exact ⟨k, hk2, .inr ⟨hk1, hk⟩⟩
  · have hi : i < l.toArray.size := (Array.getElem?_eq_some_iff.1 ho).1
    have := h3 i hi
    rw [ho] at this
    simp only [Option.map_some, Option.getD_some, Bool.and_eq_true, Array.all_eq_true'] at this
    have h4 := this.1 e he
    simp only [hb, Bool.not_true, Bool.false_or, decide_eq_true_eq] at h4
    exact h4
  · have hi' : i < l.toArray.size := (Array.getElem?_eq_some_iff.1 ho).1
    have := h3 i hi'
    rw [ho] at this
    simp only [Option.map_some, Option.getD_some, Bool.and_eq_true, Bool.or_eq_true, decide_eq_true_eq, hg] at this
    rcases this.2 with h | h
    · omega
    · exact h

/-- The first n are listed. -/
def listedN (l : List Oper) (n : Nat) : Array Bool := (Array.range l.length).map fun i => decide (i < n)
theorem listedN_eq {ls : Array Bool} (hs : ls.size = l.length) (h1 : ∀ i, i < n → ls.getD i true = true) (h2 : ∀ i, n ≤ i → i < l.length → ls.getD i true = false) : ls = listedN l n := by
  refine Array.ext (by simp [listedN, hs]) fun i hi hi' => ?_
  have e : (listedN l n)[i] = decide (i < n) := by simp [listedN]
  rw [e]
  by_cases h : i < n
  · have := h1 i h
    simp [hi] at this
    rw [this, decide_eq_true h]
  · have := h2 i (by omega) (by omega)
    simp [hi] at this
    rw [this, decide_eq_false h]

/-- What stands behind the first n operations: the others, in any order; no panic. -/
def stagePost (P : Program) (l : List Oper) (n : Nat) (Q : Exit → Act → World → Prop) : Exit → Act → World → Prop
  | .normal, a, w => wpAny P .any l.toArray Q (l.length - n) (listedN l n) a w
  | .panic _, _, _ => False
  | e, a, w => Q e a w

theorem wanted_stage (ok : StageOk l n) {i : Nat} {o : Oper} (hi : i < n) (ho : l.toArray[i]? = some o) (tm : Array Value) : Region.wanted o (yielded (l.take n).toArray tm) = Region.wanted o (yielded l.toArray tm) := by
  unfold Region.wanted
  cases hg : o.guard with
  | none => rfl
  | some g =>
    obtain ⟨g, b⟩ := g
    have hgn : g < n := ok.guard i o (g, b) ho hi hg
    have := take_get (l := l) g hgn
    simp only [yielded, this]
theorem wpOp_stage (ok : StageOk l n) {i : Nat} (hi : i < n) {K : Act → World → Prop} {a : Act} {w : World} (h : wpOp P (l.take n).toArray Q i K a w) : wpOp P l.toArray Q i K a w := by
  unfold wpOp at *
  rw [take_get i hi] at h
  cases ho : l.toArray[i]? with
  | none => simp only [ho] at h ⊢; exact h
  | some o =>
    simp only [ho] at h ⊢
    rw [wanted_stage ok hi ho] at h
    exact h
theorem wpAny_of_stage (ok : StageOk l n) : ∀ (f : Nat) (rem : List Nat) (ls ls' : Array Bool) (a : Act) (w : World), rem.length = f → rem.Nodup → ls.size = l.length → ls'.size = n →
    (∀ i, i < n → ls.getD i true = ls'.getD i true) → (∀ i, i < n → (ls.getD i true = false ↔ i ∈ rem)) → (∀ i, n ≤ i → i < l.length → ls.getD i true = false) → (∀ i ∈ rem, i < n) →
    wpAny P .any (l.take n).toArray (stagePost P l n Q) f ls' a w → wpAny P .any l.toArray Q (f + (l.length - n)) ls a w := by
  intro f
  induction f with
  | zero =>
    intro rem ls ls' a w hr hnd hs hs' hsame hmem htl hlt hq
    have hrem : rem = [] := List.length_eq_zero_iff.1 hr
    subst hrem
    rw [Nat.zero_add]
    have hls : ls = listedN l n := listedN_eq hs (fun i hi => by cases h : ls.getD i true with | true => rfl | false => have := (hmem i hi).1 h; cases this) htl
    rw [hls]
    exact hq.2
  | succ f ih =>
    intro rem ls ls' a w hr hnd hs hs' hsame hmem htl hlt hq
    have le := ok.le
    have hready : ∀ i, i < n → (i ∈ Region.ready .any (l.take n).toArray ls' ↔ i ∈ Region.ready .any l.toArray ls) := fun i hi => by
      rw [mem_ready, mem_ready, hsame i hi, take_get i hi]
      have hsz : ls'.size = n := hs'
      have key : ∀ o, l.toArray[i]? = some o → ((∀ e ∈ o.after, Region.binds .any e = true → ls'.getD e.on false = true) ↔ (∀ e ∈ o.after, Region.binds .any e = true → ls.getD e.on false = true)) := fun o ho => by
        refine forall_congr' fun e => forall_congr' fun he => forall_congr' fun hb => ?_
        have h1 : e.on < i := ok.low i o ho e he hb
        have h2 := hsame e.on (by omega)
        have h3 : e.on < ls'.size := by omega
        have h4 : e.on < ls.size := by omega
        simp [h3, h4] at h2 ⊢
        rw [h2]
      constructor
      · rintro ⟨p, o, ho, q⟩; exact ⟨p, o, ho, (key o ho).1 q⟩
      · rintro ⟨p, o, ho, q⟩; exact ⟨p, o, ho, (key o ho).2 q⟩
    have hex : ∃ i, i ∈ rem := by
      cases rem with
      | nil => simp at hr
      | cons x _ => exact ⟨x, List.mem_cons_self ..⟩
    have hleast : ∃ i, i < n ∧ ls.getD i true = false ∧ ∀ k, k < i → ls.getD k true ≠ false := by
      obtain ⟨i, hi⟩ := hex
      have : ∀ (m i : Nat), i ≤ m → i < n → ls.getD i true = false → ∃ i, i < n ∧ ls.getD i true = false ∧ ∀ k, k < i → ls.getD k true ≠ false := by
        intro m
        induction m with
        | zero => intro i h0 h1 h2; exact ⟨i, h1, h2, fun k hk => by omega⟩
        | succ m ihm =>
          intro i h0 h1 h2
          by_cases h : ∃ k, k < i ∧ ls.getD k true = false
          · obtain ⟨k, hk, hk2⟩ := h; exact ihm k (by omega) (by omega) hk2
          · exact ⟨i, h1, h2, fun k hk hk2 => h ⟨k, hk, hk2⟩⟩
      exact this i i (Nat.le_refl _) (hlt i hi) ((hmem i (hlt i hi)).2 hi)
    obtain ⟨i0, hi0, hu0, hmin⟩ := hleast
    have hr0 : i0 ∈ Region.ready .any l.toArray ls := by
      have ho : l.toArray[i0]? = some (l[i0]'(by omega)) := by simp [show i0 < l.length by omega]
      exact mem_ready.2 ⟨hu0, _, ho, fun e he hb => getD_tf (by have := ok.low i0 _ ho e he hb; omega) (hmin _ (ok.low i0 _ ho e he hb))⟩
    rw [show f + 1 + (l.length - n) = (f + (l.length - n)) + 1 by omega]
    refine ⟨fun h => (by rw [h] at hr0; cases hr0), fun i hi => ?_⟩
    have hin : i < n := by
      rcases Nat.lt_or_ge i n with h | h
      · exact h
      · obtain ⟨hu, o, ho, hall⟩ := mem_ready.1 hi
        have hil : i < l.length := by have : i < l.toArray.size := (Array.getElem?_eq_some_iff.1 ho).1; simpa using this
        obtain ⟨k, hk, hkk⟩ := ok.waits i i0 hil h hi0
        obtain ⟨oj, hoj, e, he, hb, hon⟩ := Region.waitsFor_spec hk
        have : oj = o := Option.some.inj (hoj.symm.trans ho)
        subst this
        have h3 := hall e he hb
        have hk0 : ls.getD k true = false := by
          rcases hkk with rfl | ⟨hk1, hk2⟩
          · exact hu0
          · exact htl k hk1 (by omega)
        rw [hon, getD_both hk0] at h3
        cases h3
    have hu := (mem_ready.1 hi).1
    have hirem : i ∈ rem := (hmem i hin).1 hu
    have hq2 := hq.2 i ((hready i hin).2 hi)
    have hq3 : wpOp P (l.take n).toArray Q i (wpAny P .any (l.take n).toArray (stagePost P l n Q) f (ls'.setIfInBounds i true)) a w := by
      unfold wpOp at hq2 ⊢
      have hQ' : LetsOut (stagePost P l n Q) → LetsOut Q := fun h => h
      cases ho : (l.take n).toArray[i]? with
      | none => simp only [ho] at hq2 ⊢; exact hq2
      | some o =>
        simp only [ho] at hq2 ⊢
        split
        · rename_i hw
          rw [if_pos hw] at hq2
          rcases hq2 with h | ⟨h1, h2⟩
          · refine .inl ?_
            unfold Oper.wp at *
            generalize (execOp a.eval o).run P w = res at *
            cases res with
            | ok x w' =>
              cases x <;> simp only [Oper.upon] at h ⊢ <;>
                first
                  | exact h
                  | exact Calls.mono h (fun e w'' he => by cases e <;> first | exact he | exact he.elim)
            | halt x w' => cases x <;> simp only [Oper.upon] at h ⊢ <;> first | exact h | exact (h : False).elim
          · exact .inr ⟨h1, hQ' h2⟩
        · rename_i hw
          rw [if_neg hw] at hq2
          exact hq2
    refine wpOp_stage ok hin (wpOp_mono (fun a' w' h' => ?_) hq3)
    refine ih (rem.erase i) (ls.setIfInBounds i true) (ls'.setIfInBounds i true) a' w' ?_ (hnd.erase i) (by simpa using hs) (by simpa using hs') (fun k hk => ?_) (fun k hk => ?_) (fun k hk hk' => ?_) (fun k hk => hlt k (List.mem_of_mem_erase hk)) h'
    · rw [List.length_erase_of_mem hirem]; omega
    · by_cases hki : k = i
      · subst hki
        have h3 : k < ls'.size := by omega
        have h4 : k < ls.size := by omega
        simp [h3, h4]
      · rw [getD_set_ne true (by omega), getD_set_ne true (by omega)]; exact hsame k hk
    · by_cases hki : k = i
      · subst hki
        have h4 : k < ls.size := by omega
        rw [hnd.mem_erase_iff]
        simp [h4]
      · rw [getD_set_ne true (by omega), hmem k hk, hnd.mem_erase_iff]
        simp [hki]
    · rw [getD_set_ne true (by omega)]; exact htl k hk hk'

theorem wpOp_post {ops : Array Oper} {Q' : Exit → Act → World → Prop} {i : Nat} {K K' : Act → World → Prop} (hK : ∀ a w, K a w → K' a w) (hQ : ∀ e a w, Q e a w → Q' e a w) {a : Act} {w : World} (h : wpOp P ops Q i K a w) : wpOp P ops Q' i K' a w := by
  unfold wpOp at h ⊢
  cases ho : ops[i]? with
  | none => simp only [ho] at h ⊢; exact hK _ _ h
  | some o =>
    simp only [ho] at h ⊢
    split
    · rename_i hw
      rw [if_pos hw] at h
      rcases h with h | ⟨h1, a0, w0, h2⟩
      · refine .inl ?_
        unfold Oper.wp at *
        generalize (execOp a.eval o).run P w = res at *
        cases res with
        | ok x w' =>
          cases x <;> simp only [Oper.upon] at h ⊢ <;>
            first
              | exact hK _ _ h
              | exact Calls.mono h (fun e w'' he => by cases e <;> first | exact hK _ _ he | exact hQ _ _ _ he | (obtain ⟨a0, w0, h0⟩ := he; exact ⟨a0, w0, hQ _ _ _ h0⟩))
              | exact Rows.mono h (fun _ _ he => hK _ _ he)
              | exact h
              | exact hQ _ _ _ h
        | halt x w' => cases x <;> simp only [Oper.upon] at h ⊢ <;> first | exact h | exact hQ _ _ _ h | exact (h : False).elim
      · exact .inr ⟨h1, a0, w0, hQ _ _ _ h2⟩
    · rename_i hw
      rw [if_neg hw] at h
      exact hK _ _ h
theorem wpAny_post {ops : Array Oper} {md : Region.Mode} {Q' : Exit → Act → World → Prop} (hQ : ∀ e a w, Q e a w → Q' e a w) : ∀ (f : Nat) (ls : Array Bool) (a : Act) (w : World), wpAny P md ops Q f ls a w → wpAny P md ops Q' f ls a w
  | 0, _, _, _, h => ⟨h.1, hQ _ _ _ h.2⟩
  | f + 1, _, _, _, h => ⟨fun h0 => hQ _ _ _ (h.1 h0), fun i hi => wpOp_post (fun a' w' h' => wpAny_post hQ f _ a' w' h') hQ (h.2 i hi)⟩

/-- The rule. -/
theorem wp_region_stage {id : Nat} {a : Act} {w : World} (S S2 : World → Prop) (n : Nat) (t t2 : Tree) (hm : P.follows .mixedOrders = true) (hB : treeB (l.take n).toArray t = true) (hT : stageB l.toArray n = true)
    (hB2 : (Region.noSelect l.toArray && (t2.count == l.length - n) && treeFrom l.toArray t2 (listedN l n)) = true) (hQ : NoDep Q) (hS : S w.drew)
    (h : wpTree P (l.take n) (l.take n).toArray S (fun e a' w' => match e with | .normal => S2 w' ∧ wpTree P l l.toArray S2 Q t2 a' w' | .panic _ => False | e => Q e a' w') t a w.drew) : (Code.region id l.toArray true).wp P Q a w := by
  have ok := stageOk_of hT
  have le := ok.le
  have htl : (l.take n).length = n := by simp; omega
  simp only [treeB, Bool.and_eq_true, beq_iff_eq] at hB
  obtain ⟨⟨h1, h2⟩, h3⟩ := hB
  simp only [Bool.and_eq_true, beq_iff_eq] at hB2
  obtain ⟨⟨g1, g2⟩, g3⟩ := hB2
  refine wp_region_any hm ?_
  have hq := wpAny_of_held _ _ _ _ (tree_sound (l := l.take n) (Q := fun e a' w' => match e with | .normal => S2 w' ∧ wpTree P l l.toArray S2 Q t2 a' w' | .panic _ => False | e => Q e a' w') h1 (fun _ _ _ _ _ h => h) t _ a w.drew h3 hS h)
  rw [h2] at hq
  have hsz' : (l.take n).toArray.size = n := by simpa using htl
  rw [hsz'] at hq
  have hq' : wpAny P .any (l.take n).toArray (stagePost P l n Q) n (Array.replicate n false) a w.drew := by
    refine wpAny_post (fun e a' w' he => ?_) _ _ _ _ hq
    cases e with
    | normal =>
      obtain ⟨hs2, ht2⟩ := he
      show wpAny P .any l.toArray Q (l.length - n) (listedN l n) a' w'
      rw [← g2]
      exact wpAny_of_held _ _ _ _ (tree_sound g1 hQ t2 _ a' w' g3 hs2 ht2)
    | _ => exact he
  have := wpAny_of_stage (P := P) (Q := Q) ok n (List.range n) (Array.replicate l.toArray.size false) (Array.replicate n false) a w.drew (by simp) List.nodup_range (by simp) (by simp) (fun i hi => ?_) (fun i hi => ?_) (fun i hi hi' => ?_) (fun i hi => by simpa using hi) hq'
  · have hsz : n + (l.length - n) = l.toArray.size := by simp; omega
    rw [hsz] at this
    exact this
  · have h1 : i < l.length := by omega
    simp only [Array.getD, Array.size_replicate, List.size_toArray, h1, hi, dif_pos]
    simp
  · have h1 : i < l.length := by omega
    simp [h1, hi]
  · simp [hi']

end
end Go.Proofs.Ytfmjmabaabmgcaa

namespace Go.Proofs.Ytfmjmabaabmgcaa
open Go.RowKit
set_option maxRecDepth 8000

set_option maxHeartbeats 1000000 in
theorem mtick_broken {w : World} {N : Nat} {vl vp vd : Value} {C : Mdl} (h : GBox w N vl vp vd C) (hbk : C.bk = true) :
    Calls Try.prog 22 #[.pointer (some ⟨N, 0, none⟩)] w fun e w' => e = .returned (.bool false) ∧ Ext w w' := by
  have c11 := Later.cell h.c11
  rw [hbk] at c11
  clear h hbk
  go_enter Try.func22, Try.ntmps22
  go_wp2_with fail
  refine wp_region_later (by kernel_rfl) (by kernel_rfl) ?_
  repeat (go_big_quiet_step (fail))
  refine wpQuiet_nil ?_
  rintro _ ⟨y, rfl⟩
  go_wp2
  go_ret
  exact ⟨rfl, y.ext⟩

set_option maxHeartbeats 1000000 in
theorem mtick_done {w : World} {N : Nat} {vl vp vd : Value} {C : Mdl} (h : GBox w N vl vp vd C) (hm : SlM w vl C.ms) (hbk : C.bk = false) (hi : C.idx = C.ms.length) :
    Calls Try.prog 22 #[.pointer (some ⟨N, 0, none⟩)] w fun e w' => e = .returned (.bool false) ∧ Ext w w' := by
  have c11 := Later.cell h.c11; have c0 := Later.cell h.c0; have c4 := Later.cell h.c4
  rw [hbk] at c11
  obtain ⟨ad, n, cap, b, off, rfl, rfl, -, -, -⟩ := hm
  rw [hi] at c4
  clear h hbk hi
  go_enter Try.func22, Try.ntmps22
  go_wp2_with fail
  refine wp_region_later (by kernel_rfl) (by kernel_rfl) ?_
  repeat (go_big_quiet_step (fail))
  refine wpQuiet_nil ?_
  rintro _ ⟨y, rfl⟩
  go_wp2
  go_ret
  exact ⟨rfl, y.ext⟩

set_option maxHeartbeats 1000000 in
theorem mtick_held {w : World} {N : Nat} {vl vp vd : Value} {C : Mdl} (h : GBox w N vl vp vd C) (hm : SlM w vl C.ms) (hp : SlI w vp C.plan) (hbk : C.bk = false) (hi : C.idx < C.ms.length) (hpl : C.plan = []) (hhd : C.hd = true) :
    Calls Try.prog 22 #[.pointer (some ⟨N, 0, none⟩)] w fun e w' => e = .returned (.bool false) ∧ Ext w w' := by
  have c11 := Later.cell h.c11; have c0 := Later.cell h.c0; have c4 := Later.cell h.c4; have c9 := Later.cell h.c9
  rw [hbk] at c11
  rw [hhd] at c9
  have hK : ∀ x : Later w, Calls Try.prog 43 #[.pointer (some ⟨N, 0, none⟩)] x.w fun e w' => e = .returned (.bool true) ∧ Ext x.w w' := fun x => mrest_any (h.later x.ext) (hp.later x.ext) true (by simp [hpl])
  have HK := Lib.hid hK
  obtain ⟨ad, n, cap, b, off, rfl, rfl, -, -, -⟩ := hm
  clear h hbk hpl hp hhd hK
  have hin : ¬ (C.idx : Int) = (C.ms.length : Int) := by omega
  have hd0 : ((C.idx : Int) == (C.ms.length : Int)) = false := by simpa using hin
  go_enter Try.func22, Try.ntmps22
  go_wp2_with fail
  refine wp_region_later (by kernel_rfl) (by kernel_rfl) ?_
  repeat (go_big_quiet_step ((go_at_call 43; exact Calls.later (HK.out _))))
  refine wpQuiet_nil ?_
  rintro _ ⟨y, rfl⟩
  go_wp2
  go_ret
  exact ⟨rfl, y.ext⟩

end Go.Proofs.Ytfmjmabaabmgcaa

namespace Go.Proofs.Ytfmjmabaabmgcaa
open Go.RowKit
set_option maxRecDepth 8000

/-- A class of worlds by a predicate. -/
def Cls (P : World → Prop) : Type := { w : World // P w }
def Cls.w {P : World → Prop} (x : Cls P) : World := x.1
theorem Cls.p {P : World → Prop} (x : Cls P) : P x.w := x.2
def P10 (N : Nat) (W : World) (v6 v8 : Value) (w' : World) : Prop := Only (fun k => k = N) W w' ∧ w'.cell? ⟨N, 6, none⟩ = some v6 ∧ w'.cell? ⟨N, 8, none⟩ = some v8
def P11 (N : Nat) (W : World) (v6 : Value) (w' : World) : Prop := Only (fun k => k = N) W w' ∧ w'.cell? ⟨N, 6, none⟩ = some v6

/-- A slice within its capacity. -/
def CapV (v : Value) : Prop := ∀ a n c, v = .slice a n c → n ≤ c
theorem SlI.cap_nil {w : World} {v : Value} (h : SlI w v []) : CapV v := by
  obtain ⟨ad, n, cap, b, off, rfl, h2, -, -⟩ := h
  intro a n c e
  cases e
  simp only [List.length_nil] at h2
  omega
theorem Own.cap {B : Nat} {w : World} {v : Value} {l : List Int} (h : Own B w v l) : CapV v := by
  intro a n c hv
  obtain ⟨h1, h2⟩ := h
  rcases h2 with ⟨rfl, h3⟩ | ⟨g, cap, cur, rfl, h3, h4, h5, h6⟩
  · cases hv; omega
  · cases hv; exact h5

/-- What a call that changes the model leaves. -/
def MRetC (w : World) (N : Nat) (vl vp vd : Value) (C' : Mdl) (v : Value) (e : Ending) (w' : World) : Prop :=
  e = .returned v ∧ ∃ vp' vd', GInv w' N vl vp' vd' C' ∧ CapV vp' ∧ Only (fun k => k = N) w w' ∧ (∀ b, vd'.ownBlock = some b → vd.ownBlock = some b ∨ (w.heap.size ≤ b ∧ b < w'.heap.size)) ∧ (∀ b, vp'.ownBlock = some b → vp.ownBlock = some b ∨ (w.heap.size ≤ b ∧ b < w'.heap.size))

theorem SlI.tail {w : World} {b o n c : Nat} {x : Int} {r : List Int} (h : SlI w (.slice (some ⟨b, o, none⟩) (n + 1) c) (x :: r)) : SlI w (.slice (some ⟨b, o + 1, none⟩) n (c - 1)) r := by
  obtain ⟨a, n1, c1, b1, o1, hv, hn, h3, h4⟩ := h
  cases hv
  have e := h3.resolve_left (by omega)
  injection e with e
  injection e with e1 e2
  subst e1 e2
  simp only [List.length_cons] at hn
  refine ⟨_, n, c - 1, b, o + 1, rfl, by omega, .inr rfl, fun i hi => ?_⟩
  obtain ⟨q1, q2⟩ := h4 (i + 1) (by omega)
  refine ⟨q1, ?_⟩
  have e1 : o + (i + 1) = o + 1 + i := by omega
  rw [e1] at q2
  simpa using q2

/-- What the model is asked for. -/
structure Mdl.Can (C : Mdl) : Prop where
  bk : C.bk = false
  i : C.idx < C.ms.length
  n : C.ms.length ≤ 1000000
  r : ∀ i, i < C.ms.length → (C.ms.getD i Mot.zero).rng
  ok : C.ok = true
  dn : C.dn.length ≤ 999999990
  p0 : 0 ≤ C.part
  p1 : C.part ≤ C.cur.len
  p2 : 1 ≤ C.cur.len

set_option maxHeartbeats 8000000 in
theorem mtick_run_false {w : World} {N : Nat} {vl vp vd : Value} {D : Mdl} {x : Int} {r : List Int} (h : GInv w N vl vp vd D) (hcap : CapV vp) (hlp : ∀ b, vp.ownBlock = some b → b < w.heap.size) (hg : D.Can) (hhd : D.hd = false) (x0 : 0 < x) (p1 : D.part + x ≤ D.cur.len) (hpl : D.plan = x :: r) :
    Calls Try.prog 22 #[.pointer (some ⟨N, 0, none⟩)] w (MRetC w N vl vp vd (D.advM x r) (.bool true)) := by
  have HH := Lib.hid h
  have HG := Lib.hid hg
  have hN := h.box.lt
  have c11 := Later.cell h.box.c11; have c0 := Later.cell h.box.c0; have c4 := Later.cell h.box.c4; have c9 := Later.cell h.box.c9
  rw [hg.bk] at c11
  rw [hhd] at c9
  have hK : ∀ w', Ext w w' → Calls Try.prog 43 #[.pointer (some ⟨N, 0, none⟩)] w' fun e w'' => e = .returned (.bool false) ∧ Ext w' w'' := fun w' he => mrest_any (HH.out.later he).box (HH.out.later he).sp false (by simp [hpl])
  have HK := Lib.hid hK
  clear hK
  obtain ⟨ad, n, cap, b, off, hv, hn, h3, -, h4⟩ := h.sl
  have hi := hg.i
  obtain ⟨hb1, hb2⟩ := h4 D.idx (by omega)
  obtain rfl : ad = some ⟨b, off, none⟩ := h3.resolve_left (by omega)
  have hi2 : D.idx < n := by omega
  rw [hv] at c0
  have HV := Lib.hid hv; clear hv
  have hcur : D.ms.getD D.idx Mot.zero = D.cur := rfl
  rw [hcur] at hb2
  have hrg : D.cur.rng := hg.r _ hi
  have hlb := Mot.len_bounds hrg
  have q0 := hg.p0
  clear hcur h3 h4 hn h hg
  have HPL := Lib.hid hpl; clear hpl
  have HLP := Lib.hid hlp; clear hlp
  have HCAP := Lib.hid hcap; clear hcap
  have hin : ¬ (D.idx : Int) = (n : Int) := by omega
  have hd0 : ((D.idx : Int) == (n : Int)) = false := by simpa using hin
  generalize hcr : D.cur = cr at *
  have HCR := Lib.hid hcr; clear hcr
  have HRG := Lib.hid hrg; clear hrg
  go_enter Try.func22, Try.ntmps22
  go_wp2_with fail
  refine wp_region_later (by kernel_rfl) (by kernel_rfl) ?_
  repeat (go_big_quiet_step ((go_at_call 43; exact Calls.later (HK.out _ (Later.ext _)))))
  refine wpQuiet_nil ?_
  rintro _ ⟨y, rfl⟩
  go_wp2_with fail
  have d0 := Later.cell hb2.c0; have d1 := Later.cell hb2.c1; have d2 := Later.cell hb2.c2; have d3 := Later.cell hb2.c3; have d4 := Later.cell hb2.c4; have d5 := Later.cell hb2.c5; have d6 := Later.cell hb2.c6; have d7 := Later.cell hb2.c7; have d8 := Later.cell hb2.c8
  refine wp_region_tree (fun w' => ∃ z : Later w, w' = z.w) 11 (.one [0, 1, 2, 3, 4, 5, 6, 7, 8, 9] 10 (.leaf [])) (by kernel_rfl) (by kernel_rfl) (by kernel_rfl) ⟨⟨_, y.ext.drew⟩, rfl⟩ ?_
  simp only [List.take_succ_cons, List.take_zero]
  refine tree_one fun K hK => ?_
  simp only [List.map_cons, List.map_nil, pickOp, List.getElem?_cons_zero, List.getElem?_cons_succ, Option.getD_some]
  repeat (go_big_quiet_step (fail))
  refine wpQuiet_nil ?_
  go_wp2_with fail
  refine onlyK_normal (hK _ _ ⟨⟨_, (y.ext.drew).alloc _⟩, rfl⟩ ?_); clear hK K
  refine tree_leaf0 ?_
  simp only [List.drop_succ_cons, List.drop_zero]
  go_wp2_with fail
  obtain ⟨W2, hW2, B2, hE2⟩ := M9Box.mk' y.w cr
  rw [hW2]; clear hW2
  have hE2' : Ext w W2.drew := (y.ext.trans hE2).drew
  have B3' := B2.later (Ext.refl W2).drew
  have hM : w.heap.size ≤ y.w.heap.size := y.ext.size
  generalize y.w.heap.size = M at *
  refine (HK.out _ hE2').mono ?_
  rintro e W3 ⟨rfl, hx3⟩
  have hI3 := HH.out.later (hE2'.trans hx3)
  have B4 := B3'.later hx3
  have hO3 : Only (fun k => k = N) w W3 := Only.of_ext (hE2'.trans hx3)
  have HLP3 : Hid (∀ b, vp.ownBlock = some b → vp.ownBlock = some b ∨ (w.heap.size ≤ b ∧ b < W3.heap.size)) := Lib.hid (fun b hb => .inl hb)
  clear c0 c4 c9 c11 d0 d1 d2 d3 d4 d5 d6 d7 d8 B2 B3' hE2 hE2' hx3 y HK hb2
  clear W2
  have hMN : ¬ M = N := by omega
  have hsp := hI3.sp
  rw [HPL.out] at hsp
  obtain ⟨ap, np, cp, bp, op, hvp, hnp, h3p, h4p⟩ := hsp
  obtain ⟨hbp1, hbp2⟩ := h4p 0 (by rw [hnp]; simp)
  obtain rfl : ap = some ⟨bp, op, none⟩ := h3p.resolve_left (by rw [hnp]; simp)
  have hx0 : (x :: r).getD 0 0 = x := rfl
  rw [hx0, Nat.add_zero] at hbp2
  have hcpp := HCAP.out _ _ _ hvp
  simp only [List.length_cons] at hnp
  obtain ⟨n3, rfl⟩ : ∃ n3, np = n3 + 1 := ⟨np - 1, by omega⟩
  have hn3 : n3 = r.length := by omega
  have HN3 := Lib.hid hn3
  have hbpN : ¬ bp = N := fun e => hI3.np (by rw [hvp, e]; rfl)
  have hst : SlI W3 (.slice (some ⟨bp, op, none⟩) (n3 + 1) cp) (x :: r) := by have := hI3.sp; rw [HPL.out, hvp] at this; exact this
  have HST := Lib.hid hst.tail
  have HVP := Lib.hid hvp
  clear hvp hx0 h3p h4p hnp hst hn3
  have c6' : ∀ z : Cls (P10 N W3 (.slice (some ⟨bp, op, none⟩) (n3 + 1) cp) (.int .i64 D.lst)), z.w.cell? ⟨N, 6, none⟩ = some (.slice (some ⟨bp, op, none⟩) (n3 + 1) cp) := fun z => z.p.2.1
  have c8' : ∀ z : Cls (P10 N W3 (.slice (some ⟨bp, op, none⟩) (n3 + 1) cp) (.int .i64 D.lst)), z.w.cell? ⟨N, 8, none⟩ = some (.int .i64 D.lst) := fun z => z.p.2.2
  have dp' : ∀ z : Cls (P10 N W3 (.slice (some ⟨bp, op, none⟩) (n3 + 1) cp) (.int .i64 D.lst)), z.w.cell? ⟨bp, op, none⟩ = some (.int .i64 x) := fun z => by rw [z.p.1.cell hbp1 hbpN]; exact hbp2
  have c6 := hI3.box.c6; have c8 := hI3.box.c8
  rw [HVP.out] at c6
  haveI : Nonempty (Cls (P10 N W3 (.slice (some ⟨bp, op, none⟩) (n3 + 1) cp) (.int .i64 D.lst))) := ⟨⟨W3, Only.refl _ _, c6, c8⟩⟩
  go_wp2_with fail
  refine wp_region_tree (fun w' => ∃ z : Cls (P10 N W3 (.slice (some ⟨bp, op, none⟩) (n3 + 1) cp) (.int .i64 D.lst)), w' = z.w) 15 (.one [0, 1, 2, 3, 4, 5, 6, 7, 8, 9, 10, 11, 12, 13] 14 (.leaf [])) (by kernel_rfl) (by kernel_rfl) (by kernel_rfl) ⟨⟨W3.drew, (Only.refl _ W3).drew, by simpa using c6, by simpa using c8⟩, rfl⟩ ?_
  simp only [List.take_succ_cons, List.take_zero]
  refine tree_one fun K hK => ?_
  simp only [List.map_cons, List.map_nil, pickOp, List.getElem?_cons_zero, List.getElem?_cons_succ, Option.getD_some]
  repeat (go_big_quiet_step (fail))
  refine wpQuiet_nil ?_
  have c7 := hI3.box.c7; have f7 := hI3.box.fr 7; have f8 := hI3.box.fr 8
  go_wp2_with fail
  have hG4 := hI3.box.set_bef D.lst
  have hO4 : Only (fun k => k = N) W3 (W3.setCell ⟨N, 7, none⟩ (.int .i64 D.lst)) := (Only.refl (fun k => k = N) W3).set (.inl rfl) _
  have k6 := hG4.c6; have k8 := hG4.c8
  rw [HVP.out] at k6
  refine onlyK_normal (hK _ _ ⟨⟨_, hO4.drew, by simpa using k6, by simpa using k8⟩, rfl⟩ ?_); clear hK K
  refine tree_leaf0 ?_
  simp only [List.drop_succ_cons, List.drop_zero]
  clear c6 c7 c8 f7 k6 k8 c6' c8' dp'
  generalize W3.setCell ⟨N, 7, none⟩ (.int .i64 D.lst) = W4 at *
  have k8 := hG4.c8; have f8' := hG4.fr 8
  simp only at k8
  go_wp2_with fail
  have hG5 := hG4.set_lst x
  have hO5 : Only (fun k => k = N) W3 (W4.setCell ⟨N, 8, none⟩ (.int .i64 x)) := hO4.set (.inl rfl) _
  clear k8 f8 f8' hG4 hO4
  generalize W4.setCell ⟨N, 8, none⟩ (.int .i64 x) = W5 at *
  clear W4
  have hG6 := hG5.later (Ext.refl W5).drew
  have hO6 : Only (fun k => k = N) W3 W5.drew := hO5.drew
  clear hG5 hO5
  generalize W5.drew = W6 at *
  clear W5
  have c6 := hG6.c6; have c5 := hG6.c5; have f5 := hG6.fr 5; have f6 := hG6.fr 6
  simp only at c5
  rw [HVP.out] at c6
  have ha0 : 0 ≤ D.part + x := by omega
  have ha1 : D.part + x ≤ 40000000 := by omega
  have c6' : ∀ z : Cls (P11 N W6 (.slice (some ⟨bp, op, none⟩) (n3 + 1) cp)), z.w.cell? ⟨N, 6, none⟩ = some (.slice (some ⟨bp, op, none⟩) (n3 + 1) cp) := fun z => z.p.2
  have dp' : ∀ z : Cls (P11 N W6 (.slice (some ⟨bp, op, none⟩) (n3 + 1) cp)), z.w.cell? ⟨bp, op, none⟩ = some (.int .i64 x) := fun z => by rw [z.p.1.cell (Nat.lt_of_lt_of_le hbp1 hO6.size) hbpN, hO6.cell hbp1 hbpN]; exact hbp2
  haveI : Nonempty (Cls (P11 N W6 (.slice (some ⟨bp, op, none⟩) (n3 + 1) cp))) := ⟨⟨W6, Only.refl _ _, c6⟩⟩
  by_cases hcp : cp = 1
  · obtain rfl : n3 = 0 := by omega
    subst hcp
    have e01 : (0 : Nat) + 1 = 1 := rfl
    rw [e01] at c6 c6' dp' this
    refine wp_region_tree (fun w' => ∃ z : Cls (P11 N W6 (.slice (some ⟨bp, op, none⟩) 1 1)), w' = z.w) 21 (.one [0, 1, 2, 3, 4, 6, 7, 8, 9, 10, 11, 13, 14, 15, 16, 17] 5 (.one [12, 18, 19] 20 (.leaf []))) (by kernel_rfl) (by kernel_rfl) (by kernel_rfl) ⟨⟨W6.drew, (Only.refl _ W6).drew, by simpa using c6⟩, rfl⟩ ?_
    simp only [List.take_succ_cons, List.take_zero]
    refine tree_one fun K hK => ?_
    simp only [List.map_cons, List.map_nil, pickOp, List.getElem?_cons_zero, List.getElem?_cons_succ, Option.getD_some]
    repeat (go_big_quiet_step (fail))
    refine wpQuiet_nil ?_
    go_wp2_with fail
    refine onlyK_normal (hK _ _ ⟨⟨W6.drew, (Only.refl _ W6).drew, by simpa using c6⟩, rfl⟩ ?_); clear hK K
    refine tree_one fun K hK => ?_
    simp only [List.map_cons, List.map_nil, pickOp, List.getElem?_cons_zero, List.getElem?_cons_succ, Option.getD_some]
    repeat (go_big_quiet_step (fail))
    refine wpQuiet_nil ?_
    go_wp2_with fail
    have hG7 := hG6.set_part (D.part + x)
    have hO7 : Only (fun k => k = N) W3 (W6.setCell ⟨N, 5, none⟩ (.int .i64 (D.part + x))) := hO6.set (.inl rfl) _
    have hO7' : Only (fun k => k = N) W6 (W6.setCell ⟨N, 5, none⟩ (.int .i64 (D.part + x))) := (Only.refl (fun k => k = N) W6).set (.inl rfl) _
    have k6 := hG7.c6
    rw [HVP.out] at k6
    refine onlyK_normal (hK _ _ ⟨⟨_, hO7'.drew, by simpa using k6⟩, rfl⟩ ?_); clear hK K
    refine tree_leaf0 ?_
    simp only [List.drop_succ_cons, List.drop_zero]
    clear c6 c5 f5 f6 k6 c6' dp' hO7' hO6 hG6
    generalize W6.setCell ⟨N, 5, none⟩ (.int .i64 (D.part + x)) = W7 at *
    have k6 := hG7.c6; have f6 := hG7.fr 6
    rw [HVP.out] at k6
    go_wp2_with fail
    have hG8 := hG7.set_vp (Value.slice (some ⟨bp, op, none⟩) 0 0) r
    have hO8 : Only (fun k => k = N) W3 (W7.setCell ⟨N, 6, none⟩ (Value.slice (some ⟨bp, op, none⟩) 0 0)) := hO7.set (.inl rfl) _
    clear k6 f6 hG7 hO7
    generalize W7.setCell ⟨N, 6, none⟩ (Value.slice (some ⟨bp, op, none⟩) 0 0) = W8 at *
    clear W7
    have hG9 := hG8.later (Ext.refl W8).drew
    have hO9 := hO8.drew
    clear hG8 hO8
    generalize W8.drew = W9 at *
    clear W8
    have hov : (Value.slice (some ⟨bp, op, none⟩) 0 0).ownBlock = some bp := rfl
    have hsr : SlI W9 (Value.slice (some ⟨bp, op, none⟩) 0 0) r := ⟨_, 0, 0, bp, op, rfl, HN3.out, .inl rfl, fun i hi => by omega⟩
    have hcv : CapV (Value.slice (some ⟨bp, op, none⟩) 0 0) := fun a n c e => by cases e; omega
    have hlv : ∀ b, (Value.slice (some ⟨bp, op, none⟩) 0 0).ownBlock = some b → vp.ownBlock = some b ∨ (w.heap.size ≤ b ∧ b < W9.heap.size) := fun b hb => by
      rw [hov] at hb
      rcases HLP3.out b (by rw [HVP.out]; exact hb) with h | h
      · exact .inl h
      · exact .inr ⟨h.1, Nat.lt_of_lt_of_le h.2 hO9.size⟩
    have hnv : (Value.slice (some ⟨bp, op, none⟩) 0 0).ownBlock ≠ some N := fun e => hbpN (by rw [hov] at e; injection e)
    have hI9 : GInv W9 N vl (Value.slice (some ⟨bp, op, none⟩) 0 0) vd { D with bef := D.lst, lst := x, part := D.part + x, plan := r } := ⟨hG9, hI3.sl.only0 hO9 (fun hl b hb e => hI3.nl hl (by rw [hb, e])), hsr, hI3.sd.only hO9 (fun b hb e => hI3.nd (by rw [hb, e])), hI3.nl, hnv, hI3.nd⟩
    have B9 := B4.only hO9 hMN
    have hO9' : Only (fun k => k = N) w W9 := hO3.trans hO9
    clear hG9 hO9 B4 hI3 hO3 hsr hbp1 hbp2 HST HVP HLP3
    have c5 := Later.cell hI9.box.c5
    simp only at c5
    have d0 := Later.cell B9.c0; have d1 := Later.cell B9.c1; have d2 := Later.cell B9.c2; have d3 := Later.cell B9.c3; have d4 := Later.cell B9.c4; have d5 := Later.cell B9.c5; have d6 := Later.cell B9.c6; have d7 := Later.cell B9.c7; have d8 := Later.cell B9.c8
    have kl := fun w => rlength_any cr w HRG.out
    have KL := Lib.hid kl; clear kl
    have HI9 := Lib.hid hI9; have HO9 := Lib.hid hO9'; have HLV := Lib.hid hlv; have HCV := Lib.hid hcv
    clear hI9 hO9' hlv hcv hov hnv
    have hdl : D.dn.length ≤ 999999998 := by have := HG.out.dn; omega
    by_cases hfin : D.part + x = cr.len
    · have hadv : D.advM x r = { Mdl.stopAtM { D with bef := D.lst, lst := x, idx := D.idx + 1, part := 0, plan := [] } cr with idx := skp D.ms (D.idx + 1) } := by unfold Mdl.advM; rw [HCR.out, if_pos hfin]
      have HADV := Lib.hid hadv; clear hadv
      have hfd : (D.part + x == cr.len) = true := by simpa using hfin
      have HFIN := Lib.hid hfin; clear hfin
      refine wp_region_later (by kernel_rfl) (by kernel_rfl) ?_
      repeat (go_big_quiet_step ((go_at_call 16; exact Calls.later (KL.out _))))
      refine wpQuiet_nil ?_
      rintro _ ⟨y, rfl⟩
      have hIy := HI9.out.later y.ext
      have By := B9.later y.ext
      have hOy := HO9.out.trans (Only.of_ext y.ext)
      have hzy : W9.heap.size ≤ y.w.heap.size := y.ext.size
      clear c5 d0 d1 d2 d3 d4 d5 d6 d7 d8 B9 HO9
      generalize y.w = W10 at *
      clear y
      have c4 := hIy.box.c4; have c5 := hIy.box.c5; have c6 := hIy.box.c6; have f4 := hIy.box.fr 4; have f5 := hIy.box.fr 5; have f6 := hIy.box.fr 6
      simp only at c4 c5
      have e0 := By.c0; have e1 := By.c1; have e2 := By.c2; have e3 := By.c3; have e4 := By.c4; have e5 := By.c5; have e6 := By.c6; have e7 := By.c7; have e8 := By.c8
      have hG11 := ((hIy.box.set_idx (D.idx + 1)).set_part 0).set_vp (.slice none 0 0) []
      have hO11 : Only (fun k => k = N) W10 (((W10.setCell ⟨N, 4, none⟩ (.int .i64 ((D.idx + 1 : Nat) : Int))).setCell ⟨N, 5, none⟩ (.int .i64 0)).setCell ⟨N, 6, none⟩ (.slice none 0 0)) := (((Only.refl (fun k => k = N) W10).set (.inl rfl) _).set (.inl rfl) _).set (.inl rfl) _
      have hI11 : GInv (((W10.setCell ⟨N, 4, none⟩ (.int .i64 ((D.idx + 1 : Nat) : Int))).setCell ⟨N, 5, none⟩ (.int .i64 0)).setCell ⟨N, 6, none⟩ (.slice none 0 0)) N vl (.slice none 0 0) vd { D with bef := D.lst, lst := x, idx := D.idx + 1, part := 0, plan := [] } := ⟨hG11, hIy.sl.only0 hO11 (fun hl b hb e => hIy.nl hl (by rw [hb, e])), nilI _, hIy.sd.only hO11 (fun b hb e => hIy.nd (by rw [hb, e])), hIy.nl, (by intro h; cases h), hIy.nd⟩
      rw [show ((D.idx + 1 : Nat) : Int) = (D.idx : Int) + 1 by omega] at hI11 hO11
      have ks := mstopAt_any cr hI11 hdl
      have hO11' := hOy.trans hO11
      have hz11 := hO11.size
      have hil : (D.idx : Int) + 1 ≤ 1000000 := by have := HG.out.i; have := HG.out.n; omega
      have KS := Lib.hid ks; have HO11 := Lib.hid hO11'
      clear ks hG11 hI11 hO11 hO11' hIy By
      go_wp2_with fail
      refine KS.out.mono ?_
      rintro e w12 ⟨rfl, vp12, vd12, hI12, hO12, hd12, hp12⟩
      have kk := mskip_any hI12.box hI12.sl hI12.nl HG.out.r (Nat.le_trans HG.out.n (by decide)) (show D.idx + 1 ≤ D.ms.length from HG.out.i)
      have HI12 := Lib.hid hI12; have KK := Lib.hid kk
      clear c4 c5 c6 f4 f5 f6 e0 e1 e2 e3 e4 e5 e6 e7 e8 KS hI12 kk
      go_wp2_with fail
      refine KK.out.mono ?_
      rintro e w13 ⟨rfl, hG13, hO13⟩
      have HG13 := Lib.hid hG13
      clear hG13 KK
      go_wp2
      go_ret
      rw [HADV.out]
      exact ⟨rfl, vp12, vd12, ⟨HG13.out, HI12.out.sl.only0 hO13 (fun hl b hb e => HI12.out.nl hl (by rw [hb, e])), HI12.out.sp.only hO13 (fun b hb e => HI12.out.np (by rw [hb, e])), HI12.out.sd.only hO13 (fun b hb e => HI12.out.nd (by rw [hb, e])), HI12.out.nl, HI12.out.np, HI12.out.nd⟩, SlI.cap_nil (w := w12) HI12.out.sp, HO11.out.trans (hO12.trans hO13), fun b hb => (hd12 b hb).imp id (fun h => ⟨Nat.le_trans HO11.out.size h.1, Nat.lt_of_lt_of_le h.2 hO13.size⟩), fun b hb => (hp12 b hb).elim (fun h => by cases h) (fun h => .inr ⟨Nat.le_trans HO11.out.size h.1, Nat.lt_of_lt_of_le h.2 hO13.size⟩)⟩
    · have hfd : (D.part + x == cr.len) = false := by simpa using hfin
      refine wp_region_later (by kernel_rfl) (by kernel_rfl) ?_
      repeat (go_big_quiet_step ((go_at_call 16; exact Calls.later (KL.out _))))
      refine wpQuiet_nil ?_
      rintro _ ⟨y, rfl⟩
      have hIy := HI9.out.later y.ext
      have By := B9.later y.ext
      have hOy := HO9.out.trans (Only.of_ext y.ext)
      have hzy : W9.heap.size ≤ y.w.heap.size := y.ext.size
      clear c5 d0 d1 d2 d3 d4 d5 d6 d7 d8 B9 HO9
      generalize y.w = W10 at *
      clear y
      by_cases hr0 : r = []
      · have hadv : D.advM x r = Mdl.stopM { D with bef := D.lst, lst := x, part := D.part + x, plan := r } cr := by unfold Mdl.advM; rw [HCR.out, if_neg hfin, if_pos hr0]
        have HADV := Lib.hid hadv; clear hadv
        have kr := mrest_any hIy.box hIy.sp true (by simp [hr0])
        have HR0 := Lib.hid hr0; have HIY := Lib.hid hIy; have HOY := Lib.hid hOy
        clear hr0 hIy hOy
        go_wp2_with fail
        refine kr.mono ?_
        rintro e w11 ⟨rfl, hx11⟩
        clear kr
        have Bz := By.later hx11
        have e0 := Bz.c0; have e1 := Bz.c1; have e2 := Bz.c2; have e3 := Bz.c3; have e4 := Bz.c4; have e5 := Bz.c5; have e6 := Bz.c6; have e7 := Bz.c7; have e8 := Bz.c8
        have kst := mstop_any cr (HIY.out.later hx11) ⟨Nat.le_of_lt HG.out.i, Nat.le_trans HG.out.n (by decide), fun hi => HG.out.r _ hi, fun _ => ha0, fun _ => (by show D.part + x ≤ D.cur.len; rw [HCR.out]; exact p1), fun _ => HG.out.p2, HG.out.ok⟩ hdl (fun b hb => (HLV.out b hb).elim (fun h => Nat.lt_of_lt_of_le (HLP.out b h) (Nat.le_trans HOY.out.size hx11.size)) (fun h => Nat.lt_of_lt_of_le h.2 (Nat.le_trans hzy hx11.size)))
        have KST := Lib.hid kst; clear kst
        have hO11 := HOY.out.trans (Only.of_ext hx11)
        go_wp2_with fail
        refine KST.out.mono ?_
        rintro e w12 ⟨rfl, vp12, vd12, hI12, hO12, hd12, hp12⟩
        have HI12 := Lib.hid hI12
        clear e0 e1 e2 e3 e4 e5 e6 e7 e8 hI12 KST
        go_wp2
        go_ret
        rw [HADV.out]
        exact ⟨rfl, vp12, vd12, HI12.out, SlI.cap_nil (w := w12) (by have := HI12.out.sp; rw [show (Mdl.stopM { D with bef := D.lst, lst := x, part := D.part + x, plan := r } cr).plan = [] from HR0.out] at this; exact this), hO11.trans hO12, fun b hb => (hd12 b hb).imp id (fun h => ⟨Nat.le_trans hO11.size h.1, h.2⟩), fun b hb => (hp12 b hb).elim (fun h => (HLV.out b h).imp id (fun h => ⟨h.1, Nat.lt_of_lt_of_le h.2 (Nat.le_trans hzy (Nat.le_trans hx11.size hO12.size))⟩)) (fun h => .inr ⟨Nat.le_trans hO11.size h.1, h.2⟩)⟩
      · have hadv : D.advM x r = { D with bef := D.lst, lst := x, part := D.part + x, plan := r } := by unfold Mdl.advM; rw [HCR.out, if_neg hfin, if_neg hr0]
        have HADV := Lib.hid hadv; clear hadv
        have kr := mrest_any hIy.box hIy.sp false (by simp [hr0])
        have HIY := Lib.hid hIy; have HOY := Lib.hid hOy
        clear hr0 hIy hOy
        go_wp2_with fail
        refine kr.mono ?_
        rintro e w11 ⟨rfl, hx11⟩
        clear kr
        go_wp2
        go_ret
        rw [HADV.out]
        exact ⟨rfl, _, vd, HIY.out.later hx11, HCV.out, HOY.out.trans (Only.of_ext hx11), fun b hb => .inl hb, fun b hb => (HLV.out b hb).imp id (fun h => ⟨h.1, Nat.lt_of_lt_of_le h.2 (Nat.le_trans hzy hx11.size)⟩)⟩
  · refine wp_region_tree (fun w' => ∃ z : Cls (P11 N W6 (.slice (some ⟨bp, op, none⟩) (n3 + 1) cp)), w' = z.w) 21 (.one [0, 1, 2, 3, 4, 6, 7, 8, 9, 10, 11, 13, 14, 15, 16, 17] 5 (.one [12, 18, 19] 20 (.leaf []))) (by kernel_rfl) (by kernel_rfl) (by kernel_rfl) ⟨⟨W6.drew, (Only.refl _ W6).drew, by simpa using c6⟩, rfl⟩ ?_
    simp only [List.take_succ_cons, List.take_zero]
    refine tree_one fun K hK => ?_
    simp only [List.map_cons, List.map_nil, pickOp, List.getElem?_cons_zero, List.getElem?_cons_succ, Option.getD_some]
    repeat (go_big_quiet_step (fail))
    refine wpQuiet_nil ?_
    go_wp2_with fail
    refine onlyK_normal (hK _ _ ⟨⟨W6.drew, (Only.refl _ W6).drew, by simpa using c6⟩, rfl⟩ ?_); clear hK K
    refine tree_one fun K hK => ?_
    simp only [List.map_cons, List.map_nil, pickOp, List.getElem?_cons_zero, List.getElem?_cons_succ, Option.getD_some]
    repeat (go_big_quiet_step (fail))
    refine wpQuiet_nil ?_
    go_wp2_with fail
    have hG7 := hG6.set_part (D.part + x)
    have hO7 : Only (fun k => k = N) W3 (W6.setCell ⟨N, 5, none⟩ (.int .i64 (D.part + x))) := hO6.set (.inl rfl) _
    have hO7' : Only (fun k => k = N) W6 (W6.setCell ⟨N, 5, none⟩ (.int .i64 (D.part + x))) := (Only.refl (fun k => k = N) W6).set (.inl rfl) _
    have k6 := hG7.c6
    rw [HVP.out] at k6
    refine onlyK_normal (hK _ _ ⟨⟨_, hO7'.drew, by simpa using k6⟩, rfl⟩ ?_); clear hK K
    refine tree_leaf0 ?_
    simp only [List.drop_succ_cons, List.drop_zero]
    clear c6 c5 f5 f6 k6 c6' dp' hO7' hO6 hG6
    generalize W6.setCell ⟨N, 5, none⟩ (.int .i64 (D.part + x)) = W7 at *
    have k6 := hG7.c6; have f6 := hG7.fr 6
    rw [HVP.out] at k6
    go_wp2_with fail
    have hG8 := hG7.set_vp (Value.slice (some ⟨bp, op + 1, none⟩) n3 (cp - 1)) r
    have hO8 : Only (fun k => k = N) W3 (W7.setCell ⟨N, 6, none⟩ (Value.slice (some ⟨bp, op + 1, none⟩) n3 (cp - 1))) := hO7.set (.inl rfl) _
    clear k6 f6 hG7 hO7
    generalize W7.setCell ⟨N, 6, none⟩ (Value.slice (some ⟨bp, op + 1, none⟩) n3 (cp - 1)) = W8 at *
    clear W7
    have hG9 := hG8.later (Ext.refl W8).drew
    have hO9 := hO8.drew
    clear hG8 hO8
    generalize W8.drew = W9 at *
    clear W8
    have hov : (Value.slice (some ⟨bp, op + 1, none⟩) n3 (cp - 1)).ownBlock = some bp := rfl
    have hsr : SlI W9 (Value.slice (some ⟨bp, op + 1, none⟩) n3 (cp - 1)) r := HST.out.only hO9 (fun b hb e => hbpN (by rw [hov] at hb; injection hb with hb; rw [hb]; exact e))
    have hcv : CapV (Value.slice (some ⟨bp, op + 1, none⟩) n3 (cp - 1)) := fun a n c e => by cases e; omega
    have hlv : ∀ b, (Value.slice (some ⟨bp, op + 1, none⟩) n3 (cp - 1)).ownBlock = some b → vp.ownBlock = some b ∨ (w.heap.size ≤ b ∧ b < W9.heap.size) := fun b hb => by
      rw [hov] at hb
      rcases HLP3.out b (by rw [HVP.out]; exact hb) with h | h
      · exact .inl h
      · exact .inr ⟨h.1, Nat.lt_of_lt_of_le h.2 hO9.size⟩
    have hnv : (Value.slice (some ⟨bp, op + 1, none⟩) n3 (cp - 1)).ownBlock ≠ some N := fun e => hbpN (by rw [hov] at e; injection e)
    have hI9 : GInv W9 N vl (Value.slice (some ⟨bp, op + 1, none⟩) n3 (cp - 1)) vd { D with bef := D.lst, lst := x, part := D.part + x, plan := r } := ⟨hG9, hI3.sl.only0 hO9 (fun hl b hb e => hI3.nl hl (by rw [hb, e])), hsr, hI3.sd.only hO9 (fun b hb e => hI3.nd (by rw [hb, e])), hI3.nl, hnv, hI3.nd⟩
    have B9 := B4.only hO9 hMN
    have hO9' : Only (fun k => k = N) w W9 := hO3.trans hO9
    clear hG9 hO9 B4 hI3 hO3 hsr hbp1 hbp2 HST HVP HLP3
    have c5 := Later.cell hI9.box.c5
    simp only at c5
    have d0 := Later.cell B9.c0; have d1 := Later.cell B9.c1; have d2 := Later.cell B9.c2; have d3 := Later.cell B9.c3; have d4 := Later.cell B9.c4; have d5 := Later.cell B9.c5; have d6 := Later.cell B9.c6; have d7 := Later.cell B9.c7; have d8 := Later.cell B9.c8
    have kl := fun w => rlength_any cr w HRG.out
    have KL := Lib.hid kl; clear kl
    have HI9 := Lib.hid hI9; have HO9 := Lib.hid hO9'; have HLV := Lib.hid hlv; have HCV := Lib.hid hcv
    clear hI9 hO9' hlv hcv hov hnv
    have hdl : D.dn.length ≤ 999999998 := by have := HG.out.dn; omega
    by_cases hfin : D.part + x = cr.len
    · have hadv : D.advM x r = { Mdl.stopAtM { D with bef := D.lst, lst := x, idx := D.idx + 1, part := 0, plan := [] } cr with idx := skp D.ms (D.idx + 1) } := by unfold Mdl.advM; rw [HCR.out, if_pos hfin]
      have HADV := Lib.hid hadv; clear hadv
      have hfd : (D.part + x == cr.len) = true := by simpa using hfin
      have HFIN := Lib.hid hfin; clear hfin
      refine wp_region_later (by kernel_rfl) (by kernel_rfl) ?_
      repeat (go_big_quiet_step ((go_at_call 16; exact Calls.later (KL.out _))))
      refine wpQuiet_nil ?_
      rintro _ ⟨y, rfl⟩
      have hIy := HI9.out.later y.ext
      have By := B9.later y.ext
      have hOy := HO9.out.trans (Only.of_ext y.ext)
      have hzy : W9.heap.size ≤ y.w.heap.size := y.ext.size
      clear c5 d0 d1 d2 d3 d4 d5 d6 d7 d8 B9 HO9
      generalize y.w = W10 at *
      clear y
      have c4 := hIy.box.c4; have c5 := hIy.box.c5; have c6 := hIy.box.c6; have f4 := hIy.box.fr 4; have f5 := hIy.box.fr 5; have f6 := hIy.box.fr 6
      simp only at c4 c5
      have e0 := By.c0; have e1 := By.c1; have e2 := By.c2; have e3 := By.c3; have e4 := By.c4; have e5 := By.c5; have e6 := By.c6; have e7 := By.c7; have e8 := By.c8
      have hG11 := ((hIy.box.set_idx (D.idx + 1)).set_part 0).set_vp (.slice none 0 0) []
      have hO11 : Only (fun k => k = N) W10 (((W10.setCell ⟨N, 4, none⟩ (.int .i64 ((D.idx + 1 : Nat) : Int))).setCell ⟨N, 5, none⟩ (.int .i64 0)).setCell ⟨N, 6, none⟩ (.slice none 0 0)) := (((Only.refl (fun k => k = N) W10).set (.inl rfl) _).set (.inl rfl) _).set (.inl rfl) _
      have hI11 : GInv (((W10.setCell ⟨N, 4, none⟩ (.int .i64 ((D.idx + 1 : Nat) : Int))).setCell ⟨N, 5, none⟩ (.int .i64 0)).setCell ⟨N, 6, none⟩ (.slice none 0 0)) N vl (.slice none 0 0) vd { D with bef := D.lst, lst := x, idx := D.idx + 1, part := 0, plan := [] } := ⟨hG11, hIy.sl.only0 hO11 (fun hl b hb e => hIy.nl hl (by rw [hb, e])), nilI _, hIy.sd.only hO11 (fun b hb e => hIy.nd (by rw [hb, e])), hIy.nl, (by intro h; cases h), hIy.nd⟩
      rw [show ((D.idx + 1 : Nat) : Int) = (D.idx : Int) + 1 by omega] at hI11 hO11
      have ks := mstopAt_any cr hI11 hdl
      have hO11' := hOy.trans hO11
      have hz11 := hO11.size
      have hil : (D.idx : Int) + 1 ≤ 1000000 := by have := HG.out.i; have := HG.out.n; omega
      have KS := Lib.hid ks; have HO11 := Lib.hid hO11'
      clear ks hG11 hI11 hO11 hO11' hIy By
      go_wp2_with fail
      refine KS.out.mono ?_
      rintro e w12 ⟨rfl, vp12, vd12, hI12, hO12, hd12, hp12⟩
      have kk := mskip_any hI12.box hI12.sl hI12.nl HG.out.r (Nat.le_trans HG.out.n (by decide)) (show D.idx + 1 ≤ D.ms.length from HG.out.i)
      have HI12 := Lib.hid hI12; have KK := Lib.hid kk
      clear c4 c5 c6 f4 f5 f6 e0 e1 e2 e3 e4 e5 e6 e7 e8 KS hI12 kk
      go_wp2_with fail
      refine KK.out.mono ?_
      rintro e w13 ⟨rfl, hG13, hO13⟩
      have HG13 := Lib.hid hG13
      clear hG13 KK
      go_wp2
      go_ret
      rw [HADV.out]
      exact ⟨rfl, vp12, vd12, ⟨HG13.out, HI12.out.sl.only0 hO13 (fun hl b hb e => HI12.out.nl hl (by rw [hb, e])), HI12.out.sp.only hO13 (fun b hb e => HI12.out.np (by rw [hb, e])), HI12.out.sd.only hO13 (fun b hb e => HI12.out.nd (by rw [hb, e])), HI12.out.nl, HI12.out.np, HI12.out.nd⟩, SlI.cap_nil (w := w12) HI12.out.sp, HO11.out.trans (hO12.trans hO13), fun b hb => (hd12 b hb).imp id (fun h => ⟨Nat.le_trans HO11.out.size h.1, Nat.lt_of_lt_of_le h.2 hO13.size⟩), fun b hb => (hp12 b hb).elim (fun h => by cases h) (fun h => .inr ⟨Nat.le_trans HO11.out.size h.1, Nat.lt_of_lt_of_le h.2 hO13.size⟩)⟩
    · have hfd : (D.part + x == cr.len) = false := by simpa using hfin
      refine wp_region_later (by kernel_rfl) (by kernel_rfl) ?_
      repeat (go_big_quiet_step ((go_at_call 16; exact Calls.later (KL.out _))))
      refine wpQuiet_nil ?_
      rintro _ ⟨y, rfl⟩
      have hIy := HI9.out.later y.ext
      have By := B9.later y.ext
      have hOy := HO9.out.trans (Only.of_ext y.ext)
      have hzy : W9.heap.size ≤ y.w.heap.size := y.ext.size
      clear c5 d0 d1 d2 d3 d4 d5 d6 d7 d8 B9 HO9
      generalize y.w = W10 at *
      clear y
      by_cases hr0 : r = []
      · have hadv : D.advM x r = Mdl.stopM { D with bef := D.lst, lst := x, part := D.part + x, plan := r } cr := by unfold Mdl.advM; rw [HCR.out, if_neg hfin, if_pos hr0]
        have HADV := Lib.hid hadv; clear hadv
        have kr := mrest_any hIy.box hIy.sp true (by simp [hr0])
        have HR0 := Lib.hid hr0; have HIY := Lib.hid hIy; have HOY := Lib.hid hOy
        clear hr0 hIy hOy
        go_wp2_with fail
        refine kr.mono ?_
        rintro e w11 ⟨rfl, hx11⟩
        clear kr
        have Bz := By.later hx11
        have e0 := Bz.c0; have e1 := Bz.c1; have e2 := Bz.c2; have e3 := Bz.c3; have e4 := Bz.c4; have e5 := Bz.c5; have e6 := Bz.c6; have e7 := Bz.c7; have e8 := Bz.c8
        have kst := mstop_any cr (HIY.out.later hx11) ⟨Nat.le_of_lt HG.out.i, Nat.le_trans HG.out.n (by decide), fun hi => HG.out.r _ hi, fun _ => ha0, fun _ => (by show D.part + x ≤ D.cur.len; rw [HCR.out]; exact p1), fun _ => HG.out.p2, HG.out.ok⟩ hdl (fun b hb => (HLV.out b hb).elim (fun h => Nat.lt_of_lt_of_le (HLP.out b h) (Nat.le_trans HOY.out.size hx11.size)) (fun h => Nat.lt_of_lt_of_le h.2 (Nat.le_trans hzy hx11.size)))
        have KST := Lib.hid kst; clear kst
        have hO11 := HOY.out.trans (Only.of_ext hx11)
        go_wp2_with fail
        refine KST.out.mono ?_
        rintro e w12 ⟨rfl, vp12, vd12, hI12, hO12, hd12, hp12⟩
        have HI12 := Lib.hid hI12
        clear e0 e1 e2 e3 e4 e5 e6 e7 e8 hI12 KST
        go_wp2
        go_ret
        rw [HADV.out]
        exact ⟨rfl, vp12, vd12, HI12.out, SlI.cap_nil (w := w12) (by have := HI12.out.sp; rw [show (Mdl.stopM { D with bef := D.lst, lst := x, part := D.part + x, plan := r } cr).plan = [] from HR0.out] at this; exact this), hO11.trans hO12, fun b hb => (hd12 b hb).imp id (fun h => ⟨Nat.le_trans hO11.size h.1, h.2⟩), fun b hb => (hp12 b hb).elim (fun h => (HLV.out b h).imp id (fun h => ⟨h.1, Nat.lt_of_lt_of_le h.2 (Nat.le_trans hzy (Nat.le_trans hx11.size hO12.size))⟩)) (fun h => .inr ⟨Nat.le_trans hO11.size h.1, h.2⟩)⟩
      · have hadv : D.advM x r = { D with bef := D.lst, lst := x, part := D.part + x, plan := r } := by unfold Mdl.advM; rw [HCR.out, if_neg hfin, if_neg hr0]
        have HADV := Lib.hid hadv; clear hadv
        have kr := mrest_any hIy.box hIy.sp false (by simp [hr0])
        have HIY := Lib.hid hIy; have HOY := Lib.hid hOy
        clear hr0 hIy hOy
        go_wp2_with fail
        refine kr.mono ?_
        rintro e w11 ⟨rfl, hx11⟩
        clear kr
        go_wp2
        go_ret
        rw [HADV.out]
        exact ⟨rfl, _, vd, HIY.out.later hx11, HCV.out, HOY.out.trans (Only.of_ext hx11), fun b hb => .inl hb, fun b hb => (HLV.out b hb).imp id (fun h => ⟨h.1, Nat.lt_of_lt_of_le h.2 (Nat.le_trans hzy hx11.size)⟩)⟩

set_option maxHeartbeats 8000000 in
theorem mtick_run_true {w : World} {N : Nat} {vl vp vd : Value} {D : Mdl} {x : Int} {r : List Int} (h : GInv w N vl vp vd D) (hcap : CapV vp) (hlp : ∀ b, vp.ownBlock = some b → b < w.heap.size) (hg : D.Can) (hhd : D.hd = true) (x0 : 0 < x) (p1 : D.part + x ≤ D.cur.len) (hpl : D.plan = x :: r) :
    Calls Try.prog 22 #[.pointer (some ⟨N, 0, none⟩)] w (MRetC w N vl vp vd (D.advM x r) (.bool true)) := by
  have HH := Lib.hid h
  have HG := Lib.hid hg
  have hN := h.box.lt
  have c11 := Later.cell h.box.c11; have c0 := Later.cell h.box.c0; have c4 := Later.cell h.box.c4; have c9 := Later.cell h.box.c9
  rw [hg.bk] at c11
  rw [hhd] at c9
  have hK : ∀ w', Ext w w' → Calls Try.prog 43 #[.pointer (some ⟨N, 0, none⟩)] w' fun e w'' => e = .returned (.bool false) ∧ Ext w' w'' := fun w' he => mrest_any (HH.out.later he).box (HH.out.later he).sp false (by simp [hpl])
  have HK := Lib.hid hK
  clear hK
  obtain ⟨ad, n, cap, b, off, hv, hn, h3, -, h4⟩ := h.sl
  have hi := hg.i
  obtain ⟨hb1, hb2⟩ := h4 D.idx (by omega)
  obtain rfl : ad = some ⟨b, off, none⟩ := h3.resolve_left (by omega)
  have hi2 : D.idx < n := by omega
  rw [hv] at c0
  have HV := Lib.hid hv; clear hv
  have hcur : D.ms.getD D.idx Mot.zero = D.cur := rfl
  rw [hcur] at hb2
  have hrg : D.cur.rng := hg.r _ hi
  have hlb := Mot.len_bounds hrg
  have q0 := hg.p0
  clear hcur h3 h4 hn h hg
  have HPL := Lib.hid hpl; clear hpl
  have HLP := Lib.hid hlp; clear hlp
  have HCAP := Lib.hid hcap; clear hcap
  have hin : ¬ (D.idx : Int) = (n : Int) := by omega
  have hd0 : ((D.idx : Int) == (n : Int)) = false := by simpa using hin
  generalize hcr : D.cur = cr at *
  have HCR := Lib.hid hcr; clear hcr
  have HRG := Lib.hid hrg; clear hrg
  go_enter Try.func22, Try.ntmps22
  go_wp2_with fail
  refine wp_region_later (by kernel_rfl) (by kernel_rfl) ?_
  repeat (go_big_quiet_step ((go_at_call 43; exact Calls.later (HK.out _ (Later.ext _)))))
  refine wpQuiet_nil ?_
  rintro _ ⟨y, rfl⟩
  go_wp2_with fail
  have d0 := Later.cell hb2.c0; have d1 := Later.cell hb2.c1; have d2 := Later.cell hb2.c2; have d3 := Later.cell hb2.c3; have d4 := Later.cell hb2.c4; have d5 := Later.cell hb2.c5; have d6 := Later.cell hb2.c6; have d7 := Later.cell hb2.c7; have d8 := Later.cell hb2.c8
  refine wp_region_tree (fun w' => ∃ z : Later w, w' = z.w) 11 (.one [0, 1, 2, 3, 4, 5, 6, 7, 8, 9] 10 (.leaf [])) (by kernel_rfl) (by kernel_rfl) (by kernel_rfl) ⟨⟨_, y.ext.drew⟩, rfl⟩ ?_
  simp only [List.take_succ_cons, List.take_zero]
  refine tree_one fun K hK => ?_
  simp only [List.map_cons, List.map_nil, pickOp, List.getElem?_cons_zero, List.getElem?_cons_succ, Option.getD_some]
  repeat (go_big_quiet_step (fail))
  refine wpQuiet_nil ?_
  go_wp2_with fail
  refine onlyK_normal (hK _ _ ⟨⟨_, (y.ext.drew).alloc _⟩, rfl⟩ ?_); clear hK K
  refine tree_leaf0 ?_
  simp only [List.drop_succ_cons, List.drop_zero]
  go_wp2_with fail
  obtain ⟨W2, hW2, B2, hE2⟩ := M9Box.mk' y.w cr
  rw [hW2]; clear hW2
  have hE2' : Ext w W2.drew := (y.ext.trans hE2).drew
  have B3' := B2.later (Ext.refl W2).drew
  have hM : w.heap.size ≤ y.w.heap.size := y.ext.size
  generalize y.w.heap.size = M at *
  refine (HK.out _ hE2').mono ?_
  rintro e W3 ⟨rfl, hx3⟩
  have hI3 := HH.out.later (hE2'.trans hx3)
  have B4 := B3'.later hx3
  have hO3 : Only (fun k => k = N) w W3 := Only.of_ext (hE2'.trans hx3)
  have HLP3 : Hid (∀ b, vp.ownBlock = some b → vp.ownBlock = some b ∨ (w.heap.size ≤ b ∧ b < W3.heap.size)) := Lib.hid (fun b hb => .inl hb)
  clear c0 c4 c9 c11 d0 d1 d2 d3 d4 d5 d6 d7 d8 B2 B3' hE2 hE2' hx3 y HK hb2
  clear W2
  have hMN : ¬ M = N := by omega
  have hsp := hI3.sp
  rw [HPL.out] at hsp
  obtain ⟨ap, np, cp, bp, op, hvp, hnp, h3p, h4p⟩ := hsp
  obtain ⟨hbp1, hbp2⟩ := h4p 0 (by rw [hnp]; simp)
  obtain rfl : ap = some ⟨bp, op, none⟩ := h3p.resolve_left (by rw [hnp]; simp)
  have hx0 : (x :: r).getD 0 0 = x := rfl
  rw [hx0, Nat.add_zero] at hbp2
  have hcpp := HCAP.out _ _ _ hvp
  simp only [List.length_cons] at hnp
  obtain ⟨n3, rfl⟩ : ∃ n3, np = n3 + 1 := ⟨np - 1, by omega⟩
  have hn3 : n3 = r.length := by omega
  have HN3 := Lib.hid hn3
  have hbpN : ¬ bp = N := fun e => hI3.np (by rw [hvp, e]; rfl)
  have hst : SlI W3 (.slice (some ⟨bp, op, none⟩) (n3 + 1) cp) (x :: r) := by have := hI3.sp; rw [HPL.out, hvp] at this; exact this
  have HST := Lib.hid hst.tail
  have HVP := Lib.hid hvp
  clear hvp hx0 h3p h4p hnp hst hn3
  have c6' : ∀ z : Cls (P10 N W3 (.slice (some ⟨bp, op, none⟩) (n3 + 1) cp) (.int .i64 D.lst)), z.w.cell? ⟨N, 6, none⟩ = some (.slice (some ⟨bp, op, none⟩) (n3 + 1) cp) := fun z => z.p.2.1
  have c8' : ∀ z : Cls (P10 N W3 (.slice (some ⟨bp, op, none⟩) (n3 + 1) cp) (.int .i64 D.lst)), z.w.cell? ⟨N, 8, none⟩ = some (.int .i64 D.lst) := fun z => z.p.2.2
  have dp' : ∀ z : Cls (P10 N W3 (.slice (some ⟨bp, op, none⟩) (n3 + 1) cp) (.int .i64 D.lst)), z.w.cell? ⟨bp, op, none⟩ = some (.int .i64 x) := fun z => by rw [z.p.1.cell hbp1 hbpN]; exact hbp2
  have c6 := hI3.box.c6; have c8 := hI3.box.c8
  rw [HVP.out] at c6
  haveI : Nonempty (Cls (P10 N W3 (.slice (some ⟨bp, op, none⟩) (n3 + 1) cp) (.int .i64 D.lst))) := ⟨⟨W3, Only.refl _ _, c6, c8⟩⟩
  go_wp2_with fail
  refine wp_region_tree (fun w' => ∃ z : Cls (P10 N W3 (.slice (some ⟨bp, op, none⟩) (n3 + 1) cp) (.int .i64 D.lst)), w' = z.w) 15 (.one [0, 1, 2, 3, 4, 5, 6, 7, 8, 9, 10, 11, 12, 13] 14 (.leaf [])) (by kernel_rfl) (by kernel_rfl) (by kernel_rfl) ⟨⟨W3.drew, (Only.refl _ W3).drew, by simpa using c6, by simpa using c8⟩, rfl⟩ ?_
  simp only [List.take_succ_cons, List.take_zero]
  refine tree_one fun K hK => ?_
  simp only [List.map_cons, List.map_nil, pickOp, List.getElem?_cons_zero, List.getElem?_cons_succ, Option.getD_some]
  repeat (go_big_quiet_step (fail))
  refine wpQuiet_nil ?_
  have c7 := hI3.box.c7; have f7 := hI3.box.fr 7; have f8 := hI3.box.fr 8
  go_wp2_with fail
  have hG4 := hI3.box.set_bef D.lst
  have hO4 : Only (fun k => k = N) W3 (W3.setCell ⟨N, 7, none⟩ (.int .i64 D.lst)) := (Only.refl (fun k => k = N) W3).set (.inl rfl) _
  have k6 := hG4.c6; have k8 := hG4.c8
  rw [HVP.out] at k6
  refine onlyK_normal (hK _ _ ⟨⟨_, hO4.drew, by simpa using k6, by simpa using k8⟩, rfl⟩ ?_); clear hK K
  refine tree_leaf0 ?_
  simp only [List.drop_succ_cons, List.drop_zero]
  clear c6 c7 c8 f7 k6 k8 c6' c8' dp'
  generalize W3.setCell ⟨N, 7, none⟩ (.int .i64 D.lst) = W4 at *
  have k8 := hG4.c8; have f8' := hG4.fr 8
  simp only at k8
  go_wp2_with fail
  have hG5 := hG4.set_lst x
  have hO5 : Only (fun k => k = N) W3 (W4.setCell ⟨N, 8, none⟩ (.int .i64 x)) := hO4.set (.inl rfl) _
  clear k8 f8 f8' hG4 hO4
  generalize W4.setCell ⟨N, 8, none⟩ (.int .i64 x) = W5 at *
  clear W4
  have hG6 := hG5.later (Ext.refl W5).drew
  have hO6 : Only (fun k => k = N) W3 W5.drew := hO5.drew
  clear hG5 hO5
  generalize W5.drew = W6 at *
  clear W5
  have c6 := hG6.c6; have c5 := hG6.c5; have f5 := hG6.fr 5; have f6 := hG6.fr 6
  simp only at c5
  rw [HVP.out] at c6
  have ha0 : 0 ≤ D.part + x := by omega
  have ha1 : D.part + x ≤ 40000000 := by omega
  have c6' : ∀ z : Cls (P11 N W6 (.slice (some ⟨bp, op, none⟩) (n3 + 1) cp)), z.w.cell? ⟨N, 6, none⟩ = some (.slice (some ⟨bp, op, none⟩) (n3 + 1) cp) := fun z => z.p.2
  have dp' : ∀ z : Cls (P11 N W6 (.slice (some ⟨bp, op, none⟩) (n3 + 1) cp)), z.w.cell? ⟨bp, op, none⟩ = some (.int .i64 x) := fun z => by rw [z.p.1.cell (Nat.lt_of_lt_of_le hbp1 hO6.size) hbpN, hO6.cell hbp1 hbpN]; exact hbp2
  haveI : Nonempty (Cls (P11 N W6 (.slice (some ⟨bp, op, none⟩) (n3 + 1) cp))) := ⟨⟨W6, Only.refl _ _, c6⟩⟩
  by_cases hcp : cp = 1
  · obtain rfl : n3 = 0 := by omega
    subst hcp
    have e01 : (0 : Nat) + 1 = 1 := rfl
    rw [e01] at c6 c6' dp' this
    refine wp_region_tree (fun w' => ∃ z : Cls (P11 N W6 (.slice (some ⟨bp, op, none⟩) 1 1)), w' = z.w) 21 (.one [0, 1, 2, 3, 4, 6, 7, 8, 9, 10, 11, 13, 14, 15, 16, 17] 5 (.one [12, 18, 19] 20 (.leaf []))) (by kernel_rfl) (by kernel_rfl) (by kernel_rfl) ⟨⟨W6.drew, (Only.refl _ W6).drew, by simpa using c6⟩, rfl⟩ ?_
    simp only [List.take_succ_cons, List.take_zero]
    refine tree_one fun K hK => ?_
    simp only [List.map_cons, List.map_nil, pickOp, List.getElem?_cons_zero, List.getElem?_cons_succ, Option.getD_some]
    repeat (go_big_quiet_step (fail))
    refine wpQuiet_nil ?_
    go_wp2_with fail
    refine onlyK_normal (hK _ _ ⟨⟨W6.drew, (Only.refl _ W6).drew, by simpa using c6⟩, rfl⟩ ?_); clear hK K
    refine tree_one fun K hK => ?_
    simp only [List.map_cons, List.map_nil, pickOp, List.getElem?_cons_zero, List.getElem?_cons_succ, Option.getD_some]
    repeat (go_big_quiet_step (fail))
    refine wpQuiet_nil ?_
    go_wp2_with fail
    have hG7 := hG6.set_part (D.part + x)
    have hO7 : Only (fun k => k = N) W3 (W6.setCell ⟨N, 5, none⟩ (.int .i64 (D.part + x))) := hO6.set (.inl rfl) _
    have hO7' : Only (fun k => k = N) W6 (W6.setCell ⟨N, 5, none⟩ (.int .i64 (D.part + x))) := (Only.refl (fun k => k = N) W6).set (.inl rfl) _
    have k6 := hG7.c6
    rw [HVP.out] at k6
    refine onlyK_normal (hK _ _ ⟨⟨_, hO7'.drew, by simpa using k6⟩, rfl⟩ ?_); clear hK K
    refine tree_leaf0 ?_
    simp only [List.drop_succ_cons, List.drop_zero]
    clear c6 c5 f5 f6 k6 c6' dp' hO7' hO6 hG6
    generalize W6.setCell ⟨N, 5, none⟩ (.int .i64 (D.part + x)) = W7 at *
    have k6 := hG7.c6; have f6 := hG7.fr 6
    rw [HVP.out] at k6
    go_wp2_with fail
    have hG8 := hG7.set_vp (Value.slice (some ⟨bp, op, none⟩) 0 0) r
    have hO8 : Only (fun k => k = N) W3 (W7.setCell ⟨N, 6, none⟩ (Value.slice (some ⟨bp, op, none⟩) 0 0)) := hO7.set (.inl rfl) _
    clear k6 f6 hG7 hO7
    generalize W7.setCell ⟨N, 6, none⟩ (Value.slice (some ⟨bp, op, none⟩) 0 0) = W8 at *
    clear W7
    have hG9 := hG8.later (Ext.refl W8).drew
    have hO9 := hO8.drew
    clear hG8 hO8
    generalize W8.drew = W9 at *
    clear W8
    have hov : (Value.slice (some ⟨bp, op, none⟩) 0 0).ownBlock = some bp := rfl
    have hsr : SlI W9 (Value.slice (some ⟨bp, op, none⟩) 0 0) r := ⟨_, 0, 0, bp, op, rfl, HN3.out, .inl rfl, fun i hi => by omega⟩
    have hcv : CapV (Value.slice (some ⟨bp, op, none⟩) 0 0) := fun a n c e => by cases e; omega
    have hlv : ∀ b, (Value.slice (some ⟨bp, op, none⟩) 0 0).ownBlock = some b → vp.ownBlock = some b ∨ (w.heap.size ≤ b ∧ b < W9.heap.size) := fun b hb => by
      rw [hov] at hb
      rcases HLP3.out b (by rw [HVP.out]; exact hb) with h | h
      · exact .inl h
      · exact .inr ⟨h.1, Nat.lt_of_lt_of_le h.2 hO9.size⟩
    have hnv : (Value.slice (some ⟨bp, op, none⟩) 0 0).ownBlock ≠ some N := fun e => hbpN (by rw [hov] at e; injection e)
    have hI9 : GInv W9 N vl (Value.slice (some ⟨bp, op, none⟩) 0 0) vd { D with bef := D.lst, lst := x, part := D.part + x, plan := r } := ⟨hG9, hI3.sl.only0 hO9 (fun hl b hb e => hI3.nl hl (by rw [hb, e])), hsr, hI3.sd.only hO9 (fun b hb e => hI3.nd (by rw [hb, e])), hI3.nl, hnv, hI3.nd⟩
    have B9 := B4.only hO9 hMN
    have hO9' : Only (fun k => k = N) w W9 := hO3.trans hO9
    clear hG9 hO9 B4 hI3 hO3 hsr hbp1 hbp2 HST HVP HLP3
    have c5 := Later.cell hI9.box.c5
    simp only at c5
    have d0 := Later.cell B9.c0; have d1 := Later.cell B9.c1; have d2 := Later.cell B9.c2; have d3 := Later.cell B9.c3; have d4 := Later.cell B9.c4; have d5 := Later.cell B9.c5; have d6 := Later.cell B9.c6; have d7 := Later.cell B9.c7; have d8 := Later.cell B9.c8
    have kl := fun w => rlength_any cr w HRG.out
    have KL := Lib.hid kl; clear kl
    have HI9 := Lib.hid hI9; have HO9 := Lib.hid hO9'; have HLV := Lib.hid hlv; have HCV := Lib.hid hcv
    clear hI9 hO9' hlv hcv hov hnv
    have hdl : D.dn.length ≤ 999999998 := by have := HG.out.dn; omega
    by_cases hfin : D.part + x = cr.len
    · have hadv : D.advM x r = { Mdl.stopAtM { D with bef := D.lst, lst := x, idx := D.idx + 1, part := 0, plan := [] } cr with idx := skp D.ms (D.idx + 1) } := by unfold Mdl.advM; rw [HCR.out, if_pos hfin]
      have HADV := Lib.hid hadv; clear hadv
      have hfd : (D.part + x == cr.len) = true := by simpa using hfin
      have HFIN := Lib.hid hfin; clear hfin
      refine wp_region_later (by kernel_rfl) (by kernel_rfl) ?_
      repeat (go_big_quiet_step ((go_at_call 16; exact Calls.later (KL.out _))))
      refine wpQuiet_nil ?_
      rintro _ ⟨y, rfl⟩
      have hIy := HI9.out.later y.ext
      have By := B9.later y.ext
      have hOy := HO9.out.trans (Only.of_ext y.ext)
      have hzy : W9.heap.size ≤ y.w.heap.size := y.ext.size
      clear c5 d0 d1 d2 d3 d4 d5 d6 d7 d8 B9 HO9
      generalize y.w = W10 at *
      clear y
      have c4 := hIy.box.c4; have c5 := hIy.box.c5; have c6 := hIy.box.c6; have f4 := hIy.box.fr 4; have f5 := hIy.box.fr 5; have f6 := hIy.box.fr 6
      simp only at c4 c5
      have e0 := By.c0; have e1 := By.c1; have e2 := By.c2; have e3 := By.c3; have e4 := By.c4; have e5 := By.c5; have e6 := By.c6; have e7 := By.c7; have e8 := By.c8
      have hG11 := ((hIy.box.set_idx (D.idx + 1)).set_part 0).set_vp (.slice none 0 0) []
      have hO11 : Only (fun k => k = N) W10 (((W10.setCell ⟨N, 4, none⟩ (.int .i64 ((D.idx + 1 : Nat) : Int))).setCell ⟨N, 5, none⟩ (.int .i64 0)).setCell ⟨N, 6, none⟩ (.slice none 0 0)) := (((Only.refl (fun k => k = N) W10).set (.inl rfl) _).set (.inl rfl) _).set (.inl rfl) _
      have hI11 : GInv (((W10.setCell ⟨N, 4, none⟩ (.int .i64 ((D.idx + 1 : Nat) : Int))).setCell ⟨N, 5, none⟩ (.int .i64 0)).setCell ⟨N, 6, none⟩ (.slice none 0 0)) N vl (.slice none 0 0) vd { D with bef := D.lst, lst := x, idx := D.idx + 1, part := 0, plan := [] } := ⟨hG11, hIy.sl.only0 hO11 (fun hl b hb e => hIy.nl hl (by rw [hb, e])), nilI _, hIy.sd.only hO11 (fun b hb e => hIy.nd (by rw [hb, e])), hIy.nl, (by intro h; cases h), hIy.nd⟩
      rw [show ((D.idx + 1 : Nat) : Int) = (D.idx : Int) + 1 by omega] at hI11 hO11
      have ks := mstopAt_any cr hI11 hdl
      have hO11' := hOy.trans hO11
      have hz11 := hO11.size
      have hil : (D.idx : Int) + 1 ≤ 1000000 := by have := HG.out.i; have := HG.out.n; omega
      have KS := Lib.hid ks; have HO11 := Lib.hid hO11'
      clear ks hG11 hI11 hO11 hO11' hIy By
      go_wp2_with fail
      refine KS.out.mono ?_
      rintro e w12 ⟨rfl, vp12, vd12, hI12, hO12, hd12, hp12⟩
      have kk := mskip_any hI12.box hI12.sl hI12.nl HG.out.r (Nat.le_trans HG.out.n (by decide)) (show D.idx + 1 ≤ D.ms.length from HG.out.i)
      have HI12 := Lib.hid hI12; have KK := Lib.hid kk
      clear c4 c5 c6 f4 f5 f6 e0 e1 e2 e3 e4 e5 e6 e7 e8 KS hI12 kk
      go_wp2_with fail
      refine KK.out.mono ?_
      rintro e w13 ⟨rfl, hG13, hO13⟩
      have HG13 := Lib.hid hG13
      clear hG13 KK
      go_wp2
      go_ret
      rw [HADV.out]
      exact ⟨rfl, vp12, vd12, ⟨HG13.out, HI12.out.sl.only0 hO13 (fun hl b hb e => HI12.out.nl hl (by rw [hb, e])), HI12.out.sp.only hO13 (fun b hb e => HI12.out.np (by rw [hb, e])), HI12.out.sd.only hO13 (fun b hb e => HI12.out.nd (by rw [hb, e])), HI12.out.nl, HI12.out.np, HI12.out.nd⟩, SlI.cap_nil (w := w12) HI12.out.sp, HO11.out.trans (hO12.trans hO13), fun b hb => (hd12 b hb).imp id (fun h => ⟨Nat.le_trans HO11.out.size h.1, Nat.lt_of_lt_of_le h.2 hO13.size⟩), fun b hb => (hp12 b hb).elim (fun h => by cases h) (fun h => .inr ⟨Nat.le_trans HO11.out.size h.1, Nat.lt_of_lt_of_le h.2 hO13.size⟩)⟩
    · have hfd : (D.part + x == cr.len) = false := by simpa using hfin
      refine wp_region_later (by kernel_rfl) (by kernel_rfl) ?_
      repeat (go_big_quiet_step ((go_at_call 16; exact Calls.later (KL.out _))))
      refine wpQuiet_nil ?_
      rintro _ ⟨y, rfl⟩
      have hIy := HI9.out.later y.ext
      have By := B9.later y.ext
      have hOy := HO9.out.trans (Only.of_ext y.ext)
      have hzy : W9.heap.size ≤ y.w.heap.size := y.ext.size
      clear c5 d0 d1 d2 d3 d4 d5 d6 d7 d8 B9 HO9
      generalize y.w = W10 at *
      clear y
      by_cases hr0 : r = []
      · have hadv : D.advM x r = Mdl.stopM { D with bef := D.lst, lst := x, part := D.part + x, plan := r } cr := by unfold Mdl.advM; rw [HCR.out, if_neg hfin, if_pos hr0]
        have HADV := Lib.hid hadv; clear hadv
        have kr := mrest_any hIy.box hIy.sp true (by simp [hr0])
        have HR0 := Lib.hid hr0; have HIY := Lib.hid hIy; have HOY := Lib.hid hOy
        clear hr0 hIy hOy
        go_wp2_with fail
        refine kr.mono ?_
        rintro e w11 ⟨rfl, hx11⟩
        clear kr
        have Bz := By.later hx11
        have e0 := Bz.c0; have e1 := Bz.c1; have e2 := Bz.c2; have e3 := Bz.c3; have e4 := Bz.c4; have e5 := Bz.c5; have e6 := Bz.c6; have e7 := Bz.c7; have e8 := Bz.c8
        have kst := mstop_any cr (HIY.out.later hx11) ⟨Nat.le_of_lt HG.out.i, Nat.le_trans HG.out.n (by decide), fun hi => HG.out.r _ hi, fun _ => ha0, fun _ => (by show D.part + x ≤ D.cur.len; rw [HCR.out]; exact p1), fun _ => HG.out.p2, HG.out.ok⟩ hdl (fun b hb => (HLV.out b hb).elim (fun h => Nat.lt_of_lt_of_le (HLP.out b h) (Nat.le_trans HOY.out.size hx11.size)) (fun h => Nat.lt_of_lt_of_le h.2 (Nat.le_trans hzy hx11.size)))
        have KST := Lib.hid kst; clear kst
        have hO11 := HOY.out.trans (Only.of_ext hx11)
        go_wp2_with fail
        refine KST.out.mono ?_
        rintro e w12 ⟨rfl, vp12, vd12, hI12, hO12, hd12, hp12⟩
        have HI12 := Lib.hid hI12
        clear e0 e1 e2 e3 e4 e5 e6 e7 e8 hI12 KST
        go_wp2
        go_ret
        rw [HADV.out]
        exact ⟨rfl, vp12, vd12, HI12.out, SlI.cap_nil (w := w12) (by have := HI12.out.sp; rw [show (Mdl.stopM { D with bef := D.lst, lst := x, part := D.part + x, plan := r } cr).plan = [] from HR0.out] at this; exact this), hO11.trans hO12, fun b hb => (hd12 b hb).imp id (fun h => ⟨Nat.le_trans hO11.size h.1, h.2⟩), fun b hb => (hp12 b hb).elim (fun h => (HLV.out b h).imp id (fun h => ⟨h.1, Nat.lt_of_lt_of_le h.2 (Nat.le_trans hzy (Nat.le_trans hx11.size hO12.size))⟩)) (fun h => .inr ⟨Nat.le_trans hO11.size h.1, h.2⟩)⟩
      · have hadv : D.advM x r = { D with bef := D.lst, lst := x, part := D.part + x, plan := r } := by unfold Mdl.advM; rw [HCR.out, if_neg hfin, if_neg hr0]
        have HADV := Lib.hid hadv; clear hadv
        have kr := mrest_any hIy.box hIy.sp false (by simp [hr0])
        have HIY := Lib.hid hIy; have HOY := Lib.hid hOy
        clear hr0 hIy hOy
        go_wp2_with fail
        refine kr.mono ?_
        rintro e w11 ⟨rfl, hx11⟩
        clear kr
        go_wp2
        go_ret
        rw [HADV.out]
        exact ⟨rfl, _, vd, HIY.out.later hx11, HCV.out, HOY.out.trans (Only.of_ext hx11), fun b hb => .inl hb, fun b hb => (HLV.out b hb).imp id (fun h => ⟨h.1, Nat.lt_of_lt_of_le h.2 (Nat.le_trans hzy hx11.size)⟩)⟩
  · refine wp_region_tree (fun w' => ∃ z : Cls (P11 N W6 (.slice (some ⟨bp, op, none⟩) (n3 + 1) cp)), w' = z.w) 21 (.one [0, 1, 2, 3, 4, 6, 7, 8, 9, 10, 11, 13, 14, 15, 16, 17] 5 (.one [12, 18, 19] 20 (.leaf []))) (by kernel_rfl) (by kernel_rfl) (by kernel_rfl) ⟨⟨W6.drew, (Only.refl _ W6).drew, by simpa using c6⟩, rfl⟩ ?_
    simp only [List.take_succ_cons, List.take_zero]
    refine tree_one fun K hK => ?_
    simp only [List.map_cons, List.map_nil, pickOp, List.getElem?_cons_zero, List.getElem?_cons_succ, Option.getD_some]
    repeat (go_big_quiet_step (fail))
    refine wpQuiet_nil ?_
    go_wp2_with fail
    refine onlyK_normal (hK _ _ ⟨⟨W6.drew, (Only.refl _ W6).drew, by simpa using c6⟩, rfl⟩ ?_); clear hK K
    refine tree_one fun K hK => ?_
    simp only [List.map_cons, List.map_nil, pickOp, List.getElem?_cons_zero, List.getElem?_cons_succ, Option.getD_some]
    repeat (go_big_quiet_step (fail))
    refine wpQuiet_nil ?_
    go_wp2_with fail
    have hG7 := hG6.set_part (D.part + x)
    have hO7 : Only (fun k => k = N) W3 (W6.setCell ⟨N, 5, none⟩ (.int .i64 (D.part + x))) := hO6.set (.inl rfl) _
    have hO7' : Only (fun k => k = N) W6 (W6.setCell ⟨N, 5, none⟩ (.int .i64 (D.part + x))) := (Only.refl (fun k => k = N) W6).set (.inl rfl) _
    have k6 := hG7.c6
    rw [HVP.out] at k6
    refine onlyK_normal (hK _ _ ⟨⟨_, hO7'.drew, by simpa using k6⟩, rfl⟩ ?_); clear hK K
    refine tree_leaf0 ?_
    simp only [List.drop_succ_cons, List.drop_zero]
    clear c6 c5 f5 f6 k6 c6' dp' hO7' hO6 hG6
    generalize W6.setCell ⟨N, 5, none⟩ (.int .i64 (D.part + x)) = W7 at *
    have k6 := hG7.c6; have f6 := hG7.fr 6
    rw [HVP.out] at k6
    go_wp2_with fail
    have hG8 := hG7.set_vp (Value.slice (some ⟨bp, op + 1, none⟩) n3 (cp - 1)) r
    have hO8 : Only (fun k => k = N) W3 (W7.setCell ⟨N, 6, none⟩ (Value.slice (some ⟨bp, op + 1, none⟩) n3 (cp - 1))) := hO7.set (.inl rfl) _
    clear k6 f6 hG7 hO7
    generalize W7.setCell ⟨N, 6, none⟩ (Value.slice (some ⟨bp, op + 1, none⟩) n3 (cp - 1)) = W8 at *
    clear W7
    have hG9 := hG8.later (Ext.refl W8).drew
    have hO9 := hO8.drew
    clear hG8 hO8
    generalize W8.drew = W9 at *
    clear W8
    have hov : (Value.slice (some ⟨bp, op + 1, none⟩) n3 (cp - 1)).ownBlock = some bp := rfl
    have hsr : SlI W9 (Value.slice (some ⟨bp, op + 1, none⟩) n3 (cp - 1)) r := HST.out.only hO9 (fun b hb e => hbpN (by rw [hov] at hb; injection hb with hb; rw [hb]; exact e))
    have hcv : CapV (Value.slice (some ⟨bp, op + 1, none⟩) n3 (cp - 1)) := fun a n c e => by cases e; omega
    have hlv : ∀ b, (Value.slice (some ⟨bp, op + 1, none⟩) n3 (cp - 1)).ownBlock = some b → vp.ownBlock = some b ∨ (w.heap.size ≤ b ∧ b < W9.heap.size) := fun b hb => by
      rw [hov] at hb
      rcases HLP3.out b (by rw [HVP.out]; exact hb) with h | h
      · exact .inl h
      · exact .inr ⟨h.1, Nat.lt_of_lt_of_le h.2 hO9.size⟩
    have hnv : (Value.slice (some ⟨bp, op + 1, none⟩) n3 (cp - 1)).ownBlock ≠ some N := fun e => hbpN (by rw [hov] at e; injection e)
    have hI9 : GInv W9 N vl (Value.slice (some ⟨bp, op + 1, none⟩) n3 (cp - 1)) vd { D with bef := D.lst, lst := x, part := D.part + x, plan := r } := ⟨hG9, hI3.sl.only0 hO9 (fun hl b hb e => hI3.nl hl (by rw [hb, e])), hsr, hI3.sd.only hO9 (fun b hb e => hI3.nd (by rw [hb, e])), hI3.nl, hnv, hI3.nd⟩
    have B9 := B4.only hO9 hMN
    have hO9' : Only (fun k => k = N) w W9 := hO3.trans hO9
    clear hG9 hO9 B4 hI3 hO3 hsr hbp1 hbp2 HST HVP HLP3
    have c5 := Later.cell hI9.box.c5
    simp only at c5
    have d0 := Later.cell B9.c0; have d1 := Later.cell B9.c1; have d2 := Later.cell B9.c2; have d3 := Later.cell B9.c3; have d4 := Later.cell B9.c4; have d5 := Later.cell B9.c5; have d6 := Later.cell B9.c6; have d7 := Later.cell B9.c7; have d8 := Later.cell B9.c8
    have kl := fun w => rlength_any cr w HRG.out
    have KL := Lib.hid kl; clear kl
    have HI9 := Lib.hid hI9; have HO9 := Lib.hid hO9'; have HLV := Lib.hid hlv; have HCV := Lib.hid hcv
    clear hI9 hO9' hlv hcv hov hnv
    have hdl : D.dn.length ≤ 999999998 := by have := HG.out.dn; omega
    by_cases hfin : D.part + x = cr.len
    · have hadv : D.advM x r = { Mdl.stopAtM { D with bef := D.lst, lst := x, idx := D.idx + 1, part := 0, plan := [] } cr with idx := skp D.ms (D.idx + 1) } := by unfold Mdl.advM; rw [HCR.out, if_pos hfin]
      have HADV := Lib.hid hadv; clear hadv
      have hfd : (D.part + x == cr.len) = true := by simpa using hfin
      have HFIN := Lib.hid hfin; clear hfin
      refine wp_region_later (by kernel_rfl) (by kernel_rfl) ?_
      repeat (go_big_quiet_step ((go_at_call 16; exact Calls.later (KL.out _))))
      refine wpQuiet_nil ?_
      rintro _ ⟨y, rfl⟩
      have hIy := HI9.out.later y.ext
      have By := B9.later y.ext
      have hOy := HO9.out.trans (Only.of_ext y.ext)
      have hzy : W9.heap.size ≤ y.w.heap.size := y.ext.size
      clear c5 d0 d1 d2 d3 d4 d5 d6 d7 d8 B9 HO9
      generalize y.w = W10 at *
      clear y
      have c4 := hIy.box.c4; have c5 := hIy.box.c5; have c6 := hIy.box.c6; have f4 := hIy.box.fr 4; have f5 := hIy.box.fr 5; have f6 := hIy.box.fr 6
      simp only at c4 c5
      have e0 := By.c0; have e1 := By.c1; have e2 := By.c2; have e3 := By.c3; have e4 := By.c4; have e5 := By.c5; have e6 := By.c6; have e7 := By.c7; have e8 := By.c8
      have hG11 := ((hIy.box.set_idx (D.idx + 1)).set_part 0).set_vp (.slice none 0 0) []
      have hO11 : Only (fun k => k = N) W10 (((W10.setCell ⟨N, 4, none⟩ (.int .i64 ((D.idx + 1 : Nat) : Int))).setCell ⟨N, 5, none⟩ (.int .i64 0)).setCell ⟨N, 6, none⟩ (.slice none 0 0)) := (((Only.refl (fun k => k = N) W10).set (.inl rfl) _).set (.inl rfl) _).set (.inl rfl) _
      have hI11 : GInv (((W10.setCell ⟨N, 4, none⟩ (.int .i64 ((D.idx + 1 : Nat) : Int))).setCell ⟨N, 5, none⟩ (.int .i64 0)).setCell ⟨N, 6, none⟩ (.slice none 0 0)) N vl (.slice none 0 0) vd { D with bef := D.lst, lst := x, idx := D.idx + 1, part := 0, plan := [] } := ⟨hG11, hIy.sl.only0 hO11 (fun hl b hb e => hIy.nl hl (by rw [hb, e])), nilI _, hIy.sd.only hO11 (fun b hb e => hIy.nd (by rw [hb, e])), hIy.nl, (by intro h; cases h), hIy.nd⟩
      rw [show ((D.idx + 1 : Nat) : Int) = (D.idx : Int) + 1 by omega] at hI11 hO11
      have ks := mstopAt_any cr hI11 hdl
      have hO11' := hOy.trans hO11
      have hz11 := hO11.size
      have hil : (D.idx : Int) + 1 ≤ 1000000 := by have := HG.out.i; have := HG.out.n; omega
      have KS := Lib.hid ks; have HO11 := Lib.hid hO11'
      clear ks hG11 hI11 hO11 hO11' hIy By
      go_wp2_with fail
      refine KS.out.mono ?_
      rintro e w12 ⟨rfl, vp12, vd12, hI12, hO12, hd12, hp12⟩
      have kk := mskip_any hI12.box hI12.sl hI12.nl HG.out.r (Nat.le_trans HG.out.n (by decide)) (show D.idx + 1 ≤ D.ms.length from HG.out.i)
      have HI12 := Lib.hid hI12; have KK := Lib.hid kk
      clear c4 c5 c6 f4 f5 f6 e0 e1 e2 e3 e4 e5 e6 e7 e8 KS hI12 kk
      go_wp2_with fail
      refine KK.out.mono ?_
      rintro e w13 ⟨rfl, hG13, hO13⟩
      have HG13 := Lib.hid hG13
      clear hG13 KK
      go_wp2
      go_ret
      rw [HADV.out]
      exact ⟨rfl, vp12, vd12, ⟨HG13.out, HI12.out.sl.only0 hO13 (fun hl b hb e => HI12.out.nl hl (by rw [hb, e])), HI12.out.sp.only hO13 (fun b hb e => HI12.out.np (by rw [hb, e])), HI12.out.sd.only hO13 (fun b hb e => HI12.out.nd (by rw [hb, e])), HI12.out.nl, HI12.out.np, HI12.out.nd⟩, SlI.cap_nil (w := w12) HI12.out.sp, HO11.out.trans (hO12.trans hO13), fun b hb => (hd12 b hb).imp id (fun h => ⟨Nat.le_trans HO11.out.size h.1, Nat.lt_of_lt_of_le h.2 hO13.size⟩), fun b hb => (hp12 b hb).elim (fun h => by cases h) (fun h => .inr ⟨Nat.le_trans HO11.out.size h.1, Nat.lt_of_lt_of_le h.2 hO13.size⟩)⟩
    · have hfd : (D.part + x == cr.len) = false := by simpa using hfin
      refine wp_region_later (by kernel_rfl) (by kernel_rfl) ?_
      repeat (go_big_quiet_step ((go_at_call 16; exact Calls.later (KL.out _))))
      refine wpQuiet_nil ?_
      rintro _ ⟨y, rfl⟩
      have hIy := HI9.out.later y.ext
      have By := B9.later y.ext
      have hOy := HO9.out.trans (Only.of_ext y.ext)
      have hzy : W9.heap.size ≤ y.w.heap.size := y.ext.size
      clear c5 d0 d1 d2 d3 d4 d5 d6 d7 d8 B9 HO9
      generalize y.w = W10 at *
      clear y
      by_cases hr0 : r = []
      · have hadv : D.advM x r = Mdl.stopM { D with bef := D.lst, lst := x, part := D.part + x, plan := r } cr := by unfold Mdl.advM; rw [HCR.out, if_neg hfin, if_pos hr0]
        have HADV := Lib.hid hadv; clear hadv
        have kr := mrest_any hIy.box hIy.sp true (by simp [hr0])
        have HR0 := Lib.hid hr0; have HIY := Lib.hid hIy; have HOY := Lib.hid hOy
        clear hr0 hIy hOy
        go_wp2_with fail
        refine kr.mono ?_
        rintro e w11 ⟨rfl, hx11⟩
        clear kr
        have Bz := By.later hx11
        have e0 := Bz.c0; have e1 := Bz.c1; have e2 := Bz.c2; have e3 := Bz.c3; have e4 := Bz.c4; have e5 := Bz.c5; have e6 := Bz.c6; have e7 := Bz.c7; have e8 := Bz.c8
        have kst := mstop_any cr (HIY.out.later hx11) ⟨Nat.le_of_lt HG.out.i, Nat.le_trans HG.out.n (by decide), fun hi => HG.out.r _ hi, fun _ => ha0, fun _ => (by show D.part + x ≤ D.cur.len; rw [HCR.out]; exact p1), fun _ => HG.out.p2, HG.out.ok⟩ hdl (fun b hb => (HLV.out b hb).elim (fun h => Nat.lt_of_lt_of_le (HLP.out b h) (Nat.le_trans HOY.out.size hx11.size)) (fun h => Nat.lt_of_lt_of_le h.2 (Nat.le_trans hzy hx11.size)))
        have KST := Lib.hid kst; clear kst
        have hO11 := HOY.out.trans (Only.of_ext hx11)
        go_wp2_with fail
        refine KST.out.mono ?_
        rintro e w12 ⟨rfl, vp12, vd12, hI12, hO12, hd12, hp12⟩
        have HI12 := Lib.hid hI12
        clear e0 e1 e2 e3 e4 e5 e6 e7 e8 hI12 KST
        go_wp2
        go_ret
        rw [HADV.out]
        exact ⟨rfl, vp12, vd12, HI12.out, SlI.cap_nil (w := w12) (by have := HI12.out.sp; rw [show (Mdl.stopM { D with bef := D.lst, lst := x, part := D.part + x, plan := r } cr).plan = [] from HR0.out] at this; exact this), hO11.trans hO12, fun b hb => (hd12 b hb).imp id (fun h => ⟨Nat.le_trans hO11.size h.1, h.2⟩), fun b hb => (hp12 b hb).elim (fun h => (HLV.out b h).imp id (fun h => ⟨h.1, Nat.lt_of_lt_of_le h.2 (Nat.le_trans hzy (Nat.le_trans hx11.size hO12.size))⟩)) (fun h => .inr ⟨Nat.le_trans hO11.size h.1, h.2⟩)⟩
      · have hadv : D.advM x r = { D with bef := D.lst, lst := x, part := D.part + x, plan := r } := by unfold Mdl.advM; rw [HCR.out, if_neg hfin, if_neg hr0]
        have HADV := Lib.hid hadv; clear hadv
        have kr := mrest_any hIy.box hIy.sp false (by simp [hr0])
        have HIY := Lib.hid hIy; have HOY := Lib.hid hOy
        clear hr0 hIy hOy
        go_wp2_with fail
        refine kr.mono ?_
        rintro e w11 ⟨rfl, hx11⟩
        clear kr
        go_wp2
        go_ret
        rw [HADV.out]
        exact ⟨rfl, _, vd, HIY.out.later hx11, HCV.out, HOY.out.trans (Only.of_ext hx11), fun b hb => .inl hb, fun b hb => (HLV.out b hb).imp id (fun h => ⟨h.1, Nat.lt_of_lt_of_le h.2 (Nat.le_trans hzy hx11.size)⟩)⟩

end Go.Proofs.Ytfmjmabaabmgcaa
