/-
  A region that draws its order: its first n operations read, or call functions that leave what was there as it was; the others follow them all, in the order of the text.
-/
import Derived.Test.YtcblahhfgkafhaaBase
import Derived.StillTail
namespace Go.Proofs.Ytcblahhfgkafhaa
open Go.RowKit

/-- Do the operations from n on wait for all that stand before them, and does none wait for a later one? -/
def tailB (ops : Array Oper) (n : Nat) : Bool :=
  decide (n ≤ ops.size) &&
  ((List.range ops.size).all fun t => decide (t < n) || (List.range t).all fun i => Region.waitsFor .any ops t i) &&
  ((List.range ops.size).all fun i => ((ops[i]?).map fun o => (o.after.all fun e => !Region.binds .any e || decide (e.on < i)) && (decide (n ≤ i) || ((o.guard.map fun g => decide (g.1 < n)).getD true))).getD true)

section
variable {P : Program} {Q : Exit → Act → World → Prop} {l : List Oper} {n : Nat} {C : World → Prop}

structure TailOk (l : List Oper) (n : Nat) : Prop where
  le : n ≤ l.length
  waits : ∀ t i, t < l.length → n ≤ t → i < t → Region.waitsFor .any l.toArray t i = true
  low : ∀ i o, l.toArray[i]? = some o → ∀ e ∈ o.after, Region.binds .any e = true → e.on < i
  guard : ∀ i o g, l.toArray[i]? = some o → i < n → o.guard = some g → g.1 < n

theorem tailOk_of (h : tailB l.toArray n = true) : TailOk l n := by
  simp only [tailB, Bool.and_eq_true, decide_eq_true_eq, List.all_eq_true, List.mem_range, Bool.or_eq_true] at h
  obtain ⟨⟨h1, h2⟩, h3⟩ := h
  have hsz : l.toArray.size = l.length := by simp
  refine ⟨by simpa using h1, fun t i ht hn hi => ?_, fun i o ho e he hb => ?_, fun i o g ho hi hg => ?_⟩
  · rcases h2 t (by omega) with h | h
    · omega
    · exact h i hi
  · have hi : i < l.toArray.size := (Array.getElem?_eq_some_iff.1 ho).1
    have := h3 i hi
    rw [ho] at this
    simp only [Option.map_some, Option.getD_some, Bool.and_eq_true, Array.all_eq_true'] at this
    have h4 := this.1 e he
    simp only [hb, Bool.not_true, Bool.false_or, decide_eq_true_eq] at h4
    exact h4
  · have hi' : i < l.toArray.size := (Array.getElem?_eq_some_iff.1 ho).1
    have := h3 i hi'
    rw [ho] at this
    simp only [Option.map_some, Option.getD_some, Bool.and_eq_true, hg, Bool.or_eq_true, decide_eq_true_eq] at this
    rcases this.2 with h | h
    · omega
    · exact h

theorem getD_tf {listed : Array Bool} {i : Nat} (hi : i < listed.size) (h : listed.getD i true ≠ false) : listed.getD i false = true := by
  simp [hi] at h ⊢; exact h

/-- The operations from t on, one after the other. -/
theorem wpAny_tail (ok : TailOk l n) : ∀ (d t : Nat) (listed : Array Bool) (a : Act) (w : World), l.length - t = d → n ≤ t → t ≤ l.length → listed.size = l.length →
    (∀ i, i < t → listed.getD i true ≠ false) → (∀ i, t ≤ i → i < l.length → listed.getD i true = false) →
    wpList P l.toArray Q (l.drop t) a w → wpAny P .any l.toArray Q d listed a w := by
  intro d
  induction d with
  | zero =>
    intro t listed a w hd hn ht hs h1 h2 hw
    obtain rfl : t = l.length := by omega
    rw [List.drop_length] at hw
    refine ⟨?_, hw⟩
    refine List.eq_nil_iff_forall_not_mem.2 fun i hi => ?_
    obtain ⟨hu, o, ho, _⟩ := mem_ready.1 hi
    have : i < l.toArray.size := (Array.getElem?_eq_some_iff.1 ho).1
    exact h1 i (by simpa using this) hu
  | succ d ih =>
    intro t listed a w hd hn ht hs h1 h2 hw
    have htl : t < l.length := by omega
    have hot : l.toArray[t]? = some l[t] := by simp [htl]
    have hmem : t ∈ Region.ready .any l.toArray listed := mem_ready.2 ⟨h2 t (Nat.le_refl _) htl, l[t], hot, fun e he hb => by
      have := ok.low t _ hot e he hb
      exact getD_tf (by omega) (h1 e.on this)⟩
    refine ⟨fun h => (by rw [h] at hmem; cases hmem), fun i hi => ?_⟩
    obtain ⟨hu, o, ho, hall⟩ := mem_ready.1 hi
    have hil : i < l.length := by have : i < l.toArray.size := (Array.getElem?_eq_some_iff.1 ho).1; simpa using this
    have hit : i = t := by
      rcases Nat.lt_trichotomy i t with h | h | h
      · exact absurd hu (h1 i h)
      · exact h
      · obtain ⟨oj, hoj, e, he, hb, hon⟩ := Region.waitsFor_spec (ok.waits i t hil (by omega) h)
        have : oj = o := Option.some.inj (hoj.symm.trans ho)
        subst this
        have h3 := hall e he hb
        have h4 := getD_both (h2 t (Nat.le_refl _) htl)
        rw [hon, h4] at h3
        cases h3
    subst hit
    have hw2 : wpOp P l.toArray Q i (wpList P l.toArray Q (l.drop (i + 1))) a w := by
      rw [List.drop_eq_getElem_cons htl] at hw
      unfold wpOp
      simp only [hot]
      exact hw
    refine wpOp_mono (fun a' w' h' => ih (i + 1) (listed.setIfInBounds i true) a' w' (by omega) (by omega) (by omega) (by simpa using hs) (fun k hk => ?_) (fun k hk hk' => ?_) h') hw2
    · by_cases hki : k = i
      · subst hki; simp [hs, hil]
      · have := h1 k (by omega)
        rwa [getD_set_ne true (by omega)]
    · rw [getD_set_ne true (by omega)]; exact h2 k (by omega) hk'

theorem take_get (i : Nat) (h : i < n) : (l.take n).toArray[i]? = l.toArray[i]? := by simp [List.getElem?_take_of_lt h]

theorem wanted_take (ok : TailOk l n) {i : Nat} {o : Oper} (hi : i < n) (ho : l.toArray[i]? = some o) (tm : Array Value) : Region.wanted o (yielded (l.take n).toArray tm) = Region.wanted o (yielded l.toArray tm) := by
  unfold Region.wanted
  cases hg : o.guard with
  | none => rfl
  | some g =>
    obtain ⟨g, b⟩ := g
    have hgn : g < n := ok.guard i o (g, b) ho hi hg
    have := take_get (l := l) g hgn
    simp only [yielded, this]

theorem wpOp_take (ok : TailOk l n) {i : Nat} (hi : i < n) {K : Act → World → Prop} {a : Act} {w : World} (h : wpOp P (l.take n).toArray Q i K a w) : wpOp P l.toArray Q i K a w := by
  unfold wpOp at *
  rw [take_get i hi] at h
  cases ho : l.toArray[i]? with
  | none => simp only [ho] at h ⊢; exact h
  | some o =>
    simp only [ho] at h ⊢
    rw [wanted_take ok hi ho] at h
    exact h

theorem wpAny_of_prefix (ok : TailOk l n) : ∀ (f : Nat) (rem : List Nat) (ls ls' : Array Bool) (a : Act) (w : World), rem.length = f → rem.Nodup → ls.size = l.length → ls'.size = n →
    (∀ i, i < n → ls.getD i true = ls'.getD i true) → (∀ i, i < n → (ls.getD i true = false ↔ i ∈ rem)) → (∀ i, n ≤ i → i < l.length → ls.getD i true = false) → (∀ i ∈ rem, i < n) →
    C w → wpAnyQ P .any (l.take n).toArray C (fun a' => ∀ w', C w' → wpList P l.toArray Q (l.drop n) a' w') f ls' a → wpAny P .any l.toArray Q (f + (l.length - n)) ls a w := by
  intro f
  induction f with
  | zero =>
    intro rem ls ls' a w hr hnd hs hs' hsame hmem htl hlt hC hq
    have hrem : rem = [] := List.length_eq_zero_iff.1 hr
    subst hrem
    rw [Nat.zero_add]
    exact wpAny_tail ok _ n ls a w rfl (Nat.le_refl _) ok.le hs (fun i hi h => by have := (hmem i hi).1 h; cases this) htl (hq.2 w hC)
  | succ f ih =>
    intro rem ls ls' a w hr hnd hs hs' hsame hmem htl hlt hC hq
    have le := ok.le
    -- what may come up in the region may come up among its first operations, and the other way round
    have hready : ∀ i, i < n → (i ∈ Region.ready .any (l.take n).toArray ls' ↔ i ∈ Region.ready .any l.toArray ls) := fun i hi => by
      rw [mem_ready, mem_ready, hsame i hi, take_get i hi]
      have hsz : ls'.size = n := hs'
      have key : ∀ o, l.toArray[i]? = some o → ((∀ e ∈ o.after, Region.binds .any e = true → ls'.getD e.on false = true) ↔ (∀ e ∈ o.after, Region.binds .any e = true → ls.getD e.on false = true)) := fun o ho => by
        refine forall_congr' fun e => forall_congr' fun he => forall_congr' fun hb => ?_
        have h1 : e.on < i := ok.low i o ho e he hb
        have h2 := hsame e.on (by omega)
        have h3 : e.on < ls'.size := by omega
        have h4 : e.on < ls.size := by omega
        simp [h3, h4] at h2 ⊢
        rw [h2]
      constructor
      · rintro ⟨p, o, ho, q⟩; exact ⟨p, o, ho, (key o ho).1 q⟩
      · rintro ⟨p, o, ho, q⟩; exact ⟨p, o, ho, (key o ho).2 q⟩
    -- the least that has not come up may come up
    have hex : ∃ i, i ∈ rem := by
      cases rem with
      | nil => simp at hr
      | cons x _ => exact ⟨x, List.mem_cons_self ..⟩
    have hleast : ∃ i, i < n ∧ ls.getD i true = false ∧ ∀ k, k < i → ls.getD k true ≠ false := by
      obtain ⟨i, hi⟩ := hex
      have : ∀ (m i : Nat), i ≤ m → i < n → ls.getD i true = false → ∃ i, i < n ∧ ls.getD i true = false ∧ ∀ k, k < i → ls.getD k true ≠ false := by
        intro m
        induction m with
        | zero => intro i h0 h1 h2; exact ⟨i, h1, h2, fun k hk => by omega⟩
        | succ m ihm =>
          intro i h0 h1 h2
          by_cases h : ∃ k, k < i ∧ ls.getD k true = false
          · obtain ⟨k, hk, hk2⟩ := h; exact ihm k (by omega) (by omega) hk2
          · exact ⟨i, h1, h2, fun k hk hk2 => h ⟨k, hk, hk2⟩⟩
      exact this i i (Nat.le_refl _) (hlt i hi) ((hmem i (hlt i hi)).2 hi)
    obtain ⟨i0, hi0, hu0, hmin⟩ := hleast
    have hr0 : i0 ∈ Region.ready .any l.toArray ls := by
      have ho : l.toArray[i0]? = some (l[i0]'(by omega)) := by simp [show i0 < l.length by omega]
      exact mem_ready.2 ⟨hu0, _, ho, fun e he hb => getD_tf (by have := ok.low i0 _ ho e he hb; omega) (hmin _ (ok.low i0 _ ho e he hb))⟩
    rw [show f + 1 + (l.length - n) = (f + (l.length - n)) + 1 by omega]
    refine ⟨fun h => (by rw [h] at hr0; cases hr0), fun i hi => ?_⟩
    have hin : i < n := by
      rcases Nat.lt_or_ge i n with h | h
      · exact h
      · obtain ⟨hu, o, ho, hall⟩ := mem_ready.1 hi
        have hil : i < l.length := by have : i < l.toArray.size := (Array.getElem?_eq_some_iff.1 ho).1; simpa using this
        obtain ⟨oj, hoj, e, he, hb, hon⟩ := Region.waitsFor_spec (ok.waits i i0 hil h (by omega))
        have : oj = o := Option.some.inj (hoj.symm.trans ho)
        subst this
        have h3 := hall e he hb
        rw [hon, getD_both hu0] at h3
        cases h3
    have hu := (mem_ready.1 hi).1
    have hirem : i ∈ rem := (hmem i hin).1 hu
    refine wpOp_take ok hin (wpOp_of_qOp hC (fun a' w' hC' h' => ?_) (hq.2 i ((hready i hin).2 hi)))
    refine ih (rem.erase i) (ls.setIfInBounds i true) (ls'.setIfInBounds i true) a' w' ?_ (hnd.erase i) (by simpa using hs) (by simpa using hs') (fun k hk => ?_) (fun k hk => ?_) (fun k hk hk' => ?_) (fun k hk => hlt k (List.mem_of_mem_erase hk)) hC' h'
    · rw [List.length_erase_of_mem hirem]; omega
    · by_cases hki : k = i
      · subst hki
        have h3 : k < ls'.size := by omega
        have h4 : k < ls.size := by omega
        simp [h3, h4]
      · rw [getD_set_ne true (by omega), getD_set_ne true (by omega)]; exact hsame k hk
    · by_cases hki : k = i
      · subst hki
        have h4 : k < ls.size := by omega
        rw [hnd.mem_erase_iff]
        simp [h4]
      · rw [getD_set_ne true (by omega), hmem k hk, hnd.mem_erase_iff]
        simp [hki]
    · rw [getD_set_ne true (by omega)]; exact htl k hk hk'

/-- The rule: the first n operations in any order, in the class of all later worlds; then the others. -/
theorem wp_region_later_tail {id : Nat} {a : Act} {w : World} (y : Later w) (n : Nat) (hm : P.follows .mixedOrders = true) (hB : Region.lexB .any (l.take n).toArray = true) (hT : tailB l.toArray n = true)
    (h : wpQuiet P (l.take n).toArray (fun w' => ∃ x : Later w, w' = x.w) (fun a' => ∀ w', (∃ x : Later w, w' = x.w) → wpList P l.toArray Q (l.drop n) a' w') (l.take n) a) : (Code.region id l.toArray true).wp P Q a y.w := by
  have ok := tailOk_of hT
  have le := ok.le
  have htl : (l.take n).length = n := by simp; omega
  simp only [Region.lexB, Bool.and_eq_true] at hB
  refine wp_region_any hm ?_
  have hq := wpAnyQ_lex (P := P) (C := fun w' => ∃ x : Later w, w' = x.w) (md := .any) hB.1 (l.take n) 0 (Array.replicate (l.take n).toArray.size false) a (by simp) (by simpa using hB.2) h
  have := wpAny_of_prefix (P := P) (Q := Q) (C := fun w' => ∃ x : Later w, w' = x.w) ok n (List.range n) (Array.replicate l.toArray.size false) (Array.replicate (l.take n).toArray.size false) a { y.w with drawn := y.w.drawn + 1 } (by simp) List.nodup_range (by simp) (by simpa using htl) (fun i hi => ?_) (fun i hi => ?_) (fun i hi hi' => ?_) (fun i hi => by simpa using hi) ⟨⟨_, y.ext.drew⟩, rfl⟩ (by rw [htl] at hq; exact hq)
  · have hsz : n + (l.length - n) = l.toArray.size := by simp; omega
    rw [hsz] at this
    exact this
  · have h1 : i < l.length := by omega
    have h2 : i < (l.take n).length := by omega
    simp only [Array.getD, Array.size_replicate, List.size_toArray, h1, h2, dif_pos]
    simp
  · have h1 : i < l.length := by omega
    simp [h1, hi]
  · simp [hi']

/-- The same, from the world itself. -/
theorem wp_region_tail {id : Nat} {a : Act} {w : World} (n : Nat) (hm : P.follows .mixedOrders = true) (hB : Region.lexB .any (l.take n).toArray = true) (hT : tailB l.toArray n = true)
    (h : wpQuiet P (l.take n).toArray (fun w' => ∃ x : Later w, w' = x.w) (fun a' => ∀ w', (∃ x : Later w, w' = x.w) → wpList P l.toArray Q (l.drop n) a' w') (l.take n) a) : (Code.region id l.toArray true).wp P Q a w :=
  wp_region_later_tail (Later.self w) n hm hB hT h

end
end Go.Proofs.Ytcblahhfgkafhaa
