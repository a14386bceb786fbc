/-
  A region that draws its order: its first n operations read, or call functions that leave what was there as it was; the others follow them all, in the order of the text.
  The plain mathematics of layer 49, continued: smooth lists.
  The plain mathematics of layer 49, continued: sums of the distances while braking.
  The plain mathematics of layer 49, continued: braking ends at rest, within the limits.
  The plain mathematics of layer 49, continued: the states of a smooth list are safe.
  The plain mathematics of layer 49, continued: the fast list and the simple one.
  Walks: next of layer 49.
  Walks: next of layer 49, continued.
  Walks: Needed, Ticks, Stop of layer 49.
-/
import Derived.Test.YtjibcnnbclcboaaDoorQS01
import Derived.StillTail
namespace Go.Proofs.YtjibcnnbclcboaaDoor
open Go.RowKit

/-- Do the operations from n on wait for all that stand before them, and does none wait for a later one? -/
def tailB (ops : Array Oper) (n : Nat) : Bool :=
  decide (n ≤ ops.size) &&
  ((List.range ops.size).all fun t => decide (t < n) || ((List.range t).all fun i => Region.waitsFor .any ops t i) || (decide (n < t) && Region.waitsFor .any ops t (t - 1))) &&
  ((List.range ops.size).all fun i => ((ops[i]?).map fun o => (o.after.all fun e => !Region.binds .any e || decide (e.on < i)) && (decide (n ≤ i) || ((o.guard.map fun g => decide (g.1 < n)).getD true))).getD true)

section
variable {P : Program} {Q : Exit → Act → World → Prop} {l : List Oper} {n : Nat} {C : World → Prop}

structure TailOk (l : List Oper) (n : Nat) : Prop where
  le : n ≤ l.length
  waits : ∀ t i, t < l.length → n ≤ t → i < t → ∃ k, Region.waitsFor .any l.toArray t k = true ∧ (k = i ∨ (n ≤ k ∧ i ≤ k ∧ k < t))
  low : ∀ i o, l.toArray[i]? = some o → ∀ e ∈ o.after, Region.binds .any e = true → e.on < i
  guard : ∀ i o g, l.toArray[i]? = some o → i < n → o.guard = some g → g.1 < n

theorem tailOk_of (h : tailB l.toArray n = true) : TailOk l n := by
  simp only [tailB, Bool.and_eq_true, decide_eq_true_eq, List.all_eq_true, List.mem_range, Bool.or_eq_true] at h
  obtain ⟨⟨h1, h2⟩, h3⟩ := h
  have hsz : l.toArray.size = l.length := by simp
  refine ⟨by simpa using h1, fun t i ht hn hi => ?_, fun i o ho e he hb => ?_, fun i o g ho hi hg => ?_⟩
  · rcases h2 t (by omega) with (h | h) | ⟨h, h'⟩
    · omega
    · exact ⟨i, h i hi, .inl rfl⟩
    · exact ⟨t - 1, h', .inr (by omega)⟩
  · have hi : i < l.toArray.size := (Array.getElem?_eq_some_iff.1 ho).1
    have := h3 i hi
    rw [ho] at this
    simp only [Option.map_some, Option.getD_some, Bool.and_eq_true, Array.all_eq_true'] at this
    have h4 := this.1 e he
    simp only [hb, Bool.not_true, Bool.false_or, decide_eq_true_eq] at h4
    exact h4
  · have hi' : i < l.toArray.size := (Array.getElem?_eq_some_iff.1 ho).1
    have := h3 i hi'
    rw [ho] at this
    simp only [Option.map_some, Option.getD_some, Bool.and_eq_true, hg, Bool.or_eq_true, decide_eq_true_eq] at this
    rcases this.2 with h | h
    · omega
    · exact h

theorem getD_tf {listed : Array Bool} {i : Nat} (hi : i < listed.size) (h : listed.getD i true ≠ false) : listed.getD i false = true := by
  simp [hi] at h ⊢; exact h

/-- The operations from t on, one after the other. -/
theorem wpAny_tail (ok : TailOk l n) : ∀ (d t : Nat) (listed : Array Bool) (a : Act) (w : World), l.length - t = d → n ≤ t → t ≤ l.length → listed.size = l.length →
    (∀ i, i < t → listed.getD i true ≠ false) → (∀ i, t ≤ i → i < l.length → listed.getD i true = false) →
    wpList P l.toArray Q (l.drop t) a w → wpAny P .any l.toArray Q d listed a w := by
  intro d
  induction d with
  | zero =>
    intro t listed a w hd hn ht hs h1 h2 hw
    obtain rfl : t = l.length := by omega
    rw [List.drop_length] at hw
    refine ⟨?_, hw⟩
    refine List.eq_nil_iff_forall_not_mem.2 fun i hi => ?_
    obtain ⟨hu, o, ho, _⟩ := mem_ready.1 hi
    have : i < l.toArray.size := (Array.getElem?_eq_some_iff.1 ho).1
    exact h1 i (by simpa using this) hu
  | succ d ih =>
    intro t listed a w hd hn ht hs h1 h2 hw
    have htl : t < l.length := by omega
    have hot : l.toArray[t]? = some l[t] := by simp [htl]
    have hmem : t ∈ Region.ready .any l.toArray listed := mem_ready.2 ⟨h2 t (Nat.le_refl _) htl, l[t], hot, fun e he hb => by
      have := ok.low t _ hot e he hb
      exact getD_tf (by omega) (h1 e.on this)⟩
    refine ⟨fun h => (by rw [h] at hmem; cases hmem), fun i hi => ?_⟩
    obtain ⟨hu, o, ho, hall⟩ := mem_ready.1 hi
    have hil : i < l.length := by have : i < l.toArray.size := (Array.getElem?_eq_some_iff.1 ho).1; simpa using this
    have hit : i = t := by
      rcases Nat.lt_trichotomy i t with h | h | h
      · exact absurd hu (h1 i h)
      · exact h
      · obtain ⟨k, hk, hkk⟩ := ok.waits i t hil (by omega) h
        obtain ⟨oj, hoj, e, he, hb, hon⟩ := Region.waitsFor_spec hk
        have : oj = o := Option.some.inj (hoj.symm.trans ho)
        subst this
        have h3 := hall e he hb
        have h4 := getD_both (h2 k (by omega) (by omega))
        rw [hon, h4] at h3
        cases h3
    subst hit
    have hw2 : wpOp P l.toArray Q i (wpList P l.toArray Q (l.drop (i + 1))) a w := by
      rw [List.drop_eq_getElem_cons htl] at hw
      unfold wpOp
      simp only [hot]
      exact hw
    refine wpOp_mono (fun a' w' h' => ih (i + 1) (listed.setIfInBounds i true) a' w' (by omega) (by omega) (by omega) (by simpa using hs) (fun k hk => ?_) (fun k hk hk' => ?_) h') hw2
    · by_cases hki : k = i
      · subst hki; simp [hs, hil]
      · have := h1 k (by omega)
        rwa [getD_set_ne true (by omega)]
    · rw [getD_set_ne true (by omega)]; exact h2 k (by omega) hk'

theorem take_get (i : Nat) (h : i < n) : (l.take n).toArray[i]? = l.toArray[i]? := by simp [List.getElem?_take_of_lt h]

theorem wanted_take (ok : TailOk l n) {i : Nat} {o : Oper} (hi : i < n) (ho : l.toArray[i]? = some o) (tm : Array Value) : Region.wanted o (yielded (l.take n).toArray tm) = Region.wanted o (yielded l.toArray tm) := by
  unfold Region.wanted
  cases hg : o.guard with
  | none => rfl
  | some g =>
    obtain ⟨g, b⟩ := g
    have hgn : g < n := ok.guard i o (g, b) ho hi hg
    have := take_get (l := l) g hgn
    simp only [yielded, this]

theorem wpOp_take (ok : TailOk l n) {i : Nat} (hi : i < n) {K : Act → World → Prop} {a : Act} {w : World} (h : wpOp P (l.take n).toArray Q i K a w) : wpOp P l.toArray Q i K a w := by
  unfold wpOp at *
  rw [take_get i hi] at h
  cases ho : l.toArray[i]? with
  | none => simp only [ho] at h ⊢; exact h
  | some o =>
    simp only [ho] at h ⊢
    rw [wanted_take ok hi ho] at h
    exact h

theorem wpAny_of_prefix (ok : TailOk l n) : ∀ (f : Nat) (rem : List Nat) (ls ls' : Array Bool) (a : Act) (w : World), rem.length = f → rem.Nodup → ls.size = l.length → ls'.size = n →
    (∀ i, i < n → ls.getD i true = ls'.getD i true) → (∀ i, i < n → (ls.getD i true = false ↔ i ∈ rem)) → (∀ i, n ≤ i → i < l.length → ls.getD i true = false) → (∀ i ∈ rem, i < n) →
    C w → wpAnyQ P .any (l.take n).toArray C (fun a' => ∀ w', C w' → wpList P l.toArray Q (l.drop n) a' w') f ls' a → wpAny P .any l.toArray Q (f + (l.length - n)) ls a w := by
  intro f
  induction f with
  | zero =>
    intro rem ls ls' a w hr hnd hs hs' hsame hmem htl hlt hC hq
    have hrem : rem = [] := List.length_eq_zero_iff.1 hr
    subst hrem
    rw [Nat.zero_add]
    exact wpAny_tail ok _ n ls a w rfl (Nat.le_refl _) ok.le hs (fun i hi h => by have := (hmem i hi).1 h; cases this) htl (hq.2 w hC)
  | succ f ih =>
    intro rem ls ls' a w hr hnd hs hs' hsame hmem htl hlt hC hq
    have le := ok.le
    -- what may come up in the region may come up among its first operations, and the other way round
    have hready : ∀ i, i < n → (i ∈ Region.ready .any (l.take n).toArray ls' ↔ i ∈ Region.ready .any l.toArray ls) := fun i hi => by
      rw [mem_ready, mem_ready, hsame i hi, take_get i hi]
      have hsz : ls'.size = n := hs'
      have key : ∀ o, l.toArray[i]? = some o → ((∀ e ∈ o.after, Region.binds .any e = true → ls'.getD e.on false = true) ↔ (∀ e ∈ o.after, Region.binds .any e = true → ls.getD e.on false = true)) := fun o ho => by
        refine forall_congr' fun e => forall_congr' fun he => forall_congr' fun hb => ?_
        have h1 : e.on < i := ok.low i o ho e he hb
        have h2 := hsame e.on (by omega)
        have h3 : e.on < ls'.size := by omega
        have h4 : e.on < ls.size := by omega
        simp [h3, h4] at h2 ⊢
        rw [h2]
      constructor
      · rintro ⟨p, o, ho, q⟩; exact ⟨p, o, ho, (key o ho).1 q⟩
      · rintro ⟨p, o, ho, q⟩; exact ⟨p, o, ho, (key o ho).2 q⟩
    -- the least that has not come up may come up
    have hex : ∃ i, i ∈ rem := by
      cases rem with
      | nil => simp at hr
      | cons x _ => exact ⟨x, List.mem_cons_self ..⟩
    have hleast : ∃ i, i < n ∧ ls.getD i true = false ∧ ∀ k, k < i → ls.getD k true ≠ false := by
      obtain ⟨i, hi⟩ := hex
      have : ∀ (m i : Nat), i ≤ m → i < n → ls.getD i true = false → ∃ i, i < n ∧ ls.getD i true = false ∧ ∀ k, k < i → ls.getD k true ≠ false := by
        intro m
        induction m with
        | zero => intro i h0 h1 h2; exact ⟨i, h1, h2, fun k hk => by omega⟩
        | succ m ihm =>
          intro i h0 h1 h2
          by_cases h : ∃ k, k < i ∧ ls.getD k true = false
          · obtain ⟨k, hk, hk2⟩ := h; exact ihm k (by omega) (by omega) hk2
          · exact ⟨i, h1, h2, fun k hk hk2 => h ⟨k, hk, hk2⟩⟩
      exact this i i (Nat.le_refl _) (hlt i hi) ((hmem i (hlt i hi)).2 hi)
    obtain ⟨i0, hi0, hu0, hmin⟩ := hleast
    have hr0 : i0 ∈ Region.ready .any l.toArray ls := by
      have ho : l.toArray[i0]? = some (l[i0]'(by omega)) := by simp [show i0 < l.length by omega]
      exact mem_ready.2 ⟨hu0, _, ho, fun e he hb => getD_tf (by have := ok.low i0 _ ho e he hb; omega) (hmin _ (ok.low i0 _ ho e he hb))⟩
    rw [show f + 1 + (l.length - n) = (f + (l.length - n)) + 1 by omega]
    refine ⟨fun h => (by rw [h] at hr0; cases hr0), fun i hi => ?_⟩
    have hin : i < n := by
      rcases Nat.lt_or_ge i n with h | h
      · exact h
      · obtain ⟨hu, o, ho, hall⟩ := mem_ready.1 hi
        have hil : i < l.length := by have : i < l.toArray.size := (Array.getElem?_eq_some_iff.1 ho).1; simpa using this
        obtain ⟨k, hk, hkk⟩ := ok.waits i i0 hil h (by omega)
        obtain ⟨oj, hoj, e, he, hb, hon⟩ := Region.waitsFor_spec hk
        have : oj = o := Option.some.inj (hoj.symm.trans ho)
        subst this
        have h3 := hall e he hb
        have hk0 : ls.getD k true = false := by
          rcases hkk with rfl | ⟨hk1, _, hk2⟩
          · exact hu0
          · exact htl k hk1 (by omega)
        rw [hon, getD_both hk0] at h3
        cases h3
    have hu := (mem_ready.1 hi).1
    have hirem : i ∈ rem := (hmem i hin).1 hu
    refine wpOp_take ok hin (wpOp_of_qOp hC (fun a' w' hC' h' => ?_) (hq.2 i ((hready i hin).2 hi)))
    refine ih (rem.erase i) (ls.setIfInBounds i true) (ls'.setIfInBounds i true) a' w' ?_ (hnd.erase i) (by simpa using hs) (by simpa using hs') (fun k hk => ?_) (fun k hk => ?_) (fun k hk hk' => ?_) (fun k hk => hlt k (List.mem_of_mem_erase hk)) hC' h'
    · rw [List.length_erase_of_mem hirem]; omega
    · by_cases hki : k = i
      · subst hki
        have h3 : k < ls'.size := by omega
        have h4 : k < ls.size := by omega
        simp [h3, h4]
      · rw [getD_set_ne true (by omega), getD_set_ne true (by omega)]; exact hsame k hk
    · by_cases hki : k = i
      · subst hki
        have h4 : k < ls.size := by omega
        rw [hnd.mem_erase_iff]
        simp [h4]
      · rw [getD_set_ne true (by omega), hmem k hk, hnd.mem_erase_iff]
        simp [hki]
    · rw [getD_set_ne true (by omega)]; exact htl k hk hk'

/-- The rule: the first n operations in any order, in the class of all later worlds; then the others. -/
theorem wp_region_later_tail {id : Nat} {a : Act} {w : World} (y : Later w) (n : Nat) (hm : P.follows .mixedOrders = true) (hB : Region.lexB .any (l.take n).toArray = true) (hT : tailB l.toArray n = true)
    (h : wpQuiet P (l.take n).toArray (fun w' => ∃ x : Later w, w' = x.w) (fun a' => ∀ w', (∃ x : Later w, w' = x.w) → wpList P l.toArray Q (l.drop n) a' w') (l.take n) a) : (Code.region id l.toArray true).wp P Q a y.w := by
  have ok := tailOk_of hT
  have le := ok.le
  have htl : (l.take n).length = n := by simp; omega
  simp only [Region.lexB, Bool.and_eq_true] at hB
  refine wp_region_any hm ?_
  have hq := wpAnyQ_lex (P := P) (C := fun w' => ∃ x : Later w, w' = x.w) (md := .any) hB.1 (l.take n) 0 (Array.replicate (l.take n).toArray.size false) a (by simp) (by simpa using hB.2) h
  have := wpAny_of_prefix (P := P) (Q := Q) (C := fun w' => ∃ x : Later w, w' = x.w) ok n (List.range n) (Array.replicate l.toArray.size false) (Array.replicate (l.take n).toArray.size false) a { y.w with drawn := y.w.drawn + 1 } (by simp) List.nodup_range (by simp) (by simpa using htl) (fun i hi => ?_) (fun i hi => ?_) (fun i hi hi' => ?_) (fun i hi => by simpa using hi) ⟨⟨_, y.ext.drew⟩, rfl⟩ (by rw [htl] at hq; exact hq)
  · have hsz : n + (l.length - n) = l.toArray.size := by simp; omega
    rw [hsz] at this
    exact this
  · have h1 : i < l.length := by omega
    have h2 : i < (l.take n).length := by omega
    simp only [Array.getD, Array.size_replicate, List.size_toArray, h1, h2, dif_pos]
    simp
  · have h1 : i < l.length := by omega
    simp [h1, hi]
  · simp [hi']

/-- The same, from the world itself. -/
theorem wp_region_tail {id : Nat} {a : Act} {w : World} (n : Nat) (hm : P.follows .mixedOrders = true) (hB : Region.lexB .any (l.take n).toArray = true) (hT : tailB l.toArray n = true)
    (h : wpQuiet P (l.take n).toArray (fun w' => ∃ x : Later w, w' = x.w) (fun a' => ∀ w', (∃ x : Later w, w' = x.w) → wpList P l.toArray Q (l.drop n) a' w') (l.take n) a) : (Code.region id l.toArray true).wp P Q a w :=
  wp_region_later_tail (Later.self w) n hm hB hT h

end
end Go.Proofs.YtjibcnnbclcboaaDoor

namespace Go.Proofs.YtjibcnnbclcboaaDoor

/-- Is the rest of a list smooth, behind a speed and an acceleration? -/
def smGo (s a j : Int) : Int → Int → List Int → Bool
  | _, _, [] => true
  | v, b, x :: r => inR x 0 s && inR (x - v) (-a) a && inR (x - v - b) (-j) j && smGo s a j x (x - v) r
/-- Is a list smooth? -/
def smth (s a j : Int) (l : List Int) : Bool := vld s a j && smGo s a j 0 0 (l ++ [0, 0])

theorem getD_app2 (l : List Int) (i : Nat) (h : i < l.length + 2) : (l ++ [0, 0]).drop i = (if i < l.length then l.getD i 0 else 0) :: (l ++ [0, 0]).drop (i + 1) := by
  rw [List.drop_eq_getElem_cons (by simp; omega)]
  congr 1
  by_cases hi : i < l.length
  · rw [if_pos hi, List.getElem_append_left hi]; simp [hi]
  · rw [if_neg hi, List.getElem_append_right (by omega)]
    have : i - l.length = 0 ∨ i - l.length = 1 := by omega
    rcases this with h | h <;> simp [h]

end Go.Proofs.YtjibcnnbclcboaaDoor

namespace Go.Proofs.YtjibcnnbclcboaaDoor

theorem brakes_nonneg (s a j : Int) (hv : vld s a j = true) : ∀ (k : Nat) (v b : Int), saf s a j v b = true → ∀ x ∈ brakes a j k v b, 0 ≤ x ∧ x ≤ s := by
  intro k
  induction k with
  | zero => intro v b _ x hx; simp [brakes] at hx
  | succ k ih =>
    intro v b hs x hx
    have hs' := (brk_props s a j v b hv hs).1
    simp only [brakes] at hx
    split at hx
    · cases hx
    · rcases List.mem_cons.1 hx with rfl | hx
      · obtain ⟨⟨v1, v2⟩, _, _⟩ := (saf_iff _ _ _ _ _).1 hs'
        exact ⟨v1, v2⟩
      · exact ih _ _ hs' x hx

theorem sum_filter_pos : ∀ l : List Int, (∀ x ∈ l, 0 ≤ x) → (l.filter fun x => decide (0 < x)).sum = l.sum := by
  intro l
  induction l with
  | nil => intro _; rfl
  | cons x l ih =>
    intro h
    have hx := h x (by simp)
    rw [List.filter_cons, List.sum_cons, ← ih (fun y hy => h y (by simp [hy]))]
    by_cases h0 : 0 < x
    · simp [h0]
    · have : x = 0 := by omega
      simp [this]

theorem stops_sum (s a j v b : Int) (hv : vld s a j = true) (hs : saf s a j v b = true) : (stops s a j v b).sum = dsum s a j v b :=
  sum_filter_pos _ fun x hx => (brakes_nonneg s a j hv _ v b hs x hx).1
theorem stops_pos (s a j v b : Int) (hv : vld s a j = true) (hs : saf s a j v b = true) : ∀ x ∈ stops s a j v b, 0 < x ∧ x ≤ s := by
  intro x hx
  obtain ⟨h1, h2⟩ := List.mem_filter.1 hx
  exact ⟨by simpa using h2, (brakes_nonneg s a j hv _ v b hs x h1).2⟩

end Go.Proofs.YtjibcnnbclcboaaDoor

namespace Go.Proofs.YtjibcnnbclcboaaDoor

theorem fad_pos (j n : Int) (hj : 2 ≤ j) (h : fad j n ≤ 0) : n ≤ j := by
  rcases Int.lt_or_le j n with h1 | h1
  · rw [fad_rec j n hj, if_neg (by omega)] at h
    have := fad_nonneg j (n - j) hj
    omega
  · exact h1

theorem rest_smooth (s a j : Int) (hv : vld s a j = true) : ∀ (k : Nat) (v b : Int), saf s a j v b = true → mu s v b ≤ k → smGo s a j v b (stops s a j v b ++ [0, 0]) = true := by
  obtain ⟨⟨s1, s2⟩, ⟨a1, a2⟩, ⟨j1, j2⟩⟩ := (vld_iff s a j).1 hv
  intro k
  induction k with
  | zero =>
    intro v b hs hm
    have h0 : v = 0 ∧ b = 0 := Classical.byContradiction fun h => by
      have := mu_lt s a j v b hv hs h; omega
    obtain ⟨rfl, rfl⟩ := h0
    rw [stops_rest]
    simp [smGo, inR]; omega
  | succ k ih =>
    intro v b hs hm
    by_cases h0 : v = 0 ∧ b = 0
    · obtain ⟨rfl, rfl⟩ := h0
      rw [stops_rest]
      simp [smGo, inR]; omega
    · have hlt := mu_lt s a j v b hv hs h0
      have hs' := (brk_props s a j v b hv hs).1
      obtain ⟨⟨v1, v2⟩, ⟨b1, b2⟩, h3⟩ := (saf_iff s a j v b).1 hs
      obtain ⟨c1, c2, -⟩ := brk_walk a j v b j1 b1 b2
      obtain ⟨⟨n1, n2⟩, ⟨n3, n4⟩, n5⟩ := (saf_iff _ _ _ _ _).1 hs'
      rw [stops_cons s a j v b hv hs h0]
      have IH := ih _ _ hs' (by omega)
      generalize hc : brk a j v b = c at *
      by_cases hp : 0 < v + c
      · rw [if_pos hp]
        simp only [List.cons_append, smGo, Bool.and_eq_true, inR_iff]
        have e1 : v + c - v = c := by omega
        refine ⟨⟨⟨by omega, by omega⟩, by omega⟩, ?_⟩
        rw [e1]; exact IH
      · rw [if_neg hp]
        have hvc : v + c = 0 := by omega
        have hst : stops s a j (v + c) c = [] := by
          rw [hvc]
          rw [hvc] at hs'
          by_cases hc0 : c = 0
          · subst hc0; exact stops_rest s a j
          · rw [stops_cons s a j 0 c hv hs' (by omega)]
            have h5 := (brk_props s a j 0 c hv hs').2.2.2.2 (by omega) rfl
            rw [h5, if_neg (by omega)]
            exact stops_rest s a j
        rw [hst]
        have hcj : -c ≤ j := by
          by_cases hc0 : c = 0
          · omega
          · rw [if_neg (by omega), hvc] at n5
            exact fad_pos j (-c) j1 n5
        simp only [List.nil_append, smGo, Bool.and_eq_true, inR_iff, Bool.and_true]
        omega

end Go.Proofs.YtjibcnnbclcboaaDoor

namespace Go.Proofs.YtjibcnnbclcboaaDoor

theorem smooth_safe (s a j : Int) (hj : 2 ≤ j) : ∀ (r : List Int) (v b : Int), 0 ≤ v → v ≤ s → -a ≤ b → b ≤ a → smGo s a j v b (r ++ [0, 0]) = true → saf s a j v b = true := by
  intro r
  induction r with
  | nil =>
    intro v b v1 v2 b1 b2 h
    simp only [List.nil_append, smGo, Bool.and_eq_true, inR_iff, Bool.and_true] at h
    rw [saf_iff]
    refine ⟨⟨v1, v2⟩, ⟨b1, b2⟩, ?_⟩
    by_cases hb : 0 < b
    · rw [if_pos hb, fad_zero j b (by omega)]; omega
    · rw [if_neg hb]
      by_cases hbj : -b ≤ j
      · rw [fad_zero j _ hbj]; exact v1
      · rw [fad_rec j (-b) hj, if_neg hbj, fad_zero j (-b - j) (by omega)]; omega
  | cons x r ih =>
    intro v b v1 v2 b1 b2 h
    simp only [List.cons_append, smGo, Bool.and_eq_true, inR_iff] at h
    obtain ⟨⟨⟨⟨x1, x2⟩, x3, x4⟩, x5, x6⟩, h2⟩ := h
    have hs := ih x (x - v) x1 x2 x3 x4 h2
    obtain ⟨_, _, h3⟩ := (saf_iff _ _ _ _ _).1 hs
    rw [saf_iff]
    refine ⟨⟨v1, v2⟩, ⟨b1, b2⟩, ?_⟩
    by_cases hb : 0 < b
    · rw [if_pos hb]
      by_cases hbj : b ≤ j
      · rw [fad_zero j b hbj]; omega
      · rw [fad_rec j b hj, if_neg hbj]
        rw [if_pos (by omega)] at h3
        have := fad_mono j (b - j) (x - v) hj (by omega)
        omega
    · rw [if_neg hb]
      by_cases hbj : -b ≤ j
      · rw [fad_zero j _ hbj]; exact v1
      · rw [fad_rec j (-b) hj, if_neg hbj]
        rw [if_neg (by omega)] at h3
        have := fad_mono j (-b - j) (-(x - v)) hj (by omega)
        omega

end Go.Proofs.YtjibcnnbclcboaaDoor

namespace Go.Proofs.YtjibcnnbclcboaaDoor

/-- Can the state with the acceleration x follow the speed v, within the rest? -/
def fitsB (s a j v rest x : Int) : Bool := decide (v + x ≤ rest) && (saf s a j (v + x) x && decide (dsum s a j (v + x) x ≤ rest - (v + x)))

/-- The search for the greatest that fits. -/
def bis (P : Int → Bool) : Nat → Int → Int → Int
  | 0, lo, _ => lo
  | k + 1, lo, hi => if lo < hi then (if P (lo + (hi - lo + 1) / 2) then bis P k (lo + (hi - lo + 1) / 2) hi else bis P k lo (lo + (hi - lo + 1) / 2 - 1)) else lo

theorem bis_done (P : Int → Bool) (k : Nat) (lo hi : Int) (h : ¬ lo < hi) : bis P k lo hi = lo := by
  cases k with
  | zero => rfl
  | succ k => simp [bis, h]
theorem bis_fuel (P : Int → Bool) : ∀ (k m : Nat) (lo hi : Int), (hi - lo).toNat ≤ k → k ≤ m → bis P m lo hi = bis P k lo hi := by
  intro k
  induction k with
  | zero => intro m lo hi h _; rw [bis_done P m lo hi (by omega)]; rfl
  | succ k ih =>
    intro m lo hi h hm
    obtain ⟨m, rfl⟩ : ∃ m', m = m' + 1 := ⟨m - 1, by omega⟩
    simp only [bis]
    by_cases hlt : lo < hi
    · rw [if_pos hlt, if_pos hlt]
      split
      · exact ih m _ _ (by omega) (by omega)
      · exact ih m _ _ (by omega) (by omega)
    · rw [if_neg hlt, if_neg hlt]
theorem bis_in (P : Int → Bool) : ∀ (k : Nat) (lo hi : Int), lo ≤ hi → lo ≤ bis P k lo hi ∧ bis P k lo hi ≤ hi ∧ (P lo = true → P (bis P k lo hi) = true) := by
  intro k
  induction k with
  | zero => intro lo hi h; exact ⟨Int.le_refl _, h, fun h => h⟩
  | succ k ih =>
    intro lo hi h
    simp only [bis]
    by_cases hlt : lo < hi
    · rw [if_pos hlt]
      by_cases hp : P (lo + (hi - lo + 1) / 2) = true
      · rw [if_pos hp]
        obtain ⟨h1, h2, h3⟩ := ih (lo + (hi - lo + 1) / 2) hi (by omega)
        exact ⟨by omega, h2, fun _ => h3 hp⟩
      · rw [if_neg hp]
        obtain ⟨h1, h2, h3⟩ := ih lo (lo + (hi - lo + 1) / 2 - 1) (by omega)
        exact ⟨h1, by omega, h3⟩
    · rw [if_neg hlt]
      exact ⟨Int.le_refl _, h, fun h => h⟩

def nlo (a j v b : Int) : Int := max (brk a j v b) (1 - v)
def nhi (a j v b rest : Int) : Int := min (min a (b + j)) (rest - v)
/-- The greatest acceleration that fits. -/
def nxt (s a j v b rest : Int) : Option Int :=
  if nhi a j v b rest < nlo a j v b ∨ fitsB s a j v rest (nlo a j v b) = false then none
  else some (bis (fitsB s a j v rest) (nhi a j v b rest - nlo a j v b).toNat (nlo a j v b) (nhi a j v b rest))

theorem nxt_some {s a j v b rest c : Int} (h : nxt s a j v b rest = some c) : nlo a j v b ≤ c ∧ c ≤ nhi a j v b rest ∧ fitsB s a j v rest c = true := by
  unfold nxt at h
  split at h
  · cases h
  · rename_i hn
    simp only [Option.some.injEq] at h
    obtain ⟨h1, h2, h3⟩ := bis_in (fitsB s a j v rest) (nhi a j v b rest - nlo a j v b).toNat (nlo a j v b) (nhi a j v b rest) (by omega)
    rw [h] at h1 h2 h3
    refine ⟨h1, h2, h3 ?_⟩
    cases hf : fitsB s a j v rest (nlo a j v b)
    · exact absurd (.inr hf) hn
    · rfl
theorem fitsB_saf {s a j v rest x : Int} (h : fitsB s a j v rest x = true) : v + x ≤ rest ∧ saf s a j (v + x) x = true ∧ dsum s a j (v + x) x ≤ rest - (v + x) := by
  simpa [fitsB] using h

/-- The loop of the fast list: what is left of the length, the state, the list so far. -/
def fastGo (s a j most : Int) : Nat → Int → Int → Int → List Int → Option (List Int)
  | 0, _, _, _, out => some out
  | k + 1, v, b, rest, out =>
    if 0 < rest then
      match nxt s a j v b rest with
      | none => none
      | some c => if (out.length : Int) = most then none else fastGo s a j most k (v + c) c (rest - (v + c)) (out ++ [v + c])
    else some out

/-- The fast list, if there is one. -/
def fastL (s a j n most : Int) : Option (List Int) := if 5000 < most ∨ 100 < s / a + a / j then none else fastGo s a j most n.toNat 0 0 n []

/-- The simple list. -/
def simpGo (u : Int) : Nat → Int → List Int → List Int
  | 0, _, out => out
  | k + 1, rest, out => if 0 < rest then simpGo u k (rest - ((rest - 1) % u + 1)) (out ++ [(rest - 1) % u + 1]) else out

/-- What Steps returns, for valid limits and a length that is not too great. -/
def stepsL (n s a j : Int) : List Int :=
  match fastL s a j n (tickN' n s a j) with
  | some l => if smth s a j l then l else simpGo (smp s a j) n.toNat n []
  | none => simpGo (smp s a j) n.toNat n []
where tickN' (n s a j : Int) : Int := (n + smp s a j - 1) / smp s a j

end Go.Proofs.YtjibcnnbclcboaaDoor

namespace Go.Proofs.YtjibcnnbclcboaaDoor
open Go.RowKit
set_option maxRecDepth 8000

/-- The boxes of next: limits (N), a state (N + 1), the rest (N + 2). -/
structure NBox (W : World) (N : Nat) (s a j v b rest : Int) : Prop where
  lt : N + 2 < W.heap.size
  l0 : W.cell? ⟨N, 0, none⟩ = some (.int .i64 s)
  l1 : W.cell? ⟨N, 1, none⟩ = some (.int .i64 a)
  l2 : W.cell? ⟨N, 2, none⟩ = some (.int .i64 j)
  s0 : W.cell? ⟨N + 1, 0, none⟩ = some (.int .i64 v)
  s1 : W.cell? ⟨N + 1, 1, none⟩ = some (.int .i64 b)
  r : W.cell? ⟨N + 1 + 1, 0, none⟩ = some (.int .i64 rest)
theorem NBox.later {w w1 : World} {N : Nat} {s a j v b rest : Int} (h : NBox w N s a j v b rest) (he : Ext w w1) : NBox w1 N s a j v b rest where
  lt := Nat.lt_of_lt_of_le h.lt he.size
  l0 := by rw [he.cell (by have := h.lt; simp; omega)]; exact h.l0
  l1 := by rw [he.cell (by have := h.lt; simp; omega)]; exact h.l1
  l2 := by rw [he.cell (by have := h.lt; simp; omega)]; exact h.l2
  s0 := by rw [he.cell (by have := h.lt; simp; omega)]; exact h.s0
  s1 := by rw [he.cell (by have := h.lt; simp; omega)]; exact h.s1
  r := by rw [he.cell (by have := h.lt; simp; omega)]; exact h.r

set_option maxHeartbeats 1000000 in
theorem fits_any (N : Nat) (s a j v b rest x : Int) (w : World) (hv : vld s a j = true) (B : NBox w N s a j v b rest) (v1 : 0 ≤ v) (v2 : v ≤ 100000) (x1 : -1000000 ≤ x) (x2 : x ≤ 1000000) (r1 : -1000000000000 ≤ rest) (r2 : rest ≤ 1000000000000) :
    Calls Tryd.prog 90 #[.int .i64 x, .pointer (some ⟨N + 1, 0, none⟩), .pointer (some ⟨N + 1 + 1, 0, none⟩), .pointer (some ⟨N, 0, none⟩)] w fun e w' => e = .returned (.bool (fitsB s a j v rest x)) ∧ Ext w w' := by
  have HV := Lib.hid hv; clear hv
  have s0 := B.s0
  have l1 : N < w.heap.size := by have := B.lt; omega
  have l2 : N + 1 + 1 < w.heap.size := by have := B.lt; omega
  have B' := B.later ((Ext.refl w).alloc (.cells #[.int .i64 (v + x), .int .i64 x] 144))
  obtain ⟨W, hW⟩ : ∃ W, w.alloc (.cells #[.int .i64 (v + x), .int .i64 x] 144) = W := ⟨_, rfl⟩
  have hE : Ext w W := by rw [← hW]; exact (Ext.refl w).alloc _
  have t0 : ∀ y : Later W, y.w.cell? ⟨w.heap.size, 0, none⟩ = some (.int .i64 (v + x)) := Later.cell (by rw [← hW]; simp [go_sem])
  have t1 : ∀ y : Later W, y.w.cell? ⟨w.heap.size, 1, none⟩ = some (.int .i64 x) := Later.cell (by rw [← hW]; simp [go_sem])
  rw [hW] at B'
  have k0 := Later.cell B'.l0; have k1 := Later.cell B'.l1; have k2 := Later.cell B'.l2; have kr := Later.cell B'.r
  have HW := Lib.hid hW; clear hW
  by_cases h1 : v + x ≤ rest
  · cases h2 : saf s a j (v + x) x
    · have e : fitsB s a j v rest x = false := by simp [fitsB, h2]
      rw [e]; clear e
      go_enter Tryd.func90, Tryd.ntmps90
      go_wp2
      rw [HW.out]
      refine wp_region_later (by kernel_rfl) (by kernel_rfl) ?_
      repeat (go_big_quiet_step ((go_at_call 88; exact Calls.later (safe_any _ _ _ _ _ _ HV.out))))
      refine wpQuiet_nil ?_
      rintro _ ⟨y, rfl⟩
      go_wp2
      go_ret
      exact ⟨rfl, hE.trans y.ext⟩
    · have e : fitsB s a j v rest x = decide (dsum s a j (v + x) x ≤ rest - (v + x)) := by simp [fitsB, h1, h2]
      rw [e]; clear e
      have HS := Lib.hid h2
      go_enter Tryd.func90, Tryd.ntmps90
      go_wp2
      rw [HW.out]
      refine wp_region_later (by kernel_rfl) (by kernel_rfl) ?_
      repeat (go_big_quiet_step (first | (go_at_call 88; exact Calls.later (safe_any _ _ _ _ _ _ HV.out)) | (go_at_call 73; exact Calls.later (distance_any _ _ _ _ _ _ HV.out HS.out))))
      refine wpQuiet_nil ?_
      rintro _ ⟨y, rfl⟩
      go_wp2
      go_ret
      exact ⟨rfl, hE.trans y.ext⟩
  · have e : fitsB s a j v rest x = false := by simp [fitsB, h1]
    rw [e]; clear e
    have h1' : decide (v + x ≤ rest) = false := by simpa using h1
    go_enter Tryd.func90, Tryd.ntmps90
    go_wp2
    rw [HW.out]
    refine wp_region_later (by kernel_rfl) (by kernel_rfl) ?_
    repeat (go_big_quiet_step (fail))
    refine wpQuiet_nil ?_
    rintro _ ⟨y, rfl⟩
    go_wp2
    go_ret
    exact ⟨rfl, hE.trans y.ext⟩

end Go.Proofs.YtjibcnnbclcboaaDoor

namespace Go.Proofs.YtjibcnnbclcboaaDoor
open Go.RowKit
set_option maxRecDepth 8000

theorem ret_val' {a b : Value} (h : a = b) : Ending.returned a = .returned b := by rw [h]

/-- What next returns. -/
def nextV (s a j v b rest : Int) : Value := match nxt s a j v b rest with
  | none => .tuple #[.agg #[.int .i64 0, .int .i64 0], .bool false]
  | some c => .tuple #[.agg #[.int .i64 (v + c), .int .i64 c], .bool true]

/-- The result's box of next (N + 3), in all later worlds. -/
structure XBox (W : World) (N : Nat) : Prop where
  lt : N + 3 < W.heap.size
  c0 : W.cell? ⟨N + 1 + 1 + 1, 0, none⟩ = some (.int .i64 0)
  c1 : W.cell? ⟨N + 1 + 1 + 1, 1, none⟩ = some (.int .i64 0)
  f0 : W.frozen? ⟨N + 1 + 1 + 1, 0, none⟩ = false
  f1 : W.frozen? ⟨N + 1 + 1 + 1, 1, none⟩ = false
theorem XBox.later {w w1 : World} {N : Nat} (h : XBox w N) (he : Ext w w1) : XBox w1 N where
  lt := Nat.lt_of_lt_of_le h.lt he.size
  c0 := by rw [he.cell (by have := h.lt; simp; omega)]; exact h.c0
  c1 := by rw [he.cell (by have := h.lt; simp; omega)]; exact h.c1
  f0 := by rw [he.frozen (by have := h.lt; simp; omega)]; exact h.f0
  f1 := by rw [he.frozen (by have := h.lt; simp; omega)]; exact h.f1

theorem next_boxes {w : World} (s a j v b rest : Int) (t1 t2 t3 : TypeId) : ∃ W : World, (((w.alloc (.cells #[.int .i64 s, .int .i64 a, .int .i64 j] t1)).alloc (.cells #[.int .i64 v, .int .i64 b] t2)).alloc (.cells #[.int .i64 rest] t3)).alloc (.cells #[.int .i64 0, .int .i64 0] t2) = W ∧ Ext w W ∧ NBox W w.heap.size s a j v b rest ∧ XBox W w.heap.size :=
  ⟨_, rfl, ((((Ext.refl w).alloc _).alloc _).alloc _).alloc _,
    { lt := by simp, l0 := by simp [go_sem], l1 := by simp [go_sem], l2 := by simp [go_sem], s0 := by simp [go_sem], s1 := by simp [go_sem], r := by simp [go_sem] },
    { lt := by simp, c0 := by simp [go_sem], c1 := by simp [go_sem], f0 := by simp [go_sem], f1 := by simp [go_sem] }⟩

theorem Tryd.field_state (x y : Int) (w : World) : (Instr.field 144 (.agg #[.int .i64 x, .int .i64 y]) 1).run Tryd.prog w = .ok (.int .i64 y) w := by kernel_rfl

set_option maxHeartbeats 2000000 in
theorem next_any (s a j v b rest : Int) (w : World) (hv : vld s a j = true) (hs : saf s a j v b = true) (r1 : 1 ≤ rest) (r2 : rest ≤ 1000000000000) :
    Calls Tryd.prog 75 #[Lm s a j, .agg #[.int .i64 v, .int .i64 b], .int .i64 rest] w fun e w' => e = .returned (nextV s a j v b rest) ∧ Ext w w' := by
  obtain ⟨⟨s1, s2⟩, ⟨a1, a2⟩, ⟨j1, j2⟩⟩ := (vld_iff s a j).1 hv
  obtain ⟨⟨v1, v2⟩, ⟨b1, b2⟩, -⟩ := (saf_iff s a j v b).1 hs
  obtain ⟨d1, d2, -⟩ := brk_walk a j v b j1 b1 b2
  have d3 : -a ≤ brk a j v b := by omega
  have d4 : brk a j v b ≤ a := by omega
  clear d1 d2
  have HV := Lib.hid hv; clear hv
  have HS := Lib.hid hs; clear hs
  have hfld := Tryd.field_state
  go_enter Tryd.func75, Tryd.ntmps75
  go_wp2
  obtain ⟨W, hW, hE, B, X⟩ := next_boxes (w := w) s a j v b rest 54 144 2
  rw [hW]; clear hW
  have k0 := Later.cell B.l0; have k1 := Later.cell B.l1; have k2 := Later.cell B.l2; have q0 := Later.cell B.s0; have q1 := Later.cell B.s1; have kr := Later.cell B.r
  refine wp_region_later (by kernel_rfl) (by kernel_rfl) ?_
  repeat (go_big_quiet_step ((go_at_call 74; exact Calls.later (brake_any _ _ _ _ _ _ HV.out HS.out))))
  refine wpQuiet_nil ?_
  rintro _ ⟨y, rfl⟩
  have B2 := B.later y.ext
  have X2 := X.later y.ext
  have hE2 := hE.trans y.ext
  clear B X hE k0 k1 k2 q0 q1 kr
  generalize y.w = w2 at B2 X2 hE2 ⊢
  clear y W
  generalize hlo : (if brk a j v b < 1 - v then 1 - v else brk a j v b) = lo
  generalize hhi : (if rest - v < if b + j < a then b + j else a then rest - v else if b + j < a then b + j else a) = hi
  have hlo' : nlo a j v b = lo := by unfold nlo; rw [← hlo]; split <;> omega
  have hhi' : nhi a j v b rest = hi := by
    unfold nhi; rw [← hhi]
    by_cases h1 : b + j < a
    · rw [if_pos h1]; split <;> omega
    · rw [if_neg h1]; split <;> omega
  have lo1 : -1000000 ≤ lo := by rw [← hlo']; unfold nlo; omega
  have lo2 : lo ≤ 1000000 := by rw [← hlo']; unfold nlo; omega
  have hi1 : hi ≤ 1000000 := by rw [← hhi']; unfold nhi; omega
  have hi2 : -1000000 ≤ hi := by rw [← hhi']; unfold nhi; omega
  have HN : Hid (nextV s a j v b rest = if hi < lo ∨ fitsB s a j v rest lo = false then .tuple #[.agg #[.int .i64 0, .int .i64 0], .bool false] else .tuple #[.agg #[.int .i64 (v + bis (fitsB s a j v rest) (hi - lo).toNat lo hi), .int .i64 (bis (fitsB s a j v rest) (hi - lo).toNat lo hi)], .bool true]) := by
    show _ = _
    unfold nextV nxt
    rw [hlo', hhi']
    split <;> rename_i h <;> split at h <;> simp_all
  clear hlo hhi hlo' hhi' d3 d4
  have c0 := X2.c0; have c1 := X2.c1; have f0 := X2.f0; have f1 := X2.f1
  have s0 := B2.s0
  by_cases h1 : hi < lo
  · have HR := Lib.hid (HN.out.trans (if_pos (.inl h1)))
    go_wp2
    refine bodyPost_ret (v := .tuple #[.agg #[.int .i64 0, .int .i64 0], .bool false]) (by simp [results, Tryd.results75, go_sem, c0, c1]) rfl ⟨ret_val' HR.out.symm, ?_⟩
    exact (hE2.setCell (by simp; omega) _).setCell (by simp; omega) _
  · have h1' : decide (hi < lo) = false := by simpa using h1
    cases h2 : fitsB s a j v rest lo
    · have HR := Lib.hid (HN.out.trans (if_pos (.inr h2)))
      go_wp2_with fail
      refine (fits_any w.heap.size s a j v b rest lo _ HV.out B2 v1 (by omega) lo1 lo2 (by omega) r2).mono ?_
      rw [h2]
      rintro e w3 ⟨rfl, he3⟩
      have X3 := X2.later he3
      clear c0 c1 f0 f1
      have c0 := X3.c0; have c1 := X3.c1; have f0 := X3.f0; have f1 := X3.f1
      go_wp2
      refine bodyPost_ret (v := .tuple #[.agg #[.int .i64 0, .int .i64 0], .bool false]) (by simp [results, Tryd.results75, go_sem, c0, c1]) rfl ⟨ret_val' HR.out.symm, ?_⟩
      exact ((hE2.trans he3).setCell (by simp; omega) _).setCell (by simp; omega) _
    · have HR := Lib.hid (HN.out.trans (if_neg (by rw [h2]; simp; omega)))
      clear HN
      go_wp2_with fail
      refine (fits_any w.heap.size s a j v b rest lo _ HV.out B2 v1 (by omega) lo1 lo2 (by omega) r2).mono ?_
      rw [h2]
      rintro e w3 ⟨rfl, he3⟩
      have B3 := B2.later he3
      have X3 := X2.later he3
      have hE3 := hE2.trans he3
      clear c0 c1 f0 f1 s0 B2 X2 hE2 h2 he3
      go_wp2
      go_loopw [9, 10] (fun x y wr => ∃ p q : Int, x = .int .i64 p ∧ y = .int .i64 q ∧ lo ≤ p ∧ p ≤ q ∧ q ≤ hi ∧ NBox wr w.heap.size s a j v b rest ∧ XBox wr w.heap.size ∧ Ext w wr ∧ bis (fitsB s a j v rest) (q - p).toNat p q = bis (fitsB s a j v rest) (hi - lo).toNat lo hi) (fun x y _ => (intOf y - intOf x).toNat)
      case atStart => exact ⟨lo, hi, rfl, rfl, by omega, by omega, by omega, B3, X3, hE3, rfl⟩
      case round =>
        obtain ⟨p, q, rfl, rfl, p1, pq, q1, B4, X4, E4, hbis⟩ := hrel
        clear B3 X3 hE3
        by_cases hlt : p < q
        · have m1 : p + (q - p + 1) / 2 ≤ q := by omega
          have m2 : p < p + (q - p + 1) / 2 := by omega
          obtain ⟨k, hk⟩ : ∃ k, (q - p).toNat = k + 1 := ⟨(q - p).toNat - 1, by omega⟩
          rw [hk] at hbis
          simp only [bis, if_pos hlt] at hbis
          have hbs1 := bis_fuel (fitsB s a j v rest) (q - (p + (q - p + 1) / 2)).toNat k (p + (q - p + 1) / 2) q (Nat.le_refl _) (by omega)
          have hbs2 := bis_fuel (fitsB s a j v rest) (p + (q - p + 1) / 2 - 1 - p).toNat k p (p + (q - p + 1) / 2 - 1) (Nat.le_refl _) (by omega)
          rw [hbs1, hbs2] at hbis
          have HB := Lib.hid hbis
          clear hbis hbs1 hbs2 hk
          cases hf : fitsB s a j v rest (p + (q - p + 1) / 2)
          · go_wp2_with fail
            refine (fits_any w.heap.size s a j v b rest _ _ HV.out B4 v1 (by omega) (by omega) (by omega) (by omega) r2).mono ?_
            rw [hf]
            rintro e w5 ⟨rfl, he5⟩
            have B5 := B4.later he5; have X5 := X4.later he5; have E5 := E4.trans he5
            have HB2 := Lib.hid (by have := HB.out; rw [hf] at this; simpa using this)
            clear hf
            go_wp2
            go_roundw
            case rel => exact ⟨p, p + (q - p + 1) / 2 - 1, rfl, by go_num, by omega, by omega, by omega, B5, X5, E5, HB2.out⟩
            case measure => simp [intOf]; omega
          · go_wp2_with fail
            refine (fits_any w.heap.size s a j v b rest _ _ HV.out B4 v1 (by omega) (by omega) (by omega) (by omega) r2).mono ?_
            rw [hf]
            rintro e w5 ⟨rfl, he5⟩
            have B5 := B4.later he5; have X5 := X4.later he5; have E5 := E4.trans he5
            have HB2 := Lib.hid (by have := HB.out; rw [hf] at this; simpa using this)
            clear hf
            go_wp2
            go_roundw
            case rel => exact ⟨p + (q - p + 1) / 2, q, by go_num, rfl, by omega, by omega, by omega, B5, X5, E5, HB2.out⟩
            case measure => simp [intOf]; omega
        · rw [bis_done _ _ _ _ hlt] at hbis
          have HB := Lib.hid hbis
          clear hbis
          have c0 := X4.c0; have c1 := X4.c1; have f0 := X4.f0; have f1 := X4.f1
          have s0 := B4.s0
          go_wp2
          refine bodyPost_ret (v := .tuple #[.agg #[.int .i64 (v + p), .int .i64 p], .bool true]) (by simp [results, Tryd.results75, go_sem, c0, c1]) rfl ⟨ret_val' (by rw [HR.out, ← HB.out]), ?_⟩
          exact (E4.setCell (by simp; omega) _).setCell (by simp; omega) _

end Go.Proofs.YtjibcnnbclcboaaDoor

namespace Go.Proofs.YtjibcnnbclcboaaDoor
open Go.RowKit
set_option maxRecDepth 8000

theorem ret_tup2 {k k' : IntKind} {a b c d : Int} (h : a = b) (h' : c = d) : Ending.returned (.tuple #[.int k a, .int k' c]) = .returned (.tuple #[.int k b, .int k' d]) := by rw [h, h']

theorem smp_j {s a j : Int} (h : j / 2 < if a < s then a else s) : smp s a j = j / 2 := by unfold smp; split at h <;> omega
theorem smp_a {s a j : Int} (h : (if a < s then a else s) ≤ j / 2) (h2 : a < s) : smp s a j = a := by unfold smp; split at h <;> omega
theorem smp_s {s a j : Int} (h : (if a < s then a else s) ≤ j / 2) (h2 : s ≤ a) : smp s a j = s := by unfold smp; split at h <;> omega

/-- One box of limits, in all worlds that extend it. -/
theorem box_cells {w w1 : World} {s a j : Int} {t : TypeId} (he : Ext (w.alloc (.cells #[.int .i64 s, .int .i64 a, .int .i64 j] t)) w1) :
    w1.cell? ⟨w.heap.size, 0, none⟩ = some (.int .i64 s) ∧ w1.cell? ⟨w.heap.size, 1, none⟩ = some (.int .i64 a) ∧ w1.cell? ⟨w.heap.size, 2, none⟩ = some (.int .i64 j) := by
  refine ⟨?_, ?_, ?_⟩ <;> (rw [he.cell (by simp)]; simp [go_sem])

set_option maxHeartbeats 1000000 in
theorem needed_no (s a j p q : Int) (w : World) (h : mvg s a j p q = false) :
    Calls Tryd.prog 55 #[.int .i64 p, .int .i64 q, Lm s a j] w fun e w' => e = .returned (.tuple #[.int .i64 0, .int .i64 1]) ∧ Ext w w' := by
  go_enter Tryd.func55, Tryd.ntmps55
  go_wp2_with fail
  refine (moving_any s a j p q _).mono ?_
  rintro e w1 ⟨rfl, he⟩
  go_wp2
  go_ret2
  exact ⟨rfl, ((Ext.refl w).alloc _).trans he⟩

set_option maxHeartbeats 1000000 in
theorem needed_yes (s a j p q : Int) (w : World) (h : mvg s a j p q = true) :
    Calls Tryd.prog 55 #[.int .i64 p, .int .i64 q, Lm s a j] w fun e w' => e = .returned (.tuple #[.int .i64 (dsum s a j q (q - p)), .int .i64 0]) ∧ Ext w w' := by
  obtain ⟨hv, ⟨p1, p2⟩, ⟨q1, q2⟩, hs⟩ := (mvg_iff _ _ _ _ _).1 h
  obtain ⟨⟨s1, s2⟩, -, -⟩ := (vld_iff _ _ _).1 hv
  have HV := Lib.hid hv; clear hv
  have HS := Lib.hid hs; clear hs
  go_enter Tryd.func55, Tryd.ntmps55
  go_wp2_with fail
  refine (moving_any s a j p q _).mono ?_
  rintro e w1 ⟨rfl, he⟩
  obtain ⟨k0, k1, k2⟩ := box_cells he
  go_wp2_with fail
  refine (distance_any s a j q (q - p) _ HV.out HS.out).mono ?_
  rintro e w2 ⟨rfl, he2⟩
  go_wp2
  go_ret2
  exact ⟨rfl, (((Ext.refl w).alloc _).trans he).trans he2⟩

/-- What Ticks returns. -/
def tickN (n s a j : Int) : Int := if vld s a j = false ∨ n < 0 ∨ 1000000000000 < n then 0 else (n + smp s a j - 1) / smp s a j
def tickE (n s a j : Int) : Int := if vld s a j = false ∨ n < 0 then 1 else if 1000000000000 < n then 3 else 0

set_option maxHeartbeats 1000000 in
theorem ticks_any (n s a j : Int) (w : World) :
    Calls Tryd.prog 57 #[.int .i64 n, Lm s a j] w fun e w' => e = .returned (.tuple #[.int .i64 (tickN n s a j), .int .i64 (tickE n s a j)]) ∧ Ext w w' := by
  cases hv : vld s a j
  · have e1 : tickN n s a j = 0 := by simp [tickN, hv]
    have e2 : tickE n s a j = 1 := by simp [tickE, hv]
    rw [e1, e2]; clear e1 e2
    go_enter Tryd.func57, Tryd.ntmps57
    go_wp2_with fail
    refine (valid_no s a j _ hv).mono ?_
    rintro e w1 ⟨rfl, he⟩
    go_wp2
    go_ret2
    exact ⟨rfl, ((Ext.refl w).alloc _).trans he⟩
  · have hs := (vld_iff s a j).1 hv
    have HV := Lib.hid hv
    by_cases hn : n < 0
    · have e1 : tickN n s a j = 0 := by simp [tickN, hn]
      have e2 : tickE n s a j = 1 := by simp [tickE, hn]
      rw [e1, e2]; clear e1 e2 hv hs
      go_enter Tryd.func57, Tryd.ntmps57
      go_wp2_with fail
      refine (valid_yes s a j _ HV.out).mono ?_
      rintro e w1 ⟨rfl, he⟩
      go_wp2
      go_ret2
      exact ⟨rfl, ((Ext.refl w).alloc _).trans he⟩
    · have hn' : decide (n < 0) = false := by simpa using hn
      by_cases hb : 1000000000000 < n
      · have e1 : tickN n s a j = 0 := by simp [tickN, hb]
        have e2 : tickE n s a j = 3 := by simp [tickE, hv, hn, hb]
        rw [e1, e2]; clear e1 e2 hv hs
        go_enter Tryd.func57, Tryd.ntmps57
        go_wp2_with fail
        refine (valid_yes s a j _ HV.out).mono ?_
        rintro e w1 ⟨rfl, he⟩
        go_wp2
        go_ret2
        exact ⟨rfl, ((Ext.refl w).alloc _).trans he⟩
      · have e1 : tickN n s a j = (n + smp s a j - 1) / smp s a j := by simp [tickN, hv, hn, hb]
        have e2 : tickE n s a j = 0 := by simp [tickE, hv, hn, hb]
        obtain ⟨⟨s1, s2⟩, ⟨a1, a2⟩, ⟨j1, j2⟩⟩ := hs
        obtain ⟨u1, u2, u3, u4⟩ := smp_bounds s a j s1 a1 j1
        rw [e1, e2]; clear e1 e2 hv
        go_enter Tryd.func57, Tryd.ntmps57
        go_wp2_with fail
        refine (valid_yes s a j _ HV.out).mono ?_
        rintro e w1 ⟨rfl, he⟩
        obtain ⟨k0, k1, k2⟩ := box_cells he
        go_wp2_with fail
        refine (simple_any s a j _ j1 j2).mono ?_
        rintro e w2 ⟨rfl, he2⟩
        go_wp2
        go_ret2
        exact ⟨rfl, (((Ext.refl w).alloc _).trans he).trans he2⟩

end Go.Proofs.YtjibcnnbclcboaaDoor
