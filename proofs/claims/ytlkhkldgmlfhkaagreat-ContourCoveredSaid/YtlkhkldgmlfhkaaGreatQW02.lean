/-
  A region that draws its order: its first n operations read, or call functions that leave what was there as it was; the others follow them all, in the order of the text.
  A region that draws its order, walked as a flow of data: each operation is looked at alone, from any frame in which what it waits for is as it should be; nothing is said of the order.
-/
import Derived.Test.YtlkhkldgmlfhkaaGreatQW01
import Derived.StillTail
namespace Go.Proofs.YtlkhkldgmlfhkaaGreat
open Go.RowKit

/-- Do the operations from n on wait for all that stand before them, and does none wait for a later one? -/
def tailB (ops : Array Oper) (n : Nat) : Bool :=
  decide (n ≤ ops.size) &&
  ((List.range ops.size).all fun t => decide (t < n) || ((List.range t).all fun i => Region.waitsFor .any ops t i) || (decide (n < t) && Region.waitsFor .any ops t (t - 1))) &&
  ((List.range ops.size).all fun i => ((ops[i]?).map fun o => (o.after.all fun e => !Region.binds .any e || decide (e.on < i)) && (decide (n ≤ i) || ((o.guard.map fun g => decide (g.1 < n)).getD true))).getD true)

section
variable {P : Program} {Q : Exit → Act → World → Prop} {l : List Oper} {n : Nat} {C : World → Prop}

structure TailOk (l : List Oper) (n : Nat) : Prop where
  le : n ≤ l.length
  waits : ∀ t i, t < l.length → n ≤ t → i < t → ∃ k, Region.waitsFor .any l.toArray t k = true ∧ (k = i ∨ (n ≤ k ∧ i ≤ k ∧ k < t))
  low : ∀ i o, l.toArray[i]? = some o → ∀ e ∈ o.after, Region.binds .any e = true → e.on < i
  guard : ∀ i o g, l.toArray[i]? = some o → i < n → o.guard = some g → g.1 < n

theorem tailOk_of (h : tailB l.toArray n = true) : TailOk l n := by
  simp only [tailB, Bool.and_eq_true, decide_eq_true_eq, List.all_eq_true, List.mem_range, Bool.or_eq_true] at h
  obtain ⟨⟨h1, h2⟩, h3⟩ := h
  have hsz : l.toArray.size = l.length := by simp
  refine ⟨by simpa using h1, fun t i ht hn hi => ?_, fun i o ho e he hb => ?_, fun i o g ho hi hg => ?_⟩
  · rcases h2 t (by omega) with (h | h) | ⟨h, h'⟩
    · omega
    · exact ⟨i, h i hi, .inl rfl⟩
    · exact ⟨t - 1, h', .inr (by omega)⟩
  · have hi : i < l.toArray.size := (Array.getElem?_eq_some_iff.1 ho).1
    have := h3 i hi
    rw [ho] at this
    simp only [Option.map_some, Option.getD_some, Bool.and_eq_true, Array.all_eq_true'] at this
    have h4 := this.1 e he
    simp only [hb, Bool.not_true, Bool.false_or, decide_eq_true_eq] at h4
    exact h4
  · have hi' : i < l.toArray.size := (Array.getElem?_eq_some_iff.1 ho).1
    have := h3 i hi'
    rw [ho] at this
    simp only [Option.map_some, Option.getD_some, Bool.and_eq_true, hg, Bool.or_eq_true, decide_eq_true_eq] at this
    rcases this.2 with h | h
    · omega
    · exact h

theorem getD_tf {listed : Array Bool} {i : Nat} (hi : i < listed.size) (h : listed.getD i true ≠ false) : listed.getD i false = true := by
  simp [hi] at h ⊢; exact h

/-- The operations from t on, one after the other. -/
theorem wpAny_tail (ok : TailOk l n) : ∀ (d t : Nat) (listed : Array Bool) (a : Act) (w : World), l.length - t = d → n ≤ t → t ≤ l.length → listed.size = l.length →
    (∀ i, i < t → listed.getD i true ≠ false) → (∀ i, t ≤ i → i < l.length → listed.getD i true = false) →
    wpList P l.toArray Q (l.drop t) a w → wpAny P .any l.toArray Q d listed a w := by
  intro d
  induction d with
  | zero =>
    intro t listed a w hd hn ht hs h1 h2 hw
    obtain rfl : t = l.length := by omega
    rw [List.drop_length] at hw
    refine ⟨?_, hw⟩
    refine List.eq_nil_iff_forall_not_mem.2 fun i hi => ?_
    obtain ⟨hu, o, ho, _⟩ := mem_ready.1 hi
    have : i < l.toArray.size := (Array.getElem?_eq_some_iff.1 ho).1
    exact h1 i (by simpa using this) hu
  | succ d ih =>
    intro t listed a w hd hn ht hs h1 h2 hw
    have htl : t < l.length := by omega
    have hot : l.toArray[t]? = some l[t] := by simp [htl]
    have hmem : t ∈ Region.ready .any l.toArray listed := mem_ready.2 ⟨h2 t (Nat.le_refl _) htl, l[t], hot, fun e he hb => by
      have := ok.low t _ hot e he hb
      exact getD_tf (by omega) (h1 e.on this)⟩
    refine ⟨fun h => (by rw [h] at hmem; cases hmem), fun i hi => ?_⟩
    obtain ⟨hu, o, ho, hall⟩ := mem_ready.1 hi
    have hil : i < l.length := by have : i < l.toArray.size := (Array.getElem?_eq_some_iff.1 ho).1; simpa using this
    have hit : i = t := by
      rcases Nat.lt_trichotomy i t with h | h | h
      · exact absurd hu (h1 i h)
      · exact h
      · obtain ⟨k, hk, hkk⟩ := ok.waits i t hil (by omega) h
        obtain ⟨oj, hoj, e, he, hb, hon⟩ := Region.waitsFor_spec hk
        have : oj = o := Option.some.inj (hoj.symm.trans ho)
        subst this
        have h3 := hall e he hb
        have h4 := getD_both (h2 k (by omega) (by omega))
        rw [hon, h4] at h3
        cases h3
    subst hit
    have hw2 : wpOp P l.toArray Q i (wpList P l.toArray Q (l.drop (i + 1))) a w := by
      rw [List.drop_eq_getElem_cons htl] at hw
      unfold wpOp
      simp only [hot]
      exact hw
    refine wpOp_mono (fun a' w' h' => ih (i + 1) (listed.setIfInBounds i true) a' w' (by omega) (by omega) (by omega) (by simpa using hs) (fun k hk => ?_) (fun k hk hk' => ?_) h') hw2
    · by_cases hki : k = i
      · subst hki; simp [hs, hil]
      · have := h1 k (by omega)
        rwa [getD_set_ne true (by omega)]
    · rw [getD_set_ne true (by omega)]; exact h2 k (by omega) hk'

theorem take_get (i : Nat) (h : i < n) : (l.take n).toArray[i]? = l.toArray[i]? := by simp [List.getElem?_take_of_lt h]

theorem wanted_take (ok : TailOk l n) {i : Nat} {o : Oper} (hi : i < n) (ho : l.toArray[i]? = some o) (tm : Array Value) : Region.wanted o (yielded (l.take n).toArray tm) = Region.wanted o (yielded l.toArray tm) := by
  unfold Region.wanted
  cases hg : o.guard with
  | none => rfl
  | some g =>
    obtain ⟨g, b⟩ := g
    have hgn : g < n := ok.guard i o (g, b) ho hi hg
    have := take_get (l := l) g hgn
    simp only [yielded, this]

theorem wpOp_take (ok : TailOk l n) {i : Nat} (hi : i < n) {K : Act → World → Prop} {a : Act} {w : World} (h : wpOp P (l.take n).toArray Q i K a w) : wpOp P l.toArray Q i K a w := by
  unfold wpOp at *
  rw [take_get i hi] at h
  cases ho : l.toArray[i]? with
  | none => simp only [ho] at h ⊢; exact h
  | some o =>
    simp only [ho] at h ⊢
    rw [wanted_take ok hi ho] at h
    exact h

theorem wpAny_of_prefix (ok : TailOk l n) : ∀ (f : Nat) (rem : List Nat) (ls ls' : Array Bool) (a : Act) (w : World), rem.length = f → rem.Nodup → ls.size = l.length → ls'.size = n →
    (∀ i, i < n → ls.getD i true = ls'.getD i true) → (∀ i, i < n → (ls.getD i true = false ↔ i ∈ rem)) → (∀ i, n ≤ i → i < l.length → ls.getD i true = false) → (∀ i ∈ rem, i < n) →
    C w → wpAnyQ P .any (l.take n).toArray C (fun a' => ∀ w', C w' → wpList P l.toArray Q (l.drop n) a' w') f ls' a → wpAny P .any l.toArray Q (f + (l.length - n)) ls a w := by
  intro f
  induction f with
  | zero =>
    intro rem ls ls' a w hr hnd hs hs' hsame hmem htl hlt hC hq
    have hrem : rem = [] := List.length_eq_zero_iff.1 hr
    subst hrem
    rw [Nat.zero_add]
    exact wpAny_tail ok _ n ls a w rfl (Nat.le_refl _) ok.le hs (fun i hi h => by have := (hmem i hi).1 h; cases this) htl (hq.2 w hC)
  | succ f ih =>
    intro rem ls ls' a w hr hnd hs hs' hsame hmem htl hlt hC hq
    have le := ok.le
    -- what may come up in the region may come up among its first operations, and the other way round
    have hready : ∀ i, i < n → (i ∈ Region.ready .any (l.take n).toArray ls' ↔ i ∈ Region.ready .any l.toArray ls) := fun i hi => by
      rw [mem_ready, mem_ready, hsame i hi, take_get i hi]
      have hsz : ls'.size = n := hs'
      have key : ∀ o, l.toArray[i]? = some o → ((∀ e ∈ o.after, Region.binds .any e = true → ls'.getD e.on false = true) ↔ (∀ e ∈ o.after, Region.binds .any e = true → ls.getD e.on false = true)) := fun o ho => by
        refine forall_congr' fun e => forall_congr' fun he => forall_congr' fun hb => ?_
        have h1 : e.on < i := ok.low i o ho e he hb
        have h2 := hsame e.on (by omega)
        have h3 : e.on < ls'.size := by omega
        have h4 : e.on < ls.size := by omega
        simp [h3, h4] at h2 ⊢
        rw [h2]
      constructor
      · rintro ⟨p, o, ho, q⟩; exact ⟨p, o, ho, (key o ho).1 q⟩
      · rintro ⟨p, o, ho, q⟩; exact ⟨p, o, ho, (key o ho).2 q⟩
    -- the least that has not come up may come up
    have hex : ∃ i, i ∈ rem := by
      cases rem with
      | nil => simp at hr
      | cons x _ => exact ⟨x, List.mem_cons_self ..⟩
    have hleast : ∃ i, i < n ∧ ls.getD i true = false ∧ ∀ k, k < i → ls.getD k true ≠ false := by
      obtain ⟨i, hi⟩ := hex
      have : ∀ (m i : Nat), i ≤ m → i < n → ls.getD i true = false → ∃ i, i < n ∧ ls.getD i true = false ∧ ∀ k, k < i → ls.getD k true ≠ false := by
        intro m
        induction m with
        | zero => intro i h0 h1 h2; exact ⟨i, h1, h2, fun k hk => by omega⟩
        | succ m ihm =>
          intro i h0 h1 h2
          by_cases h : ∃ k, k < i ∧ ls.getD k true = false
          · obtain ⟨k, hk, hk2⟩ := h; exact ihm k (by omega) (by omega) hk2
          · exact ⟨i, h1, h2, fun k hk hk2 => h ⟨k, hk, hk2⟩⟩
      exact this i i (Nat.le_refl _) (hlt i hi) ((hmem i (hlt i hi)).2 hi)
    obtain ⟨i0, hi0, hu0, hmin⟩ := hleast
    have hr0 : i0 ∈ Region.ready .any l.toArray ls := by
      have ho : l.toArray[i0]? = some (l[i0]'(by omega)) := by simp [show i0 < l.length by omega]
      exact mem_ready.2 ⟨hu0, _, ho, fun e he hb => getD_tf (by have := ok.low i0 _ ho e he hb; omega) (hmin _ (ok.low i0 _ ho e he hb))⟩
    rw [show f + 1 + (l.length - n) = (f + (l.length - n)) + 1 by omega]
    refine ⟨fun h => (by rw [h] at hr0; cases hr0), fun i hi => ?_⟩
    have hin : i < n := by
      rcases Nat.lt_or_ge i n with h | h
      · exact h
      · obtain ⟨hu, o, ho, hall⟩ := mem_ready.1 hi
        have hil : i < l.length := by have : i < l.toArray.size := (Array.getElem?_eq_some_iff.1 ho).1; simpa using this
        obtain ⟨k, hk, hkk⟩ := ok.waits i i0 hil h (by omega)
        obtain ⟨oj, hoj, e, he, hb, hon⟩ := Region.waitsFor_spec hk
        have : oj = o := Option.some.inj (hoj.symm.trans ho)
        subst this
        have h3 := hall e he hb
        have hk0 : ls.getD k true = false := by
          rcases hkk with rfl | ⟨hk1, _, hk2⟩
          · exact hu0
          · exact htl k hk1 (by omega)
        rw [hon, getD_both hk0] at h3
        cases h3
    have hu := (mem_ready.1 hi).1
    have hirem : i ∈ rem := (hmem i hin).1 hu
    refine wpOp_take ok hin (wpOp_of_qOp hC (fun a' w' hC' h' => ?_) (hq.2 i ((hready i hin).2 hi)))
    refine ih (rem.erase i) (ls.setIfInBounds i true) (ls'.setIfInBounds i true) a' w' ?_ (hnd.erase i) (by simpa using hs) (by simpa using hs') (fun k hk => ?_) (fun k hk => ?_) (fun k hk hk' => ?_) (fun k hk => hlt k (List.mem_of_mem_erase hk)) hC' h'
    · rw [List.length_erase_of_mem hirem]; omega
    · by_cases hki : k = i
      · subst hki
        have h3 : k < ls'.size := by omega
        have h4 : k < ls.size := by omega
        simp [h3, h4]
      · rw [getD_set_ne true (by omega), getD_set_ne true (by omega)]; exact hsame k hk
    · by_cases hki : k = i
      · subst hki
        have h4 : k < ls.size := by omega
        rw [hnd.mem_erase_iff]
        simp [h4]
      · rw [getD_set_ne true (by omega), hmem k hk, hnd.mem_erase_iff]
        simp [hki]
    · rw [getD_set_ne true (by omega)]; exact htl k hk hk'

/-- The rule: the first n operations in any order, in the class of all later worlds; then the others. -/
theorem wp_region_later_tail {id : Nat} {a : Act} {w : World} (y : Later w) (n : Nat) (hm : P.follows .mixedOrders = true) (hB : Region.lexB .any (l.take n).toArray = true) (hT : tailB l.toArray n = true)
    (h : wpQuiet P (l.take n).toArray (fun w' => ∃ x : Later w, w' = x.w) (fun a' => ∀ w', (∃ x : Later w, w' = x.w) → wpList P l.toArray Q (l.drop n) a' w') (l.take n) a) : (Code.region id l.toArray true).wp P Q a y.w := by
  have ok := tailOk_of hT
  have le := ok.le
  have htl : (l.take n).length = n := by simp; omega
  simp only [Region.lexB, Bool.and_eq_true] at hB
  refine wp_region_any hm ?_
  have hq := wpAnyQ_lex (P := P) (C := fun w' => ∃ x : Later w, w' = x.w) (md := .any) hB.1 (l.take n) 0 (Array.replicate (l.take n).toArray.size false) a (by simp) (by simpa using hB.2) h
  have := wpAny_of_prefix (P := P) (Q := Q) (C := fun w' => ∃ x : Later w, w' = x.w) ok n (List.range n) (Array.replicate l.toArray.size false) (Array.replicate (l.take n).toArray.size false) a { y.w with drawn := y.w.drawn + 1 } (by simp) List.nodup_range (by simp) (by simpa using htl) (fun i hi => ?_) (fun i hi => ?_) (fun i hi hi' => ?_) (fun i hi => by simpa using hi) ⟨⟨_, y.ext.drew⟩, rfl⟩ (by rw [htl] at hq; exact hq)
  · have hsz : n + (l.length - n) = l.toArray.size := by simp; omega
    rw [hsz] at this
    exact this
  · have h1 : i < l.length := by omega
    have h2 : i < (l.take n).length := by omega
    simp only [Array.getD, Array.size_replicate, List.size_toArray, h1, h2, dif_pos]
    simp
  · have h1 : i < l.length := by omega
    simp [h1, hi]
  · simp [hi']

/-- The same, from the world itself. -/
theorem wp_region_tail {id : Nat} {a : Act} {w : World} (n : Nat) (hm : P.follows .mixedOrders = true) (hB : Region.lexB .any (l.take n).toArray = true) (hT : tailB l.toArray n = true)
    (h : wpQuiet P (l.take n).toArray (fun w' => ∃ x : Later w, w' = x.w) (fun a' => ∀ w', (∃ x : Later w, w' = x.w) → wpList P l.toArray Q (l.drop n) a' w') (l.take n) a) : (Code.region id l.toArray true).wp P Q a w :=
  wp_region_later_tail (Later.self w) n hm hB hT h

end
end Go.Proofs.YtlkhkldgmlfhkaaGreat

namespace Go.Proofs.YtlkhkldgmlfhkaaGreat
open Go.RowKit

/-- The frame in which the operations' places hold these values. -/
def putAll : List Oper → (Nat → Value) → Nat → Act → Act
  | [], _, _, a => a
  | o :: r, vals, i, a => putAll r vals (i + 1) (a.put o.dst (vals i))

/-- No two operations write one place. -/
def apartB : List Oper → Bool
  | [] => true
  | o :: r => (r.all fun x => match o.dst, x.dst with | some d, some e => !(d == e) | _, _ => true) && apartB r
/-- No operation waits for a later one. -/
def lowB (l : List Oper) : Bool := (List.range l.length).all fun i => ((l[i]?).map fun o => o.after.all fun e => !Region.binds .any e || decide (e.on < i)).getD true

def upd (vals : Nat → Value) (i : Nat) (v : Value) : Nat → Value := fun j => if j = i then v else vals j
theorem upd_same (vals : Nat → Value) (i : Nat) (v : Value) : upd vals i v i = v := by simp [upd]
theorem upd_ne (vals : Nat → Value) {i j : Nat} (v : Value) (h : j ≠ i) : upd vals i v j = vals j := by simp [upd, h]

theorem put_put (a : Act) (x : Option Tmp) (v u : Value) : (a.put x v).put x u = a.put x u := by
  cases x with
  | none => rfl
  | some d => simp [Act.put]
theorem putAll_congr : ∀ (l : List Oper) (i : Nat) (a : Act) (f g : Nat → Value), (∀ j, i ≤ j → j < i + l.length → f j = g j) → putAll l f i a = putAll l g i a
  | [], _, _, _, _, _ => rfl
  | o :: r, i, a, f, g, h => by
    unfold putAll
    rw [h i (Nat.le_refl _) (by simp)]
    exact putAll_congr r (i + 1) _ f g (fun j h1 h2 => h j (by omega) (by simp at h2 ⊢; omega))
theorem putAll_put : ∀ (l : List Oper) (i : Nat) (a : Act) (f : Nat → Value) (x : Option Tmp) (v : Value), (∀ o ∈ l, ∀ d, x = some d → o.dst ≠ some d) → putAll l f i (a.put x v) = (putAll l f i a).put x v
  | [], _, _, _, _, _, _ => rfl
  | o :: r, i, a, f, x, v, h => by
    unfold putAll
    rw [Act.put_comm a v (f i) (h o (List.mem_cons_self ..))]
    exact putAll_put r (i + 1) _ f x v (fun o' ho' => h o' (List.mem_cons_of_mem _ ho'))
theorem apart_cons {o : Oper} {r : List Oper} (h : apartB (o :: r) = true) : (∀ x ∈ r, ∀ d, o.dst = some d → x.dst ≠ some d) ∧ apartB r = true := by
  simp only [apartB, Bool.and_eq_true, List.all_eq_true] at h
  refine ⟨fun x hx d hd he => ?_, h.2⟩
  have := h.1 x hx
  simp [hd, he] at this
/-- Writing one operation's place. -/
theorem putAll_upd : ∀ (l : List Oper) (i k : Nat) (a : Act) (f : Nat → Value) (v : Value) (o : Oper), apartB l = true → l[k]? = some o → (putAll l f i a).put o.dst v = putAll l (upd f (i + k) v) i a
  | [], _, _, _, _, _, _, _, h => by simp at h
  | o' :: r, i, 0, a, f, v, o, hB, h => by
    obtain rfl : o' = o := by simpa using h
    obtain ⟨h1, _⟩ := apart_cons hB
    unfold putAll
    rw [← putAll_put r (i + 1) _ f o'.dst v h1, put_put]
    simp only [Nat.add_zero]
    rw [upd_same]
    exact putAll_congr r (i + 1) _ _ _ (fun j h1 _ => (upd_ne f v (by omega)).symm)
  | o' :: r, i, k + 1, a, f, v, o, hB, h => by
    obtain ⟨_, h2⟩ := apart_cons hB
    unfold putAll
    rw [putAll_upd r (i + 1) k _ f v o h2 (by simpa using h), upd_ne f v (by omega : i ≠ i + (k + 1)), show i + 1 + k = i + (k + 1) by omega]
theorem put_self (a : Act) (x : Option Tmp) : ∃ v, a.put x v = a := by
  cases x with
  | none => exact ⟨undef, rfl⟩
  | some d =>
    refine ⟨a.tmps.getD d undef, ?_⟩
    cases a with
    | mk t ds =>
      simp only [Act.put]
      congr 1
      apply Array.ext_getElem?
      intro i
      rw [Array.getElem?_setIfInBounds]
      split
      · rename_i h
        subst h
        split
        · rename_i h2; simp [h2]
        · rename_i h2; simp [Array.getElem?_eq_none (Nat.le_of_not_lt h2)]
      · rfl
theorem putAll_start : ∀ (l : List Oper) (i : Nat) (a : Act), ∃ f, putAll l f i a = a
  | [], _, a => ⟨fun _ => undef, rfl⟩
  | o :: r, i, a => by
    obtain ⟨v, hv⟩ := put_self a o.dst
    obtain ⟨f, hf⟩ := putAll_start r (i + 1) a
    refine ⟨upd f i v, ?_⟩
    unfold putAll
    rw [upd_same, hv, putAll_congr r (i + 1) a (upd f i v) f (fun j h1 _ => upd_ne f v (by omega))]
    exact hf

section
variable {P : Program} {Q : Exit → Act → World → Prop} {l : List Oper} {w0 : World} {a0 : Act} {R : Nat → Value → World → Prop}

/-- What is to be shown of the operation with number i. -/
def FlowStep (P : Program) (Q : Exit → Act → World → Prop) (l : List Oper) (w0 : World) (a0 : Act) (R : Nat → Value → World → Prop) (i : Nat) (o : Oper) : Prop :=
  ∀ (vals : Nat → Value) (w : World), Ext w0 w → (∀ e ∈ o.after, Region.binds .any e = true → R e.on (vals e.on) w) →
    wpOp P l.toArray Q i (fun a' w' => ∃ v, a' = (putAll l vals 0 a0).put o.dst v ∧ Ext w w' ∧ R i v w') (putAll l vals 0 a0) w
def FlowAll (p : Nat → Oper → Prop) : List Oper → Nat → Prop
  | [], _ => True
  | o :: r, i => p i o ∧ FlowAll p r (i + 1)
theorem flowAll_get {p : Nat → Oper → Prop} : ∀ (l : List Oper) (n : Nat), FlowAll p l n → ∀ i o, l[i]? = some o → p (n + i) o
  | [], _, _, _, _, h => by simp at h
  | o :: r, n, hp, 0, o', h => by obtain rfl : o = o' := by simpa using h
                                  exact hp.1
  | o :: r, n, hp, i + 1, o', h => by
    have := flowAll_get r (n + 1) hp.2 i o' (by simpa using h)
    rwa [show n + 1 + i = n + (i + 1) by omega] at this

theorem flow_sound (hA : apartB l = true) (hL : lowB l = true) (hR : ∀ i v w w', Ext w w' → R i v w → R i v w')
    (hS : ∀ i o, l[i]? = some o → FlowStep P Q l w0 a0 R i o)
    (hQ : ∀ vals w, Ext w0 w → (∀ i, i < l.length → R i (vals i) w) → Q .normal (putAll l vals 0 a0) w) :
    ∀ (d : Nat) (ls : Array Bool) (vals : Nat → Value) (w : World), ls.size = l.length → (∃ rem : List Nat, rem.length = d ∧ rem.Nodup ∧ ∀ i, i < l.length → (ls.getD i true = false ↔ i ∈ rem)) →
      Ext w0 w → (∀ i, i < l.length → ls.getD i true = true → R i (vals i) w) → wpAny P .any l.toArray Q d ls (putAll l vals 0 a0) w := by
  have hlow : ∀ i o, l[i]? = some o → ∀ e ∈ o.after, Region.binds .any e = true → e.on < i := fun i o ho e he hb => by
    have hi : i < l.length := by
      rcases Nat.lt_or_ge i l.length with h | h
      · exact h
      · rw [List.getElem?_eq_none h] at ho; cases ho
    simp only [lowB, List.all_eq_true, List.mem_range] at hL
    have := hL i hi
    rw [ho] at this
    simp only [Option.map_some, Option.getD_some, Array.all_eq_true'] at this
    have h4 := this e he
    simpa [hb] using h4
  -- what has not come up lets its least one come up
  have hend : ∀ ls : Array Bool, ls.size = l.length → Region.ready .any l.toArray ls = [] → ∀ i, i < l.length → ls.getD i true = true := fun ls hs hr i hi => by
    induction i using Nat.strongRecOn with
    | _ i ih =>
      rcases hb : ls.getD i true with _ | _
      · exfalso
        have ho : l.toArray[i]? = some (l[i]) := by simp [hi]
        have : i ∈ Region.ready .any l.toArray ls := mem_ready.2 ⟨hb, _, ho, fun e he hbd => by
          have h1 := hlow i _ (by simp [hi]) e he hbd
          have h2 := ih e.on h1 (by omega)
          have h3 : e.on < ls.size := by omega
          simp [h3] at h2 ⊢
          exact h2⟩
        rw [hr] at this
        cases this
      · rfl
  intro d
  induction d with
  | zero =>
    intro ls vals w hs hrem hE hV
    obtain ⟨rem, h1, h2, h3⟩ := hrem
    have hall : ∀ i, i < l.length → ls.getD i true = true := fun i hi => by
      rcases hb : ls.getD i true with _ | _
      · have := (h3 i hi).1 hb
        rw [List.length_eq_zero_iff.1 h1] at this
        cases this
      · rfl
    refine ⟨List.eq_nil_iff_forall_not_mem.2 fun i hi => ?_, hQ vals w hE (fun i hi => hV i hi (hall i hi))⟩
    obtain ⟨hu, o, ho, _⟩ := mem_ready.1 hi
    have hil : i < l.length := by have : i < l.toArray.size := (Array.getElem?_eq_some_iff.1 ho).1; simpa using this
    rw [hall i hil] at hu
    cases hu
  | succ d ih =>
    intro ls vals w hs hrem hE hV
    refine ⟨fun hr => hQ vals w hE (fun i hi => hV i hi (hend ls hs hr i hi)), fun i hi => ?_⟩
    obtain ⟨hu, o, ho, hall⟩ := mem_ready.1 hi
    have hil : i < l.length := by have : i < l.toArray.size := (Array.getElem?_eq_some_iff.1 ho).1; simpa using this
    have hol : l[i]? = some o := by simpa using ho
    refine wpOp_mono ?_ (hS i o hol vals w hE fun e he hb => ?_)
    · rintro a' w' ⟨v, rfl, hE', hRv⟩
      rw [putAll_upd l 0 i a0 vals v o hA hol, Nat.zero_add]
      obtain ⟨rem, h1, h2, h3⟩ := hrem
      have him : i ∈ rem := (h3 i hil).1 hu
      refine ih _ _ _ (by simpa using hs) ⟨rem.erase i, by rw [List.length_erase_of_mem him]; omega, h2.erase i, fun k hk => ?_⟩ (hE.trans hE') (fun k hk hk' => ?_)
      · by_cases hki : k = i
        · subst hki
          have h4 : k < ls.size := by omega
          rw [h2.mem_erase_iff]
          simp [h4]
        · rw [getD_set_ne true (by omega), h3 k hk, h2.mem_erase_iff]
          simp [hki]
      · by_cases hki : k = i
        · subst hki; rw [upd_same]; exact hRv
        · rw [getD_set_ne true (by omega)] at hk'
          rw [upd_ne _ _ hki]
          exact hR k _ w w' hE' (hV k hk hk')
    · have h1 := hlow i o hol e he hb
      have h2 := hall e he hb
      have h3 : e.on < ls.size := by omega
      exact hV e.on (by omega) (by simp [h3] at h2 ⊢; exact h2)

/-- The rule. -/
theorem wp_region_flow {id : Nat} (R : Nat → Value → World → Prop) (hm : P.follows .mixedOrders = true) (hA : apartB l = true) (hL : lowB l = true) (hR : ∀ i v w w', Ext w w' → R i v w → R i v w')
    (hS : FlowAll (FlowStep P Q l w0 a0 R) l 0)
    (hQ : ∀ vals w, Ext w0 w → (∀ i, i < l.length → R i (vals i) w) → Q .normal (putAll l vals 0 a0) w) : (Code.region id l.toArray true).wp P Q a0 w0 := by
  refine wp_region_any hm ?_
  obtain ⟨f, hf⟩ := putAll_start l 0 a0
  have := flow_sound (P := P) (Q := Q) (w0 := w0) (a0 := a0) hA hL hR (fun i o ho => by have := flowAll_get l 0 hS i o ho; rwa [Nat.zero_add] at this) hQ l.toArray.size (Array.replicate l.toArray.size false) f { w0 with drawn := w0.drawn + 1 } (by simp)
    ⟨List.range l.length, by simp, List.nodup_range, fun i hi => by simp [hi]⟩ (Ext.refl w0).drew (fun i hi h => by simp [hi] at h)
  rw [hf] at this
  exact this
end
end Go.Proofs.YtlkhkldgmlfhkaaGreat
