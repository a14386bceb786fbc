/-
  Slices of values of any fixed size: a slice that reads as a list, a slice of the call's own, append.
  Cuts in memory; walk: material.Lowest.
  The flow of data in a region whose last operations wait for all others.
-/
import Derived.Test.YtjibcnnbclcboaaDoorQS19
import Derived.Maps.AppendAt
import Derived.OwnWalk
import Derived.Laws.AppendOwnNone
import Derived.Test.YtjibcnnbclcboaaDoorQS09
namespace Go.Proofs.YtjibcnnbclcboaaDoor
open Go.RowKit

/-- The cells of a list of values. -/
def cat {α : Type} (f : α → List Value) : List α → List Value
  | [] => []
  | x :: l => f x ++ cat f l

section
variable {α : Type} {f : α → List Value} {k : Nat}
theorem cat_length (hf : ∀ x, (f x).length = k) : ∀ l : List α, (cat f l).length = l.length * k
  | [] => by simp [cat]
  | x :: l => by rw [cat, List.length_append, hf, cat_length hf l, List.length_cons, Nat.succ_mul]; omega
theorem cat_append : ∀ l l' : List α, cat f (l ++ l') = cat f l ++ cat f l'
  | [], l' => rfl
  | x :: l, l' => by rw [List.cons_append, cat, cat, cat_append l l', List.append_assoc]
theorem cat_get (hf : ∀ x, (f x).length = k) : ∀ (l : List α) (i r : Nat) (x : α), l[i]? = some x → r < k → (cat f l)[i * k + r]? = (f x)[r]?
  | [], _, _, _, h, _ => by simp at h
  | y :: l, 0, r, x, h, hr => by
    obtain rfl : y = x := by simpa using h
    rw [cat, Nat.zero_mul, Nat.zero_add, List.getElem?_append_left (by rw [hf]; exact hr)]
  | y :: l, i + 1, r, x, h, hr => by
    rw [cat, List.getElem?_append_right (by rw [hf, Nat.succ_mul]; omega), hf]
    have : (i + 1) * k + r - k = i * k + r := by rw [Nat.succ_mul]; omega
    rw [this, cat_get hf l i r x (by simpa using h) hr]
theorem cat_one (h1 : ∀ x, ∀ u ∈ f x, u.oneCell' = true) : ∀ (l : List α), ∀ u ∈ cat f l, u.oneCell' = true
  | [], u, h => by simp [cat] at h
  | x :: l, u, h => by
    simp only [cat, List.mem_append] at h
    rcases h with h | h
    · exact h1 x u h
    · exact cat_one h1 l u h

/-- The slice v reads as the list l. -/
def SlG (k : Nat) (f : α → List Value) (w : World) (v : Value) (l : List α) : Prop :=
  ∃ (a : Option Addr) (n cap b off : Nat), v = .slice a n cap ∧ n = l.length ∧ (n = 0 ∨ a = some ⟨b, off, none⟩) ∧ (a = none → cap = 0) ∧ n ≤ cap ∧
    ∀ i x, l[i]? = some x → b < w.heap.size ∧ ∀ r u, (f x)[r]? = some u → w.cell? ⟨b, off + i * k + r, none⟩ = some u
theorem SlG.later {w w' : World} {v : Value} {l : List α} (h : SlG k f w v l) (he : Ext w w') : SlG k f w' v l := by
  obtain ⟨a, n, cap, b, off, rfl, h2, h3, h4, h5, h6⟩ := h
  refine ⟨a, n, cap, b, off, rfl, h2, h3, h4, h5, fun i x hx => ?_⟩
  obtain ⟨p, q⟩ := h6 i x hx
  refine ⟨Nat.lt_of_lt_of_le p he.size, fun r u hu => ?_⟩
  rw [he.cell (by exact p)]
  exact q r u hu
theorem SlG.nil (w : World) : SlG k f w (.slice none 0 0) [] := ⟨none, 0, 0, 0, 0, rfl, rfl, .inl rfl, fun _ => rfl, Nat.le_refl _, fun i x h => by simp at h⟩
theorem SlG.len {w : World} {a : Option Addr} {n cap : Nat} {l : List α} (h : SlG k f w (.slice a n cap) l) : n = l.length := by
  obtain ⟨a', n', cap', b, off, e, h2, _⟩ := h
  cases e
  exact h2

/-- A slice of the call's own that holds these values. -/
def OwnG (B : Nat) (T : TypeId) (k : Nat) (f : α → List Value) (w : World) (v : Value) (l : List α) : Prop := w.ownsRow B T k v l.length (cat f l)
theorem OwnG.later {B : Nat} {T : TypeId} {w w' : World} {v : Value} {l : List α} (h : OwnG B T k f w v l) (he : Ext w w') : OwnG B T k f w' v l := by
  refine World.ownsRow.kept h (row := none) ⟨he.out.os, he.out.tape, he.out.output, he.size, fun k hk _ => he.out.block k hk⟩ ?_
  cases h' : v.ownBlock <;> simp
theorem OwnG.set {B : Nat} {T : TypeId} {w : World} {v : Value} {l : List α} (h : OwnG B T k f w v l) {a : Addr} (ha : v.ownBlock ≠ some a.block) (u : Value) : OwnG B T k f (w.setCell a u) v l := ownsRow_setCell_other h ha u
theorem OwnG.nil (B : Nat) (T : TypeId) (w : World) : OwnG B T k f w (.slice none 0 0) [] := World.ownsRow_nil _ _ _ _
theorem OwnG.base {B : Nat} {T : TypeId} {w : World} {v : Value} {l : List α} {b : Nat} (h : OwnG B T k f w v l) (e : v.ownBlock = some b) : B ≤ b ∧ b < w.heap.size := by
  obtain ⟨h1, h2⟩ := h
  rcases h2 with ⟨rfl, h3⟩ | ⟨g, cap, cur, rfl, h3, h4, h5, h6, h7, h8⟩
  · cases e
  · cases e
    refine ⟨h3, ?_⟩
    rcases Nat.lt_or_ge g w.heap.size with h' | h'
    · exact h'
    · rw [Array.getElem?_eq_none h'] at h4; cases h4
theorem OwnG.sl {B : Nat} {T : TypeId} {w : World} {v : Value} {l : List α} (hf : ∀ x, (f x).length = k) (h : OwnG B T k f w v l) : SlG k f w v l := by
  obtain ⟨h1, h2⟩ := h
  rcases h2 with ⟨rfl, h3⟩ | ⟨g, cap, cur, rfl, h3, h4, h5, h6, h7, h8⟩
  · obtain rfl := List.length_eq_zero_iff.1 h3
    exact SlG.nil w
  · refine ⟨_, _, cap, g, 0, rfl, rfl, .inr rfl, fun h => (by cases h), h5, fun i x hx => ⟨?_, fun r u hu => ?_⟩⟩
    · rcases Nat.lt_or_ge g w.heap.size with h' | h'
      · exact h'
      · rw [Array.getElem?_eq_none h'] at h4; cases h4
    · have hr : r < k := by
        rcases Nat.lt_or_ge r (f x).length with h' | h'
        · rw [hf] at h'; exact h'
        · rw [List.getElem?_eq_none h'] at hu; cases hu
      have hi : i < l.length := by
        rcases Nat.lt_or_ge i l.length with h' | h'
        · exact h'
        · rw [List.getElem?_eq_none h'] at hx; cases hx
      have hik : i * k + r < l.length * k := by
        have : (i + 1) * k ≤ l.length * k := Nat.mul_le_mul_right _ hi
        rw [Nat.succ_mul] at this
        omega
      have e : cur[i * k + r]? = some u := by
        have h9 : (cur.toList.take (l.length * k))[i * k + r]? = (cat f l)[i * k + r]? := by rw [h8]
        rw [List.getElem?_take_of_lt hik, cat_get hf l i r x hx hr, hu] at h9
        simpa using h9
      rw [Nat.zero_add]
      simp [World.cell?, h4, e]

theorem addr_plain (b off i : Nat) : (⟨b, off, none⟩ : Addr).add i = ⟨b, off + i, none⟩ := by
  unfold Addr.add
  split
  · rename_i h; subst h; rfl
  · rfl

/-- append(a slice of the call's own, values...). -/
theorem appG_at {P : Program} {S T : TypeId} {bytes : Nat} {w : World} {ops : Array Oper} {rest : List Oper} {o : Oper} {A : Act} {Q : Exit → Act → World → Prop} (hg : o.guard = none) (x y : Operand)
    (ho : o.op = .call { callee := .builtin .append, args := #[x, y], argTypes := #[S, S] })
    (hS : P.underlying S = some (.slice T)) {z : Value} (hT : (P.info? T).map (fun i => (i.zero, i.size, i.bytes)) = some (some z, k, bytes)) (hz : z.cells.size = k) (hk0 : 0 < k)
    (hf : ∀ x, (f x).length = k) (h1 : ∀ x, ∀ u ∈ f x, u.oneCell' = true)
    (base : Nat) (v v2 : Value) (l l2 : List α) (hx : A.eval x = v) (hy : A.eval y = v2)
    (hown : OwnG base T k f w v l) (harg : SlG k f w v2 l2) (h63 : l.length + l2.length ≤ maxLen) (hby : (l.length + l2.length) * bytes ≤ 140737488355328) (hbase : base ≤ w.heap.size)
    (hk : ∀ v' w3, OwnG base T k f w3 v' (l ++ l2) → w.grownBy w3 v.ownBlock → (v'.ownBlock = v.ownBlock ∨ v'.ownBlock = some w.heap.size) → wpList P ops Q rest (A.put o.dst v') w3) : wpList P ops Q (o :: rest) A w := by
  obtain ⟨i0, hi, hz0, hz1, hz2⟩ := info_parts hT
  obtain ⟨ad, n, cap, b, off, rfl, rfl, h3, h4, _, h6⟩ := harg
  cases ad with
  | none =>
    have h0 : l2.length = 0 := h3.resolve_right (by simp)
    obtain rfl := List.length_eq_zero_iff.1 h0
    obtain rfl := h4 rfl
    exact wpList_append_own_none hg _ _ S ho base T i0 k hS hi _ _ _ hx hown hy (hk _ _ (by rw [List.append_nil]; exact hown) ⟨rfl, rfl, rfl, Nat.le_refl _, fun _ _ _ => rfl⟩ (.inl rfl))
  | some x2 =>
    refine wpList_append_own_at w hg _ _ S ho base T i0 _ k bytes hS hi hz0 hz1 hz2 hz hk0 _ _ _ hx hown x2 _ _ (cat f l2) hy (cat_length hf l2) (fun j u hj => ?_) (cat_one h1 l2) h63 hby hbase (fun v' w3 ho3 hg3 _ hat => hk v' w3 ?_ hg3 hat)
    · have hjl : j < l2.length * k := by
        rw [← cat_length hf]
        rcases Nat.lt_or_ge j (cat f l2).length with h' | h'
        · exact h'
        · rw [List.getElem?_eq_none h'] at hj; cases hj
      have hi2 : j / k < l2.length := Nat.div_lt_of_lt_mul (by rw [Nat.mul_comm]; exact hjl)
      have hx2 : x2 = ⟨b, off, none⟩ := by simpa using h3.resolve_left (Nat.ne_of_gt (Nat.lt_of_le_of_lt (Nat.zero_le _) hi2))
      subst hx2
      rw [addr_plain]
      have hr : j % k < k := Nat.mod_lt _ hk0
      have e : j = j / k * k + j % k := by rw [Nat.mul_comm]; exact (Nat.div_add_mod j k).symm
      have hxx : l2[j / k]? = some l2[j / k] := by simp [hi2]
      have := cat_get hf l2 (j / k) (j % k) _ hxx hr
      rw [← e, hj] at this
      have h7 := (h6 (j / k) _ hxx).2 (j % k) u this.symm
      rw [show off + j = off + j / k * k + j % k by omega]
      exact h7
    · unfold OwnG
      rw [List.length_append, cat_append]
      exact ho3
end
end Go.Proofs.YtjibcnnbclcboaaDoor

namespace Go.Proofs.YtjibcnnbclcboaaDoor
open Go.RowKit
set_option maxRecDepth 8000
set_option maxRecDepth 100000

theorem Tryd.info_cut : (Tryd.prog.info? 42).map (fun i => (i.zero, i.size, i.bytes)) = some (some (.agg #[.int .i64 0, .int .i64 0, .int .i64 0, .int .i64 0, .int .i64 0, .int .i64 0, .int .i64 0]), 7, 56) := by kernel_rfl
/-- The cells of a cut between two heights. -/
def cutC (p : Int × Int) : List Value := [.int .i64 0, .int .i64 0, .int .i64 p.1, .int .i64 0, .int .i64 0, .int .i64 p.2, .int .i64 1]
theorem cutC_len (p : Int × Int) : (cutC p).length = 7 := rfl
theorem cutC_one (p : Int × Int) : ∀ u ∈ cutC p, u.oneCell' = true := by
  intro u h
  simp only [cutC, List.mem_cons, List.not_mem_nil, or_false] at h
  rcases h with h | h | h | h | h | h | h <;> subst h <;> rfl

def min3 (a b c : Int) : Int := min (min a b) c
theorem min3_ite (a b c : Int) : (if c < if b < a then b else a then c else if b < a then b else a) = min3 a b c := by
  unfold min3
  by_cases h : b < a
  · rw [if_pos h]; split <;> omega
  · rw [if_neg h]; split <;> omega
def lowK (z : Int) : List (Int × Int) → Int
  | [] => z
  | p :: l => lowK (min3 z p.1 p.2) l
theorem lowK_snoc : ∀ (z : Int) (l : List (Int × Int)) (p : Int × Int), lowK z (l ++ [p]) = min3 (lowK z l) p.1 p.2
  | _, [], _ => rfl
  | z, q :: l, p => by rw [List.cons_append, lowK, lowK, lowK_snoc]
/-- Small heights. -/
def smallP (l : List (Int × Int)) : Prop := ∀ p ∈ l, -10000000 ≤ p.1 ∧ p.1 ≤ 10000000 ∧ -10000000 ≤ p.2 ∧ p.2 ≤ 10000000
theorem lowK_bound : ∀ (l : List (Int × Int)) (z : Int), -10000000 ≤ z → z ≤ 10000000 → smallP l → -10000000 ≤ lowK z l ∧ lowK z l ≤ 10000000
  | [], z, h0, h1, _ => ⟨h0, h1⟩
  | p :: l, z, h0, h1, h => by
    have hp := h p (List.mem_cons_self ..)
    exact lowK_bound l _ (by unfold min3; omega) (by unfold min3; omega) (fun q hq => h q (List.mem_cons_of_mem _ hq))

set_option maxHeartbeats 4000000 in
theorem lowest_any (v : Value) (p0 : Int × Int) (l : List (Int × Int)) (w : World) (h : SlG 7 cutC w v (p0 :: l)) (hs : smallP (p0 :: l)) (hn : (p0 :: l).length ≤ 1000000) :
    Calls Tryd.prog 15 #[v] w fun e w' => e = .returned (.tuple #[.int .i64 (lowK p0.1 (p0 :: l)), .bool true]) ∧ Ext w w' := by
  obtain ⟨a, n, cap, b, off, rfl, rfl, h3, h4, h5, h6⟩ := h
  obtain rfl : a = some ⟨b, off, none⟩ := h3.resolve_left (by simp)
  have hq0 : ((p0 :: l).length : Int) ≠ 0 := by simp; omega
  obtain ⟨hb, hc⟩ := h6 0 p0 rfl
  have c2 := hc 2 (.int .i64 p0.1) rfl
  rw [Nat.zero_mul, Nat.add_zero] at c2
  have HC := Lib.hid h6
  have HS := Lib.hid hs
  have hp := hs p0 (List.mem_cons_self ..)
  have hlen : 0 < (p0 :: l).length := by simp
  have HH0 : Hid ((p0 :: l)[0]? = some p0) := Lib.hid rfl
  generalize hL : p0 :: l = L at *
  have hq : ((L.length : Int) == 0) = false := by simpa using hq0
  clear h3 h4 h5 h6 hs hc hq0
  obtain ⟨z, hz⟩ : ∃ z, z = p0.1 := ⟨_, rfl⟩
  have HZ := Lib.hid hz
  rw [← hz] at c2 ⊢
  have hz0 : -10000000 ≤ z := by omega
  have hz1 : z ≤ 10000000 := by omega
  clear hz hL hp
  go_enter Tryd.func15, Tryd.ntmps15
  go_wp2_with fail
  clear hq c2
  go_loopw [4, 17] (fun t i wr => ∃ (k : Nat), k ≤ L.length ∧ i = .int .i64 k ∧ t = .int .i64 (lowK z (L.take k)) ∧ Hid (Ext w wr)) (fun _ i _ => L.length - (intOf i).toNat)
  case atStart => exact ⟨0, Nat.zero_le _, rfl, rfl, Lib.hid (Ext.refl w)⟩
  case round =>
    obtain ⟨k, hk, rfl, rfl, HE⟩ := hrel
    have hb1 := lowK_bound (L.take k) z hz0 hz1 (fun q hq => HS.out q (List.mem_of_mem_take hq))
    by_cases hlt : k < L.length
    · obtain ⟨p, hp⟩ : ∃ p, L[k]? = some p := ⟨L[k], by simp [hlt]⟩
      have hcc := (HC.out k p hp).2
      have c0 := (HE.out.cell (p := ⟨b, off + k * 7 + 0, none⟩) hb).trans (hcc 0 (.int .i64 0) rfl)
      have c1 := (HE.out.cell (p := ⟨b, off + k * 7 + 1, none⟩) hb).trans (hcc 1 (.int .i64 0) rfl)
      have c2 := (HE.out.cell (p := ⟨b, off + k * 7 + 2, none⟩) hb).trans (hcc 2 (.int .i64 p.1) rfl)
      have c3 := (HE.out.cell (p := ⟨b, off + k * 7 + 3, none⟩) hb).trans (hcc 3 (.int .i64 0) rfl)
      have c4 := (HE.out.cell (p := ⟨b, off + k * 7 + 4, none⟩) hb).trans (hcc 4 (.int .i64 0) rfl)
      have c5 := (HE.out.cell (p := ⟨b, off + k * 7 + 5, none⟩) hb).trans (hcc 5 (.int .i64 p.2) rfl)
      have c6 := (HE.out.cell (p := ⟨b, off + k * 7 + 6, none⟩) hb).trans (hcc 6 (.int .i64 1) rfl)
      rw [Nat.add_zero] at c0
      have hpb := HS.out p (List.mem_of_getElem? hp)
      have HN : Hid (lowK z (L.take (k + 1)) = min3 (lowK z (L.take k)) p.1 p.2) := Lib.hid (by
        have e : L[k] = p := by simpa [hlt] using hp
        rw [List.take_succ_eq_append_getElem hlt, lowK_snoc, e])
      clear hcc hp
      obtain ⟨p1, p2⟩ := p
      obtain ⟨g1, g2, g3, g4⟩ := hpb
      simp only at c0 c1 c2 c3 c4 c5 c6 g1 g2 g3 g4 HN
      generalize lowK z (L.take k) = m at *
      obtain ⟨V, hV, hbV, hEV, -⟩ := row_alloc wr #[.int .i64 0, .int .i64 0, .int .i64 p1, .int .i64 0, .int .i64 0, .int .i64 p2, .int .i64 1] 42
      have HEV := Lib.hid (HE.out.trans hEV)
      have v2 := Lib.cell_of_heap hbV 2; have v5 := Lib.cell_of_heap hbV 5
      simp only [List.getElem?_toArray, List.getElem?_cons_succ, List.getElem?_cons_zero] at v2 v5
      clear hbV hEV
      go_wp2_with fail
      go_roundw
      case rel => exact ⟨k + 1, by omega, by go_num, by rw [HN.out, min3_ite], HEV⟩
      case measure => simp [intOf]; omega
    · obtain rfl : k = L.length := by omega
      rw [List.take_length] at *
      clear hlt hb1
      go_wp2_with fail
      go_ret2
      exact ⟨rfl, HE.out⟩
end Go.Proofs.YtjibcnnbclcboaaDoor

namespace Go.Proofs.YtjibcnnbclcboaaDoor
open Go.RowKit

section
variable {P : Program} {Q : Exit → Act → World → Prop} {l : List Oper} {w0 : World} {a0 : Act} {R : Nat → Value → World → Prop}

/-- Each place that an operation writes lies in the frame. -/
def insideB (l : List Oper) (n : Nat) : Bool := l.all fun o => match o.dst with | some d => decide (d < n) | none => true
theorem putAll_eval_out : ∀ (l : List Oper) (vals : Nat → Value) (i : Nat) (a : Act) (x : Operand), (∀ o ∈ l, ∀ d, o.dst = some d → x ≠ .tmp d) → (putAll l vals i a).eval x = a.eval x
  | [], _, _, _, _, _ => rfl
  | o :: r, vals, i, a, x, h => by
    unfold putAll
    rw [putAll_eval_out r vals (i + 1) _ x (fun o' ho' => h o' (List.mem_cons_of_mem _ ho')), Act.eval_put (h o (List.mem_cons_self ..))]
theorem put_size (a : Act) (x : Option Tmp) (v : Value) : (a.put x v).tmps.size = a.tmps.size := by
  cases x <;> simp [Act.put]
theorem putAll_eval_in : ∀ (l : List Oper) (vals : Nat → Value) (i k : Nat) (a : Act) (o : Oper) (d : Tmp), apartB l = true → insideB l a.tmps.size = true → l[k]? = some o → o.dst = some d → (putAll l vals i a).eval (.tmp d) = vals (i + k)
  | [], _, _, _, _, _, _, _, _, h, _ => by simp at h
  | o' :: r, vals, i, 0, a, o, d, hA, hI, h, hd => by
    obtain rfl : o' = o := by simpa using h
    obtain ⟨h1, _⟩ := apart_cons hA
    unfold putAll
    rw [putAll_eval_out r vals (i + 1) _ _ (fun x hx e he => by
      intro hc
      cases hc
      exact h1 x hx d hd he)]
    have hlt : d < a.tmps.size := by
      simp only [insideB, List.all_cons, Bool.and_eq_true] at hI
      have := hI.1
      rw [hd] at this
      simpa using this
    simp [Act.eval, Act.put, hd, hlt]
  | o' :: r, vals, i, k + 1, a, o, d, hA, hI, h, hd => by
    obtain ⟨_, h2⟩ := apart_cons hA
    unfold putAll
    rw [putAll_eval_in r vals (i + 1) k _ o d h2 (by
      rw [put_size]
      simp only [insideB, List.all_cons, Bool.and_eq_true] at hI ⊢
      exact hI.2) (by simpa using h) hd, show i + 1 + k = i + (k + 1) by omega]

/-- What is to be shown of an operation, in any valuation in which what it waits for is as it should be. -/
def FlowVal (P : Program) (l : List Oper) (w0 : World) (a0 : Act) (R : Nat → Value → World → Prop) (i : Nat) (o : Oper) : Prop :=
  o.guard = none ∧ ∀ (ρ : Operand → Value) (vals : Nat → Value) (w : World), (∀ j o' d, l[j]? = some o' → o'.dst = some d → ρ (.tmp d) = vals j) → (∀ x, (∀ o' ∈ l, ∀ d, o'.dst = some d → x ≠ .tmp d) → ρ x = a0.eval x) → Ext w0 w →
    (∀ e ∈ o.after, Region.binds .any e = true → R e.on (vals e.on) w) →
    (∃ v w', (execOp ρ o).run P w = .ok (.value v) w' ∧ Ext w w' ∧ R i v w') ∨
    (∃ f args, (execOp ρ o).run P w = .ok (.enter f args) w ∧ Calls P f args w fun e w' => ∃ v, e = .returned v ∧ Ext w w' ∧ R i v w')
theorem flowStep_val {i : Nat} {o : Oper} (hA : apartB l = true) (hI : insideB l a0.tmps.size = true) (ho : l[i]? = some o) (h : FlowVal P l w0 a0 R i o) : FlowStep P Q l w0 a0 R i o := by
  intro vals w he hd
  obtain ⟨hg, h⟩ := h
  have hw : Region.wanted o (yielded l.toArray (putAll l vals 0 a0).tmps) = true := by unfold Region.wanted; rw [hg]
  have hol : l.toArray[i]? = some o := by simpa using ho
  unfold wpOp
  simp only [hol]
  rw [if_pos hw]
  refine .inl ?_
  have key := h (putAll l vals 0 a0).eval vals w (fun j o' d hj hd' => by rw [putAll_eval_in l vals 0 j a0 o' d hA hI hj hd', Nat.zero_add]) (fun x hx => putAll_eval_out l vals 0 a0 x hx) he hd
  unfold Oper.wp
  rcases key with ⟨v, w', h1, h2, h3⟩ | ⟨f, args, h1, h2⟩
  · rw [h1]
    exact ⟨v, rfl, h2, h3⟩
  · rw [h1]
    refine h2.mono ?_
    rintro e w' ⟨v, rfl, h3, h4⟩
    exact ⟨v, rfl, h3, h4⟩

/-- The rule. -/
theorem wp_region_flow_val {id : Nat} (n : Nat) (R : Nat → Value → World → Prop) (hm : P.follows .mixedOrders = true) (hA : apartB (l.take n) = true) (hL : lowB (l.take n) = true) (hT : tailB l.toArray n = true) (hI : insideB (l.take n) a0.tmps.size = true) (hR : ∀ i v w w', Ext w w' → R i v w → R i v w')
    (hS : FlowAll (FlowVal P (l.take n) w0 a0 R) (l.take n) 0)
    (hQ : ∀ vals w, Ext w0 w → (∀ i, i < n → R i (vals i) w) → wpList P l.toArray Q (l.drop n) (putAll (l.take n) vals 0 a0) w) : (Code.region id l.toArray true).wp P Q a0 w0 := by
  have ok := tailOk_of hT
  have le := ok.le
  have htl : (l.take n).length = n := by simp; omega
  refine wp_region_any hm ?_
  obtain ⟨f, hf⟩ := putAll_start (l.take n) 0 a0
  have hq := flow_sound (P := P) (Q := tailPost P l n Q) (w0 := w0) (a0 := a0) hA hL hR (fun i o ho => by
      have := flowAll_get (l.take n) 0 hS i o ho
      rw [Nat.zero_add] at this
      exact flowStep_val hA hI ho this) (fun vals w h1 h2 => hQ vals w h1 (fun i hi => h2 i (by omega))) (l.take n).length (Array.replicate n false) f { w0 with drawn := w0.drawn + 1 } (by simp; omega)
    ⟨List.range n, by simp; omega, List.nodup_range, fun i hi => by
      have : i < n := by omega
      simp [this]⟩ (Ext.refl w0).drew (fun i hi h => by
      have : i < n := by omega
      simp [this] at h)
  rw [hf, htl] at hq
  have := wpAny_of_first (P := P) (Q := Q) ok n (List.range n) (Array.replicate l.toArray.size false) (Array.replicate n false) a0 w0.drew (by simp) List.nodup_range (by simp) (by simp) (fun i hi => ?_) (fun i hi => ?_) (fun i hi hi' => ?_) (fun i hi => by simpa using hi) hq
  · have hsz : n + (l.length - n) = l.toArray.size := by simp; omega
    rw [hsz] at this
    exact this
  · have h1 : i < l.length := by omega
    simp only [Array.getD, Array.size_replicate, List.size_toArray, h1, hi, dif_pos]
    simp
  · have h1 : i < l.length := by omega
    simp [h1, hi]
  · simp [hi']
end
end Go.Proofs.YtjibcnnbclcboaaDoor
