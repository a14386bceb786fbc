/-
  append(a slice of the call's own, a slice of numbers...): one law for every source, nil included.
-/
import Derived.Test.YtcblahhfgkafhaaArg
import Derived.Maps.AppendAt
namespace Go.Proofs.Ytcblahhfgkafhaa
open Go.RowKit

theorem Own.arg {B : Nat} {w : World} {v : Value} {l : List Int} (h : Own B w v l) (hl : l.length ≤ maxLen) : ArgI w v l := by
  have hsl := h.sl
  obtain ⟨h1, h2⟩ := h
  rcases h2 with ⟨rfl, h3⟩ | ⟨g, cap, cur, rfl, h3, h4, h5, h6, h7, h8⟩
  · exact .inl ⟨rfl, List.length_eq_zero_iff.1 h3⟩
  · obtain ⟨a, n, cap', b, off, e1, e2, e3, e4⟩ := hsl
    simp only [Value.slice.injEq] at e1
    obtain ⟨rfl, rfl, rfl⟩ := e1
    refine .inr ⟨_, _, rfl, hl, .inr rfl, fun i hi => ?_⟩
    rcases e3 with e3 | e3
    · omega
    · simp only [Option.some.injEq, Addr.mk.injEq] at e3
      obtain ⟨rfl, rfl, _⟩ := e3
      exact e4 i hi

/-- append. -/
theorem app_arg {w : World} {ops : Array Oper} {rest : List Oper} {o : Oper} {A : Act} {Q : Exit → Act → World → Prop} (hg : o.guard = none) (x y : Operand)
    (ho : o.op = .call { callee := .builtin .append, args := #[x, y], argTypes := #[34, 34] }) (base : Nat) (v v2 : Value) (l l2 : List Int) (hx : A.eval x = v) (hy : A.eval y = v2)
    (hown : Own base w v l) (harg : ArgI w v2 l2) (h63 : l.length + l2.length ≤ 1000000000000) (hbase : base ≤ w.heap.size)
    (hk : ∀ v' w3, Own base w3 v' (l ++ l2) → w.grownBy w3 v.ownBlock → wpList Try.prog ops Q rest (A.put o.dst v') w3) : wpList Try.prog ops Q (o :: rest) A w := by
  obtain ⟨i0, hi, hz0, hz1, hz2⟩ := info_parts Try.info_i64
  rcases harg with ⟨h1, h2⟩ | ⟨x2, c, h1, h2, h3, h4⟩
  · subst h1; subst h2
    refine wpList_append_own_none hg _ _ 34 ho base 2 i0 1 Try.underlying34 hi _ _ _ hx hown hy (hk _ _ (by rw [List.append_nil]; exact hown) ⟨rfl, rfl, rfl, Nat.le_refl _, fun _ _ _ => rfl⟩)
  · subst h1
    refine wpList_append_own w hg _ _ 34 ho base 2 i0 (.int .i64 0) 1 8 Try.underlying34 hi hz0 hz1 hz2 rfl (by decide) _ _ _ hx hown x2 _ _ (l2.map (Value.int .i64)) hy (by rw [List.length_map, Nat.mul_one]) (fun k u hk' => ?_) (by simp [Value.oneCell']) (by simp [maxLen]; omega) (by omega) hbase (fun v' w3 ho3 hg3 _ => hk v' w3 ?_ hg3)
    · have kl : k < l2.length := by
        rcases Nat.lt_or_ge k l2.length with h | h
        · exact h
        · simp [h] at hk'
      simp [kl] at hk'
      obtain ⟨b, off, sp⟩ := x2
      have hsp := h3.resolve_left (by omega)
      simp only at hsp
      subst hsp
      rw [Addr.add_none, (h4 k kl).2, ← hk']
      simp [kl]
    · unfold Own; rw [List.length_append, List.map_append]; exact ho3

/-- append, and where the new slice lies. -/
theorem app_at {w : World} {ops : Array Oper} {rest : List Oper} {o : Oper} {A : Act} {Q : Exit → Act → World → Prop} (hg : o.guard = none) (x y : Operand)
    (ho : o.op = .call { callee := .builtin .append, args := #[x, y], argTypes := #[34, 34] }) (base : Nat) (v v2 : Value) (l l2 : List Int) (hx : A.eval x = v) (hy : A.eval y = v2)
    (hown : Own base w v l) (harg : ArgI w v2 l2) (h63 : l.length + l2.length ≤ 1000000000000) (hbase : base ≤ w.heap.size)
    (hk : ∀ v' w3, Own base w3 v' (l ++ l2) → w.grownBy w3 v.ownBlock → (v'.ownBlock = v.ownBlock ∨ v'.ownBlock = some w.heap.size) → wpList Try.prog ops Q rest (A.put o.dst v') w3) : wpList Try.prog ops Q (o :: rest) A w := by
  obtain ⟨i0, hi, hz0, hz1, hz2⟩ := info_parts Try.info_i64
  rcases harg with ⟨h1, h2⟩ | ⟨x2, c, h1, h2, h3, h4⟩
  · subst h1; subst h2
    refine wpList_append_own_none hg _ _ 34 ho base 2 i0 1 Try.underlying34 hi _ _ _ hx hown hy (hk _ _ (by rw [List.append_nil]; exact hown) ⟨rfl, rfl, rfl, Nat.le_refl _, fun _ _ _ => rfl⟩ (.inl rfl))
  · subst h1
    refine wpList_append_own_at w hg _ _ 34 ho base 2 i0 (.int .i64 0) 1 8 Try.underlying34 hi hz0 hz1 hz2 rfl (by decide) _ _ _ hx hown x2 _ _ (l2.map (Value.int .i64)) hy (by rw [List.length_map, Nat.mul_one]) (fun k u hk' => ?_) (by simp [Value.oneCell']) (by simp [maxLen]; omega) (by omega) hbase (fun v' w3 ho3 hg3 _ hat => hk v' w3 ?_ hg3 hat)
    · have kl : k < l2.length := by
        rcases Nat.lt_or_ge k l2.length with h | h
        · exact h
        · simp [h] at hk'
      simp [kl] at hk'
      obtain ⟨b, off, sp⟩ := x2
      have hsp := h3.resolve_left (by omega)
      simp only at hsp
      subst hsp
      rw [Addr.add_none, (h4 k kl).2, ← hk']
      simp [kl]
    · unfold Own; rw [List.length_append, List.map_append]; exact ho3

/-- A literal slice as a source. -/
theorem ArgI.lit {w w' : World} {cs : Array Value} (l : List Int) (t : TypeId) (n cap b : Nat) (hn : n = l.length) (hb : b = w.heap.size) (hcs : cs = (l.map (Value.int .i64)).toArray) (hl : l.length ≤ maxLen) (he : Ext (w.alloc (.cells cs t)) w') : ArgI w' (.slice (some ⟨b, 0, none⟩) n cap) l := by
  subst hn; subst hb; subst hcs
  refine .inr ⟨_, cap, rfl, hl, .inr rfl, fun i hi => ?_⟩
  have hz := he.size
  simp at hz
  refine ⟨by show w.heap.size < w'.heap.size; omega, ?_⟩
  rw [he.cell (by simp)]
  simp [go_sem, hi]

/-- A slice of the call's own, made just now. -/
theorem Own.made {w : World} (l : List Int) : Own w.heap.size (w.alloc (.cells (l.map (Value.int .i64)).toArray 2)) (.slice (some ⟨w.heap.size, 0, none⟩) l.length l.length) l ∨ maxLen < l.length := by
  by_cases h : l.length ≤ maxLen
  · left
    have := World.ownsRow_lit (base := w.heap.size) (e := 2) (size := 1) w (l.map (Value.int .i64)).toArray l.length (Nat.le_refl _) h (by simp)
    simpa [Own] using this
  · right; omega

end Go.Proofs.Ytcblahhfgkafhaa
