/-
  Slices of the call's own that are written in place: events, motions; joined pieces.
-/
import Derived.Test.YtjibcnnbclcboaaGreatDoorQB34
namespace Go.Proofs.YtjibcnnbclcboaaGreatDoor
open Go.RowKit

theorem rowE_set : ∀ (l : List (Int × Int)) (i : Nat) (u : Int), i < l.length → rowE (l.set i ((l.getD i (0, 0)).1, u)) = (rowE l).set (i * 2 + 1) (.int .i64 u)
  | [], i, u, h => by simp at h
  | m :: l, 0, u, _ => rfl
  | m :: l, i + 1, u, h => by
    have ih := rowE_set l i u (by simpa using h)
    rw [show (i + 1) * 2 + 1 = i * 2 + 1 + 2 by omega]
    show Value.int .i64 m.1 :: Value.int .i64 m.2 :: rowE (l.set i ((l.getD i (0, 0)).1, u)) = Value.int .i64 m.1 :: Value.int .i64 m.2 :: (rowE l).set (i * 2 + 1) (.int .i64 u)
    rw [ih]
theorem OwnE.put {t : TypeId} {B : Nat} {w : World} {g cap : Nat} {l : List (Int × Int)} (h : OwnE t B w (.slice (some ⟨g, 0, none⟩) l.length cap) l) (i : Nat) (hi : i < l.length) (u : Int) :
    OwnE t B (w.setCell ⟨g, i * 2 + 1, none⟩ (.int .i64 u)) (.slice (some ⟨g, 0, none⟩) l.length cap) (l.set i ((l.getD i (0, 0)).1, u)) := by
  have := (World.ownsRow.stored h (i * 2 + 1) (.int .i64 u)).1
  unfold OwnE
  rw [List.length_set, rowE_set l i u hi]
  exact this
theorem OwnE.form' {t : TypeId} {B : Nat} {w : World} {v : Value} {l : List (Int × Int)} (h : OwnE t B w v l) (hl : 0 < l.length) : ∃ g cap, v = .slice (some ⟨g, 0, none⟩) l.length cap ∧ B ≤ g := by
  obtain ⟨h1, h2⟩ := h
  rcases h2 with ⟨rfl, h3⟩ | ⟨g, cap, cur, rfl, h3, _⟩
  · omega
  · exact ⟨g, cap, rfl, h3⟩

theorem rowM_set : ∀ (l : List Mot) (i : Nat) (x y z : Int), i < l.length → rowM (l.set i { l.getD i Mot.zero with tx := x, ty := y, tz := z }) = (((rowM l).set (i * 9 + 3) (.int .i64 x)).set (i * 9 + 4) (.int .i64 y)).set (i * 9 + 5) (.int .i64 z)
  | [], i, x, y, z, h => by simp at h
  | m :: l, 0, x, y, z, _ => rfl
  | m :: l, i + 1, x, y, z, h => by
    have ih := rowM_set l i x y z (by simpa using h)
    rw [show (i + 1) * 9 + 3 = i * 9 + 3 + 9 by omega, show (i + 1) * 9 + 4 = i * 9 + 4 + 9 by omega, show (i + 1) * 9 + 5 = i * 9 + 5 + 9 by omega]
    show m.cells ++ rowM (l.set i { l.getD i Mot.zero with tx := x, ty := y, tz := z }) = m.cells ++ (((rowM l).set (i * 9 + 3) (.int .i64 x)).set (i * 9 + 4) (.int .i64 y)).set (i * 9 + 5) (.int .i64 z)
    rw [ih]
theorem OwnM.put3 {B : Nat} {w : World} {g cap : Nat} {l : List Mot} (h : OwnM B w (.slice (some ⟨g, 0, none⟩) l.length cap) l) (i : Nat) (hi : i < l.length) (x y z : Int) :
    OwnM B (((w.setCell ⟨g, i * 9 + 3, none⟩ (.int .i64 x)).setCell ⟨g, i * 9 + 4, none⟩ (.int .i64 y)).setCell ⟨g, i * 9 + 5, none⟩ (.int .i64 z)) (.slice (some ⟨g, 0, none⟩) l.length cap) (l.set i { l.getD i Mot.zero with tx := x, ty := y, tz := z }) := by
  have h1 := (World.ownsRow.stored h (i * 9 + 3) (.int .i64 x)).1
  have h2 := (World.ownsRow.stored h1 (i * 9 + 4) (.int .i64 y)).1
  have h3 := (World.ownsRow.stored h2 (i * 9 + 5) (.int .i64 z)).1
  unfold OwnM
  rw [List.length_set, rowM_set l i x y z hi]
  exact h3
theorem OwnM.form' {B : Nat} {w : World} {v : Value} {l : List Mot} (h : OwnM B w v l) (hl : 0 < l.length) : ∃ g cap, v = .slice (some ⟨g, 0, none⟩) l.length cap ∧ B ≤ g := by
  obtain ⟨h1, h2⟩ := h
  rcases h2 with ⟨rfl, h3⟩ | ⟨g, cap, cur, rfl, h3, _⟩
  · omega
  · exact ⟨g, cap, rfl, h3⟩

/-- A hold lasts at least one tick. -/
def tk (e : Int × Int) : Int × Int := (e.1, if 1 < e.2 then e.2 else 1)
def tkTo (es : List (Int × Int)) (k : Nat) : List (Int × Int) := (es.take k).map tk ++ es.drop k
theorem tkTo_length (es : List (Int × Int)) (k : Nat) : (tkTo es k).length = es.length := by
  unfold tkTo
  rw [List.length_append, List.length_map, List.length_take, List.length_drop]
  omega
theorem tkTo_zero (es : List (Int × Int)) : tkTo es 0 = es := rfl
theorem tkTo_all (es : List (Int × Int)) : tkTo es es.length = es.map tk := by
  unfold tkTo; rw [List.take_length, List.drop_length, List.append_nil]
theorem tkTo_get {es : List (Int × Int)} {k : Nat} (hk : k < es.length) : (tkTo es k).getD k (0, 0) = es.getD k (0, 0) := by
  unfold tkTo
  rw [List.getD_eq_getElem?_getD, List.getElem?_append_right (by simp; omega)]
  simp only [List.length_map, List.length_take, List.getElem?_drop]
  rw [show min k es.length = k by omega, show k + (k - k) = k by omega]
  rfl
theorem tkTo_succ {es : List (Int × Int)} {k : Nat} (hk : k < es.length) : tkTo es (k + 1) = (tkTo es k).set k (tk (es.getD k (0, 0))) := by
  have e1 : es.take (k + 1) = es.take k ++ [es.getD k (0, 0)] := by
    rw [List.take_add_one, List.getElem?_eq_getElem hk]
    simp [hk]
  have e2 : es.drop k = es.getD k (0, 0) :: es.drop (k + 1) := by
    rw [List.drop_eq_getElem_cons hk]; simp [hk]
  unfold tkTo
  rw [e1, e2, List.map_append, List.set_append_right _ _ (by simp; omega)]
  have : k - ((es.take k).map tk).length = 0 := by simp; omega
  rw [this]
  simp
theorem tk_ne {es : List (Int × Int)} : ∀ e ∈ es.map tk, e.2 ≠ 0 := fun e he => by
  obtain ⟨a, _, rfl⟩ := List.mem_map.1 he
  show (if 1 < a.2 then a.2 else 1) ≠ 0
  split <;> omega

/-- Two pieces that belong together. -/
def joinB (k p : Mot) : Bool := decide (k.block = p.block) && (eq3 k.t3 p.f3 && (decide (k.rate = p.rate) && decide (k.tool = p.tool)))
theorem joinTo_one {acc : List Mot} {p : Mot} (h : 0 < acc.length) : joinTo acc p = if joinB (acc.getD (acc.length - 1) Mot.zero) p = true then acc.set (acc.length - 1) { acc.getD (acc.length - 1) Mot.zero with tx := p.tx, ty := p.ty, tz := p.tz } else acc ++ [p] := by
  obtain ⟨i, x, rfl⟩ : ∃ i x, acc = i ++ [x] := ⟨acc.dropLast, acc.getLast (List.length_pos_iff.1 h), (List.dropLast_concat_getLast _).symm⟩
  have e : (i ++ [x]).getD ((i ++ [x]).length - 1) Mot.zero = x := by simp
  rw [e]
  unfold joinTo
  rw [List.getLast?_append]
  simp only [List.getLast?_singleton, Option.some_or]
  have hb : joinB x p = true ↔ (x.block = p.block ∧ x.t3 = p.f3 ∧ x.rate = p.rate ∧ x.tool = p.tool) := by
    unfold joinB
    simp only [Bool.and_eq_true, decide_eq_true_eq, eq3_iff]
  by_cases hc : joinB x p = true
  · rw [if_pos hc, if_pos (hb.1 hc)]
    simp
  · rw [if_neg hc, if_neg (fun h => hc (hb.2 h))]
theorem joinTo_zero (p : Mot) : joinTo [] p = [p] := rfl
theorem joinL_succ {l : List Mot} {k : Nat} (hk : k < l.length) : joinL (l.take (k + 1)) = joinTo (joinL (l.take k)) (l.getD k Mot.zero) := by
  rw [take_succ_getD hk, joinL_snoc]
theorem joinTo_len (acc : List Mot) (p : Mot) : (joinTo acc p).length ≤ acc.length + 1 := by
  cases acc with
  | nil => simp [joinTo_zero]
  | cons a r =>
    rw [joinTo_one (by simp)]
    split
    · rw [List.length_set]; omega
    · simp
theorem joinL_len (l : List Mot) : ∀ k, k ≤ l.length → (joinL (l.take k)).length ≤ k
  | 0, _ => by simp [joinL]
  | k + 1, h => by
    rw [joinL_succ (by omega)]
    have h1 := joinL_len l k (by omega)
    have h2 := joinTo_len (joinL (l.take k)) (l.getD k Mot.zero)
    omega
theorem ways_len (l : List Mot) : (ways l).length ≤ l.length := List.length_filter_le _ _

/-- What both runs of JobHolds answer. -/
theorem holds_plain {l : List Mot} {s a j safe : Int} {es : List (Int × Int)} (hw : WfL l) (hb : Blocks l) (hn : ∀ e ∈ es, e.2 ≠ 0) (hs : lsum l l.length ≤ 100000) :
    ((distE l s a j safe []).1 ≠ 0 ∧ (distE l s a j safe es).1 ≠ 0) ∨
    (distE l s a j safe [] = (0, ways l) ∧ (((distE l s a j safe es).1 ≠ 0 ∧ (validE es = true → (distE l s a j safe es).1 = 3)) ∨ ((distE l s a j safe es).1 = 0 ∧ joinL (distE l s a j safe es).2 = ways l))) := by
  have e0 : distE l s a j safe [] = dist l s a j safe [] := by unfold distE; rw [if_pos (show validE [] = true from rfl)]
  by_cases hc : chk l s a j = 0
  · right
    refine ⟨by rw [e0]; exact dist_nil hw hc hs, ?_⟩
    by_cases hv : validE es = true
    · have e1 : distE l s a j safe es = dist l s a j safe es := by unfold distE; rw [if_pos hv]
      rw [e1]
      rcases dist_hold (safe := safe) hw hb hn hc with h | h
      · left; exact ⟨by rw [h]; decide, fun _ => h⟩
      · right; exact h
    · left
      have e1 : distE l s a j safe es = (1, []) := by unfold distE; rw [if_neg hv]
      rw [e1]
      exact ⟨(by decide : (1 : Int) ≠ 0), fun h => absurd h hv⟩
  · left
    have hd : ∀ x, dist l s a j safe x = (chk l s a j, []) := fun x => by unfold dist; rw [if_neg hc]
    refine ⟨by rw [e0, hd]; exact hc, ?_⟩
    unfold distE
    split
    · rw [hd]; exact hc
    · exact (by decide : (1 : Int) ≠ 0)

end Go.Proofs.YtjibcnnbclcboaaGreatDoor
