/-
  The controller in memory: its cells, and how it stands a change of one cell or a growing world.
  A region that draws its order, walked by a plan with branches: where two operations that do not float may come up, both orders are proved.
  Walks: left, Position of the controller.
  Walks: Position of the controller at its end; a controller whose cells change one by one; skip.
  The relation Only (what a call has changed); cells of the controller that change one by one.
  Walks: skip of the controller.
  Walks: piece of the controller.
  Walks: stop of the controller.
-/
import Derived.Test.YtjibcnnbclcboaaDoorQS08
import Derived.Deep.RegionHeld
import Derived.Test.YtjibcnnbclcboaaDoorQS04
namespace Go.Proofs.YtjibcnnbclcboaaDoor
open Go.RowKit
set_option maxRecDepth 8000
set_option maxRecDepth 8000

/-- A controller. -/
structure Ctl where
  ms : List Mot
  s : Int
  a : Int
  j : Int
  idx : Nat
  part : Int
  plan : List Int
  pos : Nat
  br : Bool
  hd : Bool
  bk : Bool
  ps : List Mot
  lx : Int
  ly : Int
  lz : Int

theorem SlM.set {w : World} {v : Value} {l : List Mot} (h : SlM w v l) {a : Addr} (ha : v.ownBlock ≠ some a.block) (u : Value) : SlM (w.setCell a u) v l := by
  obtain ⟨ad, n, cap, b, off, rfl, h2, h3, h5, h4⟩ := h
  refine ⟨ad, n, cap, b, off, rfl, h2, h3, h5, fun i hi => ?_⟩
  obtain ⟨p, q⟩ := h4 i hi
  have hb : ad = some ⟨b, off, none⟩ := h3.resolve_left (by omega)
  have hne : b ≠ a.block := by subst hb; intro e; exact ha (by simp [Value.ownBlock, e])
  have k : ∀ r, (w.setCell a u).cell? ⟨b, r, none⟩ = w.cell? ⟨b, r, none⟩ := fun r => World.cell?_setCell_far _ _ _ _ (fun e => hne e.symm)
  exact ⟨by simpa using p, ⟨by rw [k]; exact q.c0, by rw [k]; exact q.c1, by rw [k]; exact q.c2, by rw [k]; exact q.c3, by rw [k]; exact q.c4, by rw [k]; exact q.c5, by rw [k]; exact q.c6, by rw [k]; exact q.c7, by rw [k]; exact q.c8⟩⟩

theorem SlI.set {w : World} {v : Value} {l : List Int} (h : SlI w v l) {a : Addr} (ha : v.ownBlock ≠ some a.block) (u : Value) : SlI (w.setCell a u) v l := by
  obtain ⟨ad, n, cap, b, off, rfl, h2, h3, h4⟩ := h
  refine ⟨ad, n, cap, b, off, rfl, h2, h3, fun i hi => ?_⟩
  obtain ⟨p, q⟩ := h4 i hi
  have hb : ad = some ⟨b, off, none⟩ := h3.resolve_left (by omega)
  have hne : b ≠ a.block := by subst hb; intro e; exact ha (by simp [Value.ownBlock, e])
  have k : ∀ r, (w.setCell a u).cell? ⟨b, r, none⟩ = w.cell? ⟨b, r, none⟩ := fun r => World.cell?_setCell_far _ _ _ _ (fun e => hne e.symm)
  exact ⟨by simpa using p, by rw [k]; exact q⟩

theorem SlM.grown {w w' : World} {v : Value} {l : List Mot} {row : Option Nat} (h : SlM w v l) (hg : w.grownBy w' row) (hr : v.ownBlock = none ∨ v.ownBlock ≠ row) : SlM w' v l := by
  obtain ⟨ad, n, cap, b, off, rfl, h2, h3, h5, h4⟩ := h
  refine ⟨ad, n, cap, b, off, rfl, h2, h3, h5, fun i hi => ?_⟩
  obtain ⟨p, q⟩ := h4 i hi
  have hb : ad = some ⟨b, off, none⟩ := h3.resolve_left (by omega)
  have hne : some b ≠ row := by subst hb; exact hr.resolve_left (by simp [Value.ownBlock])
  have k : ∀ r, w'.cell? ⟨b, r, none⟩ = w.cell? ⟨b, r, none⟩ := fun r => World.cell?_of_block (hg.block b p hne)
  exact ⟨Nat.lt_of_lt_of_le p hg.size, ⟨by rw [k]; exact q.c0, by rw [k]; exact q.c1, by rw [k]; exact q.c2, by rw [k]; exact q.c3, by rw [k]; exact q.c4, by rw [k]; exact q.c5, by rw [k]; exact q.c6, by rw [k]; exact q.c7, by rw [k]; exact q.c8⟩⟩

theorem SlI.grown {w w' : World} {v : Value} {l : List Int} {row : Option Nat} (h : SlI w v l) (hg : w.grownBy w' row) (hr : v.ownBlock = none ∨ v.ownBlock ≠ row) : SlI w' v l := by
  obtain ⟨ad, n, cap, b, off, rfl, h2, h3, h4⟩ := h
  refine ⟨ad, n, cap, b, off, rfl, h2, h3, fun i hi => ?_⟩
  obtain ⟨p, q⟩ := h4 i hi
  have hb : ad = some ⟨b, off, none⟩ := h3.resolve_left (by omega)
  have hne : some b ≠ row := by subst hb; exact hr.resolve_left (by simp [Value.ownBlock])
  have k : ∀ r, w'.cell? ⟨b, r, none⟩ = w.cell? ⟨b, r, none⟩ := fun r => World.cell?_of_block (hg.block b p hne)
  exact ⟨Nat.lt_of_lt_of_le p hg.size, by rw [k]; exact q⟩

/-- A controller's cells at the block N. -/
structure CBox (w : World) (N : Nat) (vm vp vq : Value) (C : Ctl) : Prop where
  lt : N < w.heap.size
  c0 : w.cell? ⟨N, 0, none⟩ = some vm
  c1 : w.cell? ⟨N, 1, none⟩ = some (.int .i64 C.s)
  c2 : w.cell? ⟨N, 2, none⟩ = some (.int .i64 C.a)
  c3 : w.cell? ⟨N, 3, none⟩ = some (.int .i64 C.j)
  c4 : w.cell? ⟨N, 4, none⟩ = some (.int .i64 C.idx)
  c5 : w.cell? ⟨N, 5, none⟩ = some (.int .i64 C.part)
  c6 : w.cell? ⟨N, 6, none⟩ = some vp
  c7 : w.cell? ⟨N, 7, none⟩ = some (.int .i64 C.pos)
  c8 : w.cell? ⟨N, 8, none⟩ = some (.bool C.br)
  c9 : w.cell? ⟨N, 9, none⟩ = some (.bool C.hd)
  c10 : w.cell? ⟨N, 10, none⟩ = some (.bool C.bk)
  c11 : w.cell? ⟨N, 11, none⟩ = some vq
  c12 : w.cell? ⟨N, 12, none⟩ = some (.int .i64 C.lx)
  c13 : w.cell? ⟨N, 13, none⟩ = some (.int .i64 C.ly)
  c14 : w.cell? ⟨N, 14, none⟩ = some (.int .i64 C.lz)
  fr : ∀ k, w.frozen? ⟨N, k, none⟩ = false

/-- A controller in memory: its cells, its slices, and that the slices lie elsewhere. -/
structure CInv (B : Nat) (w : World) (N : Nat) (vm vp vq : Value) (C : Ctl) : Prop where
  box : CBox w N vm vp vq C
  sm : SlM w vm C.ms
  sp : SlI w vp C.plan
  sq : OwnM B w vq C.ps
  nm : vm.ownBlock ≠ some N
  np : vp.ownBlock ≠ some N
  nq : vq.ownBlock ≠ some N
  mq : vm.ownBlock = none ∨ vm.ownBlock ≠ vq.ownBlock
  pq : vp.ownBlock = none ∨ vp.ownBlock ≠ vq.ownBlock
  base : B ≤ N

theorem CBox.later {w w' : World} {N : Nat} {vm vp vq : Value} {C : Ctl} (h : CBox w N vm vp vq C) (he : Ext w w') : CBox w' N vm vp vq C where
  lt := Nat.lt_of_lt_of_le h.lt he.size
  c0 := by rw [he.cell h.lt]; exact h.c0
  c1 := by rw [he.cell h.lt]; exact h.c1
  c2 := by rw [he.cell h.lt]; exact h.c2
  c3 := by rw [he.cell h.lt]; exact h.c3
  c4 := by rw [he.cell h.lt]; exact h.c4
  c5 := by rw [he.cell h.lt]; exact h.c5
  c6 := by rw [he.cell h.lt]; exact h.c6
  c7 := by rw [he.cell h.lt]; exact h.c7
  c8 := by rw [he.cell h.lt]; exact h.c8
  c9 := by rw [he.cell h.lt]; exact h.c9
  c10 := by rw [he.cell h.lt]; exact h.c10
  c11 := by rw [he.cell h.lt]; exact h.c11
  c12 := by rw [he.cell h.lt]; exact h.c12
  c13 := by rw [he.cell h.lt]; exact h.c13
  c14 := by rw [he.cell h.lt]; exact h.c14
  fr := fun k => by have := World.frozen?_of_block (a := ⟨N, k, none⟩) (he.out.block N h.lt); rw [this]; exact h.fr k

theorem CInv.later {B : Nat} {w w' : World} {N : Nat} {vm vp vq : Value} {C : Ctl} (h : CInv B w N vm vp vq C) (he : Ext w w') : CInv B w' N vm vp vq C where
  box := h.box.later he
  sm := h.sm.later he
  sp := h.sp.later he
  sq := h.sq.later he
  nm := h.nm
  np := h.np
  nq := h.nq
  mq := h.mq
  pq := h.pq
  base := h.base

set_option maxHeartbeats 400000 in
theorem index_any {w : World} {N : Nat} {vm vp vq : Value} {C : Ctl} (h : CBox w N vm vp vq C) :
    Calls Tryd.prog 33 #[.pointer (some ⟨N, 0, none⟩)] w fun e w' => e = .returned (.int .i64 C.idx) ∧ w = w' := by
  have c4 := h.c4
  go_enter Tryd.func33, Tryd.ntmps33
  go_wp2
  go_ret
  exact ⟨rfl, rfl⟩

set_option maxHeartbeats 400000 in
theorem resting_any {w : World} {N : Nat} {vm vp vq : Value} {C : Ctl} (h : CBox w N vm vp vq C) (hp : SlI w vp C.plan) :
    Calls Tryd.prog 36 #[.pointer (some ⟨N, 0, none⟩)] w fun e w' => e = .returned (.bool (decide ((C.pos : Int) = (C.plan.length : Int)))) ∧ Ext w w' := by
  have c6 := Later.cell h.c6; have c7 := Later.cell h.c7
  obtain ⟨ad, n, cap, b, off, rfl, rfl, h3, h4⟩ := hp
  clear h3 h4
  go_enter Tryd.func36, Tryd.ntmps36
  go_wp2_with fail
  refine wp_region_later (by kernel_rfl) (by kernel_rfl) ?_
  repeat (go_big_quiet_step (fail))
  refine wpQuiet_nil ?_
  rintro _ ⟨x, rfl⟩
  go_wp2
  go_ret
  exact ⟨rfl, x.ext⟩

end Go.Proofs.YtjibcnnbclcboaaDoor

namespace Go.Proofs.YtjibcnnbclcboaaDoor
open Go.RowKit

inductive Tree where
  | leaf (last : List Nat)
  | one (fl : List Nat) (i : Nat) (t : Tree)
  | two (fl : List Nat) (i j : Nat) (t u : Tree)

def Tree.count : Tree → Nat
  | .leaf last => last.length
  | .one fl _ t => fl.length + 1 + t.count
  | .two fl _ _ t _ => fl.length + 1 + t.count

def treeFrom (ops : Array Oper) : Tree → Array Bool → Bool
  | .leaf last, ls => match floatsB ops last ls with
    | some ls' => (Region.ready .any ops ls').isEmpty
    | none => false
  | .one fl i t, ls => match floatsB ops fl ls with
    | some ls' => Region.ready .any ops ls' == [i] && (ops[i]?).isSome && treeFrom ops t (ls'.setIfInBounds i true)
    | none => false
  | .two fl i j t u, ls => match floatsB ops fl ls with
    | some ls' => Region.ready .any ops ls' == [i, j] && (ops[i]?).isSome && (ops[j]?).isSome && t.count == u.count && treeFrom ops t (ls'.setIfInBounds i true) && treeFrom ops u (ls'.setIfInBounds j true)
    | none => false

def treeB (ops : Array Oper) (t : Tree) : Bool :=
  Region.noSelect ops && t.count == ops.size && treeFrom ops t (Array.replicate ops.size false)

section
variable {P : Program} {Q : Exit → Act → World → Prop} {l : List Oper} {n : Nat} {S : World → Prop} {ops : Array Oper}

/-- What the tree asks. -/
def wpTree (P : Program) (l : List Oper) (ops : Array Oper) (S : World → Prop) (Q : Exit → Act → World → Prop) : Tree → Act → World → Prop
  | .leaf last, a, w => wpQuiet P ops S (fun a' => Q .normal a' w) (last.map (pickOp l)) a
  | .one fl i t, a, w => wpQuiet P ops S (fun a' => wpList P ops (segPost Q fun a2 w2 => S w2 ∧ wpTree P l ops S Q t a2 w2) [pickOp l i] a' w) (fl.map (pickOp l)) a
  | .two fl i j t u, a, w => wpQuiet P ops S (fun a' => wpList P ops (segPost Q fun a2 w2 => S w2 ∧ wpTree P l ops S Q t a2 w2) [pickOp l i] a' w ∧ wpList P ops (segPost Q fun a2 w2 => S w2 ∧ wpTree P l ops S Q u a2 w2) [pickOp l j] a' w) (fl.map (pickOp l)) a

/-- One operation that comes up. -/
theorem op_sound {K : Act → World → Prop} {K' : Act → World → Prop} {j : Nat} {o : Oper} (ho : l.toArray[j]? = some o) (hK : ∀ a w, K a w → K' a w) {a : Act} {w : World}
    (hk : wpList P l.toArray (segPost Q K) [o] a w) : wpOp P l.toArray Q j K' a w := by
  unfold wpOp
  simp only [ho]
  simp only [wpList] at hk
  split
  · rename_i hw
    rw [if_pos hw] at hk
    rcases hk with hk | ⟨hk1, hk2⟩
    · refine .inl ?_
      have key : ∀ (res : Result Next), o.upon P a (fun a2 w2 => segPost Q K .normal a2 w2) (segPost Q K) res → o.upon P a K' Q res := by
        intro res hu
        cases res with
        | ok x w' =>
          cases x <;> simp only [Oper.upon] at hu ⊢ <;>
            first
              | exact hu.elim
              | exact hK _ _ hu
              | exact Calls.mono hu (fun e w'' he => by cases e <;> first | exact hK _ _ he | exact he)
              | exact Rows.mono hu (fun _ _ he => hK _ _ he)
        | halt x w' => cases x <;> simp only [Oper.upon] at hu ⊢ <;> first | exact hu | exact hu.elim
      exact key _ hk
    · exact .inr ⟨hk1, letsOut_seg hk2⟩
  · rename_i hw
    rw [if_neg hw] at hk
    exact hK _ _ hk

theorem tree_sound (hs : Region.noSelect l.toArray = true) (hQ : NoDep Q) : ∀ (t : Tree) (ls : Array Bool) (a : Act) (w : World),
    treeFrom l.toArray t ls = true → S w → wpTree P l l.toArray S Q t a w → wpAnyH P .any l.toArray Q S t.count ls a w
  | .leaf last, ls, a, w, hB, hS, h => by
    simp only [treeFrom] at hB
    cases hf : floatsB l.toArray last ls with
    | none => rw [hf] at hB; cases hB
    | some ls' =>
      rw [hf] at hB
      have hr : Region.ready .any l.toArray ls' = [] := by simpa using hB
      have := floats_sound (P := P) (Q := Q) hs hQ (K := fun a' => Q .normal a' w) hS (f := 0) last ls ls' a hf (fun a' h' => ⟨hr, h'⟩) h
      simpa [Tree.count] using this
  | .one fl i t, ls, a, w, hB, hS, h => by
    simp only [treeFrom] at hB
    cases hf : floatsB l.toArray fl ls with
    | none => rw [hf] at hB; cases hB
    | some ls' =>
      rw [hf] at hB
      simp only [Bool.and_eq_true, beq_iff_eq] at hB
      obtain ⟨⟨hr, hi⟩, hB2⟩ := hB
      obtain ⟨o, ho⟩ := Option.isSome_iff_exists.1 hi
      have h' : wpQuiet P l.toArray S (fun a' => wpList P l.toArray (segPost Q fun a2 w2 => S w2 ∧ wpTree P l l.toArray S Q t a2 w2) [pickOp l i] a' w) (fl.map (pickOp l)) a := h
      rw [pick_get ho] at h'
      have := floats_sound (P := P) (Q := Q) hs hQ hS (f := t.count + 1) fl ls ls' a hf (fun a' hk => ?_) h'
      · rw [show (Tree.one fl i t).count = fl.length + (t.count + 1) by simp [Tree.count]; omega]
        exact this
      · refine wpAnyH_all hr (by simp) fun j hj => ?_
        obtain rfl : j = i := by simpa using hj
        exact op_sound ho (fun a2 w2 h2 => ⟨h2.1, tree_sound hs hQ t _ _ _ hB2 h2.1 h2.2⟩) hk
  | .two fl i i' t u, ls, a, w, hB, hS, h => by
    simp only [treeFrom] at hB
    cases hf : floatsB l.toArray fl ls with
    | none => rw [hf] at hB; cases hB
    | some ls' =>
      rw [hf] at hB
      simp only [Bool.and_eq_true, beq_iff_eq] at hB
      obtain ⟨⟨⟨⟨⟨hr, hi⟩, hi'⟩, hc⟩, hB2⟩, hB3⟩ := hB
      obtain ⟨o, ho⟩ := Option.isSome_iff_exists.1 hi
      obtain ⟨o', ho'⟩ := Option.isSome_iff_exists.1 hi'
      have h' : wpQuiet P l.toArray S (fun a' => wpList P l.toArray (segPost Q fun a2 w2 => S w2 ∧ wpTree P l l.toArray S Q t a2 w2) [pickOp l i] a' w ∧ wpList P l.toArray (segPost Q fun a2 w2 => S w2 ∧ wpTree P l l.toArray S Q u a2 w2) [pickOp l i'] a' w) (fl.map (pickOp l)) a := h
      rw [pick_get ho, pick_get ho'] at h'
      have := floats_sound (P := P) (Q := Q) hs hQ hS (f := t.count + 1) fl ls ls' a hf (fun a' hk => ?_) h'
      · rw [show (Tree.two fl i i' t u).count = fl.length + (t.count + 1) by simp [Tree.count]; omega]
        exact this
      · refine wpAnyH_all hr (by simp) fun j hj => ?_
        have hj2 : j = i ∨ j = i' := by simpa using hj
        rcases hj2 with rfl | rfl
        · exact op_sound ho (fun a2 w2 h2 => ⟨h2.1, tree_sound hs hQ t _ _ _ hB2 h2.1 h2.2⟩) hk.1
        · rw [hc]
          exact op_sound ho' (fun a2 w2 h2 => ⟨h2.1, tree_sound hs hQ u _ _ _ hB3 h2.1 h2.2⟩) hk.2

/-- The rule. S: what holds of every world on the way (the class in which the reads are reckoned). -/
theorem wp_region_tree {id : Nat} {a : Act} {w : World} (S : World → Prop) (n : Nat) (t : Tree) (hm : P.follows .mixedOrders = true) (hB : treeB (l.take n).toArray t = true) (hT : tailB l.toArray n = true) (hS : S w.drew)
    (h : wpTree P (l.take n) (l.take n).toArray S (tailPost P l n Q) t a w.drew) : (Code.region id l.toArray true).wp P Q a w := by
  have ok := tailOk_of hT
  have le := ok.le
  have htl : (l.take n).length = n := by simp; omega
  simp only [treeB, Bool.and_eq_true, beq_iff_eq] at hB
  obtain ⟨⟨h1, h2⟩, h3⟩ := hB
  refine wp_region_any hm ?_
  have hq := wpAny_of_held _ _ _ _ (tree_sound (l := l.take n) (Q := tailPost P l n Q) h1 (fun _ _ _ _ _ h => h) t _ a w.drew h3 hS h)
  rw [h2] at hq
  have hsz' : (l.take n).toArray.size = n := by simpa using htl
  rw [hsz'] at hq
  have := wpAny_of_first (P := P) (Q := Q) ok n (List.range n) (Array.replicate l.toArray.size false) (Array.replicate n false) a w.drew (by simp) List.nodup_range (by simp) (by simp) (fun i hi => ?_) (fun i hi => ?_) (fun i hi hi' => ?_) (fun i hi => by simpa using hi) hq
  · have hsz : n + (l.length - n) = l.toArray.size := by simp; omega
    rw [hsz] at this
    exact this
  · have h1 : i < l.length := by omega
    simp only [Array.getD, Array.size_replicate, List.size_toArray, h1, hi, dif_pos]
    simp
  · have h1 : i < l.length := by omega
    simp [h1, hi]
  · simp [hi']


/-- One operation of the tree; what follows stands behind K. -/
theorem tree_one {fl : List Nat} {i : Nat} {t : Tree} {a : Act} {w : World}
    (h : ∀ K : Act → World → Prop, (∀ a2 w2, S w2 → wpTree P l ops S Q t a2 w2 → K a2 w2) → wpQuiet P ops S (fun a' => wpList P ops (onlyK K) [pickOp l i] a' w) (fl.map (pickOp l)) a) : wpTree P l ops S Q (.one fl i t) a w :=
  segs_cons (last := []) (rest := []) (S := S) (Q := fun e a2 w2 => match e with | .normal => wpTree P l ops S Q t a2 w2 | e => Q e a2 w2) (fun K hK => h K fun a2 w2 h1 h2 => hK a2 w2 h1 h2)

theorem quiet_mono' : ∀ (fl : List Oper) (a : Act) {K K' : Act → Prop}, (∀ a, K a → K' a) → wpQuiet P ops S K fl a → wpQuiet P ops S K' fl a := by
  intro fl
  induction fl with
  | nil => intro a K K' hk h; exact hk _ h
  | cons o r ih =>
    intro a K K' hk h
    simp only [wpQuiet] at *
    split
    · rename_i hw
      rw [if_pos hw] at h
      exact Oper.quiet_mono (fun a h => ih a hk h) h
    · rename_i hw
      rw [if_neg hw] at h
      exact ih _ hk h

/-- Two operations may come up: both orders. -/
theorem tree_two {fl : List Nat} {i j : Nat} {t u : Tree} {a : Act} {w : World}
    (h : ∀ K1 K2 : Act → World → Prop, (∀ a2 w2, S w2 → wpTree P l ops S Q t a2 w2 → K1 a2 w2) → (∀ a2 w2, S w2 → wpTree P l ops S Q u a2 w2 → K2 a2 w2) →
      wpQuiet P ops S (fun a' => wpList P ops (onlyK K1) [pickOp l i] a' w ∧ wpList P ops (onlyK K2) [pickOp l j] a' w) (fl.map (pickOp l)) a) : wpTree P l ops S Q (.two fl i j t u) a w := by
  have h0 := h (fun a2 w2 => S w2 ∧ wpTree P l ops S Q t a2 w2) (fun a2 w2 => S w2 ∧ wpTree P l ops S Q u a2 w2) (fun a2 w2 h1 h2 => ⟨h1, h2⟩) (fun a2 w2 h1 h2 => ⟨h1, h2⟩)
  exact quiet_mono' _ a (fun a' h' => ⟨wpList_onlyK (fun _ _ h => h) h'.1, wpList_onlyK (fun _ _ h => h) h'.2⟩) h0

/-- The end of the tree: the last reads, then the operations that wait for all others. -/
theorem tree_leaf {last : List Nat} {a : Act} {w : World} {l' : List Oper} (h : wpQuiet P ops S (fun a' => wpList P l'.toArray Q (l'.drop n) a' w) (last.map (pickOp l)) a) : wpTree P l ops S (tailPost P l' n Q) (.leaf last) a w := h

theorem tree_one0 {i : Nat} {t : Tree} {a : Act} {w : World}
    (h : ∀ K : Act → World → Prop, (∀ a2 w2, S w2 → wpTree P l ops S Q t a2 w2 → K a2 w2) → wpList P ops (onlyK K) [pickOp l i] a w) : wpTree P l ops S Q (.one [] i t) a w :=
  tree_one fun K hK => wpQuiet_nil (h K hK)
theorem tree_two0 {i j : Nat} {t u : Tree} {a : Act} {w : World}
    (h : ∀ K1 K2 : Act → World → Prop, (∀ a2 w2, S w2 → wpTree P l ops S Q t a2 w2 → K1 a2 w2) → (∀ a2 w2, S w2 → wpTree P l ops S Q u a2 w2 → K2 a2 w2) →
      wpList P ops (onlyK K1) [pickOp l i] a w ∧ wpList P ops (onlyK K2) [pickOp l j] a w) : wpTree P l ops S Q (.two [] i j t u) a w :=
  tree_two fun K1 K2 h1 h2 => wpQuiet_nil (h K1 K2 h1 h2)
theorem tree_leaf0 {a : Act} {w : World} {l' : List Oper} (h : wpList P l'.toArray Q (l'.drop n) a w) : wpTree P l ops S (tailPost P l' n Q) (.leaf []) a w := h

end
end Go.Proofs.YtjibcnnbclcboaaDoor

namespace Go.Proofs.YtjibcnnbclcboaaDoor
open Go.RowKit
set_option maxRecDepth 8000
set_option maxRecDepth 8000

/-- The present motion. -/
def Ctl.cur (C : Ctl) : Mot := C.ms.getD C.idx Mot.zero

set_option maxHeartbeats 1000000 in
theorem left_any {w : World} {N : Nat} {vm vp vq : Value} {C : Ctl} (h : CBox w N vm vp vq C) (hm : SlM w vm C.ms) (hi : C.idx < C.ms.length) (hr : C.cur.rng) (p0 : 0 ≤ C.part) (p1 : C.part ≤ C.cur.len) :
    Calls Tryd.prog 38 #[.pointer (some ⟨N, 0, none⟩)] w fun e w' => e = .returned (.int .i64 (C.cur.len - C.part)) ∧ Ext w w' := by
  have c0 := Later.cell h.c0; have c4 := Later.cell h.c4; have c5 := Later.cell h.c5
  obtain ⟨ad, n, cap, b, off, rfl, rfl, h3, -, h4⟩ := hm
  obtain ⟨hb1, hb2⟩ := h4 C.idx hi
  obtain rfl : ad = some ⟨b, off, none⟩ := h3.resolve_left (by omega)
  clear h3 h4 h
  have hl := Mot.len_bounds hr
  have HR := Lib.hid hr
  unfold Ctl.cur at *
  have d0 := Later.cell hb2.c0; have d1 := Later.cell hb2.c1; have d2 := Later.cell hb2.c2; have d3 := Later.cell hb2.c3; have d4 := Later.cell hb2.c4; have d5 := Later.cell hb2.c5; have d6 := Later.cell hb2.c6; have d7 := Later.cell hb2.c7; have d8 := Later.cell hb2.c8
  clear hb2 hr
  generalize C.ms.getD C.idx Mot.zero = p at *
  generalize C.ms.length = n at *
  go_enter Tryd.func38, Tryd.ntmps38
  go_wp2_with fail
  refine wp_region_later (by kernel_rfl) (by kernel_rfl) ?_
  repeat (go_big_quiet_step ((go_at_call 60; exact Calls.later (length_any p _ HR.out))))
  refine wpQuiet_nil ?_
  rintro _ ⟨x, rfl⟩
  go_wp2
  go_ret
  exact ⟨rfl, x.ext⟩

/-- The present position. -/
def Ctl.at3 (C : Ctl) : Int × Int × Int :=
  if C.ms.length = 0 then (0, 0, 0)
  else if C.idx = C.ms.length then ((C.ms.getD (C.idx - 1) Mot.zero).tx, (C.ms.getD (C.idx - 1) Mot.zero).ty, (C.ms.getD (C.idx - 1) Mot.zero).tz)
  else (btw C.cur.fx C.cur.tx C.part C.cur.len, btw C.cur.fy C.cur.ty C.part C.cur.len, btw C.cur.fz C.cur.tz C.part C.cur.len)
abbrev P3 (t : Int × Int × Int) : Value := Ps t.1 t.2.1 t.2.2

theorem Later.self_w (w : World) : (Later.self w).w = w := rfl

/-- Position of a motion. -/
theorem pos_mot (m : Mot) (p : Int) (w : World) (hr : m.rng) (p0 : 0 ≤ p) (p1 : p ≤ m.len) (p2 : 1 ≤ m.len) :
    Calls Tryd.prog 71 #[Ps m.fx m.fy m.fz, Ps m.tx m.ty m.tz, .int .i64 p, .int .i64 m.len] w fun e w' => e = .returned (.tuple #[Ps (btw m.fx m.tx p m.len) (btw m.fy m.ty p m.len) (btw m.fz m.tz p m.len), .int .i64 0]) ∧ Ext w w' := by
  have hl := Mot.len_bounds hr
  have h := pos_any m.fx m.fy m.fz m.tx m.ty m.tz p m.len w
  have e : posR m.fx m.fy m.fz m.tx m.ty m.tz p m.len = .tuple #[Ps (btw m.fx m.tx p m.len) (btw m.fy m.ty p m.len) (btw m.fz m.tz p m.len), .int .i64 0] := by
    unfold posR
    rw [if_neg (by omega), posV_near]
    obtain ⟨⟨x, y, z⟩, x', y', z'⟩ := hr
    unfold inG at *
    simp [lookAt, near, inR]
    omega
  rw [e] at h
  exact h

/-- The three cells of a position. -/
structure P3Box (W : World) (N : Nat) (x y z : Int) : Prop where
  c0 : ∀ u : Later W, u.w.cell? ⟨N, 0, none⟩ = some (.int .i64 x)
  c1 : ∀ u : Later W, u.w.cell? ⟨N, 1, none⟩ = some (.int .i64 y)
  c2 : ∀ u : Later W, u.w.cell? ⟨N, 2, none⟩ = some (.int .i64 z)
  f0 : ∀ u : Later W, u.w.frozen? ⟨N, 0, none⟩ = false
  f1 : ∀ u : Later W, u.w.frozen? ⟨N, 1, none⟩ = false
  f2 : ∀ u : Later W, u.w.frozen? ⟨N, 2, none⟩ = false
  lt : N < W.heap.size
theorem P3Box.mk' (w : World) (x y z : Int) : ∃ W : World, w.alloc (.cells #[.int .i64 x, .int .i64 y, .int .i64 z] 40) = W ∧ P3Box W w.heap.size x y z ∧ Ext w W := by
  refine ⟨_, rfl, ?_, (Ext.refl w).alloc _⟩
  constructor <;> first | exact Later.cell (by simp [go_sem]) | exact Later.frozen (by simp) (by simp [go_sem]) | simp
theorem P3Box.later {W W' : World} {N : Nat} {x y z : Int} (h : P3Box W N x y z) (he : Ext W W') : P3Box W' N x y z where
  c0 := fun u => h.c0 ⟨u.w, he.trans u.ext⟩
  c1 := fun u => h.c1 ⟨u.w, he.trans u.ext⟩
  c2 := fun u => h.c2 ⟨u.w, he.trans u.ext⟩
  f0 := fun u => h.f0 ⟨u.w, he.trans u.ext⟩
  f1 := fun u => h.f1 ⟨u.w, he.trans u.ext⟩
  f2 := fun u => h.f2 ⟨u.w, he.trans u.ext⟩
  lt := Nat.lt_of_lt_of_le h.lt he.size

theorem P3Box.at {W : World} {N : Nat} {x y z : Int} (h : P3Box W N x y z) : W.cell? ⟨N, 0, none⟩ = some (.int .i64 x) ∧ W.cell? ⟨N, 1, none⟩ = some (.int .i64 y) ∧ W.cell? ⟨N, 2, none⟩ = some (.int .i64 z) ∧ W.frozen? ⟨N, 0, none⟩ = false ∧ W.frozen? ⟨N, 1, none⟩ = false ∧ W.frozen? ⟨N, 2, none⟩ = false :=
  ⟨h.c0 (Later.self _), h.c1 (Later.self _), h.c2 (Later.self _), h.f0 (Later.self _), h.f1 (Later.self _), h.f2 (Later.self _)⟩
theorem P3Box.of {W : World} {N : Nat} {x y z : Int} (lt : N < W.heap.size) (c0 : W.cell? ⟨N, 0, none⟩ = some (.int .i64 x)) (c1 : W.cell? ⟨N, 1, none⟩ = some (.int .i64 y)) (c2 : W.cell? ⟨N, 2, none⟩ = some (.int .i64 z)) (f0 : W.frozen? ⟨N, 0, none⟩ = false) (f1 : W.frozen? ⟨N, 1, none⟩ = false) (f2 : W.frozen? ⟨N, 2, none⟩ = false) : P3Box W N x y z :=
  ⟨Later.cell c0, Later.cell c1, Later.cell c2, Later.frozen lt f0, Later.frozen lt f1, Later.frozen lt f2, lt⟩
/-- A position is stored into a box. -/
theorem P3Box.put {W : World} {N : Nat} {x y z : Int} (h : P3Box W N x y z) (X Y Z : Int) : P3Box (((W.setCell ⟨N, 0, none⟩ (.int .i64 X)).setCell ⟨N, 1, none⟩ (.int .i64 Y)).setCell ⟨N, 2, none⟩ (.int .i64 Z)) N X Y Z := by
  obtain ⟨c0, c1, c2, f0, f1, f2⟩ := h.at
  have lt := h.lt
  exact P3Box.of (by simpa using lt) (by simp [go_sem, c0]) (by simp [go_sem, c1]) (by simp [go_sem, c2]) (by simp [go_sem, f0]) (by simp [go_sem, f1]) (by simp [go_sem, f2])
theorem P3Box.other {W : World} {N : Nat} {x y z : Int} (h : P3Box W N x y z) {a : Addr} (ha : a.block ≠ N) (v : Value) : P3Box (W.setCell a v) N x y z := by
  obtain ⟨c0, c1, c2, f0, f1, f2⟩ := h.at
  have lt := h.lt
  have k : ∀ r, (W.setCell a v).cell? ⟨N, r, none⟩ = W.cell? ⟨N, r, none⟩ := fun r => World.cell?_setCell_far _ _ _ _ ha
  exact P3Box.of (by simpa using lt) (by rw [k]; exact c0) (by rw [k]; exact c1) (by rw [k]; exact c2) (by simpa using f0) (by simpa using f1) (by simpa using f2)

set_option maxHeartbeats 1000000 in
theorem cpos_cur {w : World} {N : Nat} {vm vp vq : Value} {C : Ctl} (h : CBox w N vm vp vq C) (hm : SlM w vm C.ms) (hi : C.idx < C.ms.length) (hr : C.cur.rng) (p0 : 0 ≤ C.part) (p1 : C.part ≤ C.cur.len) (p2 : 1 ≤ C.cur.len) :
    Calls Tryd.prog 52 #[.pointer (some ⟨N, 0, none⟩)] w fun e w' => e = .returned (P3 C.at3) ∧ Ext w w' := by
  have e3 : C.at3 = (btw C.cur.fx C.cur.tx C.part C.cur.len, btw C.cur.fy C.cur.ty C.part C.cur.len, btw C.cur.fz C.cur.tz C.part C.cur.len) := by
    unfold Ctl.at3; rw [if_neg (by omega), if_neg (by omega)]
  rw [e3]; clear e3
  have c0 := h.c0; have c4 := h.c4; have c5 := h.c5; have hN := h.lt
  obtain ⟨ad, n, cap, b, off, rfl, rfl, h3, -, h4⟩ := hm
  obtain ⟨hb1, hb2⟩ := h4 C.idx hi
  obtain rfl : ad = some ⟨b, off, none⟩ := h3.resolve_left (by omega)
  clear h3 h4
  have hl := Mot.len_bounds hr
  have HR := Lib.hid hr
  unfold Ctl.cur at *
  clear hr
  generalize C.ms.getD C.idx Mot.zero = p at *
  generalize C.ms.length = n at *
  have kp := fun w => pos_mot p C.part w HR.out p0 p1 p2
  have KP := Lib.hid kp; clear kp
  generalize btw p.fx p.tx C.part p.len = X at KP ⊢; generalize btw p.fy p.ty C.part p.len = Y at KP ⊢; generalize btw p.fz p.tz C.part p.len = Z at KP ⊢
  have hn0 : ¬ (n : Int) = 0 := by omega
  have hin : ¬ (C.idx : Int) = (n : Int) := by omega
  go_enter Tryd.func52, Tryd.ntmps52
  go_wp2_with fail
  obtain ⟨W1, hW1, P1, hE1⟩ := P3Box.mk' w 0 0 0
  rw [hW1]; clear hW1
  have h1 := h.later hE1
  have hb3 := hb2.later hb1 hE1
  clear c0 c4 c5 h hb2
  have c0 := Later.cell h1.c0; have c4 := Later.cell h1.c4; have c5 := Later.cell h1.c5
  have d0 := Later.cell hb3.c0; have d1 := Later.cell hb3.c1; have d2 := Later.cell hb3.c2; have d3 := Later.cell hb3.c3; have d4 := Later.cell hb3.c4; have d5 := Later.cell hb3.c5; have d6 := Later.cell hb3.c6; have d7 := Later.cell hb3.c7; have d8 := Later.cell hb3.c8
  refine wp_region_later (by kernel_rfl) (by kernel_rfl) ?_
  repeat (go_big_quiet_step (fail))
  refine wpQuiet_nil ?_
  rintro _ ⟨x, rfl⟩
  go_wp2_with fail
  refine wp_region_plan (fun w' => ∃ y : Later W1, w' = y.w) 11 [([0, 1, 2, 3, 4, 5, 6, 7, 8, 9], 10)] [] (by kernel_rfl) (by kernel_rfl) (by kernel_rfl) ⟨⟨_, x.ext.drew⟩, rfl⟩ ?_
  simp only [List.take_succ_cons, List.take_zero, List.map_cons, List.map_nil, pickSeg, pickOp, List.getElem?_cons_zero, List.getElem?_cons_succ, Option.getD_some]
  refine segs_cons fun K hK => ?_
  repeat (go_big_quiet_step (fail))
  refine wpQuiet_nil ?_
  go_wp2_with fail
  refine onlyK_normal (hK _ _ ⟨⟨_, (x.ext.drew).alloc _⟩, rfl⟩ ?_); clear hK K
  refine segs_last ?_
  simp only [List.drop_succ_cons, List.drop_zero]
  refine wpQuiet_nil ?_
  go_wp2_with fail
  have hx := x.ext
  have hNx : N < x.w.heap.size := Nat.lt_of_lt_of_le h1.lt hx.size
  have hbx : b < x.w.heap.size := Nat.lt_of_lt_of_le hb1 (Nat.le_trans hE1.size hx.size)
  obtain ⟨W2, hW2, B2, hE2⟩ := MBox.mk' x.w p
  rw [hW2]; clear hW2
  have h2 := h1.later (hx.trans hE2)
  have hP2 := P1.later (hx.trans hE2)
  have hE3 : Ext w W2 := hE1.trans (hx.trans hE2)
  clear c0 c4 c5 d0 d1 d2 d3 d4 d5 d6 d7 d8 h1 hb3
  have c5 := Later.cell h2.c5
  have d0 := B2.c0; have d1 := B2.c1; have d2 := B2.c2; have d3 := B2.c3; have d4 := B2.c4; have d5 := B2.c5; have d6 := B2.c6; have d7 := B2.c7; have d8 := B2.c8
  have hws : w.heap.size < W2.heap.size := hP2.lt
  generalize x.w.heap.size = M at *
  clear hx hE2 hE1 P1 x hb1 hbx hNx B2 h2
  clear W1
  refine wp_region_tree (fun w' => ∃ y : Later W2, w' = y.w) 17 (.two [0, 1, 2, 3, 4, 5, 6, 7, 8] 9 14 (.two [] 10 14 (.one [11, 12, 13] 14 (.one [] 15 (.leaf [16]))) (.one [] 10 (.one [11, 12, 13] 15 (.leaf [16])))) (.one [] 9 (.one [] 10 (.one [11, 12, 13] 15 (.leaf [16]))))) (by kernel_rfl) (by kernel_rfl) (by kernel_rfl) ⟨⟨_, (Ext.refl W2).drew.drew⟩, rfl⟩ ?_
  simp only [List.take_succ_cons, List.take_zero]
  refine tree_two fun K1 K2 hK1 hK2 => ?_
  simp only [List.map_cons, List.map_nil, pickOp, List.getElem?_cons_zero, List.getElem?_cons_succ, Option.getD_some]
  repeat (go_big_quiet_step (fail))
  refine wpQuiet_nil ⟨?_, ?_⟩
  · clear hK2 K2
    go_wp2_with ((go_at_call 60; with_reducible refine (length_any p _ HR.out).mono ?_); rintro e w3 ⟨rfl, hx3⟩)
    have hx3 : Ext W2 w3 := ((Ext.refl W2).drew.drew).trans hx3
    refine onlyK_normal (hK1 _ _ ⟨⟨_, hx3⟩, rfl⟩ ?_); clear hK1 K1
    refine tree_two0 fun K1 K2 hK1 hK2 => ?_
    simp only [pickOp, List.getElem?_cons_zero, List.getElem?_cons_succ, Option.getD_some]
    refine ⟨?_, ?_⟩
    · clear hK2 K2
      go_wp2_with ((go_at_call 71; with_reducible refine (KP.out _).mono ?_); rintro e w4 ⟨rfl, hx4⟩)
      have hx4 : Ext W2 w4 := hx3.trans hx4
      refine onlyK_normal (hK1 _ _ ⟨⟨_, hx4⟩, rfl⟩ ?_); clear hK1 K1
      refine tree_one fun K hK => ?_
      simp only [List.map_cons, List.map_nil, pickOp, List.getElem?_cons_zero, List.getElem?_cons_succ, Option.getD_some]
      repeat (go_big_quiet_step (fail))
      refine wpQuiet_nil ?_
      go_wp2_with fail
      refine onlyK_normal (hK _ _ ⟨⟨_, hx4.alloc _⟩, rfl⟩ ?_); clear hK K
      refine tree_one0 fun K hK => ?_
      simp only [pickOp, List.getElem?_cons_zero, List.getElem?_cons_succ, Option.getD_some]
      go_wp2_with fail
      refine onlyK_normal (hK _ _ ⟨⟨_, hx4.alloc _⟩, rfl⟩ ?_); clear hK K
      refine tree_leaf ?_
      simp only [List.map_cons, List.map_nil, pickOp, List.getElem?_cons_zero, List.getElem?_cons_succ, Option.getD_some]
      repeat (go_big_quiet_step (fail))
      refine wpQuiet_nil ?_
      simp only [List.drop_succ_cons, List.drop_zero]
      obtain ⟨W5, hW5, B5, hE5⟩ := P3Box.mk' w4 X Y Z
      rw [hW5]; clear hW5
      have hE5 := hx4.trans hE5
      have hP5 := hP2.later hE5
      obtain ⟨b0, b1, b2, -, -, -⟩ := B5.at
      obtain ⟨g0, g1, g2, g3, g4, g5⟩ := hP5.at
      go_wp2
      refine bodyPost_ret (v := Ps X Y Z) (by simp [results, Tryd.results52, go_sem, g0, g1, g2]) rfl ⟨rfl, ?_⟩
      exact (((hE3.trans hE5).setCell (Nat.le_refl _) _).setCell (Nat.le_refl _) _).setCell (Nat.le_refl _) _
    · clear hK1 K1
      go_wp2_with fail
      obtain ⟨W4, hW4, B4, hE4⟩ := P3Box.mk' w3 0 0 0
      rw [hW4]; clear hW4
      have hb : W2.heap.size ≤ w3.heap.size := hx3.size
      generalize w3.heap.size = b3 at *
      have hE4 := hx3.trans hE4
      refine onlyK_normal (hK2 _ _ ⟨⟨_, hE4⟩, rfl⟩ ?_); clear hK2 K2
      refine tree_one0 fun K hK => ?_
      simp only [pickOp, List.getElem?_cons_zero, List.getElem?_cons_succ, Option.getD_some]
      go_wp2_with ((go_at_call 71; with_reducible refine (KP.out _).mono ?_); rintro e w4 ⟨rfl, hx4⟩)
      have B4 := B4.later hx4
      have hx4 : Ext W2 w4 := hE4.trans hx4
      clear hE4
      refine onlyK_normal (hK _ _ ⟨⟨_, hx4⟩, rfl⟩ ?_); clear hK K
      refine tree_one fun K hK => ?_
      simp only [List.map_cons, List.map_nil, pickOp, List.getElem?_cons_zero, List.getElem?_cons_succ, Option.getD_some]
      repeat (go_big_quiet_step (fail))
      refine wpQuiet_nil ?_
      obtain ⟨b0, b1, b2, b3', b4', b5'⟩ := B4.at
      go_wp2_with fail
      have hE5 := ((hx4.setCell (p := ⟨b3, 0, none⟩) hb (.int .i64 X)).setCell (p := ⟨b3, 1, none⟩) hb (.int .i64 Y)).setCell (p := ⟨b3, 2, none⟩) hb (.int .i64 Z)
      have B5 := B4.put X Y Z
      refine onlyK_normal (hK _ _ ⟨⟨_, hE5⟩, rfl⟩ ?_); clear hK K
      clear b0 b1 b2 b3' b4' b5'
      generalize ((w4.setCell ⟨b3, 0, none⟩ (.int .i64 X)).setCell ⟨b3, 1, none⟩ (.int .i64 Y)).setCell ⟨b3, 2, none⟩ (.int .i64 Z) = W5 at *
      refine tree_leaf ?_
      simp only [List.map_cons, List.map_nil, pickOp, List.getElem?_cons_zero, List.getElem?_cons_succ, Option.getD_some]
      repeat (go_big_quiet_step (fail))
      refine wpQuiet_nil ?_
      simp only [List.drop_succ_cons, List.drop_zero]
      have hP5 := hP2.later hE5
      obtain ⟨b0, b1, b2, -, -, -⟩ := B5.at
      obtain ⟨g0, g1, g2, g3, g4, g5⟩ := hP5.at
      go_wp2
      refine bodyPost_ret (v := Ps X Y Z) (by simp [results, Tryd.results52, go_sem, g0, g1, g2]) rfl ⟨rfl, ?_⟩
      exact (((hE3.trans hE5).setCell (Nat.le_refl _) _).setCell (Nat.le_refl _) _).setCell (Nat.le_refl _) _
  · clear hK1 K1
    go_wp2_with fail
    obtain ⟨W4, hW4, B4, hE4⟩ := P3Box.mk' W2 0 0 0
    rw [hW4]; clear hW4
    have hb : W2.heap.size ≤ W2.heap.size := Nat.le_refl _
    generalize hb3 : W2.heap.size = b3 at B4
    rw [hb3] at hb
    have HB3 := Lib.hid hb3; clear hb3
    have hb : W2.heap.size ≤ b3 := by rw [HB3.out]; exact Nat.le_refl _
    refine onlyK_normal (hK2 _ _ ⟨⟨_, hE4.drew.drew⟩, rfl⟩ ?_); clear hK2 K2
    refine tree_one0 fun K hK => ?_
    simp only [pickOp, List.getElem?_cons_zero, List.getElem?_cons_succ, Option.getD_some]
    go_wp2_with ((go_at_call 60; with_reducible refine (length_any p _ HR.out).mono ?_); rintro e w3 ⟨rfl, hx3⟩)
    have B4 := B4.later ((Ext.refl W4).drew.drew.trans hx3)
    have hx3' : Ext W2 w3 := hE4.drew.drew.trans hx3
    clear hE4
    refine onlyK_normal (hK _ _ ⟨⟨_, hx3'⟩, rfl⟩ ?_); clear hK K
    refine tree_one0 fun K hK => ?_
    simp only [pickOp, List.getElem?_cons_zero, List.getElem?_cons_succ, Option.getD_some]
    go_wp2_with ((go_at_call 71; with_reducible refine (KP.out _).mono ?_); rintro e w4 ⟨rfl, hx4⟩)
    have B4 := B4.later hx4
    have hx4 : Ext W2 w4 := hx3'.trans hx4
    refine onlyK_normal (hK _ _ ⟨⟨_, hx4⟩, rfl⟩ ?_); clear hK K
    refine tree_one fun K hK => ?_
    simp only [List.map_cons, List.map_nil, pickOp, List.getElem?_cons_zero, List.getElem?_cons_succ, Option.getD_some]
    repeat (go_big_quiet_step (fail))
    refine wpQuiet_nil ?_
    obtain ⟨b0, b1, b2, b3', b4', b5'⟩ := B4.at
    go_wp2_with fail
    have hE5 := ((hx4.setCell (p := ⟨b3, 0, none⟩) hb (.int .i64 X)).setCell (p := ⟨b3, 1, none⟩) hb (.int .i64 Y)).setCell (p := ⟨b3, 2, none⟩) hb (.int .i64 Z)
    have B5 := B4.put X Y Z
    refine onlyK_normal (hK _ _ ⟨⟨_, hE5⟩, rfl⟩ ?_); clear hK K
    clear b0 b1 b2 b3' b4' b5'
    generalize ((w4.setCell ⟨b3, 0, none⟩ (.int .i64 X)).setCell ⟨b3, 1, none⟩ (.int .i64 Y)).setCell ⟨b3, 2, none⟩ (.int .i64 Z) = W5 at *
    refine tree_leaf ?_
    simp only [List.map_cons, List.map_nil, pickOp, List.getElem?_cons_zero, List.getElem?_cons_succ, Option.getD_some]
    repeat (go_big_quiet_step (fail))
    refine wpQuiet_nil ?_
    simp only [List.drop_succ_cons, List.drop_zero]
    have hP5 := hP2.later hE5
    obtain ⟨b0, b1, b2, -, -, -⟩ := B5.at
    obtain ⟨g0, g1, g2, g3, g4, g5⟩ := hP5.at
    go_wp2
    refine bodyPost_ret (v := Ps X Y Z) (by simp [results, Tryd.results52, go_sem, g0, g1, g2]) rfl ⟨rfl, ?_⟩
    exact (((hE3.trans hE5).setCell (Nat.le_refl _) _).setCell (Nat.le_refl _) _).setCell (Nat.le_refl _) _

end Go.Proofs.YtjibcnnbclcboaaDoor

namespace Go.Proofs.YtjibcnnbclcboaaDoor
open Go.RowKit
set_option maxRecDepth 8000
set_option maxRecDepth 8000

set_option maxHeartbeats 400000 in
theorem cpos_nil {w : World} {N : Nat} {vm vp vq : Value} {C : Ctl} (h : CBox w N vm vp vq C) (hm : SlM w vm C.ms) (hi : C.ms.length = 0) :
    Calls Tryd.prog 52 #[.pointer (some ⟨N, 0, none⟩)] w fun e w' => e = .returned (P3 C.at3) ∧ Ext w w' := by
  have e3 : C.at3 = (0, 0, 0) := by unfold Ctl.at3; rw [if_pos hi]
  rw [e3]; clear e3
  have c0 := h.c0; have hN := h.lt
  obtain ⟨ad, n, cap, b, off, rfl, rfl, -, -, -⟩ := hm
  rw [hi] at c0
  clear h hi
  go_enter Tryd.func52, Tryd.ntmps52
  go_wp2
  refine bodyPost_ret (v := Ps 0 0 0) (by simp [results, Tryd.results52, go_sem]) rfl ⟨rfl, ?_⟩
  exact (Ext.refl w).alloc _

set_option maxHeartbeats 1000000 in
theorem cpos_end {w : World} {N : Nat} {vm vp vq : Value} {C : Ctl} (h : CBox w N vm vp vq C) (hm : SlM w vm C.ms) (hi : C.idx = C.ms.length) (h0 : C.ms.length ≠ 0) (hn : C.ms.length ≤ 1000000000000) :
    Calls Tryd.prog 52 #[.pointer (some ⟨N, 0, none⟩)] w fun e w' => e = .returned (P3 C.at3) ∧ Ext w w' := by
  have e3 : C.at3 = ((C.ms.getD (C.idx - 1) Mot.zero).tx, (C.ms.getD (C.idx - 1) Mot.zero).ty, (C.ms.getD (C.idx - 1) Mot.zero).tz) := by unfold Ctl.at3; rw [if_neg h0, if_pos hi]
  rw [e3]; clear e3
  have c0 := h.c0; have c4 := h.c4; have hN := h.lt
  obtain ⟨ad, n, cap, b, off, rfl, rfl, h3, -, h4⟩ := hm
  obtain ⟨hb1, hb2⟩ := h4 (C.idx - 1) (by omega)
  obtain rfl : ad = some ⟨b, off, none⟩ := h3.resolve_left (by omega)
  clear h3 h4
  generalize C.ms.getD (C.idx - 1) Mot.zero = p at *
  rw [hi] at hb2
  have c4 : w.cell? ⟨N, 4, none⟩ = some (.int .i64 ((C.ms.length : Nat) : Int)) := by rw [← hi]; exact h.c4
  clear hi
  generalize hK : C.ms.length = n at *
  obtain ⟨k, rfl⟩ : ∃ k, n = k + 1 := ⟨n - 1, by omega⟩
  have HK := Lib.hid hK; clear hK h0
  have hn0 : ¬ ((k + 1 : Nat) : Int) = 0 := by omega
  have e1 : (((k + 1 : Nat) : Int) - 1).toNat = k := by omega
  have e2 : k + 1 - 1 = k := by omega
  rw [e2] at hb2
  clear e2
  go_enter Tryd.func52, Tryd.ntmps52
  go_wp2_with fail
  obtain ⟨W1, hW1, P1, hE1⟩ := P3Box.mk' w 0 0 0
  rw [hW1]; clear hW1
  have hb3 := hb2.later hb1 hE1
  have c0' := Later.cell (show W1.cell? _ = _ by rw [hE1.cell (p := ⟨N, 0, none⟩) hN]; exact c0)
  have c4' := Later.cell (show W1.cell? _ = _ by rw [hE1.cell (p := ⟨N, 4, none⟩) hN]; exact c4)
  clear c0 c4 hb2 h
  have d3 := Later.cell hb3.c3; have d4 := Later.cell hb3.c4; have d5 := Later.cell hb3.c5
  refine wp_region_later (by kernel_rfl) (by kernel_rfl) ?_
  repeat (go_big_quiet_step (fail))
  refine wpQuiet_nil ?_
  rintro _ ⟨x, rfl⟩
  go_wp2_with fail
  have P2 := P1.later x.ext
  have hx := x.ext
  have c0 := Later.cell (c0' x); have c4 := Later.cell (c4' x); have d3' := Later.cell (d3 x); have d4' := Later.cell (d4 x); have d5' := Later.cell (d5 x)
  clear c0' c4' d3 d4 d5 P1
  generalize x.w = W3 at *
  clear x
  have f0 := P2.f0; have f1 := P2.f1; have f2 := P2.f2; have g0 := P2.c0; have g1 := P2.c1; have g2 := P2.c2
  refine wp_region_tail 12 (by kernel_rfl) (by kernel_rfl) (by kernel_rfl) ?_
  simp only [List.take_succ_cons, List.take_zero, List.drop_succ_cons, List.drop_zero]
  repeat (go_big_quiet_step (fail))
  refine wpQuiet_nil ?_
  rintro _ ⟨x, rfl⟩
  go_wp2
  refine bodyPost_ret (v := Ps p.tx p.ty p.tz) (by simp [results, Tryd.results52, go_sem, g0, g1, g2]) rfl ⟨rfl, ?_⟩
  exact ((((hE1.trans hx).trans x.ext).setCell (Nat.le_refl _) _).setCell (Nat.le_refl _) _).setCell (Nat.le_refl _) _

/-- May the position be asked for? -/
structure Ctl.posOk (C : Ctl) : Prop where
  le : C.idx ≤ C.ms.length
  n : C.ms.length ≤ 1000000000000
  rng : C.idx < C.ms.length → C.cur.rng
  p0 : C.idx < C.ms.length → 0 ≤ C.part
  p1 : C.idx < C.ms.length → C.part ≤ C.cur.len
  p2 : C.idx < C.ms.length → 1 ≤ C.cur.len

theorem cpos_any {w : World} {N : Nat} {vm vp vq : Value} {C : Ctl} (h : CBox w N vm vp vq C) (hm : SlM w vm C.ms) (k : C.posOk) :
    Calls Tryd.prog 52 #[.pointer (some ⟨N, 0, none⟩)] w fun e w' => e = .returned (P3 C.at3) ∧ Ext w w' := by
  by_cases h0 : C.ms.length = 0
  · exact cpos_nil h hm h0
  · by_cases h1 : C.idx = C.ms.length
    · exact cpos_end h hm h1 h0 k.n
    · have h2 : C.idx < C.ms.length := by have := k.le; omega
      exact cpos_cur h hm h2 (k.rng h2) (k.p0 h2) (k.p1 h2) (k.p2 h2)

end Go.Proofs.YtjibcnnbclcboaaDoor

namespace Go.Proofs.YtjibcnnbclcboaaDoor
open Go.RowKit
set_option maxRecDepth 8000
set_option maxRecDepth 8000

/-- Of the blocks that were there only those in D may have changed. -/
structure Only (D : Nat → Prop) (w w' : World) : Prop where
  os : w'.os = w.os
  tape : w'.tape = w.tape
  output : w'.output = w.output
  size : w.heap.size ≤ w'.heap.size
  block : ∀ k, k < w.heap.size → ¬ D k → w'.heap[k]? = w.heap[k]?

theorem Only.refl (D : Nat → Prop) (w : World) : Only D w w := ⟨rfl, rfl, rfl, Nat.le_refl _, fun _ _ _ => rfl⟩
theorem Only.trans {D : Nat → Prop} {a b c : World} (h : Only D a b) (k : Only D b c) : Only D a c :=
  ⟨k.os.trans h.os, k.tape.trans h.tape, k.output.trans h.output, Nat.le_trans h.size k.size, fun i hi hd => (k.block i (Nat.lt_of_lt_of_le hi h.size) hd).trans (h.block i hi hd)⟩
/-- The second part may also change what is new. -/
theorem Only.trans' {D D' : Nat → Prop} {a b c : World} (h : Only D a b) (k : Only D' b c) (hd : ∀ i, i < a.heap.size → D' i → D i) : Only D a c :=
  ⟨k.os.trans h.os, k.tape.trans h.tape, k.output.trans h.output, Nat.le_trans h.size k.size, fun i hi hn => (k.block i (Nat.lt_of_lt_of_le hi h.size) (fun h' => hn (hd i hi h'))).trans (h.block i hi hn)⟩
theorem Only.of_ext {D : Nat → Prop} {w w' : World} (h : Ext w w') : Only D w w' := ⟨h.out.os, h.out.tape, h.out.output, h.size, fun k hk _ => h.out.block k hk⟩
theorem Only.ext {D : Nat → Prop} {w w' : World} (h : Only D w w') (hd : ∀ k, k < w.heap.size → ¬ D k) : Ext w w' := Ext.of ⟨h.os, h.tape, h.output, h.size, fun k hk => h.block k hk (hd k hk)⟩
theorem Only.mono {D D' : Nat → Prop} {w w' : World} (h : Only D w w') (hd : ∀ k, k < w.heap.size → D k → D' k) : Only D' w w' := ⟨h.os, h.tape, h.output, h.size, fun k hk hn => h.block k hk (fun h' => hn (hd k hk h'))⟩
theorem Only.of_grown {w w' : World} {row : Option Nat} (h : w.grownBy w' row) : Only (fun k => row = some k) w w' := ⟨h.os, h.tape, h.output, h.size, fun k hk hn => h.block k hk (fun e => hn e.symm)⟩
/-- What was changed lies above the old world. -/
theorem Ext.only {w0 w w' : World} (h : Ext w0 w) {D : Nat → Prop} (k : Only D w w') (hd : ∀ i, i < w0.heap.size → ¬ D i) : Ext w0 w' :=
  Ext.of ⟨k.os.trans h.out.os, k.tape.trans h.out.tape, k.output.trans h.out.output, Nat.le_trans h.size k.size, fun i hi => (k.block i (Nat.lt_of_lt_of_le hi h.size) (hd i hi)).trans (h.out.block i hi)⟩
theorem Only.set {D : Nat → Prop} {a w : World} (h : Only D a w) {p : Addr} (hp : D p.block ∨ a.heap.size ≤ p.block) (u : Value) : Only D a (w.setCell p u) := by
  have b : Below (max (p.block) 0) w (w.setCell p u) := Below.setCell (Below.refl _ _) (by simp) u
  refine ⟨by rw [b.os, h.os], by rw [b.tape, h.tape], by rw [b.output, h.output], Nat.le_trans h.size (by simp), fun k hk hn => ?_⟩
  rw [← h.block k hk hn]
  have hne : p.block ≠ k := by
    rcases hp with hp | hp
    · intro e; subst e; exact hn hp
    · omega
  exact Below.heap_setCell _ _ _ _ (fun e => hne e.symm)
theorem Only.alloc {D : Nat → Prop} {a w : World} (h : Only D a w) (o : Obj) : Only D a (w.alloc o) := h.trans (Only.of_ext ((Ext.refl w).alloc o))
theorem Only.drew {D : Nat → Prop} {a w : World} (h : Only D a w) : Only D a w.drew := h.trans (Only.of_ext (Ext.refl w).drew)
theorem Only.cell {D : Nat → Prop} {w w' : World} (h : Only D w w') {p : Addr} (hp : p.block < w.heap.size) (hd : ¬ D p.block) : w'.cell? p = w.cell? p := World.cell?_of_block (h.block _ hp hd)
theorem Only.frozen {D : Nat → Prop} {w w' : World} (h : Only D w w') {p : Addr} (hp : p.block < w.heap.size) (hd : ¬ D p.block) : w'.frozen? p = w.frozen? p := World.frozen?_of_block (h.block _ hp hd)

/-- The slice does not lie in D. -/
def Off (D : Nat → Prop) (v : Value) : Prop := ∀ b, v.ownBlock = some b → ¬ D b

theorem SlM.only {D : Nat → Prop} {w w' : World} {v : Value} {l : List Mot} (h : SlM w v l) (k : Only D w w') (hd : Off D v) : SlM w' v l := by
  obtain ⟨ad, n, cap, b, off, rfl, h2, h3, h5, h4⟩ := h
  refine ⟨ad, n, cap, b, off, rfl, h2, h3, h5, fun i hi => ?_⟩
  obtain ⟨p, q⟩ := h4 i hi
  have hb : ad = some ⟨b, off, none⟩ := h3.resolve_left (by omega)
  have hne : ¬ D b := hd b (by subst hb; rfl)
  have c : ∀ r, w'.cell? ⟨b, r, none⟩ = w.cell? ⟨b, r, none⟩ := fun r => k.cell p hne
  exact ⟨Nat.lt_of_lt_of_le p k.size, ⟨by rw [c]; exact q.c0, by rw [c]; exact q.c1, by rw [c]; exact q.c2, by rw [c]; exact q.c3, by rw [c]; exact q.c4, by rw [c]; exact q.c5, by rw [c]; exact q.c6, by rw [c]; exact q.c7, by rw [c]; exact q.c8⟩⟩

theorem SlI.only {D : Nat → Prop} {w w' : World} {v : Value} {l : List Int} (h : SlI w v l) (k : Only D w w') (hd : Off D v) : SlI w' v l := by
  obtain ⟨ad, n, cap, b, off, rfl, h2, h3, h4⟩ := h
  refine ⟨ad, n, cap, b, off, rfl, h2, h3, fun i hi => ?_⟩
  obtain ⟨p, q⟩ := h4 i hi
  have hb : ad = some ⟨b, off, none⟩ := h3.resolve_left (by omega)
  have hne : ¬ D b := hd b (by subst hb; rfl)
  exact ⟨Nat.lt_of_lt_of_le p k.size, by rw [k.cell p hne]; exact q⟩

theorem ownsRow_lt {B : Nat} {w : World} {E : TypeId} {sz : Nat} {v : Value} {n : Nat} {xs : List Value} (h : w.ownsRow B E sz v n xs) {b : Nat} (hb : v.ownBlock = some b) : b < w.heap.size := by
  obtain ⟨h1, h2⟩ := h
  rcases h2 with ⟨rfl, h3⟩ | ⟨g, cap, cur, rfl, h3, h4, h5⟩
  · cases hb
  · have : g = b := by simpa [Value.ownBlock] using hb
    subst this
    rcases Nat.lt_or_ge g w.heap.size with h' | h'
    · exact h'
    · rw [Array.getElem?_eq_none h'] at h4; cases h4

theorem ownsRow_only {B : Nat} {D : Nat → Prop} {w w' : World} {E : TypeId} {sz : Nat} {v : Value} {n : Nat} {xs : List Value} (h : w.ownsRow B E sz v n xs) (k : Only D w w') (hd : Off D v) : w'.ownsRow B E sz v n xs := by
  have hl := fun b => ownsRow_lt h (b := b)
  obtain ⟨h1, h2⟩ := h
  refine ⟨h1, ?_⟩
  rcases h2 with ⟨rfl, h3⟩ | ⟨g, cap, cur, rfl, h3, h4, h5⟩
  · exact .inl ⟨rfl, h3⟩
  · have e := k.block g (hl g rfl) (hd g rfl)
    exact .inr ⟨g, cap, cur, rfl, h3, by rw [e]; exact h4, h5⟩
theorem OwnM.only {B : Nat} {D : Nat → Prop} {w w' : World} {v : Value} {l : List Mot} (h : OwnM B w v l) (k : Only D w w') (hd : Off D v) : OwnM B w' v l := ownsRow_only h k hd
theorem OwnM.lt {B : Nat} {w : World} {v : Value} {l : List Mot} (h : OwnM B w v l) {b : Nat} (hb : v.ownBlock = some b) : b < w.heap.size := ownsRow_lt h hb

theorem CBox.only {D : Nat → Prop} {w w' : World} {N : Nat} {vm vp vq : Value} {C : Ctl} (h : CBox w N vm vp vq C) (k : Only D w w') (hd : ¬ D N) : CBox w' N vm vp vq C where
  lt := Nat.lt_of_lt_of_le h.lt k.size
  c0 := by rw [k.cell h.lt hd]; exact h.c0
  c1 := by rw [k.cell h.lt hd]; exact h.c1
  c2 := by rw [k.cell h.lt hd]; exact h.c2
  c3 := by rw [k.cell h.lt hd]; exact h.c3
  c4 := by rw [k.cell h.lt hd]; exact h.c4
  c5 := by rw [k.cell h.lt hd]; exact h.c5
  c6 := by rw [k.cell h.lt hd]; exact h.c6
  c7 := by rw [k.cell h.lt hd]; exact h.c7
  c8 := by rw [k.cell h.lt hd]; exact h.c8
  c9 := by rw [k.cell h.lt hd]; exact h.c9
  c10 := by rw [k.cell h.lt hd]; exact h.c10
  c11 := by rw [k.cell h.lt hd]; exact h.c11
  c12 := by rw [k.cell h.lt hd]; exact h.c12
  c13 := by rw [k.cell h.lt hd]; exact h.c13
  c14 := by rw [k.cell h.lt hd]; exact h.c14
  fr := fun r => by rw [k.frozen h.lt hd]; exact h.fr r

theorem cell_set_off {w : World} {N i k : Nat} (v : Value) (x : Option Value) (h : i ≠ k) (hx : w.cell? ⟨N, i, none⟩ = x) : (w.setCell ⟨N, k, none⟩ v).cell? ⟨N, i, none⟩ = x := by
  rw [← hx]
  exact World.cell?_setCell_other _ _ _ _ (fun e => h (by injection e with _ e2; exact e2.symm))
theorem CBox.set_idx {w : World} {N : Nat} {vm vp vq : Value} {C : Ctl} (h : CBox w N vm vp vq C) (n : Nat) : CBox (w.setCell ⟨N, 4, none⟩ (.int .i64 (n : Int))) N vm vp vq { C with idx := n } where
  lt := by simpa using h.lt
  c0 := cell_set_off _ _ (by decide) h.c0
  c1 := cell_set_off _ _ (by decide) h.c1
  c2 := cell_set_off _ _ (by decide) h.c2
  c3 := cell_set_off _ _ (by decide) h.c3
  c4 := by simp [go_sem, h.c4]
  c5 := cell_set_off _ _ (by decide) h.c5
  c6 := cell_set_off _ _ (by decide) h.c6
  c7 := cell_set_off _ _ (by decide) h.c7
  c8 := cell_set_off _ _ (by decide) h.c8
  c9 := cell_set_off _ _ (by decide) h.c9
  c10 := cell_set_off _ _ (by decide) h.c10
  c11 := cell_set_off _ _ (by decide) h.c11
  c12 := cell_set_off _ _ (by decide) h.c12
  c13 := cell_set_off _ _ (by decide) h.c13
  c14 := cell_set_off _ _ (by decide) h.c14
  fr := fun r => by simpa using h.fr r
theorem CBox.set_part {w : World} {N : Nat} {vm vp vq : Value} {C : Ctl} (h : CBox w N vm vp vq C) (n : Int) : CBox (w.setCell ⟨N, 5, none⟩ (.int .i64 n)) N vm vp vq { C with part := n } where
  lt := by simpa using h.lt
  c0 := cell_set_off _ _ (by decide) h.c0
  c1 := cell_set_off _ _ (by decide) h.c1
  c2 := cell_set_off _ _ (by decide) h.c2
  c3 := cell_set_off _ _ (by decide) h.c3
  c4 := cell_set_off _ _ (by decide) h.c4
  c5 := by simp [go_sem, h.c5]
  c6 := cell_set_off _ _ (by decide) h.c6
  c7 := cell_set_off _ _ (by decide) h.c7
  c8 := cell_set_off _ _ (by decide) h.c8
  c9 := cell_set_off _ _ (by decide) h.c9
  c10 := cell_set_off _ _ (by decide) h.c10
  c11 := cell_set_off _ _ (by decide) h.c11
  c12 := cell_set_off _ _ (by decide) h.c12
  c13 := cell_set_off _ _ (by decide) h.c13
  c14 := cell_set_off _ _ (by decide) h.c14
  fr := fun r => by simpa using h.fr r
theorem CBox.set_pos {w : World} {N : Nat} {vm vp vq : Value} {C : Ctl} (h : CBox w N vm vp vq C) (n : Nat) : CBox (w.setCell ⟨N, 7, none⟩ (.int .i64 (n : Int))) N vm vp vq { C with pos := n } where
  lt := by simpa using h.lt
  c0 := cell_set_off _ _ (by decide) h.c0
  c1 := cell_set_off _ _ (by decide) h.c1
  c2 := cell_set_off _ _ (by decide) h.c2
  c3 := cell_set_off _ _ (by decide) h.c3
  c4 := cell_set_off _ _ (by decide) h.c4
  c5 := cell_set_off _ _ (by decide) h.c5
  c6 := cell_set_off _ _ (by decide) h.c6
  c7 := by simp [go_sem, h.c7]
  c8 := cell_set_off _ _ (by decide) h.c8
  c9 := cell_set_off _ _ (by decide) h.c9
  c10 := cell_set_off _ _ (by decide) h.c10
  c11 := cell_set_off _ _ (by decide) h.c11
  c12 := cell_set_off _ _ (by decide) h.c12
  c13 := cell_set_off _ _ (by decide) h.c13
  c14 := cell_set_off _ _ (by decide) h.c14
  fr := fun r => by simpa using h.fr r
theorem CBox.set_br {w : World} {N : Nat} {vm vp vq : Value} {C : Ctl} (h : CBox w N vm vp vq C) (n : Bool) : CBox (w.setCell ⟨N, 8, none⟩ (.bool n)) N vm vp vq { C with br := n } where
  lt := by simpa using h.lt
  c0 := cell_set_off _ _ (by decide) h.c0
  c1 := cell_set_off _ _ (by decide) h.c1
  c2 := cell_set_off _ _ (by decide) h.c2
  c3 := cell_set_off _ _ (by decide) h.c3
  c4 := cell_set_off _ _ (by decide) h.c4
  c5 := cell_set_off _ _ (by decide) h.c5
  c6 := cell_set_off _ _ (by decide) h.c6
  c7 := cell_set_off _ _ (by decide) h.c7
  c8 := by simp [go_sem, h.c8]
  c9 := cell_set_off _ _ (by decide) h.c9
  c10 := cell_set_off _ _ (by decide) h.c10
  c11 := cell_set_off _ _ (by decide) h.c11
  c12 := cell_set_off _ _ (by decide) h.c12
  c13 := cell_set_off _ _ (by decide) h.c13
  c14 := cell_set_off _ _ (by decide) h.c14
  fr := fun r => by simpa using h.fr r
theorem CBox.set_hd {w : World} {N : Nat} {vm vp vq : Value} {C : Ctl} (h : CBox w N vm vp vq C) (n : Bool) : CBox (w.setCell ⟨N, 9, none⟩ (.bool n)) N vm vp vq { C with hd := n } where
  lt := by simpa using h.lt
  c0 := cell_set_off _ _ (by decide) h.c0
  c1 := cell_set_off _ _ (by decide) h.c1
  c2 := cell_set_off _ _ (by decide) h.c2
  c3 := cell_set_off _ _ (by decide) h.c3
  c4 := cell_set_off _ _ (by decide) h.c4
  c5 := cell_set_off _ _ (by decide) h.c5
  c6 := cell_set_off _ _ (by decide) h.c6
  c7 := cell_set_off _ _ (by decide) h.c7
  c8 := cell_set_off _ _ (by decide) h.c8
  c9 := by simp [go_sem, h.c9]
  c10 := cell_set_off _ _ (by decide) h.c10
  c11 := cell_set_off _ _ (by decide) h.c11
  c12 := cell_set_off _ _ (by decide) h.c12
  c13 := cell_set_off _ _ (by decide) h.c13
  c14 := cell_set_off _ _ (by decide) h.c14
  fr := fun r => by simpa using h.fr r
theorem CBox.set_bk {w : World} {N : Nat} {vm vp vq : Value} {C : Ctl} (h : CBox w N vm vp vq C) (n : Bool) : CBox (w.setCell ⟨N, 10, none⟩ (.bool n)) N vm vp vq { C with bk := n } where
  lt := by simpa using h.lt
  c0 := cell_set_off _ _ (by decide) h.c0
  c1 := cell_set_off _ _ (by decide) h.c1
  c2 := cell_set_off _ _ (by decide) h.c2
  c3 := cell_set_off _ _ (by decide) h.c3
  c4 := cell_set_off _ _ (by decide) h.c4
  c5 := cell_set_off _ _ (by decide) h.c5
  c6 := cell_set_off _ _ (by decide) h.c6
  c7 := cell_set_off _ _ (by decide) h.c7
  c8 := cell_set_off _ _ (by decide) h.c8
  c9 := cell_set_off _ _ (by decide) h.c9
  c10 := by simp [go_sem, h.c10]
  c11 := cell_set_off _ _ (by decide) h.c11
  c12 := cell_set_off _ _ (by decide) h.c12
  c13 := cell_set_off _ _ (by decide) h.c13
  c14 := cell_set_off _ _ (by decide) h.c14
  fr := fun r => by simpa using h.fr r
theorem CBox.set_lx {w : World} {N : Nat} {vm vp vq : Value} {C : Ctl} (h : CBox w N vm vp vq C) (n : Int) : CBox (w.setCell ⟨N, 12, none⟩ (.int .i64 n)) N vm vp vq { C with lx := n } where
  lt := by simpa using h.lt
  c0 := cell_set_off _ _ (by decide) h.c0
  c1 := cell_set_off _ _ (by decide) h.c1
  c2 := cell_set_off _ _ (by decide) h.c2
  c3 := cell_set_off _ _ (by decide) h.c3
  c4 := cell_set_off _ _ (by decide) h.c4
  c5 := cell_set_off _ _ (by decide) h.c5
  c6 := cell_set_off _ _ (by decide) h.c6
  c7 := cell_set_off _ _ (by decide) h.c7
  c8 := cell_set_off _ _ (by decide) h.c8
  c9 := cell_set_off _ _ (by decide) h.c9
  c10 := cell_set_off _ _ (by decide) h.c10
  c11 := cell_set_off _ _ (by decide) h.c11
  c12 := by simp [go_sem, h.c12]
  c13 := cell_set_off _ _ (by decide) h.c13
  c14 := cell_set_off _ _ (by decide) h.c14
  fr := fun r => by simpa using h.fr r
theorem CBox.set_ly {w : World} {N : Nat} {vm vp vq : Value} {C : Ctl} (h : CBox w N vm vp vq C) (n : Int) : CBox (w.setCell ⟨N, 13, none⟩ (.int .i64 n)) N vm vp vq { C with ly := n } where
  lt := by simpa using h.lt
  c0 := cell_set_off _ _ (by decide) h.c0
  c1 := cell_set_off _ _ (by decide) h.c1
  c2 := cell_set_off _ _ (by decide) h.c2
  c3 := cell_set_off _ _ (by decide) h.c3
  c4 := cell_set_off _ _ (by decide) h.c4
  c5 := cell_set_off _ _ (by decide) h.c5
  c6 := cell_set_off _ _ (by decide) h.c6
  c7 := cell_set_off _ _ (by decide) h.c7
  c8 := cell_set_off _ _ (by decide) h.c8
  c9 := cell_set_off _ _ (by decide) h.c9
  c10 := cell_set_off _ _ (by decide) h.c10
  c11 := cell_set_off _ _ (by decide) h.c11
  c12 := cell_set_off _ _ (by decide) h.c12
  c13 := by simp [go_sem, h.c13]
  c14 := cell_set_off _ _ (by decide) h.c14
  fr := fun r => by simpa using h.fr r
theorem CBox.set_lz {w : World} {N : Nat} {vm vp vq : Value} {C : Ctl} (h : CBox w N vm vp vq C) (n : Int) : CBox (w.setCell ⟨N, 14, none⟩ (.int .i64 n)) N vm vp vq { C with lz := n } where
  lt := by simpa using h.lt
  c0 := cell_set_off _ _ (by decide) h.c0
  c1 := cell_set_off _ _ (by decide) h.c1
  c2 := cell_set_off _ _ (by decide) h.c2
  c3 := cell_set_off _ _ (by decide) h.c3
  c4 := cell_set_off _ _ (by decide) h.c4
  c5 := cell_set_off _ _ (by decide) h.c5
  c6 := cell_set_off _ _ (by decide) h.c6
  c7 := cell_set_off _ _ (by decide) h.c7
  c8 := cell_set_off _ _ (by decide) h.c8
  c9 := cell_set_off _ _ (by decide) h.c9
  c10 := cell_set_off _ _ (by decide) h.c10
  c11 := cell_set_off _ _ (by decide) h.c11
  c12 := cell_set_off _ _ (by decide) h.c12
  c13 := cell_set_off _ _ (by decide) h.c13
  c14 := by simp [go_sem, h.c14]
  fr := fun r => by simpa using h.fr r
theorem CBox.set_vp {w : World} {N : Nat} {vm vp vq : Value} {C : Ctl} (h : CBox w N vm vp vq C) (v : Value) (l : List Int) : CBox (w.setCell ⟨N, 6, none⟩ (v)) N vm v vq { C with plan := l } where
  lt := by simpa using h.lt
  c0 := cell_set_off _ _ (by decide) h.c0
  c1 := cell_set_off _ _ (by decide) h.c1
  c2 := cell_set_off _ _ (by decide) h.c2
  c3 := cell_set_off _ _ (by decide) h.c3
  c4 := cell_set_off _ _ (by decide) h.c4
  c5 := cell_set_off _ _ (by decide) h.c5
  c6 := by simp [go_sem, h.c6]
  c7 := cell_set_off _ _ (by decide) h.c7
  c8 := cell_set_off _ _ (by decide) h.c8
  c9 := cell_set_off _ _ (by decide) h.c9
  c10 := cell_set_off _ _ (by decide) h.c10
  c11 := cell_set_off _ _ (by decide) h.c11
  c12 := cell_set_off _ _ (by decide) h.c12
  c13 := cell_set_off _ _ (by decide) h.c13
  c14 := cell_set_off _ _ (by decide) h.c14
  fr := fun r => by simpa using h.fr r
theorem CBox.set_vq {w : World} {N : Nat} {vm vp vq : Value} {C : Ctl} (h : CBox w N vm vp vq C) (v : Value) (l : List Mot) : CBox (w.setCell ⟨N, 11, none⟩ (v)) N vm vp v { C with ps := l } where
  lt := by simpa using h.lt
  c0 := cell_set_off _ _ (by decide) h.c0
  c1 := cell_set_off _ _ (by decide) h.c1
  c2 := cell_set_off _ _ (by decide) h.c2
  c3 := cell_set_off _ _ (by decide) h.c3
  c4 := cell_set_off _ _ (by decide) h.c4
  c5 := cell_set_off _ _ (by decide) h.c5
  c6 := cell_set_off _ _ (by decide) h.c6
  c7 := cell_set_off _ _ (by decide) h.c7
  c8 := cell_set_off _ _ (by decide) h.c8
  c9 := cell_set_off _ _ (by decide) h.c9
  c10 := cell_set_off _ _ (by decide) h.c10
  c11 := by simp [go_sem, h.c11]
  c12 := cell_set_off _ _ (by decide) h.c12
  c13 := cell_set_off _ _ (by decide) h.c13
  c14 := cell_set_off _ _ (by decide) h.c14
  fr := fun r => by simpa using h.fr r

end Go.Proofs.YtjibcnnbclcboaaDoor

namespace Go.Proofs.YtjibcnnbclcboaaDoor
open Go.RowKit
set_option maxRecDepth 8000
set_option maxRecDepth 8000

/-- The number of the next motion that has a length. -/
def skpF (ms : List Mot) : Nat → Nat → Nat
  | 0, i => i
  | k + 1, i => if i < ms.length ∧ (ms.getD i Mot.zero).len = 0 then skpF ms k (i + 1) else i
def skp (ms : List Mot) (i : Nat) : Nat := skpF ms (ms.length - i) i

theorem skp_step {ms : List Mot} {i : Nat} (h : i < ms.length) (h0 : (ms.getD i Mot.zero).len = 0) : skp ms i = skp ms (i + 1) := by
  unfold skp
  obtain ⟨k, hk⟩ : ∃ k, ms.length - i = k + 1 := ⟨ms.length - i - 1, by omega⟩
  rw [hk, show ms.length - (i + 1) = k by omega]
  show (if _ then _ else _) = _
  rw [if_pos ⟨h, h0⟩]
theorem skp_stop {ms : List Mot} {i : Nat} (h : ¬ (i < ms.length ∧ (ms.getD i Mot.zero).len = 0)) : skp ms i = i := by
  unfold skp
  cases ms.length - i with
  | zero => rfl
  | succ k => show (if _ then _ else _) = _; rw [if_neg h]

theorem skpF_le {ms : List Mot} : ∀ (k i : Nat), i ≤ ms.length → i ≤ skpF ms k i ∧ skpF ms k i ≤ ms.length
  | 0, i, h => ⟨Nat.le_refl _, h⟩
  | k + 1, i, h => by
    unfold skpF
    split
    · have := skpF_le (ms := ms) k (i + 1) (by omega)
      omega
    · exact ⟨Nat.le_refl _, h⟩
theorem skp_le {ms : List Mot} {i : Nat} (h : i ≤ ms.length) : i ≤ skp ms i ∧ skp ms i ≤ ms.length := skpF_le _ i h
theorem skpF_pos {ms : List Mot} : ∀ (k i : Nat), ms.length - i ≤ k → skpF ms k i < ms.length → (ms.getD (skpF ms k i) Mot.zero).len ≠ 0
  | 0, i, h, hl => by simp only [skpF] at hl; omega
  | k + 1, i, h, hl => by
    unfold skpF at hl ⊢
    split
    · rename_i hc
      rw [if_pos hc] at hl
      exact skpF_pos k (i + 1) (by omega) hl
    · rename_i hc
      rw [if_neg hc] at hl
      exact fun h0 => hc ⟨hl, h0⟩
theorem skp_pos {ms : List Mot} {i : Nat} (h : skp ms i < ms.length) : (ms.getD (skp ms i) Mot.zero).len ≠ 0 := skpF_pos _ i (Nat.le_refl _) h
/-- The motions that are passed over have no length. -/
theorem skpF_between {ms : List Mot} : ∀ (k i j : Nat), i ≤ j → j < skpF ms k i → (ms.getD j Mot.zero).len = 0
  | 0, i, j, h, hl => by simp only [skpF] at hl; omega
  | k + 1, i, j, h, hl => by
    unfold skpF at hl
    split at hl
    · rename_i hc
      rcases Nat.lt_or_ge i j with hj | hj
      · exact skpF_between k (i + 1) j hj hl
      · obtain rfl : i = j := by omega
        exact hc.2
    · omega
theorem skp_between {ms : List Mot} {i j : Nat} (h : i ≤ j) (hl : j < skp ms i) : (ms.getD j Mot.zero).len = 0 := skpF_between _ i j h hl

/-- What skip does. -/
def SkipPost (w : World) (N : Nat) (vm vp vq : Value) (C : Ctl) (e : Ending) (w' : World) : Prop := e = .returned (.tuple #[]) ∧ CBox w' N vm vp vq { C with idx := skp C.ms C.idx } ∧ Only (fun k => k = N) w w'

def idxAt (w : World) (N : Nat) : Nat := match w.cell? ⟨N, 4, none⟩ with | some (.int _ n) => n.toNat | _ => 0

theorem CBox.idxAt {w : World} {N : Nat} {vm vp vq : Value} {C : Ctl} (h : CBox w N vm vp vq C) : idxAt w N = C.idx := by
  unfold Go.Proofs.YtjibcnnbclcboaaDoor.idxAt
  rw [h.c4]
  simp

set_option maxHeartbeats 2000000 in
theorem skip_any {w : World} {N : Nat} {vm vp vq : Value} {C : Ctl} (h : CBox w N vm vp vq C) (hm : SlM w vm C.ms) (hv : vm.ownBlock ≠ some N) (hr : ∀ i, i < C.ms.length → (C.ms.getD i Mot.zero).rng) (hl : C.ms.length ≤ 1000000000000) (hi : C.idx ≤ C.ms.length) :
    Calls Tryd.prog 51 #[.pointer (some ⟨N, 0, none⟩)] w (SkipPost w N vm vp vq C) := by
  have HM := Lib.hid hm; clear hm
  have HR := Lib.hid hr; clear hr
  have HH := Lib.hid h; clear h
  have HV := Lib.hid hv; clear hv
  go_enter Tryd.func51, Tryd.ntmps51
  go_wp2_with fail
  go_loopw [2] (fun _ wr => ∃ i : Nat, i ≤ C.ms.length ∧ Hid (skp C.ms i = skp C.ms C.idx) ∧ CBox wr N vm vp vq { C with idx := i } ∧ Only (fun k => k = N) w wr) (fun _ wr => C.ms.length - idxAt wr N)
  case atStart => exact ⟨C.idx, hi, Lib.hid rfl, HH.out, Only.refl _ w⟩
  case round =>
    obtain ⟨i, hi2, HS, hB, hO⟩ := hrel
    have hm2 := HM.out.only hO (fun b hb e => HV.out (by rw [hb, e]))
    have HI := Lib.hid hB.idxAt
    have c0 := Later.cell hB.c0; have c4 := Later.cell hB.c4
    have hf := hB.fr 4
    obtain ⟨ad, n, cap, b, off, hvm, hn, h3, -, h4⟩ := hm2
    have HV2 := Lib.hid hvm
    rw [hvm] at c0
    clear hvm
    have HN := Lib.hid hn; clear hn
    by_cases hlt : i < C.ms.length
    · obtain ⟨hb1, hb2⟩ := h4 i (by rw [HN.out]; exact hlt)
      obtain rfl : ad = some ⟨b, off, none⟩ := h3.resolve_left (by have := HN.out; omega)
      have hr := HR.out i hlt
      have HR2 := Lib.hid hr; clear hr
      have hl1 : i < n := by rw [HN.out]; exact hlt
      clear h3 h4
      obtain ⟨p, hp⟩ : ∃ p, p = C.ms.getD i Mot.zero := ⟨_, rfl⟩
      rw [← hp] at hb2 HR2
      have HP := Lib.hid hp; clear hp
      have d0 := Later.cell hb2.c0; have d1 := Later.cell hb2.c1; have d2 := Later.cell hb2.c2; have d3 := Later.cell hb2.c3; have d4 := Later.cell hb2.c4; have d5 := Later.cell hb2.c5; have d6 := Later.cell hb2.c6; have d7 := Later.cell hb2.c7; have d8 := Later.cell hb2.c8
      have hd : decide ((i : Int) < (n : Int)) = true := by simpa using hl1
      have hK := fun w => length_any p w HR2.out
      have HK := Lib.hid hK; clear hK
      by_cases h0 : p.len = 0
      · rw [h0] at HK
        have H0 := Lib.hid h0; clear h0
        go_wp2_with fail
        refine wp_region_later (by kernel_rfl) (by kernel_rfl) ?_
        repeat (go_big_quiet_step ((go_at_call 60; exact Calls.later (HK.out _))))
        refine wpQuiet_nil ?_
        rintro _ ⟨x, rfl⟩
        have hx := x.ext
        have c4' := c4 x
        have hf' : x.w.frozen? ⟨N, 4, none⟩ = false := by rw [hx.frozen hB.lt]; exact hf
        clear c0 c4 d0 d1 d2 d3 d4 d5 d6 d7 d8
        have hB2 := hB.later hx
        have hO2 := hO.trans (Only.of_ext hx)
        clear hB hO hf hb2 hb1
        generalize x.w = W3 at *
        clear x hx
        go_wp2
        go_roundw
        case rel => exact ⟨i + 1, by omega, Lib.hid (by rw [← HS.out]; exact (skp_step hlt (by rw [← HP.out]; exact H0.out)).symm), by simpa using hB2.set_idx (i + 1), hO2.set (.inl rfl) _⟩
        case measure =>
          have e1 := (hB2.set_idx (i + 1)).idxAt
          have e2 := HI.out
          simp only at e1 e2
          rw [show ((i : Int) + 1) = ((i + 1 : Nat) : Int) by omega, e1, e2]; omega
      · have H0 := Lib.hid h0
        go_wp2_with fail
        refine wp_region_later (by kernel_rfl) (by kernel_rfl) ?_
        repeat (go_big_quiet_step ((go_at_call 60; exact Calls.later (HK.out _))))
        refine wpQuiet_nil ?_
        rintro _ ⟨x, rfl⟩
        have hx := x.ext
        clear c0 c4 d0 d1 d2 d3 d4 d5 d6 d7 d8
        have hB2 := hB.later hx
        have hO2 := hO.trans (Only.of_ext hx)
        clear hB hO hf hb2 hb1
        generalize x.w = W3 at *
        clear x hx
        have hS : skp C.ms C.idx = i := by rw [← HS.out]; exact skp_stop (by rw [← HP.out]; exact fun h => H0.out h.2)
        have HF := Lib.hid hS
        clear hS
        go_wp2
        go_end0
        exact ⟨rfl, by rw [HF.out]; exact hB2, hO2⟩
    · have hl1 : ¬ i < n := by rw [HN.out]; exact hlt
      have hd : decide ((i : Int) < (n : Int)) = false := by simp; omega
      clear h3 h4
      go_wp2_with fail
      refine wp_region_later (by kernel_rfl) (by kernel_rfl) ?_
      repeat (go_big_quiet_step (fail))
      refine wpQuiet_nil ?_
      rintro _ ⟨x, rfl⟩
      have hx := x.ext
      clear c0 c4
      have hB2 := hB.later hx
      have hO2 := hO.trans (Only.of_ext hx)
      clear hB hO hf
      generalize x.w = W3 at *
      clear x hx
      have hS : skp C.ms C.idx = i := by rw [← HS.out]; exact skp_stop (fun h => hlt h.1)
      have HF := Lib.hid hS
      clear hS
      go_wp2
      go_end0
      exact ⟨rfl, by rw [HF.out]; exact hB2, hO2⟩

end Go.Proofs.YtjibcnnbclcboaaDoor

namespace Go.Proofs.YtjibcnnbclcboaaDoor
open Go.RowKit
set_option maxRecDepth 8000
set_option maxRecDepth 8000

/-- The worlds in which only blocks of D have changed. -/
def Chg (D : Nat → Prop) (w : World) : Type := { w' : World // Only D w w' }
instance {D : Nat → Prop} {w : World} : Nonempty (Chg D w) := ⟨⟨w, Only.refl D w⟩⟩
def Chg.w {D : Nat → Prop} {w : World} (x : Chg D w) : World := x.1
theorem Chg.only {D : Nat → Prop} {w : World} (x : Chg D w) : Only D w x.w := x.2
theorem Chg.cell {D : Nat → Prop} {w : World} {p : Addr} {v : Value} (h : w.cell? p = some v) (hd : ¬ D p.block) : ∀ x : Chg D w, x.w.cell? p = some v := fun x => by
  have hp : p.block < w.heap.size := by
    unfold World.cell? at h
    rcases Nat.lt_or_ge p.block w.heap.size with h' | h'
    · exact h'
    · rw [Array.getElem?_eq_none h'] at h; cases h
  rw [x.only.cell hp hd]; exact h
theorem Chg.frozen {D : Nat → Prop} {w : World} {p : Addr} {b : Bool} (hp : p.block < w.heap.size) (h : w.frozen? p = b) (hd : ¬ D p.block) : ∀ x : Chg D w, x.w.frozen? p = b := fun x => by
  rw [x.only.frozen hp hd]; exact h

/-- The nine cells of a motion, which may be written. -/
structure M9Box (W : World) (N : Nat) (m : Mot) : Prop where
  c0 : W.cell? ⟨N, 0, none⟩ = some (.int .i64 m.fx)
  c1 : W.cell? ⟨N, 1, none⟩ = some (.int .i64 m.fy)
  c2 : W.cell? ⟨N, 2, none⟩ = some (.int .i64 m.fz)
  c3 : W.cell? ⟨N, 3, none⟩ = some (.int .i64 m.tx)
  c4 : W.cell? ⟨N, 4, none⟩ = some (.int .i64 m.ty)
  c5 : W.cell? ⟨N, 5, none⟩ = some (.int .i64 m.tz)
  c6 : W.cell? ⟨N, 6, none⟩ = some (.int .i64 m.rate)
  c7 : W.cell? ⟨N, 7, none⟩ = some (.int .i64 m.tool)
  c8 : W.cell? ⟨N, 8, none⟩ = some (.int .i64 m.block)
  f0 : W.frozen? ⟨N, 0, none⟩ = false
  f1 : W.frozen? ⟨N, 1, none⟩ = false
  f2 : W.frozen? ⟨N, 2, none⟩ = false
  f3 : W.frozen? ⟨N, 3, none⟩ = false
  f4 : W.frozen? ⟨N, 4, none⟩ = false
  f5 : W.frozen? ⟨N, 5, none⟩ = false
  f6 : W.frozen? ⟨N, 6, none⟩ = false
  f7 : W.frozen? ⟨N, 7, none⟩ = false
  f8 : W.frozen? ⟨N, 8, none⟩ = false
  lt : N < W.heap.size

theorem M9Box.mk' (w : World) (m : Mot) : ∃ W : World, w.alloc (.cells #[.int .i64 m.fx, .int .i64 m.fy, .int .i64 m.fz, .int .i64 m.tx, .int .i64 m.ty, .int .i64 m.tz, .int .i64 m.rate, .int .i64 m.tool, .int .i64 m.block] 49) = W ∧ M9Box W w.heap.size m ∧ Ext w W := by
  refine ⟨_, rfl, ?_, (Ext.refl w).alloc _⟩
  constructor <;> simp [go_sem]
theorem M9Box.only {D : Nat → Prop} {W W' : World} {N : Nat} {m : Mot} (h : M9Box W N m) (k : Only D W W') (hd : ¬ D N) : M9Box W' N m := by
  have c : ∀ r, W'.cell? ⟨N, r, none⟩ = W.cell? ⟨N, r, none⟩ := fun r => k.cell h.lt hd
  have f : ∀ r, W'.frozen? ⟨N, r, none⟩ = W.frozen? ⟨N, r, none⟩ := fun r => k.frozen h.lt hd
  exact ⟨by rw [c]; exact h.c0, by rw [c]; exact h.c1, by rw [c]; exact h.c2, by rw [c]; exact h.c3, by rw [c]; exact h.c4, by rw [c]; exact h.c5, by rw [c]; exact h.c6, by rw [c]; exact h.c7, by rw [c]; exact h.c8,
    by rw [f]; exact h.f0, by rw [f]; exact h.f1, by rw [f]; exact h.f2, by rw [f]; exact h.f3, by rw [f]; exact h.f4, by rw [f]; exact h.f5, by rw [f]; exact h.f6, by rw [f]; exact h.f7, by rw [f]; exact h.f8, Nat.lt_of_lt_of_le h.lt k.size⟩
theorem M9Box.later {W W' : World} {N : Nat} {m : Mot} (h : M9Box W N m) (k : Ext W W') : M9Box W' N m := h.only (D := fun _ => False) (Only.of_ext k) (fun h => h)

theorem Ext.of_only {w w' : World} (h : Only (fun _ => False) w w') : Ext w w' := h.ext fun _ _ h => h
theorem M9Box.put_from {W : World} {N : Nat} {m : Mot} (h : M9Box W N m) (a b c : Int) : M9Box (((W.setCell ⟨N, 0, none⟩ (.int .i64 a)).setCell ⟨N, 1, none⟩ (.int .i64 b)).setCell ⟨N, 2, none⟩ (.int .i64 c)) N { m with fx := a, fy := b, fz := c } where
  c0 := by simp [go_sem, h.c0]
  c1 := by simp [go_sem, h.c1]
  c2 := by simp [go_sem, h.c2]
  c3 := by simp [go_sem, h.c3]
  c4 := by simp [go_sem, h.c4]
  c5 := by simp [go_sem, h.c5]
  c6 := by simp [go_sem, h.c6]
  c7 := by simp [go_sem, h.c7]
  c8 := by simp [go_sem, h.c8]
  f0 := by simpa using h.f0
  f1 := by simpa using h.f1
  f2 := by simpa using h.f2
  f3 := by simpa using h.f3
  f4 := by simpa using h.f4
  f5 := by simpa using h.f5
  f6 := by simpa using h.f6
  f7 := by simpa using h.f7
  f8 := by simpa using h.f8
  lt := by simpa using h.lt
theorem M9Box.put_to {W : World} {N : Nat} {m : Mot} (h : M9Box W N m) (a b c : Int) : M9Box (((W.setCell ⟨N, 3, none⟩ (.int .i64 a)).setCell ⟨N, 4, none⟩ (.int .i64 b)).setCell ⟨N, 5, none⟩ (.int .i64 c)) N { m with tx := a, ty := b, tz := c } where
  c0 := by simp [go_sem, h.c0]
  c1 := by simp [go_sem, h.c1]
  c2 := by simp [go_sem, h.c2]
  c3 := by simp [go_sem, h.c3]
  c4 := by simp [go_sem, h.c4]
  c5 := by simp [go_sem, h.c5]
  c6 := by simp [go_sem, h.c6]
  c7 := by simp [go_sem, h.c7]
  c8 := by simp [go_sem, h.c8]
  f0 := by simpa using h.f0
  f1 := by simpa using h.f1
  f2 := by simpa using h.f2
  f3 := by simpa using h.f3
  f4 := by simpa using h.f4
  f5 := by simpa using h.f5
  f6 := by simpa using h.f6
  f7 := by simpa using h.f7
  f8 := by simpa using h.f8
  lt := by simpa using h.lt
theorem M9Box.put {W : World} {N : Nat} {m : Mot} (h : M9Box W N m) (p : Mot) : M9Box (((((((((W.setCell ⟨N, 0, none⟩ (.int .i64 p.fx)).setCell ⟨N, 1, none⟩ (.int .i64 p.fy)).setCell ⟨N, 2, none⟩ (.int .i64 p.fz)).setCell ⟨N, 3, none⟩ (.int .i64 p.tx)).setCell ⟨N, 4, none⟩ (.int .i64 p.ty)).setCell ⟨N, 5, none⟩ (.int .i64 p.tz)).setCell ⟨N, 6, none⟩ (.int .i64 p.rate)).setCell ⟨N, 7, none⟩ (.int .i64 p.tool)).setCell ⟨N, 8, none⟩ (.int .i64 p.block)) N p where
  c0 := by simp [go_sem, h.c0]
  c1 := by simp [go_sem, h.c1]
  c2 := by simp [go_sem, h.c2]
  c3 := by simp [go_sem, h.c3]
  c4 := by simp [go_sem, h.c4]
  c5 := by simp [go_sem, h.c5]
  c6 := by simp [go_sem, h.c6]
  c7 := by simp [go_sem, h.c7]
  c8 := by simp [go_sem, h.c8]
  f0 := by simpa using h.f0
  f1 := by simpa using h.f1
  f2 := by simpa using h.f2
  f3 := by simpa using h.f3
  f4 := by simpa using h.f4
  f5 := by simpa using h.f5
  f6 := by simpa using h.f6
  f7 := by simpa using h.f7
  f8 := by simpa using h.f8
  lt := by simpa using h.lt
theorem Only.set3 {D : Nat → Prop} {a W : World} {N : Nat} (h : Only D a W) (hp : D N ∨ a.heap.size ≤ N) (v0 v1 v2 : Value) : Only D a (((W.setCell ⟨N, 0, none⟩ v0).setCell ⟨N, 1, none⟩ v1).setCell ⟨N, 2, none⟩ v2) := (((h.set (p := ⟨N, _, none⟩) hp v0).set (p := ⟨N, _, none⟩) hp v1).set (p := ⟨N, _, none⟩) hp v2)
theorem Only.set3b {D : Nat → Prop} {a W : World} {N : Nat} (h : Only D a W) (hp : D N ∨ a.heap.size ≤ N) (v3 v4 v5 : Value) : Only D a (((W.setCell ⟨N, 3, none⟩ v3).setCell ⟨N, 4, none⟩ v4).setCell ⟨N, 5, none⟩ v5) := (((h.set (p := ⟨N, _, none⟩) hp v3).set (p := ⟨N, _, none⟩) hp v4).set (p := ⟨N, _, none⟩) hp v5)
theorem Only.set9 {D : Nat → Prop} {a W : World} {N : Nat} (h : Only D a W) (hp : D N ∨ a.heap.size ≤ N) (v0 v1 v2 v3 v4 v5 v6 v7 v8 : Value) : Only D a (((((((((W.setCell ⟨N, 0, none⟩ v0).setCell ⟨N, 1, none⟩ v1).setCell ⟨N, 2, none⟩ v2).setCell ⟨N, 3, none⟩ v3).setCell ⟨N, 4, none⟩ v4).setCell ⟨N, 5, none⟩ v5).setCell ⟨N, 6, none⟩ v6).setCell ⟨N, 7, none⟩ v7).setCell ⟨N, 8, none⟩ v8) := (((((((((h.set (p := ⟨N, _, none⟩) hp v0).set (p := ⟨N, _, none⟩) hp v1).set (p := ⟨N, _, none⟩) hp v2).set (p := ⟨N, _, none⟩) hp v3).set (p := ⟨N, _, none⟩) hp v4).set (p := ⟨N, _, none⟩) hp v5).set (p := ⟨N, _, none⟩) hp v6).set (p := ⟨N, _, none⟩) hp v7).set (p := ⟨N, _, none⟩) hp v8)

/-- A motion from a position to a position, like another. -/
def Mot.way (m : Mot) (a b : Int × Int × Int) : Mot := { m with fx := a.1, fy := a.2.1, fz := a.2.2, tx := b.1, ty := b.2.1, tz := b.2.2 }
def Ctl.last3 (C : Ctl) : Int × Int × Int := (C.lx, C.ly, C.lz)
def eq3 (a b : Int × Int × Int) : Bool := eqP a.1 a.2.1 a.2.2 b.1 b.2.1 b.2.2
theorem eq3_iff {a b : Int × Int × Int} : eq3 a b = true ↔ a = b := by
  obtain ⟨a1, a2, a3⟩ := a
  obtain ⟨b1, b2, b3⟩ := b
  simp [eq3, eqP]

set_option maxHeartbeats 400000 in
theorem piece_end {w : World} {N : Nat} {vm vp vq : Value} {C : Ctl} (h : CBox w N vm vp vq C) (hm : SlM w vm C.ms) (hi : C.idx = C.ms.length) :
    Calls Tryd.prog 41 #[.pointer (some ⟨N, 0, none⟩)] w fun e w' => e = .returned (.tuple #[Mv Mot.zero, .bool false]) ∧ Ext w w' := by
  have c0 := h.c0; have c4 := h.c4; have hN := h.lt
  obtain ⟨ad, n, cap, b, off, rfl, rfl, -, -, -⟩ := hm
  rw [hi] at c4
  clear hi h
  generalize C.ms.length = n at *
  go_enter Tryd.func41, Tryd.ntmps41
  go_wp2_with fail
  obtain ⟨W1, hW1, B1, hE1⟩ := M9Box.mk' w Mot.zero
  simp only [Mot.zero] at hW1
  rw [hW1]; clear hW1
  have d0 := Later.cell (show W1.cell? ⟨N, 0, none⟩ = _ by rw [hE1.cell (p := ⟨N, 0, none⟩) hN]; exact c0)
  have d4 := Later.cell (show W1.cell? ⟨N, 4, none⟩ = _ by rw [hE1.cell (p := ⟨N, 4, none⟩) hN]; exact c4)
  clear c0 c4
  refine wp_region_later (by kernel_rfl) (by kernel_rfl) ?_
  repeat (go_big_quiet_step (fail))
  refine wpQuiet_nil ?_
  rintro _ ⟨x, rfl⟩
  have B2 := B1.later x.ext
  have hE2 := hE1.trans x.ext
  clear d0 d4 B1 hE1
  generalize x.w = W2 at *
  clear x
  have f0 := B2.f0; have f1 := B2.f1; have f2 := B2.f2; have f3 := B2.f3; have f4 := B2.f4; have f5 := B2.f5; have f6 := B2.f6; have f7 := B2.f7; have f8 := B2.f8
  have c0 := B2.c0; have c1 := B2.c1; have c2 := B2.c2; have c3 := B2.c3; have c4 := B2.c4; have c5 := B2.c5; have c6 := B2.c6; have c7 := B2.c7; have c8 := B2.c8
  go_wp2
  refine bodyPost_ret (v := .tuple #[Mv Mot.zero, .bool false]) (by simp [results, Tryd.results41, go_sem, c0, c1, c2, c3, c4, c5, c6, c7, c8, Mot.zero]) rfl ⟨rfl, ?_⟩
  exact Ext.of_only ((Only.of_ext hE2).set9 (.inr (Nat.le_refl _)) _ _ _ _ _ _ _ _ _)

set_option maxHeartbeats 2000000 in
theorem piece_cur {w : World} {N : Nat} {vm vp vq : Value} {C : Ctl} (h : CBox w N vm vp vq C) (hm : SlM w vm C.ms) (hi : C.idx < C.ms.length) (k : C.posOk) :
    Calls Tryd.prog 41 #[.pointer (some ⟨N, 0, none⟩)] w fun e w' => e = .returned (.tuple #[Mv (C.cur.way C.last3 C.at3), .bool (!eq3 C.last3 C.at3)]) ∧ Ext w w' := by
  have hh := h
  have hmm := hm
  have HK := Lib.hid k; clear k
  have c0 := h.c0; have c4 := h.c4; have hN := h.lt
  obtain ⟨ad, n, cap, b, off, rfl, rfl, h3, -, h4⟩ := hm
  obtain ⟨hb1, hb2⟩ := h4 C.idx hi
  obtain rfl : ad = some ⟨b, off, none⟩ := h3.resolve_left (by omega)
  clear h3 h4
  unfold Ctl.cur Mot.way Ctl.last3 eq3
  have HH := Lib.hid hh; clear hh
  have HM := Lib.hid hmm; clear hmm
  have hpos : ∀ w', Ext w w' → Calls Tryd.prog 52 #[.pointer (some ⟨N, 0, none⟩)] w' fun e w'' => e = .returned (P3 C.at3) ∧ Ext w' w'' := fun w' he => cpos_any (HH.out.later he) (HM.out.later he) HK.out
  have HP := Lib.hid hpos; clear hpos
  generalize C.ms.getD C.idx Mot.zero = p at *
  generalize C.at3 = q at HP ⊢
  obtain ⟨qx, qy, qz⟩ := q
  simp only at HP ⊢
  generalize hn : C.ms.length = n at *
  clear hn HM
  have hin : ¬ (C.idx : Int) = (n : Int) := by omega
  have hne := fun w => Tryd.neq_pos C.lx C.ly C.lz qx qy qz w
  generalize eqP C.lx C.ly C.lz qx qy qz = bv at hne ⊢
  go_enter Tryd.func41, Tryd.ntmps41
  go_wp2_with fail
  obtain ⟨W1, hW1, B1, hE1⟩ := M9Box.mk' w Mot.zero
  simp only [Mot.zero] at hW1
  rw [hW1]; clear hW1
  have h1 := h.later hE1
  have hb3 := hb2.later hb1 hE1
  clear c0 c4 h hb2
  have c0 := Later.cell h1.c0; have c4 := Later.cell h1.c4; have l0 := Later.cell h1.c12; have l1 := Later.cell h1.c13; have l2 := Later.cell h1.c14
  have d0 := Later.cell hb3.c0; have d1 := Later.cell hb3.c1; have d2 := Later.cell hb3.c2; have d3 := Later.cell hb3.c3; have d4 := Later.cell hb3.c4; have d5 := Later.cell hb3.c5; have d6 := Later.cell hb3.c6; have d7 := Later.cell hb3.c7; have d8 := Later.cell hb3.c8
  refine wp_region_later (by kernel_rfl) (by kernel_rfl) ?_
  repeat (go_big_quiet_step (fail))
  refine wpQuiet_nil ?_
  rintro _ ⟨x, rfl⟩
  go_wp2_with fail
  refine wp_region_tree (fun w' => ∃ y : Later W1, w' = y.w) 11 (.one [0, 1, 2, 3, 4, 5, 6, 7, 8, 9] 10 (.leaf [])) (by kernel_rfl) (by kernel_rfl) (by kernel_rfl) ⟨⟨_, x.ext.drew⟩, rfl⟩ ?_
  simp only [List.take_succ_cons, List.take_zero]
  refine tree_one fun K hK => ?_
  simp only [List.map_cons, List.map_nil, pickOp, List.getElem?_cons_zero, List.getElem?_cons_succ, Option.getD_some]
  repeat (go_big_quiet_step (fail))
  refine wpQuiet_nil ?_
  go_wp2_with fail
  refine onlyK_normal (hK _ _ ⟨⟨_, (x.ext.drew).alloc _⟩, rfl⟩ ?_); clear hK K
  refine tree_leaf0 ?_
  simp only [List.drop_succ_cons, List.drop_zero]
  go_wp2_with fail
  have hx := x.ext
  obtain ⟨W2, hW2, B2, hE2⟩ := M9Box.mk' x.w p
  rw [hW2]; clear hW2
  have h2 := h1.later (hx.trans hE2)
  have B1' := B1.later (hx.trans hE2)
  have hE3 : Ext w W2 := hE1.trans (hx.trans hE2)
  have hM : w.heap.size < x.w.heap.size := Nat.lt_of_lt_of_le B1.lt hx.size
  generalize x.w.heap.size = M at *
  clear c0 c4 l0 l1 l2 d0 d1 d2 d3 d4 d5 d6 d7 d8 h1 hb3 B1 hE1
  clear hx hE2
  clear x
  clear W1
  have hNM : ¬ N = M := by have := HH.out.lt; omega
  have l0 := Chg.cell (D := fun k => k = M) h2.c12 hNM; have l1 := Chg.cell (D := fun k => k = M) h2.c13 hNM; have l2 := Chg.cell (D := fun k => k = M) h2.c14 hNM
  refine wp_region_tree (fun w' => ∃ y : Chg (fun k => k = M) W2, w' = y.w) 8 (.one [0, 1, 2, 3, 4, 6] 5 (.one [] 7 (.leaf []))) (by kernel_rfl) (by kernel_rfl) (by kernel_rfl) ⟨⟨_, (Only.refl _ W2).drew.drew⟩, rfl⟩ ?_
  simp only [List.take_succ_cons, List.take_zero]
  refine tree_one fun K hK => ?_
  simp only [List.map_cons, List.map_nil, pickOp, List.getElem?_cons_zero, List.getElem?_cons_succ, Option.getD_some]
  repeat (go_big_quiet_step (fail))
  refine wpQuiet_nil ?_
  go_wp2_with ((go_at_call 52; with_reducible refine (HP.out _ hE3.drew.drew).mono ?_); rintro e w3 ⟨rfl, hx3⟩)
  simp only [P3] at hx3 ⊢
  have hO3 : Only (fun k => k = M) W2 w3 := (Only.refl _ W2).drew.drew.trans (Only.of_ext hx3)
  refine onlyK_normal (hK _ _ ⟨⟨_, hO3⟩, rfl⟩ ?_); clear hK K
  have B3 := B2.later ((Ext.refl W2).drew.drew.trans hx3)
  have Z3 := B1'.later ((Ext.refl W2).drew.drew.trans hx3)
  clear B2 B1' l0 l1 l2
  refine tree_one0 fun K hK => ?_
  simp only [pickOp, List.getElem?_cons_zero, List.getElem?_cons_succ, Option.getD_some]
  have c0 := B3.c0; have c1 := B3.c1; have c2 := B3.c2; have c3 := B3.c3; have c4 := B3.c4; have c5 := B3.c5; have c6 := B3.c6; have c7 := B3.c7; have c8 := B3.c8
  have f0 := B3.f0; have f1 := B3.f1; have f2 := B3.f2; have f3 := B3.f3; have f4 := B3.f4; have f5 := B3.f5; have f6 := B3.f6; have f7 := B3.f7; have f8 := B3.f8
  go_wp2_with fail
  have B4 := B3.put_from C.lx C.ly C.lz
  have hO4 := hO3.set3 (.inl rfl) (.int .i64 C.lx) (.int .i64 C.ly) (.int .i64 C.lz)
  have Z4 := Z3.only ((Only.refl (fun k => k = M) w3).set3 (.inl rfl) (.int .i64 C.lx) (.int .i64 C.ly) (.int .i64 C.lz)) (by omega)
  refine onlyK_normal (hK _ _ ⟨⟨_, hO4⟩, rfl⟩ ?_); clear hK K
  clear c0 f0 c1 f1 c2 f2 c3 f3 c4 f4 c5 f5 c6 f6 c7 f7 c8 f8
  generalize ((w3.setCell ⟨M, 0, none⟩ (.int .i64 C.lx)).setCell ⟨M, 1, none⟩ (.int .i64 C.ly)).setCell ⟨M, 2, none⟩ (.int .i64 C.lz) = W4 at *
  refine tree_leaf0 ?_
  simp only [List.drop_succ_cons, List.drop_zero]
  have c0 := B4.c0; have c1 := B4.c1; have c2 := B4.c2; have c3 := B4.c3; have c4 := B4.c4; have c5 := B4.c5; have c6 := B4.c6; have c7 := B4.c7; have c8 := B4.c8
  have f0 := B4.f0; have f1 := B4.f1; have f2 := B4.f2; have f3 := B4.f3; have f4 := B4.f4; have f5 := B4.f5; have f6 := B4.f6; have f7 := B4.f7; have f8 := B4.f8
  go_wp2_with fail
  have B5 := B4.put_to qx qy qz
  have hO5 := hO4.set3b (.inl rfl) (.int .i64 qx) (.int .i64 qy) (.int .i64 qz)
  have Z5 := Z4.only ((Only.refl (fun k => k = M) W4).set3b (.inl rfl) (.int .i64 qx) (.int .i64 qy) (.int .i64 qz)) (by omega)
  clear c0 f0 c1 f1 c2 f2 c3 f3 c4 f4 c5 f5 c6 f6 c7 f7 c8 f8
  generalize ((W4.setCell ⟨M, 3, none⟩ (.int .i64 qx)).setCell ⟨M, 4, none⟩ (.int .i64 qy)).setCell ⟨M, 5, none⟩ (.int .i64 qz) = W5 at *
  have hMw : ¬ M = w.heap.size := by omega
  have e0 := Chg.cell (D := fun k => k = w.heap.size) B5.c0 (by omega); have e1 := Chg.cell (D := fun k => k = w.heap.size) B5.c1 (by omega); have e2 := Chg.cell (D := fun k => k = w.heap.size) B5.c2 (by omega); have e3 := Chg.cell (D := fun k => k = w.heap.size) B5.c3 (by omega); have e4 := Chg.cell (D := fun k => k = w.heap.size) B5.c4 (by omega); have e5 := Chg.cell (D := fun k => k = w.heap.size) B5.c5 (by omega); have e6 := Chg.cell (D := fun k => k = w.heap.size) B5.c6 (by omega); have e7 := Chg.cell (D := fun k => k = w.heap.size) B5.c7 (by omega); have e8 := Chg.cell (D := fun k => k = w.heap.size) B5.c8 (by omega)
  have hE5 : Ext w W5 := hE3.only hO5 (fun i hi e => by omega)
  refine wp_region_tree (fun w' => ∃ y : Chg (fun k => k = w.heap.size) W5, w' = y.w) 8 (.one [0, 1, 2, 3, 4, 5] 6 (.leaf [7])) (by kernel_rfl) (by kernel_rfl) (by kernel_rfl) ⟨⟨_, (Only.refl _ W5).drew⟩, rfl⟩ ?_
  simp only [List.take_succ_cons, List.take_zero]
  refine tree_one fun K hK => ?_
  simp only [List.map_cons, List.map_nil, pickOp, List.getElem?_cons_zero, List.getElem?_cons_succ, Option.getD_some]
  repeat (go_big_quiet_step (fail))
  refine wpQuiet_nil ?_
  have z0 := Z5.c0; have y0 := Z5.f0; have z1 := Z5.c1; have y1 := Z5.f1; have z2 := Z5.c2; have y2 := Z5.f2; have z3 := Z5.c3; have y3 := Z5.f3; have z4 := Z5.c4; have y4 := Z5.f4; have z5 := Z5.c5; have y5 := Z5.f5; have z6 := Z5.c6; have y6 := Z5.f6; have z7 := Z5.c7; have y7 := Z5.f7; have z8 := Z5.c8; have y8 := Z5.f8
  simp only [Mot.zero] at z0 z1 z2 z3 z4 z5 z6 z7 z8
  go_wp2_with fail
  have hO6 := ((Only.refl (fun k => k = w.heap.size) W5).set9 (.inl rfl) (.int .i64 C.lx) (.int .i64 C.ly) (.int .i64 C.lz) (.int .i64 qx) (.int .i64 qy) (.int .i64 qz) (.int .i64 p.rate) (.int .i64 p.tool) (.int .i64 p.block)).drew
  refine onlyK_normal (hK _ _ ⟨⟨_, hO6⟩, rfl⟩ ?_); clear hK K
  refine tree_leaf ?_
  simp only [List.map_cons, List.map_nil, pickOp, List.getElem?_cons_zero, List.getElem?_cons_succ, Option.getD_some, List.drop_succ_cons, List.drop_zero]
  repeat (go_big_quiet_step (fail))
  refine wpQuiet_nil ?_
  go_wp2
  refine bodyPost_ret (v := .tuple #[.agg #[.int .i64 C.lx, .int .i64 C.ly, .int .i64 C.lz, .int .i64 qx, .int .i64 qy, .int .i64 qz, .int .i64 p.rate, .int .i64 p.tool, .int .i64 p.block], .bool !bv]) (by simp [results, Tryd.results41, go_sem, z0, z1, z2, z3, z4, z5, z6, z7, z8]) rfl ⟨rfl, ?_⟩
  exact hE5.only hO6 (fun i hi e => by omega)

end Go.Proofs.YtjibcnnbclcboaaDoor

namespace Go.Proofs.YtjibcnnbclcboaaDoor
open Go.RowKit
set_option maxRecDepth 8000
set_option maxRecDepth 8000

/-- The pieces, with the one up to the present position. -/
def Ctl.psAdd (C : Ctl) : List Mot := if eq3 C.last3 C.at3 = true then C.ps else C.ps ++ [C.cur.way C.last3 C.at3]
/-- A plan ends. -/
def Ctl.stopd (C : Ctl) : Ctl :=
  { C with plan := [], pos := 0, br := false, ps := C.psAdd, lx := C.at3.1, ly := C.at3.2.1, lz := C.at3.2.2
           idx := if C.cur.len - C.part = 0 then skp C.ms (C.idx + 1) else C.idx
           part := if C.cur.len - C.part = 0 then 0 else C.part }

/-- What may be changed: the controller and its pieces. -/
def Foot (N : Nat) (vq : Value) (k : Nat) : Prop := k = N ∨ vq.ownBlock = some k

/-- What a call that changes the controller leaves. -/
def CPost (B : Nat) (w : World) (N : Nat) (vm vp vq : Value) (C' : Ctl) (v : Value) (e : Ending) (w' : World) : Prop :=
  e = .returned v ∧ ∃ vp' vq', CInv B w' N vm vp' vq' C' ∧ Only (Foot N vq) w w' ∧ (∀ b, vq'.ownBlock = some b → vq.ownBlock = some b ∨ w.heap.size ≤ b) ∧ (∀ b, vp'.ownBlock = some b → b < w'.heap.size ∧ (vp.ownBlock = some b ∨ w.heap.size ≤ b))

theorem CInv.lt {B : Nat} {w : World} {N : Nat} {vm vp vq : Value} {C : Ctl} (h : CInv B w N vm vp vq C) {b : Nat} (hb : vq.ownBlock = some b) : b < w.heap.size := h.sq.lt hb
theorem CInv.offm {B : Nat} {w : World} {N : Nat} {vm vp vq : Value} {C : Ctl} (h : CInv B w N vm vp vq C) : Off (Foot N vq) vm := by
  intro b hb hf
  rcases hf with rfl | hf
  · exact h.nm hb
  · rcases h.mq with h1 | h1
    · rw [h1] at hb; cases hb
    · exact h1 (by rw [hb, hf])

theorem OwnM.form {B : Nat} {w : World} {v : Value} {l : List Mot} (h : OwnM B w v l) : ∃ a n c, v = .slice a n c := by
  obtain ⟨a, n, c, _, _, h, _⟩ := h.sl
  exact ⟨a, n, c, h⟩
theorem SlM.lt {w : World} {v : Value} {l : List Mot} (h : SlM w v l) (hl : 0 < l.length) {b : Nat} (hb : v.ownBlock = some b) : b < w.heap.size := by
  obtain ⟨ad, n, cap, b', off, rfl, h2, h3, h5, h4⟩ := h
  obtain ⟨p, q⟩ := h4 0 (by omega)
  have hb' : ad = some ⟨b', off, none⟩ := h3.resolve_left (by omega)
  subst hb'
  have : b' = b := by simpa [Value.ownBlock] using hb
  omega
theorem M9Box.sl1 {W : World} {N : Nat} {m : Mot} (h : M9Box W N m) : SlM W (.slice (some ⟨N, 0, none⟩) 1 1) [m] := by
  refine ⟨_, 1, 1, N, 0, rfl, rfl, .inr rfl, fun h => (by cases h), fun i hi => ⟨h.lt, ?_⟩⟩
  obtain rfl : i = 0 := by omega
  exact ⟨h.c0, h.c1, h.c2, h.c3, h.c4, h.c5, h.c6, h.c7, h.c8⟩

set_option maxHeartbeats 4000000 in
theorem stop_any {B : Nat} {w : World} {N : Nat} {vm vp vq : Value} {C : Ctl} (h : CInv B w N vm vp vq C) (hi : C.idx < C.ms.length) (k : C.posOk) (hr : ∀ i, i < C.ms.length → (C.ms.getD i Mot.zero).rng) (hq : C.ps.length ≤ 999999999) :
    Calls Tryd.prog 40 #[.pointer (some ⟨N, 0, none⟩)] w (CPost B w N vm vp vq C.stopd (.tuple #[])) := by
  have HH := Lib.hid h
  have HK := Lib.hid k; clear k
  have HR := Lib.hid hr; clear hr
  have hN := h.box.lt
  have c6 := h.box.c6; have c7 := h.box.c7; have c8 := h.box.c8; have f6 := h.box.fr 6; have f7 := h.box.fr 7; have f8 := h.box.fr 8
  clear h
  go_enter Tryd.func40, Tryd.ntmps40
  go_wp2_with fail
  obtain ⟨W1, hW1⟩ : ∃ W1 : World, ((w.setCell ⟨N, 6, none⟩ (.slice none 0 0)).setCell ⟨N, 7, none⟩ (.int .i64 0)).setCell ⟨N, 8, none⟩ (.bool false) = W1 := ⟨_, rfl⟩
  have hB1 : CBox W1 N vm (.slice none 0 0) vq { C with plan := [], pos := 0, br := false } := by rw [← hW1]; simpa using ((HH.out.box.set_vp (.slice none 0 0) []).set_pos 0).set_br false
  have hO1 : Only (Foot N vq) w W1 := by rw [← hW1]; exact (((Only.refl _ w).set (.inl (.inl rfl)) _).set (.inl (.inl rfl)) _).set (.inl (.inl rfl)) _
  have hO1' : Only (fun k => k = N) w W1 := by rw [← hW1]; exact (((Only.refl (fun k => k = N) w).set (.inl rfl) _).set (.inl rfl) _).set (.inl rfl) _
  rw [hW1]; clear hW1 c6 c7 c8 f6 f7 f8
  have hm1 := HH.out.sm.only hO1' (fun b hb e => HH.out.nm (by rw [hb, e]))
  have hq1 := HH.out.sq.only hO1' (fun b hb e => HH.out.nq (by rw [hb, e]))
  have HP1 := Lib.hid (piece_cur (C := { C with plan := [], pos := 0, br := false }) hB1 hm1 hi ⟨HK.out.le, HK.out.n, HK.out.rng, HK.out.p0, HK.out.p1, HK.out.p2⟩)
  have e1 : Ctl.cur { C with plan := [], pos := 0, br := false } = C.cur := rfl
  have e2 : Ctl.last3 { C with plan := [], pos := 0, br := false } = C.last3 := rfl
  have e3 : Ctl.at3 { C with plan := [], pos := 0, br := false } = C.at3 := rfl
  rw [e1, e2, e3] at HP1
  clear e1 e2 e3
  obtain ⟨bv, hbv⟩ : ∃ bv, bv = eq3 C.last3 C.at3 := ⟨_, rfl⟩
  rw [← hbv] at HP1
  obtain ⟨pm, hpm⟩ : ∃ pm, pm = C.cur.way C.last3 C.at3 := ⟨_, rfl⟩
  rw [← hpm] at HP1
  have hps : C.psAdd = if bv = true then C.ps else C.ps ++ [pm] := by rw [hbv, hpm]; rfl
  have HPS := Lib.hid hps
  clear hbv hpm hps
  refine HP1.out.mono ?_
  rintro e w2 ⟨rfl, hx2⟩
  clear HP1
  have hB2 := hB1.later hx2; have hm2 := hm1.later hx2; have hq2 := hq1.later hx2
  have hO2 := hO1.trans (Only.of_ext hx2)
  clear hB1 hm1 hq1 hO1 hO1' hx2
  clear W1
  cases bv
  · go_wp2_with fail
    obtain ⟨W3, hW3, B3, hE3⟩ := M9Box.mk' w2 pm
    rw [hW3]; clear hW3
    have hB3 := hB2.later hE3; have hm3 := hm2.later hE3; have hq3 := hq2.later hE3
    have hO3 := hO2.trans (Only.of_ext hE3)
    have hd1 : ¬ vq.ownBlock = some N := HH.out.nq
    have hd2 : ¬ vq.ownBlock = some w2.heap.size := fun e => by have := hq2.lt e; omega
    have e0 := Chg.cell (D := fun k => vq.ownBlock = some k) B3.c0 hd2; have e1 := Chg.cell (D := fun k => vq.ownBlock = some k) B3.c1 hd2; have e2 := Chg.cell (D := fun k => vq.ownBlock = some k) B3.c2 hd2; have e3 := Chg.cell (D := fun k => vq.ownBlock = some k) B3.c3 hd2; have e4 := Chg.cell (D := fun k => vq.ownBlock = some k) B3.c4 hd2; have e5 := Chg.cell (D := fun k => vq.ownBlock = some k) B3.c5 hd2; have e6 := Chg.cell (D := fun k => vq.ownBlock = some k) B3.c6 hd2; have e7 := Chg.cell (D := fun k => vq.ownBlock = some k) B3.c7 hd2; have e8 := Chg.cell (D := fun k => vq.ownBlock = some k) B3.c8 hd2
    have e11 := Chg.cell (D := fun k => vq.ownBlock = some k) hB3.c11 hd1
    have H1 := Lib.hid hd1; have H2 := Lib.hid hd2
    clear hd1 hd2
    refine wp_region_tree (fun w' => ∃ y : Chg (fun k => vq.ownBlock = some k) W3, w' = y.w) 8 (.one [0, 1, 2, 3, 4, 5] 6 (.one [] 7 (.leaf []))) (by kernel_rfl) (by kernel_rfl) (by kernel_rfl) ⟨⟨_, (Only.refl _ W3).drew⟩, rfl⟩ ?_
    simp only [List.take_succ_cons, List.take_zero]
    refine tree_one fun K hK => ?_
    simp only [List.map_cons, List.map_nil, pickOp, List.getElem?_cons_zero, List.getElem?_cons_succ, Option.getD_some]
    repeat (go_big_quiet_step (fail))
    refine wpQuiet_nil ?_
    clear e0 e1 e2 e3 e4 e5 e6 e7 e8 e11
    go_wp2_with fail
    obtain ⟨W4, hW4, B4, hE4⟩ := M9Box.mk' W3 pm
    rw [hW4]; clear hW4
    refine onlyK_normal (hK _ _ ⟨⟨_, (Only.of_ext hE4).drew⟩, rfl⟩ ?_); clear hK K
    refine tree_one0 fun K hK => ?_
    simp only [pickOp, List.getElem?_cons_zero, List.getElem?_cons_succ, Option.getD_some]
    have hs4 := B4.sl1.later (Ext.refl W4).drew
    have hq4 := hq3.later hE4.drew
    have hl4 : C.ps.length + [pm].length ≤ 1000000000 := by simp; omega
    have hb4 : B ≤ W4.drew.heap.size := by have := HH.out.base; have := hO3.size; have := hE4.size; simp; omega
    have HS4 := Lib.hid hs4; have HQ4 := Lib.hid hq4; have HL4 := Lib.hid hl4; have HB4 := Lib.hid hb4
    clear hs4 hq4 hl4 hb4
    go_wp2_with ((at_builtin; refine appM_at rfl _ _ rfl B _ _ C.ps [pm] rfl rfl HQ4.out HS4.out HL4.out HB4.out ?_; intro v5 w5 own5 hg5 hloc5))
    have hg5 : W4.drew.grownBy w5 vq.ownBlock := hg5
    have hloc5 : v5.ownBlock = vq.ownBlock ∨ v5.ownBlock = some W4.drew.heap.size := hloc5
    have hO5 := (Only.of_ext (D := fun k => vq.ownBlock = some k) hE4).drew.trans (Only.of_grown hg5)
    refine onlyK_normal (hK _ _ ⟨⟨_, hO5⟩, rfl⟩ ?_); clear hK K
    have hB5 := hB3.only hO5 H1.out
    have hm5 := hm3.only hO5 (fun b hb e => HH.out.offm b hb (.inr e))
    have hO5' := hO3.trans (hO5.mono (D' := Foot N vq) (fun k _ e => .inr e))
    have hsz : w.heap.size ≤ W4.drew.heap.size := by have := hO3.size; have := hE4.size; simp; omega
    have nq6 : v5.ownBlock ≠ some N := by
      rcases hloc5 with h | h
      · rw [h]; exact H1.out
      · rw [h]; intro e; injection e with e; omega
    have mq6 : vm.ownBlock = none ∨ vm.ownBlock ≠ v5.ownBlock := by
      rcases hloc5 with h | h
      · rw [h]; exact HH.out.mq
      · right; rw [h]; intro e
        have := HH.out.sm.lt (by omega) e
        omega
    have hloc6 : ∀ b, v5.ownBlock = some b → vq.ownBlock = some b ∨ w.heap.size ≤ b := fun b hb => by
      rcases hloc5 with h | h
      · left; rw [← h]; exact hb
      · right; rw [h] at hb; injection hb with hb; omega
    obtain ⟨a5, n5, k5, hv5⟩ := own5.form
    subst hv5
    clear hloc5 hg5 hO5 hO3 HB4 HL4 HQ4 HS4 H1 H2 B4 hE4 B3 hE3 hB3 hm3 hq3 hB2 hm2 hq2 hO2
    refine tree_leaf0 ?_
    simp only [List.drop_succ_cons, List.drop_zero]
    have c11 := hB5.c11; have f11 := hB5.fr 11
    go_wp2_with fail
    have hB6 : CBox (w5.setCell ⟨N, 11, none⟩ (.slice a5 n5 k5)) N vm (.slice none 0 0) (.slice a5 n5 k5) { C with plan := [], pos := 0, br := false, ps := C.ps ++ [pm] } := hB5.set_vq (.slice a5 n5 k5) _
    have hO6 : Only (Foot N vq) w (w5.setCell ⟨N, 11, none⟩ (.slice a5 n5 k5)) := hO5'.set (.inl (.inl rfl)) _
    have hO6' : Only (fun k => k = N) w5 (w5.setCell ⟨N, 11, none⟩ (.slice a5 n5 k5)) := (Only.refl (fun k => k = N) w5).set (.inl rfl) _
    have hm6 := hm5.only hO6' (fun b hb e => HH.out.nm (by rw [hb, e]))
    have hq6 := own5.only hO6' (fun b hb e => nq6 (by rw [hb, e]))
    clear hO6' hm5 hB5 hO5' own5 c11 f11
    have HPS6 : Hid (C.psAdd = C.ps ++ [pm]) := Lib.hid (by rw [HPS.out]; rfl)
    clear HPS
    generalize w5.setCell ⟨N, 11, none⟩ (.slice a5 n5 k5) = W6 at *
    generalize C.ps ++ [pm] = l6 at *
    obtain ⟨vq6, hvq6⟩ : ∃ vq6 : Value, vq6 = .slice a5 n5 k5 := ⟨_, rfl⟩
    rw [← hvq6] at hB6 hq6 nq6 mq6 hloc6
    clear hvq6
    have kp := cpos_any hB6 hm6 ⟨HK.out.le, HK.out.n, HK.out.rng, HK.out.p0, HK.out.p1, HK.out.p2⟩
    have e3 : Ctl.at3 { C with plan := [], pos := 0, br := false, ps := l6 } = C.at3 := rfl
    rw [e3] at kp
    clear e3
    obtain ⟨q, hq3⟩ : ∃ q, q = C.at3 := ⟨_, rfl⟩
    rw [← hq3] at kp
    have HQ3 := Lib.hid hq3
    clear hq3
    refine kp.mono ?_
    rintro e w7 ⟨rfl, hx7⟩
    clear kp
    obtain ⟨qx, qy, qz⟩ := q
    simp only [P3]
    have hB7 := hB6.later hx7; have hm7 := hm6.later hx7; have hq7 := hq6.later hx7
    have hO7 := hO6.trans (Only.of_ext hx7)
    clear hB6 hm6 hq6 hO6 hx7
    have c12 := hB7.c12; have c13 := hB7.c13; have c14 := hB7.c14; have f12 := hB7.fr 12; have f13 := hB7.fr 13; have f14 := hB7.fr 14
    go_wp2_with fail
    obtain ⟨W8, hW8⟩ : ∃ W8 : World, ((w7.setCell ⟨N, 12, none⟩ (.int .i64 qx)).setCell ⟨N, 13, none⟩ (.int .i64 qy)).setCell ⟨N, 14, none⟩ (.int .i64 qz) = W8 := ⟨_, rfl⟩
    have hB8 : CBox W8 N vm (.slice none 0 0) vq6 { C with plan := [], pos := 0, br := false, ps := l6, lx := qx, ly := qy, lz := qz } := by rw [← hW8]; exact ((hB7.set_lx qx).set_ly qy).set_lz qz
    have hO8 : Only (Foot N vq) w W8 := by rw [← hW8]; exact ((hO7.set (.inl (.inl rfl)) _).set (.inl (.inl rfl)) _).set (.inl (.inl rfl)) _
    have hO8' : Only (fun k => k = N) w7 W8 := by rw [← hW8]; exact (((Only.refl (fun k => k = N) w7).set (.inl rfl) _).set (.inl rfl) _).set (.inl rfl) _
    rw [hW8]; clear hW8 c12 c13 c14 f12 f13 f14
    have hm8 := hm7.only hO8' (fun b hb e => HH.out.nm (by rw [hb, e]))
    have hq8 := hq7.only hO8' (fun b hb e => nq6 (by rw [hb, e]))
    clear hB7 hm7 hq7 hO7 hO8'
    have kl := left_any hB8 hm8 hi (HK.out.rng hi) (HK.out.p0 hi) (HK.out.p1 hi)
    have e4 : Ctl.cur { C with plan := [], pos := 0, br := false, ps := l6, lx := qx, ly := qy, lz := qz } = C.cur := rfl
    rw [e4] at kl
    clear e4
    by_cases h0 : C.cur.len - C.part = 0
    · simp only [h0] at kl
      refine kl.mono ?_
      rintro e w9 ⟨rfl, hx9⟩
      clear kl
      have H0 := Lib.hid h0; clear h0
      have hB9 := hB8.later hx9; have hm9 := hm8.later hx9; have hq9 := hq8.later hx9
      have hO9 := hO8.trans (Only.of_ext hx9)
      clear hB8 hm8 hq8 hO8 hx9
      have c4 := hB9.c4; have c5 := hB9.c5; have f4 := hB9.fr 4; have f5 := hB9.fr 5
      have hi2 : C.idx < 1000000000000 := by have := HK.out.n; omega
      go_wp2_with fail
      obtain ⟨W10, hW10⟩ : ∃ W10 : World, (w9.setCell ⟨N, 4, none⟩ (.int .i64 ((C.idx : Int) + 1))).setCell ⟨N, 5, none⟩ (.int .i64 0) = W10 := ⟨_, rfl⟩
      have hB10 : CBox W10 N vm (.slice none 0 0) vq6 { C with plan := [], pos := 0, br := false, ps := l6, lx := qx, ly := qy, lz := qz, idx := C.idx + 1, part := 0 } := by rw [← hW10]; simpa using (hB9.set_idx (C.idx + 1)).set_part 0
      have hO10 : Only (Foot N vq) w W10 := by rw [← hW10]; exact (hO9.set (.inl (.inl rfl)) _).set (.inl (.inl rfl)) _
      have hO10' : Only (fun k => k = N) w9 W10 := by rw [← hW10]; exact ((Only.refl (fun k => k = N) w9).set (.inl rfl) _).set (.inl rfl) _
      rw [hW10]; clear hW10 c4 c5 f4 f5
      have hm10 := hm9.only hO10' (fun b hb e => HH.out.nm (by rw [hb, e]))
      have hq10 := hq9.only hO10' (fun b hb e => nq6 (by rw [hb, e]))
      clear hB9 hm9 hq9 hO9 hO10'
      refine (skip_any hB10 hm10 HH.out.nm HR.out HK.out.n hi).mono ?_
      rintro e w11 ⟨rfl, hB11, hO11⟩
      have hm11 := hm10.only hO11 (fun b hb e => HH.out.nm (by rw [hb, e]))
      have hq11 := hq10.only hO11 (fun b hb e => nq6 (by rw [hb, e]))
      have hO12 := hO10.trans (hO11.mono (D' := Foot N vq) (fun k _ e => .inl e))
      clear hB10 hm10 hq10 hO10 hO11
      have hst : C.stopd = { C with plan := [], pos := 0, br := false, ps := l6, lx := qx, ly := qy, lz := qz, idx := skp C.ms (C.idx + 1), part := 0 } := by
        unfold Ctl.stopd
        rw [HPS6.out, ← HQ3.out, H0.out]
        rfl
      have fin : CInv B w11 N vm (.slice none 0 0) vq6 { C with plan := [], pos := 0, br := false, ps := l6, lx := qx, ly := qy, lz := qz, idx := skp C.ms (C.idx + 1), part := 0 } := ⟨hB11, hm11, ⟨none, 0, 0, 0, 0, rfl, rfl, .inl rfl, fun i hi => by omega⟩, hq11, HH.out.nm, (by intro h; cases h), nq6, mq6, .inl rfl, HH.out.base⟩
      rw [← hst] at fin
      have FIN := Lib.hid fin
      clear hst fin hB11 hm11 hq11
      go_wp2
      go_end0
      exact ⟨rfl, _, vq6, FIN.out, hO12, hloc6, fun b hb => by cases hb⟩
    · refine kl.mono ?_
      rintro e w9 ⟨rfl, hx9⟩
      clear kl
      have H0 := Lib.hid h0
      have hB9 := hB8.later hx9; have hm9 := hm8.later hx9; have hq9 := hq8.later hx9
      have hO9 := hO8.trans (Only.of_ext hx9)
      clear hB8 hm8 hq8 hO8 hx9
      have hst : C.stopd = { C with plan := [], pos := 0, br := false, ps := l6, lx := qx, ly := qy, lz := qz } := by
        unfold Ctl.stopd
        rw [HPS6.out, ← HQ3.out, if_neg H0.out, if_neg H0.out]
      have fin : CInv B w9 N vm (.slice none 0 0) vq6 { C with plan := [], pos := 0, br := false, ps := l6, lx := qx, ly := qy, lz := qz } := ⟨hB9, hm9, ⟨none, 0, 0, 0, 0, rfl, rfl, .inl rfl, fun i hi => by omega⟩, hq9, HH.out.nm, (by intro h; cases h), nq6, mq6, .inl rfl, HH.out.base⟩
      rw [← hst] at fin
      have FIN := Lib.hid fin
      clear hst fin hB9 hm9 hq9
      go_wp2
      go_end0
      exact ⟨rfl, _, vq6, FIN.out, hO9, hloc6, fun b hb => by cases hb⟩
  · go_wp2_with fail
    obtain ⟨W3, hW3, B3, hE3⟩ := M9Box.mk' w2 pm
    rw [hW3]; clear hW3
    have hB6 := hB2.later hE3; have hm6 := hm2.later hE3; have hq6 := hq2.later hE3
    have hO6 := hO2.trans (Only.of_ext hE3)
    clear hB2 hm2 hq2 hO2 hE3 B3
    have nq6 := HH.out.nq
    have mq6 := HH.out.mq
    have hloc6 : ∀ b, vq.ownBlock = some b → vq.ownBlock = some b ∨ w.heap.size ≤ b := fun b hb => .inl hb
    have HPS6 : Hid (C.psAdd = C.ps) := Lib.hid (by rw [HPS.out]; rfl)
    clear HPS
    obtain ⟨l6, hl6⟩ : ∃ l6, l6 = C.ps := ⟨_, rfl⟩
    have hB6 : CBox W3 N vm (.slice none 0 0) vq { C with plan := [], pos := 0, br := false, ps := l6 } := by rw [hl6]; exact hB6
    rw [← hl6] at HPS6 hq6
    clear hl6
    obtain ⟨vq6, hvq6⟩ : ∃ vq6, vq6 = vq := ⟨_, rfl⟩
    rw [← hvq6] at hB6 hq6 nq6 mq6
    have hloc6 : ∀ b, vq6.ownBlock = some b → vq.ownBlock = some b ∨ w.heap.size ≤ b := by rw [hvq6]; exact hloc6
    clear hvq6
    have kp := cpos_any hB6 hm6 ⟨HK.out.le, HK.out.n, HK.out.rng, HK.out.p0, HK.out.p1, HK.out.p2⟩
    have e3 : Ctl.at3 { C with plan := [], pos := 0, br := false, ps := l6 } = C.at3 := rfl
    rw [e3] at kp
    clear e3
    obtain ⟨q, hq3⟩ : ∃ q, q = C.at3 := ⟨_, rfl⟩
    rw [← hq3] at kp
    have HQ3 := Lib.hid hq3
    clear hq3
    refine kp.mono ?_
    rintro e w7 ⟨rfl, hx7⟩
    clear kp
    obtain ⟨qx, qy, qz⟩ := q
    simp only [P3]
    have hB7 := hB6.later hx7; have hm7 := hm6.later hx7; have hq7 := hq6.later hx7
    have hO7 := hO6.trans (Only.of_ext hx7)
    clear hB6 hm6 hq6 hO6 hx7
    have c12 := hB7.c12; have c13 := hB7.c13; have c14 := hB7.c14; have f12 := hB7.fr 12; have f13 := hB7.fr 13; have f14 := hB7.fr 14
    go_wp2_with fail
    obtain ⟨W8, hW8⟩ : ∃ W8 : World, ((w7.setCell ⟨N, 12, none⟩ (.int .i64 qx)).setCell ⟨N, 13, none⟩ (.int .i64 qy)).setCell ⟨N, 14, none⟩ (.int .i64 qz) = W8 := ⟨_, rfl⟩
    have hB8 : CBox W8 N vm (.slice none 0 0) vq6 { C with plan := [], pos := 0, br := false, ps := l6, lx := qx, ly := qy, lz := qz } := by rw [← hW8]; exact ((hB7.set_lx qx).set_ly qy).set_lz qz
    have hO8 : Only (Foot N vq) w W8 := by rw [← hW8]; exact ((hO7.set (.inl (.inl rfl)) _).set (.inl (.inl rfl)) _).set (.inl (.inl rfl)) _
    have hO8' : Only (fun k => k = N) w7 W8 := by rw [← hW8]; exact (((Only.refl (fun k => k = N) w7).set (.inl rfl) _).set (.inl rfl) _).set (.inl rfl) _
    rw [hW8]; clear hW8 c12 c13 c14 f12 f13 f14
    have hm8 := hm7.only hO8' (fun b hb e => HH.out.nm (by rw [hb, e]))
    have hq8 := hq7.only hO8' (fun b hb e => nq6 (by rw [hb, e]))
    clear hB7 hm7 hq7 hO7 hO8'
    have kl := left_any hB8 hm8 hi (HK.out.rng hi) (HK.out.p0 hi) (HK.out.p1 hi)
    have e4 : Ctl.cur { C with plan := [], pos := 0, br := false, ps := l6, lx := qx, ly := qy, lz := qz } = C.cur := rfl
    rw [e4] at kl
    clear e4
    by_cases h0 : C.cur.len - C.part = 0
    · simp only [h0] at kl
      refine kl.mono ?_
      rintro e w9 ⟨rfl, hx9⟩
      clear kl
      have H0 := Lib.hid h0; clear h0
      have hB9 := hB8.later hx9; have hm9 := hm8.later hx9; have hq9 := hq8.later hx9
      have hO9 := hO8.trans (Only.of_ext hx9)
      clear hB8 hm8 hq8 hO8 hx9
      have c4 := hB9.c4; have c5 := hB9.c5; have f4 := hB9.fr 4; have f5 := hB9.fr 5
      have hi2 : C.idx < 1000000000000 := by have := HK.out.n; omega
      go_wp2_with fail
      obtain ⟨W10, hW10⟩ : ∃ W10 : World, (w9.setCell ⟨N, 4, none⟩ (.int .i64 ((C.idx : Int) + 1))).setCell ⟨N, 5, none⟩ (.int .i64 0) = W10 := ⟨_, rfl⟩
      have hB10 : CBox W10 N vm (.slice none 0 0) vq6 { C with plan := [], pos := 0, br := false, ps := l6, lx := qx, ly := qy, lz := qz, idx := C.idx + 1, part := 0 } := by rw [← hW10]; simpa using (hB9.set_idx (C.idx + 1)).set_part 0
      have hO10 : Only (Foot N vq) w W10 := by rw [← hW10]; exact (hO9.set (.inl (.inl rfl)) _).set (.inl (.inl rfl)) _
      have hO10' : Only (fun k => k = N) w9 W10 := by rw [← hW10]; exact ((Only.refl (fun k => k = N) w9).set (.inl rfl) _).set (.inl rfl) _
      rw [hW10]; clear hW10 c4 c5 f4 f5
      have hm10 := hm9.only hO10' (fun b hb e => HH.out.nm (by rw [hb, e]))
      have hq10 := hq9.only hO10' (fun b hb e => nq6 (by rw [hb, e]))
      clear hB9 hm9 hq9 hO9 hO10'
      refine (skip_any hB10 hm10 HH.out.nm HR.out HK.out.n hi).mono ?_
      rintro e w11 ⟨rfl, hB11, hO11⟩
      have hm11 := hm10.only hO11 (fun b hb e => HH.out.nm (by rw [hb, e]))
      have hq11 := hq10.only hO11 (fun b hb e => nq6 (by rw [hb, e]))
      have hO12 := hO10.trans (hO11.mono (D' := Foot N vq) (fun k _ e => .inl e))
      clear hB10 hm10 hq10 hO10 hO11
      have hst : C.stopd = { C with plan := [], pos := 0, br := false, ps := l6, lx := qx, ly := qy, lz := qz, idx := skp C.ms (C.idx + 1), part := 0 } := by
        unfold Ctl.stopd
        rw [HPS6.out, ← HQ3.out, H0.out]
        rfl
      have fin : CInv B w11 N vm (.slice none 0 0) vq6 { C with plan := [], pos := 0, br := false, ps := l6, lx := qx, ly := qy, lz := qz, idx := skp C.ms (C.idx + 1), part := 0 } := ⟨hB11, hm11, ⟨none, 0, 0, 0, 0, rfl, rfl, .inl rfl, fun i hi => by omega⟩, hq11, HH.out.nm, (by intro h; cases h), nq6, mq6, .inl rfl, HH.out.base⟩
      rw [← hst] at fin
      have FIN := Lib.hid fin
      clear hst fin hB11 hm11 hq11
      go_wp2
      go_end0
      exact ⟨rfl, _, vq6, FIN.out, hO12, hloc6, fun b hb => by cases hb⟩
    · refine kl.mono ?_
      rintro e w9 ⟨rfl, hx9⟩
      clear kl
      have H0 := Lib.hid h0
      have hB9 := hB8.later hx9; have hm9 := hm8.later hx9; have hq9 := hq8.later hx9
      have hO9 := hO8.trans (Only.of_ext hx9)
      clear hB8 hm8 hq8 hO8 hx9
      have hst : C.stopd = { C with plan := [], pos := 0, br := false, ps := l6, lx := qx, ly := qy, lz := qz } := by
        unfold Ctl.stopd
        rw [HPS6.out, ← HQ3.out, if_neg H0.out, if_neg H0.out]
      have fin : CInv B w9 N vm (.slice none 0 0) vq6 { C with plan := [], pos := 0, br := false, ps := l6, lx := qx, ly := qy, lz := qz } := ⟨hB9, hm9, ⟨none, 0, 0, 0, 0, rfl, rfl, .inl rfl, fun i hi => by omega⟩, hq9, HH.out.nm, (by intro h; cases h), nq6, mq6, .inl rfl, HH.out.base⟩
      rw [← hst] at fin
      have FIN := Lib.hid fin
      clear hst fin hB9 hm9 hq9
      go_wp2
      go_end0
      exact ⟨rfl, _, vq6, FIN.out, hO9, hloc6, fun b hb => by cases hb⟩

end Go.Proofs.YtjibcnnbclcboaaDoor
